/-  -/
import Derived.Test.YtgcbodpjidoanaaRows
import Derived.Test.YtgcbodpjidoanaaC1
set_option linter.unusedVariables false
set_option linter.unusedSimpArgs false
namespace Go.Proofs.Ytgcbodpjidoanaa.ccClosed
open Go.ChangeShapes Go.WideShapes Go.ChangeAt Go.RowKit
theorem closed : joinedFacts Try.checked.prog 6 Try.f6 Rows.catalogColsSpec Rows.catalogColsRow = true := by kernel_rfl
end Go.Proofs.Ytgcbodpjidoanaa.ccClosed
