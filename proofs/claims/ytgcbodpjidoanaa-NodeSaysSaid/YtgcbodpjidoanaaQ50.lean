/-  -/
import Derived.Test.YtgcbodpjidoanaaRows
import Derived.Test.YtgcbodpjidoanaaQ1
set_option linter.unusedVariables false
set_option linter.unusedSimpArgs false
namespace Go.Proofs.Ytgcbodpjidoanaa.nsClosed
open Go.ChangeShapes Go.WideShapes Go.ChangeAt Go.RowKit
theorem closed : joinedFacts Try.checked.prog 4 Try.f4 Rows.nodeSaysSpec Rows.nodeSaysRow = true := by kernel_rfl
end Go.Proofs.Ytgcbodpjidoanaa.nsClosed
