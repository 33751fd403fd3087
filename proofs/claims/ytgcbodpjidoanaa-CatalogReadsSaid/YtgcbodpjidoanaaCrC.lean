import Derived.Test.YtgcbodpjidoanaaRows
import Derived.Test.YtgcbodpjidoanaaBase
set_option linter.unusedVariables false
namespace Go.Proofs.Ytgcbodpjidoanaa.crClosed
open Go.ChangeShapes Go.WideShapes Go.ChangeAt Go.RowKit
theorem closed : joinedFacts Try.checked.prog 8 Try.f8 Rows.catalogReadsSpec Rows.catalogReadsRow = true := by kernel_rfl
end Go.Proofs.Ytgcbodpjidoanaa.crClosed
