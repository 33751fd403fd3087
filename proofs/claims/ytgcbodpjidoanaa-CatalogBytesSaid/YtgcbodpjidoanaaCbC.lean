import Derived.Test.YtgcbodpjidoanaaRows
import Derived.Test.YtgcbodpjidoanaaBase
set_option linter.unusedVariables false
namespace Go.Proofs.Ytgcbodpjidoanaa.cbClosed
open Go.ChangeShapes Go.WideShapes Go.ChangeAt Go.RowKit
theorem closed : joinedFacts Try.checked.prog 9 Try.f9 Rows.catalogBytesSpec Rows.catalogBytesRow = true := by kernel_rfl
end Go.Proofs.Ytgcbodpjidoanaa.cbClosed
