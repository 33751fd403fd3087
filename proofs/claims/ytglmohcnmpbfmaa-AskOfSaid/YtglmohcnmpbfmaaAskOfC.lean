import Derived.Test.YtglmohcnmpbfmaaRows
import Derived.Test.YtglmohcnmpbfmaaBase
set_option linter.unusedVariables false
namespace Go.Proofs.Ytglmohcnmpbfmaa.clAskOf
open Go.ChangeShapes Go.WideShapes Go.ChangeAt Go.RowKit
theorem closed : joinedFacts Try.checked.prog 5 Try.f5 Rows.askOfSpec Rows.askOfRow = true := by kernel_rfl
end Go.Proofs.Ytglmohcnmpbfmaa.clAskOf
