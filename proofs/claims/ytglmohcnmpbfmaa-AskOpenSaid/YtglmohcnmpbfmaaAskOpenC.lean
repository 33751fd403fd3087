import Derived.Test.YtglmohcnmpbfmaaRows
import Derived.Test.YtglmohcnmpbfmaaBase
set_option linter.unusedVariables false
namespace Go.Proofs.Ytglmohcnmpbfmaa.clAskOpen
open Go.ChangeShapes Go.WideShapes Go.ChangeAt Go.RowKit
theorem closed : joinedFacts Try.checked.prog 6 Try.f6 Rows.askOpenSpec Rows.askOpenRow = true := by kernel_rfl
end Go.Proofs.Ytglmohcnmpbfmaa.clAskOpen
