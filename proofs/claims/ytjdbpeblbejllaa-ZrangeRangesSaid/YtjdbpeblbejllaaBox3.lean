/- Contracts of package box: both, Meets, Holds. -/
import Derived.Test.YtjdbpeblbejllaaBox2
set_option linter.unusedVariables false
set_option linter.unusedSimpArgs false
namespace Go.Proofs.Ytjdbpeblbejllaa
open Go.RowKit

def bothB (alo ahi blo bhi : List Int) : Bool := rightB alo ahi alo.length && rightB blo bhi alo.length
end Go.Proofs.Ytjdbpeblbejllaa
