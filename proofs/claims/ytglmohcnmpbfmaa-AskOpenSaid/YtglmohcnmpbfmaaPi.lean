/- Plain: lists of bytes, of numbers of 64 bits. -/
set_option linter.unusedVariables false
namespace Go.Proofs.Ytglmohcnmpbfmaa.Pl
def IsB (l : List Nat) : Prop := ∀ i, l.getD i 0 < 256
def IsI (l : List Int) : Prop := ∀ i, -9223372036854775808 ≤ l.getD i 0 ∧ l.getD i 0 ≤ 9223372036854775807
end Go.Proofs.Ytglmohcnmpbfmaa.Pl
