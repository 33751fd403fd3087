/- Bytes; a slice of no elements. -/
import Derived.Test.YtglmohcnmpbfmaaGa
import Derived.Test.YtglmohcnmpbfmaaPi
set_option linter.unusedVariables false
set_option linter.unusedSimpArgs false
namespace Go.Proofs.Ytglmohcnmpbfmaa
open Go.RowKit
set_option maxRecDepth 100000
set_option maxHeartbeats 1000000
def byF (l : List Nat) (i : Nat) : List DV := [.v (.int .u8 (l.getD i 0 : Nat))]
def byteL (l : List Nat) : DV := .sl 1 l.length (byF l)
/-- a slice of no elements is some value -/
theorem ACall.none0 {P : Program} {f : FuncId} {pre post : List AV} {sz : Nat} {fd : Nat → List DV} {Hp H' : OH} {r : AV} (h : ∀ A c, ACall P f (pre ++ .d (.v (.slice A 0 c)) :: post) Hp r H') : ACall P f (pre ++ .d (.sl sz 0 fd) :: post) Hp r H' := by
  refine ⟨(h none 0).1, fun A W vl vs G hl hv => ?_⟩
  have hlt : pre.length < vs.length := by rw [← hl]; simp
  have hp := hv pre.length (by simp)
  rw [show (pre ++ AV.d (.sl sz 0 fd) :: post).getD pre.length .any = .d (.sl sz 0 fd) by simp [List.getD_eq_getElem?_getD]] at hp
  replace hp : RD _ _ (.sl sz 0 fd) _ := hp
  generalize hz : vs.getD pre.length undef = z at hp
  cases hp with
  | sl _ _ _ A' b off c u hA hc _ _ _ =>
    refine (h A' c).2 A W vl vs G (by simpa using hl) fun j hj => ?_
    rcases Nat.lt_trichotomy j pre.length with q | q | q
    · have := hv j (by simp at hj ⊢; omega)
      rw [List.getD_eq_getElem?_getD, List.getElem?_append_left q] at this ⊢
      exact this
    · subst q
      rw [show (pre ++ AV.d (.v (.slice A' 0 c)) :: post).getD pre.length .any = .d (.v (.slice A' 0 c)) by simp [List.getD_eq_getElem?_getD], hz]
      exact rv_ex _
    · have := hv j (by simp at hj ⊢; omega)
      obtain ⟨t, rfl⟩ : ∃ t, j = pre.length + (t + 1) := ⟨j - pre.length - 1, by omega⟩
      rw [List.getD_eq_getElem?_getD, List.getElem?_append_right (by omega)] at this ⊢
      simpa using this
end Go.Proofs.Ytglmohcnmpbfmaa
