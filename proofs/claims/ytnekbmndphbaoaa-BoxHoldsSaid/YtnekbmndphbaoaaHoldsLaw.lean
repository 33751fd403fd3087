/- Plain laws: a box holds another one just if it holds both its corners; the whole box holds each. -/
import Derived.Test.YtnekbmndphbaoaaHolds
import Derived.Test.YtnekbmndphbaoaaLeastLaw
set_option linter.unusedVariables false
set_option linter.unusedSimpArgs false
namespace Go.Proofs.Ytnekbmndphbaoaa
open Go.RowKit
theorem rightB_of {lo hi : List Int} {d : Nat} (h1 : 1 ≤ d) (h8 : d ≤ 8) (hl : lo.length = d) (hh : hi.length = d) (h : ∀ i, i < d → lo.getD i 0 ≤ hi.getD i 0) : rightB lo hi d = true := by
  unfold rightB leAll
  simp only [Bool.and_eq_true, decide_eq_true_eq, List.all_eq_true, List.mem_range]
  exact ⟨⟨⟨⟨by omega, by omega⟩, by omega⟩, by omega⟩, fun i hi' => h i (by omega)⟩
theorem rightB_le {lo hi : List Int} {d : Int} (h : rightB lo hi d = true) : ∀ i, i < lo.length → lo.getD i 0 ≤ hi.getD i 0 := fun i hi' => by
  have := (rightB_len h).2.2.2.2
  unfold leAll at this
  have := List.all_eq_true.1 this i (by simpa using hi')
  simpa using this
theorem hasB_mk {lo hi p : List Int} (h : rightB lo hi p.length = true) (hp : ∀ i, i < p.length → lo.getD i 0 ≤ p.getD i 0 ∧ p.getD i 0 ≤ hi.getD i 0) : hasB lo hi p = true := by
  unfold hasB
  simp only [h, Bool.true_and, List.all_eq_true, List.mem_range, Bool.and_eq_true, decide_eq_true_eq]
  exact hp
def wantB (alo ahi blo bhi : List Int) : Bool := rightB alo ahi alo.length && rightB blo bhi alo.length && hasB alo ahi blo && hasB alo ahi bhi
theorem holds_want (alo ahi blo bhi : List Int) : holdsB alo ahi blo bhi = wantB alo ahi blo bhi := by
  rw [Bool.eq_iff_iff]
  unfold holdsB bothB wantB
  simp only [Bool.and_eq_true, List.all_eq_true, List.mem_range, decide_eq_true_eq]
  constructor
  · rintro ⟨⟨h1, h2⟩, h3⟩
    have e1 := rightB_len h1
    have e2 := rightB_len h2
    have l2 := rightB_le h2
    refine ⟨⟨⟨h1, h2⟩, hasB_mk (by rwa [show (blo.length : Int) = alo.length by omega]) fun i hi => ?_⟩, hasB_mk (by rwa [show (bhi.length : Int) = alo.length by omega]) fun i hi => ?_⟩
    · have := h3 i (by omega); have := l2 i hi; omega
    · have := h3 i (by omega); have := l2 i (by omega); omega
  · rintro ⟨⟨⟨h1, h2⟩, h3⟩, h4⟩
    obtain ⟨a1, a2, a3⟩ := hasB_of h3
    obtain ⟨b1, b2, b3⟩ := hasB_of h4
    exact ⟨⟨h1, h2⟩, fun i hi => ⟨(a3 i (by omega)).1, (b3 i (by omega)).2⟩⟩
theorem getD_replicate (n i : Nat) (m : Int) (h : i < n) : (List.replicate n m).getD i 0 = m := by simp [List.getD, h]
theorem right_whole (d : Nat) (h1 : 1 ≤ d) (h8 : d ≤ 8) : rightB (List.replicate d (-9223372036854775808)) (List.replicate d 9223372036854775807) d = true :=
  rightB_of h1 h8 (by simp) (by simp) fun i hi => by rw [getD_replicate _ _ _ hi, getD_replicate _ _ _ hi]; omega
theorem holds_whole (d : Nat) (blo bhi : List Int) (il : IsI blo) (ih : IsI bhi) (h : rightB blo bhi d = true) : holdsB (List.replicate d (-9223372036854775808)) (List.replicate d 9223372036854775807) blo bhi = true := by
  have e := rightB_len h
  unfold holdsB bothB
  simp only [List.length_replicate, Bool.and_eq_true, List.all_eq_true, List.mem_range, decide_eq_true_eq]
  refine ⟨⟨right_whole d (by omega) (by omega), h⟩, fun i hi => ?_⟩
  rw [getD_replicate _ _ _ hi, getD_replicate _ _ _ hi]
  exact ⟨(il i).1, (ih i).2⟩
theorem has_one (blo bhi : List Int) (d : Nat) (h : rightB blo bhi d = true) : hasB blo blo blo = true ∧ holdsB blo bhi blo blo = true := by
  have e := rightB_len h
  have l := rightB_le h
  have r : rightB blo blo blo.length = true := rightB_of (by omega) (by omega) rfl rfl fun i _ => by omega
  have r2 : rightB blo bhi blo.length = true := by rwa [show (blo.length : Int) = d by omega]
  refine ⟨hasB_mk r fun i _ => by omega, ?_⟩
  unfold holdsB bothB
  simp only [Bool.and_eq_true, List.all_eq_true, List.mem_range, decide_eq_true_eq]
  exact ⟨⟨r2, r⟩, fun i hi => ⟨by omega, l i hi⟩⟩
end Go.Proofs.Ytnekbmndphbaoaa
