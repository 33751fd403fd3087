/- Plain laws of least keys: no point of a box has a lesser key, the nearest point has it; what is beyond a box is ahead of its points. -/
import Derived.Test.YtnekbmndphbaoaaBeyond
import Derived.Test.YtnekbmndphbaoaaRef04b
import Derived.Test.YtnekbmndphbaoaaDistLaw
set_option linter.unusedVariables false
set_option linter.unusedSimpArgs false
namespace Go.Proofs.Ytnekbmndphbaoaa
open Go.RowKit
theorem hasB_of {lo hi q : List Int} (h : hasB lo hi q = true) : lo.length = q.length ∧ hi.length = q.length ∧ ∀ i, i < q.length → lo.getD i 0 ≤ q.getD i 0 ∧ q.getD i 0 ≤ hi.getD i 0 := by
  unfold hasB at h
  simp only [Bool.and_eq_true] at h
  have h1 := rightB_len h.1
  refine ⟨by omega, by omega, fun i hi' => ?_⟩
  have := List.all_eq_true.1 h.2 i (by simpa using hi')
  simpa using this
theorem getD_drop (l : List Int) (i : Nat) : (l.drop 1).getD i 0 = l.getD (i + 1) 0 := by simp [List.getD, List.getElem?_drop, Nat.add_comm]
theorem apart_comm (x y : Int) : apart x y = apart y x := by unfold apart; omega
theorem gap_le_apart (x y lo hi : Int) (h1 : lo ≤ y) (h2 : y ≤ hi) : gap x lo hi ≤ apart x y := by
  unfold gap apart
  (repeat' split) <;> omega
/-- no point of a box has a lesser key than the least one -/
theorem least_le (K col : Int) (at_ lo hi q : List Int) (hB : leastB K col at_.length lo hi = true) (hq : hasB lo hi q = true) : leastN K col at_ lo hi ≤ keyN K col at_ q := by
  obtain ⟨e1, e2, hh⟩ := hasB_of hq
  unfold leastB at hB
  simp only [Bool.and_eq_true] at hB
  obtain ⟨d1, d8, hK⟩ := ordB_of hB.2
  unfold leastN keyN
  rcases hK with ⟨rfl, h, _⟩ | ⟨rfl, _, h, _⟩ | ⟨rfl, _, h, _⟩ | ⟨rfl, _, h, _⟩
  · have := hh col.toNat (by omega); simp only [show ¬ (0 : Int) = 2 by decide, show ¬ (0 : Int) = 3 by decide, if_false]; omega
  · have := hh col.toNat (by omega); simp only [show ¬ (1 : Int) = 2 by decide, show ¬ (1 : Int) = 3 by decide, if_false]; omega
  · have := hh col.toNat (by omega); simp only [if_true]; omega
  · simp only [show ¬ (3 : Int) = 2 by decide, if_false, if_true]
    rw [e1, dpt_comm]
    refine sides_mono _ _ _ fun i hi' => ?_
    rw [getD_drop, getD_drop, getD_drop]
    have := hh (i + 1) (by omega)
    exact gap_le_apart _ _ _ _ this.1 this.2
/-- what is ahead of a box's least key is ahead of each of its points -/
theorem beyond_ahead (K col : Int) (at_ lo hi p q : List Int) (hb : beyondB K col at_ lo hi p = true) (hq : hasB lo hi q = true) : aheadO K col at_ p q = true := by
  unfold beyondB at hb
  simp only [Bool.and_eq_true, decide_eq_true_eq] at hb
  obtain ⟨⟨⟨h1, h2⟩, h3⟩, h4⟩ := hb
  obtain ⟨e1, e2, hh⟩ := hasB_of hq
  have hle := least_le K col at_ lo hi q h1 hq
  have h0 := hh 0 (by have := (leastB_len h1).1; omega)
  have h5 : ordB K col at_.length q.length = true := by rw [← e1, ← h3]; exact h2
  unfold aheadO
  rw [h2, h5]
  simp only [Bool.true_and, Bool.and_eq_true, decide_eq_true_eq]
  refine ⟨by omega, ?_⟩
  unfold aheadB at h4 ⊢
  simp only [decide_eq_true_eq] at h4 ⊢
  omega
/-- the point of a box that is nearest -/
def nearF (K col : Int) (at_ lo hi : List Int) (i : Nat) : Int :=
  if K = 2 then (if (i : Int) = col then hi.getD i 0 else lo.getD i 0) else if K = 3 then (if i = 0 then lo.getD 0 0 else clamp (at_.getD (i - 1) 0) (lo.getD i 0) (hi.getD i 0)) else lo.getD i 0
theorem near_key (K col : Int) (at_ lo hi near : List Int) (hB : leastB K col at_.length lo hi = true) (hl : near.length = lo.length) (hn : ∀ i, i < lo.length → near.getD i 0 = nearF K col at_ lo hi i) :
    keyN K col at_ near = leastN K col at_ lo hi := by
  unfold leastB at hB
  simp only [Bool.and_eq_true] at hB
  obtain ⟨d1, d8, hK⟩ := ordB_of hB.2
  obtain ⟨_, _, _, rl, rle⟩ := rightB_len hB.1
  have hle : ∀ i, i < lo.length → lo.getD i 0 ≤ hi.getD i 0 := fun i hi' => by
    have := List.all_eq_true.1 rle i (by simpa using hi')
    simpa using this
  unfold leastN keyN
  rcases hK with ⟨rfl, h, _⟩ | ⟨rfl, _, h, _⟩ | ⟨rfl, _, h, _⟩ | ⟨rfl, _, h, _⟩
  · have := hn col.toNat (by omega); unfold nearF at this; simp only [show ¬ (0 : Int) = 2 by decide, show ¬ (0 : Int) = 3 by decide, if_false] at this ⊢; rw [this]
  · have := hn col.toNat (by omega); unfold nearF at this; simp only [show ¬ (1 : Int) = 2 by decide, show ¬ (1 : Int) = 3 by decide, if_false] at this ⊢; rw [this]
  · have := hn col.toNat (by omega); unfold nearF at this; simp only [if_true] at this ⊢; rw [this, if_pos (by omega)]
  · simp only [show ¬ (3 : Int) = 2 by decide, if_false, if_true]
    rw [hl, dpt_comm]
    refine sides_congr _ _ _ fun i hi' => ?_
    rw [getD_drop, getD_drop, getD_drop]
    have h1 := hn (i + 1) (by omega)
    have h2 := hle (i + 1) (by omega)
    unfold nearF at h1
    simp only [show ¬ (3 : Int) = 2 by decide, if_false, if_true, show ¬ i + 1 = 0 by omega, Nat.add_sub_cancel] at h1
    rw [h1, gap_eq _ _ _ h2]
end Go.Proofs.Ytnekbmndphbaoaa
