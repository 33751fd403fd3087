/- Plain laws of distances: the same both ways, 0 just of the same point, by a third point no shorter; of boxes. -/
import Derived.Test.YtjdbpeblbejllaaDist2
import Derived.Test.YtjdbpeblbejllaaStep
set_option linter.unusedVariables false
set_option linter.unusedSimpArgs false
namespace Go.Proofs.Ytjdbpeblbejllaa
open Go.RowKit

theorem sides_succ (f : Nat → Nat) (k : Nat) : (sides f (k + 1)).sum = (sides f k).sum + f k := by simp [sides, List.range_succ]
theorem sides_congr (f g : Nat → Nat) : ∀ k, (∀ i, i < k → f i = g i) → (sides f k).sum = (sides g k).sum
  | 0, _ => rfl
  | k + 1, h => by rw [sides_succ, sides_succ, sides_congr f g k fun i hi => h i (by omega), h k (by omega)]
theorem sides_mono (f g : Nat → Nat) : ∀ k, (∀ i, i < k → f i ≤ g i) → (sides f k).sum ≤ (sides g k).sum
  | 0, _ => Nat.le_refl _
  | k + 1, h => by rw [sides_succ, sides_succ]; have := sides_mono f g k fun i hi => h i (by omega); have := h k (by omega); omega
theorem sides_add (f g : Nat → Nat) : ∀ k, (sides (fun i => f i + g i) k).sum = (sides f k).sum + (sides g k).sum
  | 0 => rfl
  | k + 1 => by rw [sides_succ, sides_succ, sides_succ, sides_add f g k]; omega
theorem sides_zero (f : Nat → Nat) : ∀ k, (sides f k).sum = 0 ↔ ∀ i, i < k → f i = 0
  | 0 => by simp [sides]
  | k + 1 => by
    rw [sides_succ]
    constructor
    · intro h i hi
      have h1 := (sides_zero f k).1 (by omega)
      rcases Nat.lt_or_ge i k with h2 | h2
      · exact h1 i h2
      · obtain rfl : i = k := by omega
        omega
    · intro h
      rw [(sides_zero f k).2 fun i hi => h i (by omega), h k (by omega)]
theorem dpt_comm (p q : List Int) (n : Nat) : dpt p q n = dpt q p n := sides_congr _ _ n fun i _ => by unfold apart; omega
/-- the first k numbers are the same -/
def eqTo (p q : List Int) (k : Nat) : Bool := (List.range k).all fun i => p.getD i 0 == q.getD i 0
theorem eqTo_succ (p q : List Int) (k : Nat) : eqTo p q (k + 1) = (eqTo p q k && (p.getD k 0 == q.getD k 0)) := by simp [eqTo, List.range_succ]
theorem eqTo_iff (p q : List Int) (k : Nat) : eqTo p q k = true ↔ ∀ i, i < k → p.getD i 0 = q.getD i 0 := by simp [eqTo]
theorem dpt_zero (p q : List Int) (n : Nat) : dpt p q n = 0 ↔ eqTo p q n = true := by
  rw [eqTo_iff]
  unfold dpt
  rw [sides_zero]
  constructor
  · intro h i hi; have := h i hi; unfold apart at this; omega
  · intro h i hi; have := h i hi; show apart _ _ = 0; unfold apart; omega
theorem dpt_tri (p q r : List Int) (n : Nat) : dpt p q n ≤ dpt p r n + dpt r q n := by
  unfold dpt
  rw [← sides_add]
  exact sides_mono _ _ n fun i _ => by unfold apart; omega
/-- the nearest number of a side -/
def clamp (x lo hi : Int) : Int := if hi < if x < lo then lo else x then hi else if x < lo then lo else x
theorem gap_le (x y lo hi : Int) (h : lo ≤ hi) : gap x lo hi ≤ apart x (clamp y lo hi) := by
  unfold gap apart clamp
  (repeat' split) <;> omega
theorem gap_eq (x lo hi : Int) (h : lo ≤ hi) : gap x lo hi = apart x (clamp x lo hi) := by
  unfold gap apart clamp
  (repeat' split) <;> omega
/-- side by side -/
def clamps (q lo hi : List Int) (k : Nat) : List Int := (List.range k).map fun i => clamp (q.getD i 0) (lo.getD i 0) (hi.getD i 0)
theorem clamps_len (q lo hi : List Int) (k : Nat) : (clamps q lo hi k).length = k := by simp [clamps]
theorem clamps_get (q lo hi : List Int) (k i : Nat) (h : i < k) : (clamps q lo hi k).getD i 0 = clamp (q.getD i 0) (lo.getD i 0) (hi.getD i 0) := by simp [clamps, List.getD, List.getElem?_map, List.getElem?_range h]
theorem clamp_I {q lo hi : Int} (h1 : I64 q) (h2 : I64 lo) (h3 : I64 hi) : I64 (clamp q lo hi) := by unfold clamp I64 at *; (repeat' split) <;> omega
theorem clamps_I (q lo hi : List Int) (k : Nat) (h1 : IsI q) (h2 : IsI lo) (h3 : IsI hi) : IsI (clamps q lo hi k) := fun i => by
  rcases Nat.lt_or_ge i k with h | h
  · rw [clamps_get _ _ _ _ _ h]; exact clamp_I (h1 i) (h2 i) (h3 i)
  · rw [getD_out _ _ _ (by rw [clamps_len]; omega)]; omega
theorem dbox_le (p q lo hi : List Int) (n : Nat) (h : ∀ i, i < n → lo.getD i 0 ≤ hi.getD i 0) : dbox p lo hi n ≤ dpt p (clamps q lo hi n) n :=
  sides_mono _ _ n fun i hi' => by rw [clamps_get _ _ _ _ _ hi']; exact gap_le _ _ _ _ (h i hi')
theorem dbox_eq (p lo hi : List Int) (n : Nat) (h : ∀ i, i < n → lo.getD i 0 ≤ hi.getD i 0) : dbox p lo hi n = dpt p (clamps p lo hi n) n :=
  sides_congr _ _ n fun i hi' => by rw [clamps_get _ _ _ _ _ hi']; exact gap_eq _ _ _ (h i hi')
/-- the way by a third point, as the law reckons it -/
theorem third (C D : Nat) (hC : C < 147573952589676412928) (hD : D < 147573952589676412928) :
    (C + D % 18446744073709551616) % 340282366920938463463374607431768211456 = C + D % 18446744073709551616 ∧
    IntKind.u64.wrap (((C + D % 18446744073709551616) / 18446744073709551616 : Nat) + (D / 18446744073709551616 : Nat) : Int) = ((C + D) / 18446744073709551616 : Nat) ∧
    (C + D % 18446744073709551616) % 18446744073709551616 = (C + D) % 18446744073709551616 := by
  refine ⟨by omega, ?_, by omega⟩
  simp only [IntKind.wrap, IntKind.signed, IntKind.bits]
  simp
  omega
end Go.Proofs.Ytjdbpeblbejllaa
