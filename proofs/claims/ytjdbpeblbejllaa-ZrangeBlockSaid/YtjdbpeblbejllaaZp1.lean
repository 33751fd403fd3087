/- Regions of codes: the ends of a region's sides, bit by bit; no program in sight. -/
import Derived.Test.YtjdbpeblbejllaaZr0
set_option linter.unusedVariables false
set_option linter.unusedSimpArgs false
namespace Go.Proofs.Ytjdbpeblbejllaa
open Go.RowKit
theorem hornN_mono (f g : Nat → Nat) (h : ∀ b, f b ≤ g b) : ∀ m, hornN f m ≤ hornN g m
  | 0 => Nat.le_refl _
  | m + 1 => by have := hornN_mono f g h m; have := h m; rw [hornN, hornN]; omega
theorem hornN_mix (f : Nat → Nat) (j x : Nat) (hx : x ≤ 1) : ∀ e, hornN (fun b => if b < j then f b else x) (j + e) = hornN f j * 2 ^ e + x * (2 ^ e - 1)
  | 0 => by
    rw [Nat.add_zero, Nat.pow_zero, Nat.mul_one, Nat.sub_self, Nat.mul_zero, Nat.add_zero]
    exact hornN_congr _ _ j fun b hb => if_pos hb
  | e + 1 => by
    have ih := hornN_mix f j x hx e
    have hp : 0 < 2 ^ e := Nat.pow_pos (by omega)
    rw [← Nat.add_assoc, hornN, ih, if_neg (by omega), Nat.pow_succ]
    have e1 : hornN f j * (2 ^ e * 2) = 2 * (hornN f j * 2 ^ e) := by rw [← Nat.mul_assoc, Nat.mul_comm]
    rw [e1]
    rcases (by omega : x = 0 ∨ x = 1) with h | h <;> subst h <;> omega
/-- the ends of side k of all points whose codes begin with the first n bits of f: x fills up -/
def regF (f : Nat → Nat) (n d k x : Nat) : Nat := hornN (fun b => if b * d + k < n then f (b * d + k) else x) 64
theorem regF_congr (f g : Nat → Nat) (n d k x : Nat) (h : ∀ i, i < n → f i = g i) : regF f n d k x = regF g n d k x :=
  hornN_congr _ _ _ fun b _ => by
    split
    · rename_i hb; exact h _ hb
    · rfl
theorem regF_le (f : Nat → Nat) (n d k : Nat) : regF f n d k 0 ≤ regF f n d k 1 :=
  hornN_mono _ _ (fun b => by split <;> omega) 64
theorem regF_finer (f : Nat → Nat) (hf : ∀ i, f i ≤ 1) (n m d k : Nat) (h : n ≤ m) : regF f n d k 0 ≤ regF f m d k 0 ∧ regF f m d k 1 ≤ regF f n d k 1 := by
  constructor
  · refine hornN_mono _ _ (fun b => ?_) 64
    by_cases h1 : b * d + k < n
    · rw [if_pos h1, if_pos (by omega)]; exact Nat.le_refl _
    · rw [if_neg h1]; exact Nat.zero_le _
  · refine hornN_mono _ _ (fun b => ?_) 64
    by_cases h1 : b * d + k < n
    · rw [if_pos h1, if_pos (by omega)]; exact Nat.le_refl _
    · rw [if_neg h1]
      split
      · exact hf _
      · exact Nat.le_refl _
theorem regF_full (f : Nat → Nat) (d k x : Nat) (hk : k < d) : regF f (64 * d) d k x = hornN (fun b => f (b * d + k)) 64 :=
  hornN_congr _ _ _ fun b hb => by
    have : (b + 1) * d ≤ 64 * d := Nat.mul_le_mul_right _ hb
    rw [Nat.add_mul] at this
    exact if_pos (by omega)
theorem side_lt (t d b : Nat) (hd : 0 < d) : (b * d + t % d < t ↔ b < t / d) ∧ (b * d + t % d < t + 1 ↔ b < t / d + 1) := by
  have h := Nat.div_add_mod t d
  rw [Nat.mul_comm] at h
  have key : ∀ b c : Nat, b < c ↔ b * d < c * d := fun b c => ⟨fun h => Nat.mul_lt_mul_of_pos_right h hd, fun h => Nat.lt_of_mul_lt_mul_right h⟩
  have keyle : ∀ b c : Nat, b ≤ c ↔ b * d ≤ c * d := fun b c => ⟨fun h => Nat.mul_le_mul_right _ h, fun h => Nat.le_of_mul_le_mul_right h hd⟩
  constructor
  · rw [key b (t / d)]; omega
  · rw [Nat.lt_succ_iff (m := b) (n := t / d), keyle b (t / d)]; omega
theorem regF_side (f : Nat → Nat) (t d x : Nat) (hd : 0 < d) (hx : x ≤ 1) (ht : t < 64 * d) :
    regF f t d (t % d) x = hornN (fun b => f (b * d + t % d)) (t / d) * 2 ^ (63 - t / d + 1) + x * (2 ^ (63 - t / d + 1) - 1) ∧
    regF f (t + 1) d (t % d) x = hornN (fun b => f (b * d + t % d)) (t / d) * 2 ^ (63 - t / d + 1) + f t * 2 ^ (63 - t / d) + x * (2 ^ (63 - t / d) - 1) := by
  have hj : t / d < 64 := Nat.div_lt_of_lt_mul (by rw [Nat.mul_comm]; exact ht)
  have ht' : t / d * d + t % d = t := by have := Nat.div_add_mod t d; rw [Nat.mul_comm] at this; exact this
  constructor
  · have := hornN_mix (fun b => f (b * d + t % d)) (t / d) x hx (63 - t / d + 1)
    rw [show t / d + (63 - t / d + 1) = 64 by omega] at this
    rw [← this]
    exact hornN_congr _ _ _ fun b _ => by
      by_cases h : b < t / d
      · rw [if_pos h, if_pos ((side_lt t d b hd).1.2 h)]
      · rw [if_neg h, if_neg fun h' => h ((side_lt t d b hd).1.1 h')]
  · have := hornN_mix (fun b => f (b * d + t % d)) (t / d + 1) x hx (63 - t / d)
    have e0 : hornN (fun b => f (b * d + t % d)) (t / d + 1) = 2 * hornN (fun b => f (b * d + t % d)) (t / d) + f t := by rw [hornN, ht']
    rw [show t / d + 1 + (63 - t / d) = 64 by omega, e0] at this
    have e : hornN (fun b => f (b * d + t % d)) (t / d) * 2 ^ (63 - t / d + 1) + f t * 2 ^ (63 - t / d) = (2 * hornN (fun b => f (b * d + t % d)) (t / d) + f t) * 2 ^ (63 - t / d) := by
      rw [Nat.pow_succ, Nat.add_mul, ← Nat.mul_assoc, Nat.mul_comm _ 2, ← Nat.mul_assoc]
    rw [e, ← this]
    exact hornN_congr _ _ _ fun b _ => by
      by_cases h : b < t / d + 1
      · rw [if_pos h, if_pos ((side_lt t d b hd).2.2 h)]
      · rw [if_neg h, if_neg fun h' => h ((side_lt t d b hd).2.1 h')]
theorem regF_other (f : Nat → Nat) (t d k x : Nat) (hd : 0 < d) (hk : k < d) (hne : k ≠ t % d) : regF f (t + 1) d k x = regF f t d k x :=
  hornN_congr _ _ _ fun b _ => by
    have : b * d + k ≠ t := fun e => hne (by rw [← e, Nat.add_comm, Nat.add_mul_mod_self_right, Nat.mod_eq_of_lt hk])
    by_cases h : b * d + k < t
    · rw [if_pos h, if_pos (by omega)]
    · rw [if_neg h, if_neg (by omega)]
theorem half (A s x : Nat) (h1 : A * 2 ^ (s + 1) ≤ x) (h2 : x < A * 2 ^ (s + 1) + 2 ^ (s + 1)) :
    (x / 2 ^ s % 2 = if A * 2 ^ (s + 1) + 2 ^ s ≤ x then 1 else 0) ∧ upN x s = A * 2 ^ (s + 1) + (2 ^ s - 1) ∧ loN x s = A * 2 ^ (s + 1) + 2 ^ s := by
  have hq : 0 < 2 ^ s := Nat.pow_pos (by omega)
  have e1 : x / 2 ^ (s + 1) = A := by
    refine Nat.div_eq_of_lt_le h1 ?_
    rw [Nat.add_mul, Nat.one_mul]; exact h2
  refine ⟨?_, by unfold upN; rw [e1], by unfold loN; rw [e1]⟩
  have e2 : A * 2 ^ (s + 1) = 2 * A * 2 ^ s := by rw [Nat.pow_succ, ← Nat.mul_assoc, Nat.mul_comm _ 2, ← Nat.mul_assoc]
  have e3 : 2 ^ (s + 1) = 2 * 2 ^ s := by rw [Nat.pow_succ, Nat.mul_comm]
  rw [e2] at h1 h2 ⊢
  rw [e3] at h2
  generalize 2 ^ s = q at *
  split
  · rename_i h
    have : x / q = 2 * A + 1 := by
      refine Nat.div_eq_of_lt_le ?_ ?_
      · rw [Nat.add_mul, Nat.one_mul]; exact h
      · rw [show 2 * A + 1 + 1 = 2 * A + 2 by omega, Nat.add_mul]; omega
    rw [this]; omega
  · rename_i h
    have : x / q = 2 * A := by
      refine Nat.div_eq_of_lt_le h1 ?_
      rw [Nat.add_mul, Nat.one_mul]; omega
    rw [this]; omega
/-- all of one step at bit t: the region's ends M .. M + 2q - 1 at its side -/
theorem side_step (f : Nat → Nat) (hf : ∀ i, f i ≤ 1) (t d : Nat) (hd : 0 < d) (ht : t < 64 * d) : ∃ M q, 0 < q ∧ M + 2 * q ≤ 18446744073709551616 ∧
    regF f t d (t % d) 0 = M ∧ regF f t d (t % d) 1 = M + 2 * q - 1 ∧ regF f (t + 1) d (t % d) 0 = M + f t * q ∧ regF f (t + 1) d (t % d) 1 = M + f t * q + (q - 1) ∧
    ∀ x, M ≤ x → x < M + 2 * q → (x / 2 ^ (63 - t / d) % 2 = if M + q ≤ x then 1 else 0) ∧ upN x (63 - t / d) = M + q - 1 ∧ loN x (63 - t / d) = M + q := by
  obtain ⟨a1, a2⟩ := regF_side f t d 0 hd (by omega) ht
  obtain ⟨b1, b2⟩ := regF_side f t d 1 hd (by omega) ht
  have hj : t / d < 64 := Nat.div_lt_of_lt_mul (by rw [Nat.mul_comm]; exact ht)
  have hq : 0 < 2 ^ (63 - t / d) := Nat.pow_pos (by omega)
  have e3 : 2 ^ (63 - t / d + 1) = 2 * 2 ^ (63 - t / d) := by rw [Nat.pow_succ, Nat.mul_comm]
  have hA := hornN_lt (fun b => f (b * d + t % d)) (fun i => hf _) (t / d)
  have hbig : hornN (fun b => f (b * d + t % d)) (t / d) * 2 ^ (63 - t / d + 1) + 2 ^ (63 - t / d + 1) ≤ 18446744073709551616 := by
    have h1 : (hornN (fun b => f (b * d + t % d)) (t / d) + 1) * 2 ^ (63 - t / d + 1) ≤ 2 ^ (t / d) * 2 ^ (63 - t / d + 1) := Nat.mul_le_mul_right _ hA
    rw [← Nat.pow_add, show t / d + (63 - t / d + 1) = 64 by omega, pow64, Nat.add_mul, Nat.one_mul] at h1
    exact h1
  refine ⟨hornN (fun b => f (b * d + t % d)) (t / d) * 2 ^ (63 - t / d + 1), 2 ^ (63 - t / d), hq, by omega, ?_, ?_, ?_, ?_, ?_⟩
  · rw [a1]; omega
  · rw [b1]; omega
  · rw [a2]; omega
  · rw [b2]; omega
  · intro x h1 h2
    have := half (hornN (fun b => f (b * d + t % d)) (t / d)) (63 - t / d) x h1 (by omega)
    refine ⟨this.1, ?_, this.2.2⟩
    rw [this.2.1]; omega
/-- a point lies in each region of its own bits -/
theorem regF_own (p : List Int) (hp : IsI p) (n k : Nat) (hk : k < p.length) (hn : n ≤ 64 * p.length) : regF (rbit p) n p.length k 0 ≤ pl (p.getD k 0) ∧ pl (p.getD k 0) ≤ regF (rbit p) n p.length k 1 := by
  have h1 := regF_finer (rbit p) (rbit_le p) n (64 * p.length) p.length k hn
  have h2 : hornN (fun b => rbit p (b * p.length + k)) 64 = pl (p.getD k 0) := by
    have hb := horn_bits (pl (p.getD k 0)) (by rw [pow64]; exact pl_lt _ (hp k).2) 64 (Nat.le_refl _)
    rw [Nat.sub_self, Nat.pow_zero, Nat.div_one] at hb
    rw [← hb]
    exact hornN_congr _ _ _ fun b _ => rbit_at p b k hk
  rw [regF_full _ _ _ _ hk, regF_full _ _ _ _ hk, h2] at h1
  exact h1
end Go.Proofs.Ytjdbpeblbejllaa
