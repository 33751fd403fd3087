/- Numbers without a sign: the halves at a bit; no program in sight. -/
import Derived.Test.YtjdbpeblbejllaaMortPl2
import Derived.Lib.BitFns
set_option linter.unusedVariables false
set_option linter.unusedSimpArgs false
namespace Go.Proofs.Ytjdbpeblbejllaa
open Go.RowKit
/-- the number of a word -/
def toI (x : Nat) : Int := (x : Int) - 9223372036854775808
/-- the upper end of what is below bit s; the lower end of what has it -/
def upN (x s : Nat) : Nat := x / 2 ^ (s + 1) * 2 ^ (s + 1) + (2 ^ s - 1)
def loN (x s : Nat) : Nat := x / 2 ^ (s + 1) * 2 ^ (s + 1) + 2 ^ s
theorem pl_toI (x : Nat) : pl (toI x) = x := by unfold pl toI; omega
theorem toI_pl (z : Int) (h : -9223372036854775808 ≤ z) : toI (pl z) = z := by unfold pl toI; omega
theorem toI_bd (x : Nat) (h : x < 18446744073709551616) : -9223372036854775808 ≤ toI x ∧ toI x ≤ 9223372036854775807 := by unfold toI; omega
theorem pow64 : (2 : Nat) ^ 64 = 18446744073709551616 := by decide
theorem pow_split (s : Nat) (hs : s ≤ 63) : 2 ^ (s + 1) * 2 ^ (63 - s) = 18446744073709551616 := by
  rw [← Nat.pow_add, ← pow64]; congr 1; omega
theorem loN_lt (x s : Nat) (hx : x < 18446744073709551616) (hs : s ≤ 63) : loN x s < 18446744073709551616 := by
  have h1 := pow_split s hs
  have h2 : x / 2 ^ (s + 1) < 2 ^ (63 - s) := by
    rw [Nat.div_lt_iff_lt_mul (Nat.pow_pos (by omega)), Nat.mul_comm]; omega
  have h3 : 2 ^ (s + 1) = 2 * 2 ^ s := by rw [Nat.pow_succ]; omega
  have h4 : 0 < 2 ^ s := Nat.pow_pos (by omega)
  have h5 : (x / 2 ^ (s + 1) + 1) * 2 ^ (s + 1) ≤ 2 ^ (63 - s) * 2 ^ (s + 1) := Nat.mul_le_mul_right _ h2
  have h6 : 2 ^ (63 - s) * 2 ^ (s + 1) = 18446744073709551616 := by rw [Nat.mul_comm]; exact h1
  have h7 : (x / 2 ^ (s + 1) + 1) * 2 ^ (s + 1) = x / 2 ^ (s + 1) * 2 ^ (s + 1) + 2 ^ (s + 1) := by rw [Nat.add_mul, Nat.one_mul]
  unfold loN
  omega
theorem upN_lt (x s : Nat) (hx : x < 18446744073709551616) (hs : s ≤ 63) : upN x s < 18446744073709551616 := by
  have := loN_lt x s hx hs
  have h4 : 0 < 2 ^ s := Nat.pow_pos (by omega)
  unfold loN at this
  unfold upN
  omega
/-- clearing the low n bits -/
theorem andNot_low (x n : Nat) (hx : x < 18446744073709551616) (hn : n ≤ 64) : x &&& (18446744073709551615 - (2 ^ n - 1)) = x / 2 ^ n * 2 ^ n := by
  have h0 : 0 < 2 ^ n := Nat.pow_pos (by omega)
  have hle : 2 ^ n ≤ 18446744073709551616 := by rw [← pow64]; exact Nat.pow_le_pow_right (by omega) hn
  refine Nat.eq_of_testBit_eq fun i => ?_
  have e1 : 18446744073709551615 - (2 ^ n - 1) = 2 ^ 64 - 1 - (2 ^ n - 1) := rfl
  rw [Nat.testBit_and, Nat.mul_comm, Nat.testBit_two_pow_mul, Nat.testBit_div_two_pow]
  rw [show 18446744073709551615 - (2 ^ n - 1) = 2 ^ 64 - ((2 ^ n - 1) + 1) by rw [pow64]; omega, Nat.testBit_two_pow_sub_succ (by rw [pow64]; omega), Nat.testBit_two_pow_sub_one]
  by_cases hi : n ≤ i
  · simp only [hi, decide_true, Bool.true_and, show ¬ i < n by omega, decide_false, Bool.not_false, Bool.and_true]
    rw [show i - n + n = i by omega]
    by_cases h64 : i < 64
    · simp [h64]
    · simp only [h64, decide_false, Bool.and_false]
      exact (Nat.testBit_lt_two_pow (Nat.lt_of_lt_of_le (by rw [pow64]; exact hx) (Nat.pow_le_pow_right (by omega) (by omega)))).symm
  · simp [hi, show i < n by omega]
/-- setting bits that are clear -/
theorem or_low (a n y : Nat) (hy : y < 2 ^ n) : (a * 2 ^ n) ||| y = a * 2 ^ n + y := by
  rw [Nat.mul_comm, Nat.two_pow_add_eq_or_of_lt hy]
theorem upper_nat (x s : Nat) (hx : x < 18446744073709551616) (hs : s ≤ 63) : (x &&& (18446744073709551615 - (2 ^ (s + 1) - 1))) ||| (2 ^ s - 1) = upN x s := by
  have h4 : 0 < 2 ^ s := Nat.pow_pos (by omega)
  have h3 : 2 ^ (s + 1) = 2 * 2 ^ s := by rw [Nat.pow_succ]; omega
  rw [andNot_low x (s + 1) hx (by omega), or_low _ _ _ (by omega)]
  rfl
theorem lower_nat (x s : Nat) (hx : x < 18446744073709551616) (hs : s ≤ 63) : (x &&& (18446744073709551615 - (2 ^ (s + 1) - 1))) ||| 2 ^ s = loN x s := by
  have h4 : 0 < 2 ^ s := Nat.pow_pos (by omega)
  have h3 : 2 ^ (s + 1) = 2 * 2 ^ s := by rw [Nat.pow_succ]; omega
  rw [andNot_low x (s + 1) hx (by omega), or_low _ _ _ (by omega)]
  rfl
theorem ones_nat (n : Nat) (hn : n ≤ 64) : 18446744073709551615 / 2 ^ (64 - n) = 2 ^ n - 1 := by
  have h1 : 2 ^ n * 2 ^ (64 - n) = 18446744073709551616 := by rw [← Nat.pow_add, ← pow64]; congr 1; omega
  have h2 : 0 < 2 ^ (64 - n) := Nat.pow_pos (by omega)
  have h3 : 0 < 2 ^ n := Nat.pow_pos (by omega)
  refine Nat.div_eq_of_lt_le ?_ ?_
  · rw [Nat.sub_mul, Nat.one_mul]; omega
  · rw [show 2 ^ n - 1 + 1 = 2 ^ n by omega]; omega
/-- the highest bit's place, from below -/
theorem bitLen_top {x m : Nat} (h : Top x m) : Lib.bitLen x = 64 - m := by
  obtain ⟨hm, h1, h2⟩ := h
  have hx : x < 2 ^ 64 := Nat.lt_of_lt_of_le h2 (Nat.pow_le_pow_right (by omega) (by omega))
  rw [Lib.bitLen_shift (63 - m) x h1 hx]
  have h3 : x / 2 ^ (63 - m) = 1 := by
    refine Nat.div_eq_of_lt_le ?_ ?_
    · omega
    · rw [show (1 + 1) * 2 ^ (63 - m) = 2 ^ (64 - m) by rw [show 64 - m = 63 - m + 1 by omega, Nat.pow_succ]; omega]; exact h2
  rw [h3, show Lib.bitLen 1 = 1 by decide]
  omega
end Go.Proofs.Ytjdbpeblbejllaa
