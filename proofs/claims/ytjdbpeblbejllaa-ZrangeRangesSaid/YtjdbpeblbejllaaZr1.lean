/- Contracts of zrange's words: plain, signed, ones, upper, lower, bitOf. -/
import Derived.Test.YtjdbpeblbejllaaZr0
import Derived.Test.YtjdbpeblbejllaaLen64
import Derived.Test.YtjdbpeblbejllaaEager
set_option linter.unusedVariables false
set_option linter.unusedSimpArgs false
namespace Go.Proofs.Ytjdbpeblbejllaa
open Go.RowKit
theorem zplain_any (d : Int) (w : World) (h1 : -9223372036854775808 ≤ d) (h2 : d ≤ 9223372036854775807) :
    Calls Try.prog 62 #[.int .i64 d] w fun e w' => e = .returned (.int .u64 (pl d : Int)) ∧ w = w' := by
  have hp := plain_eq d h1 h2
  go_enter Try.func62, Try.ntmps62
  go_wp2
  go_ret
  exact ⟨rfl, rfl⟩
theorem signed_any (x : Nat) (w : World) (hx : x < 18446744073709551616) :
    Calls Try.prog 86 #[.int .u64 (x : Int)] w fun e w' => e = .returned (.int .i64 (toI x)) ∧ w = w' := by
  have hq := hideP (show wrap64 (bits BinOp.xor IntKind.u64 (x : Int) 9223372036854775808) = toI x from unxor63 x hx)
  clear hx
  go_enter Try.func86, Try.ntmps86
  go_wp2
  go_ret
  exact ⟨ret_int hq.out, rfl⟩
theorem pow_int (k : Nat) : (2 : Int) ^ k = ((2 ^ k : Nat) : Int) := by rw [Int.natCast_pow]; rfl
theorem ones_int (n : Int) (h0 : 0 ≤ n) (h1 : n ≤ 64) : (18446744073709551615 : Int) / 2 ^ (64 - n).toNat = ((2 ^ n.toNat - 1 : Nat) : Int) := by
  rw [← ones_nat n.toNat (by omega), show (64 - n).toNat = 64 - n.toNat by omega, pow_int, Int.natCast_ediv]
  rfl
theorem ones_any (n : Int) (w : World) (h0 : 0 ≤ n) (h1 : n ≤ 64) :
    Calls Try.prog 63 #[.int .i64 n] w fun e w' => e = .returned (.int .u64 ((2 ^ n.toNat - 1 : Nat) : Int)) ∧ w = w' := by
  have hq := hideP (ones_int n h0 h1)
  go_enter Try.func63, Try.ntmps63
  go_wp2
  go_ret
  exact ⟨ret_int hq.out, rfl⟩
theorem upper_any (z : Int) (s : Nat) (w : World) (h1 : -9223372036854775808 ≤ z) (h2 : z ≤ 9223372036854775807) (hs : s ≤ 63) :
    Calls Try.prog 55 #[.int .i64 z, .int .i64 (s : Int)] w fun e w' => e = .returned (.int .i64 (toI (upN (pl z) s))) ∧ w = w' := by
  obtain ⟨x, hx⟩ : ∃ x, x = pl z := ⟨_, rfl⟩
  have hxl : x < 18446744073709551616 := by rw [hx]; exact pl_lt z h2
  have c1 := zplain_any z w h1 h2
  rw [← hx] at c1 ⊢
  clear hx
  obtain ⟨P, hP⟩ : ∃ P, P = 2 ^ (s + 1) - 1 := ⟨_, rfl⟩
  obtain ⟨Q, hQ⟩ : ∃ Q, Q = 2 ^ s - 1 := ⟨_, rfl⟩
  have hPl : P < 18446744073709551616 := by
    rw [hP]; have := Nat.pow_le_pow_right (n := 2) (by omega) (show s + 1 ≤ 64 by omega); rw [pow64] at this; omega
  have hQl : Q < 18446744073709551616 := by
    rw [hQ]; have := Nat.pow_le_pow_right (n := 2) (by omega) (show s ≤ 64 by omega); rw [pow64] at this; omega
  have c2 := ones_any ((s : Int) + 1) w (by omega) (by omega)
  have c3 := ones_any (s : Int) w (by omega) (by omega)
  rw [show ((s : Int) + 1).toNat = s + 1 by omega, ← hP] at c2
  rw [show ((s : Int)).toNat = s by omega, ← hQ] at c3
  obtain ⟨Y, hY⟩ : ∃ Y, Y = x &&& (18446744073709551615 - P) := ⟨_, rfl⟩
  have hYl : Y < 18446744073709551616 := by rw [hY]; exact Nat.lt_of_le_of_lt Nat.and_le_left hxl
  have e1 : bits .andNot .u64 (x : Int) (P : Int) = (Y : Int) := by rw [hY]; exact u64_andNot_nat x P hxl hPl
  obtain ⟨U, hU⟩ : ∃ U, U = upN x s := ⟨_, rfl⟩
  have e2 : bits .or .u64 (Y : Int) (Q : Int) = (U : Int) := by
    rw [u64_or_nat Y Q hYl hQl, hY, hP, hQ, hU, upper_nat x s hxl hs]
  have hUl : U < 18446744073709551616 := by rw [hU]; exact upN_lt x s hxl hs
  have c4 := signed_any U w hUl
  rw [← hU]
  clear hU hY hP hQ hYl hPl hQl hUl hxl
  have Hc1 := hideP c1; have Hc2 := hideP c2; have Hc3 := hideP c3; have Hc4 := hideP c4; clear c1 c2 c3 c4
  go_enter Try.func55, Try.ntmps55
  go_wp2_with fail
  refine Hc1.out.mono ?_; rintro e w' ⟨rfl, rfl⟩
  go_wp2_with fail
  refine Hc2.out.mono ?_; rintro e w' ⟨rfl, rfl⟩
  go_wp2_with fail
  refine Hc3.out.mono ?_; rintro e w' ⟨rfl, rfl⟩
  go_wp2_with fail
  refine Hc4.out.mono ?_; rintro e w' ⟨rfl, rfl⟩
  go_wp2
  go_ret
  exact ⟨rfl, rfl⟩
theorem bitOf_any (z : Int) (s : Nat) (w : World) (h1 : -9223372036854775808 ≤ z) (h2 : z ≤ 9223372036854775807) (hs : s ≤ 63) :
    Calls Try.prog 68 #[.int .i64 z, .int .i64 (s : Int)] w fun e w' => e = .returned (.int .u64 ((pl z / 2 ^ s % 2 : Nat) : Int)) ∧ w = w' := by
  obtain ⟨x, hx⟩ : ∃ x, x = pl z := ⟨_, rfl⟩
  have hxl : x < 18446744073709551616 := by rw [hx]; exact pl_lt z h2
  have c1 := hideP (zplain_any z w h1 h2)
  rw [← hx] at c1 ⊢
  obtain ⟨Y, hY⟩ : ∃ Y, Y = x / 2 ^ s := ⟨_, rfl⟩
  have hYl : Y < 18446744073709551616 := by rw [hY]; exact Nat.lt_of_le_of_lt (Nat.div_le_self _ _) hxl
  have e1 : (x : Int) / 2 ^ s = (Y : Int) := by rw [hY, pow_int, Int.natCast_ediv]
  have e2 : bits .and .u64 (Y : Int) 1 = ((Y % 2 : Nat) : Int) := by
    have := u64_and_nat Y 1 hYl (by omega)
    rw [Nat.and_one_is_mod] at this
    exact this
  rw [← hY]
  clear hx hY hxl hYl
  go_enter Try.func68, Try.ntmps68
  go_wp2_with fail
  refine c1.out.mono ?_; rintro e w' ⟨rfl, rfl⟩
  go_wp2
  go_ret
  exact ⟨rfl, rfl⟩
end Go.Proofs.Ytjdbpeblbejllaa
