/- Words of 32 bits; turning them. -/
import Derived.Test.YtjdbpeblbejllaaBase
import Derived.Test.YtjdbpeblbejllaaProg
import Derived.Laws.BitsAllLaws
set_option linter.unusedVariables false
set_option linter.unusedSimpArgs false
namespace Go.Proofs.Ytjdbpeblbejllaa
open Go.RowKit
/-- a word as Go's number -/
def n32 (x : UInt32) : Int := (x.toNat : Int)
theorem n32_bd (x : UInt32) : 0 ≤ n32 x ∧ n32 x ≤ 4294967295 := by unfold n32; have := x.toNat_lt; omega
theorem n32_inj {x y : UInt32} (h : n32 x = n32 y) : x = y := by
  unfold n32 at h
  exact UInt32.toNat_inj.1 (by omega)
def shr (x : UInt32) (n : Nat) : UInt32 := UInt32.ofNat (x.toNat / 2 ^ n)
def shl (x : UInt32) (n : Nat) : UInt32 := UInt32.ofNat (x.toNat * 2 ^ n)
def rotr (x : UInt32) (n : Nat) : UInt32 := shr x n ||| shl x (32 - n)
theorem n32_ofNat (n : Nat) : n32 (UInt32.ofNat n) = ((n % 4294967296 : Nat) : Int) := by unfold n32; rw [UInt32.toNat_ofNat']
theorem n32_xor (x y : UInt32) : bits .xor .u32 (n32 x) (n32 y) = n32 (x ^^^ y) := by
  unfold n32; rw [u32_xor_nat _ _ x.toNat_lt y.toNat_lt, UInt32.toNat_xor]
theorem n32_and (x y : UInt32) : bits .and .u32 (n32 x) (n32 y) = n32 (x &&& y) := by
  unfold n32; rw [u32_and_nat _ _ x.toNat_lt y.toNat_lt, UInt32.toNat_and]
theorem n32_or (x y : UInt32) : bits .or .u32 (n32 x) (n32 y) = n32 (x ||| y) := by
  unfold n32; rw [u32_or_nat _ _ x.toNat_lt y.toNat_lt, UInt32.toNat_or]
theorem n32_add (x y : UInt32) : IntKind.u32.wrap (n32 x + n32 y) = n32 (x + y) := by
  unfold n32; rw [IntKind.wrap_u32', UInt32.toNat_add]; omega
theorem n32_shl (x : UInt32) (n : Nat) : IntKind.u32.wrap (n32 x * 2 ^ n) = n32 (shl x n) := by
  unfold shl; rw [n32_ofNat, IntKind.wrap_u32']; unfold n32
  rw [show ((x.toNat : Int) * 2 ^ n) = ((x.toNat * 2 ^ n : Nat) : Int) by simp]
  omega
theorem n32_shr (x : UInt32) (n : Nat) : n32 x / 2 ^ n = n32 (shr x n) := by
  unfold shr; rw [n32_ofNat]; unfold n32
  have h : x.toNat / 2 ^ n < 4294967296 := Nat.lt_of_le_of_lt (Nat.div_le_self _ _) x.toNat_lt
  rw [Nat.mod_eq_of_lt h]
  simp
theorem rot_eq (x : UInt32) (n m : Nat) (hm : m = 32 - n) (hn : n ≤ 32) : bits .or .u32 (n32 x * 2 ^ min m 32 % 4294967296) (n32 x / 2 ^ min n 32) = n32 (rotr x n) := by
  rw [Nat.min_eq_left (by omega), Nat.min_eq_left hn, n32_shr, ← IntKind.wrap_u32', n32_shl, n32_or]
  unfold rotr; rw [hm, UInt32.or_comm]
theorem rot_eq' (x : UInt32) (n m : Nat) (hm : m = 32 - n) (hn : n ≤ 32) : bits .or .u32 (n32 x / 2 ^ min n 32) (n32 x * 2 ^ min m 32 % 4294967296) = n32 (rotr x n) := by
  rw [Nat.min_eq_left (show n ≤ 32 from hn), Nat.min_eq_left (show m ≤ 32 by omega), n32_shr, ← IntKind.wrap_u32', n32_shl, n32_or]
  unfold rotr; rw [hm]
theorem n32_not' (y : UInt32) : IntKind.u32.wrap (4294967295 - n32 y) = n32 (~~~ y) := by
  unfold n32; rw [IntKind.wrap_u32', UInt32.toNat_not]
  have := y.toNat_lt
  simp [UInt32.size]
  omega
theorem ones_xor (y : UInt32) : (4294967295 : UInt32) ^^^ y = ~~~ y := by
  apply UInt32.toBitVec_inj.1
  rw [UInt32.toBitVec_xor, UInt32.toBitVec_not]
  exact BitVec.allOnes_xor
theorem n32_not (y : UInt32) : bits .xor .u32 (if IntKind.u32.signed = true then -1 else IntKind.u32.max) (n32 y) = n32 (~~~ y) := by
  rw [← ones_xor, ← n32_xor]
  rfl
theorem rot_any (x : UInt32) (k : Int) (n : Nat) (hn : n ≤ 32) (hk : bits .and .u64 (IntKind.u64.wrap k) 31 = ((32 - n : Nat) : Int)) (w : World) :
    Calls Try.prog 105 #[.int .u32 (n32 x), .int .i64 k] w fun e w' => e = .returned (.int .u32 (n32 (rotr x n))) ∧ w = w' := by
  obtain ⟨m, hm⟩ : ∃ m, m = 32 - n := ⟨_, rfl⟩
  rw [← hm] at hk
  have h3 : IntKind.u64.wrap (32 - (m : Int)) = (n : Int) := by rw [IntKind.wrap_u64]; omega
  have h5 := hideP (rot_eq x n m hm hn)
  clear hm hn
  go_enter Try.func105, Try.ntmps105
  go_wp2
  go_ret
  exact ⟨ret_int h5.out, rfl⟩
theorem turned_any (x : UInt32) (n : Nat) (hn : n ≤ 32) (w : World) :
    Calls Try.prog 106 #[.int .u32 (n32 x), .int .u64 n] w fun e w' => e = .returned (.int .u32 (n32 (rotr x n))) ∧ w = w' := by
  obtain ⟨m, hm⟩ : ∃ m, m = 32 - n := ⟨_, rfl⟩
  have h3 : IntKind.u64.wrap (32 - (n : Int)) = (m : Int) := by rw [IntKind.wrap_u64]; omega
  have h5 := hideP (rot_eq' x n m hm hn)
  clear hm hn
  go_enter Try.func106, Try.ntmps106
  go_wp2
  go_ret
  exact ⟨ret_int h5.out, rfl⟩
end Go.Proofs.Ytjdbpeblbejllaa
