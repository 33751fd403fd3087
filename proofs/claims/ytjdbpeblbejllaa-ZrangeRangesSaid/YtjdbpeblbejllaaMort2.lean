/- Contracts of package morton, and of the reference's: bits, order. -/
import Derived.Test.YtjdbpeblbejllaaMort
import Derived.Test.YtjdbpeblbejllaaMem
set_option linter.unusedVariables false
set_option linter.unusedSimpArgs false
namespace Go.Proofs.Ytjdbpeblbejllaa
open Go.RowKit

theorem bitval (x i : Nat) (hx : x < 256) : bits BinOp.and IntKind.u8 ((x : Int) / 2 ^ (7 - i % 8)) 1 = ((x / 2 ^ (7 - i % 8) % 2 : Nat) : Int) := by
  have h := u8_and_nat (x / 2 ^ (7 - i % 8)) 1 (Nat.lt_of_le_of_lt (Nat.div_le_self _ _) hx) (by omega)
  rw [nat_mask1] at h
  rw [← h]
  simp

theorem bit_in (A : Option Addr) (l : List Nat) (c : Nat) (i : Int) (w : World) (hA : Arr w w.heap.size A l.length (u8s l)) (hl : IsB l) (hn : l.length ≤ 140737488351232) (h0 : 0 ≤ i) (hi : i < 8 * l.length) :
    Calls Try.prog 67 #[.slice A l.length c, .int .i64 i] w fun e w' => e = .returned (.int .u8 (bitAt l i.toNat : Nat)) ∧ w = w' := by
  obtain ⟨i, rfl⟩ := Int.eq_ofNat_of_zero_le h0
  obtain ⟨b, off, rfl, hb, hc⟩ := hA (by omega)
  have hci := hc (i / 8) (by omega)
  unfold u8s at hci
  have hbd := hl (i / 8)
  clear hc hA
  have h1 : decide ((i : Int) < 0) = false := by simp
  have h2 : decide ((l.length : Int) ≤ (i : Int) / 8) = false := by simp; omega
  go_enter Try.func67, Try.ntmps67
  go_wp2
  go_ret
  refine ⟨ret_int ?_, rfl⟩
  simp only [Int.toNat_natCast]
  exact bitval _ _ hbd
theorem bit_out (A : Option Addr) (n c : Nat) (i : Int) (w : World) (hn : n ≤ 140737488351232) (hi : i < 0 ∨ 8 * (n : Int) ≤ i) (hm : i ≤ 9223372036854775807) :
    Calls Try.prog 67 #[.slice A n c, .int .i64 i] w fun e w' => e = .returned (.int .u8 0) ∧ w = w' := by
  rcases hi with hi | hi
  · go_enter Try.func67, Try.ntmps67
    go_wp2
    go_ret
    exact ⟨rfl, rfl⟩
  · have h1 : decide (i < 0) = false := by simp; omega
    have h2 : decide ((n : Int) ≤ i / 8) = true := by simp; omega
    go_enter Try.func67, Try.ntmps67
    go_wp2
    go_ret
    exact ⟨rfl, rfl⟩

end Go.Proofs.Ytjdbpeblbejllaa
