/- Contracts of package morton. -/
import Derived.Test.YtjdbpeblbejllaaProg
import Derived.Test.YtjdbpeblbejllaaMortPl
set_option linter.unusedVariables false
set_option linter.unusedSimpArgs false
namespace Go.Proofs.Ytjdbpeblbejllaa
open Go.RowKit

theorem isDims_yes (d : Int) (w : World) (h1 : 1 ≤ d) (h2 : d ≤ 8) :
    Calls Try.prog 101 #[.int .i64 d] w fun e w' => e = .returned (.bool true) ∧ w = w' := by
  go_enter Try.func101, Try.ntmps101
  go_wp2
  go_ret
  exact ⟨rfl, rfl⟩
theorem isDims_no (d : Int) (w : World) (h : d < 1 ∨ 8 < d) :
    Calls Try.prog 101 #[.int .i64 d] w fun e w' => e = .returned (.bool false) ∧ w = w' := by
  rcases h with h | h
  · have h' : decide ((1 : Int) ≤ d) = false := by simp; omega
    go_enter Try.func101, Try.ntmps101
    go_wp2
    go_ret
    exact ⟨rfl, rfl⟩
  · have h' : decide ((1 : Int) ≤ d) = true := by simp; omega
    have h'' : decide (d ≤ 8) = false := by simp; omega
    go_enter Try.func101, Try.ntmps101
    go_wp2
    go_ret
    exact ⟨rfl, rfl⟩
theorem plain_any (d : Int) (w : World) (h1 : -9223372036854775808 ≤ d) (h2 : d ≤ 9223372036854775807) :
    Calls Try.prog 102 #[.int .i64 d] w fun e w' => e = .returned (.int .u64 (pl d)) ∧ w = w' := by
  go_enter Try.func102, Try.ntmps102
  go_wp2
  go_ret
  exact ⟨ret_int (plain_eq d h1 h2), rfl⟩

theorem info_mi64 : (Try.prog.info? 2).map (fun i => (i.zero, i.size, i.bytes)) = some (some (.int .i64 0), 1, 8) := by kernel_rfl
theorem info_u64 : (Try.prog.info? 80).map (fun i => (i.zero, i.size, i.bytes)) = some (some (.int .u64 0), 1, 8) := by kernel_rfl
theorem info_u8 : (Try.prog.info? 5).map (fun i => (i.zero, i.size, i.bytes)) = some (some (.int .u8 0), 1, 1) := by kernel_rfl

set_option maxRecDepth 100000 in
set_option maxHeartbeats 1000000 in
theorem code_in (A : Option Addr) (p : List Int) (c : Nat) (w : World) (hA : Arr w w.heap.size A p.length (i64s p)) (hz : IsI p) (h1 : 1 ≤ p.length) (h8 : p.length ≤ 8) :
    Calls Try.prog 87 #[.slice A p.length c] w fun e w' => ∃ g, e = .returned (.tuple #[.slice (some ⟨g, 0, none⟩) (8 * p.length) (8 * p.length), .int .i64 0]) ∧ w.heap.size ≤ g ∧
      w'.rowIs g 5 (8 * p.length) (u8s (code p)) ∧ Below w.heap.size w w' := by
  obtain ⟨b, off, rfl, hb, hc⟩ := hA (by omega)
  have hmk := fun W => run_make_row' (P := Try.prog) 22 5 (.int .u8 0) 1 Try.underlying22 info_u8 rfl .i64 .i64 (8 * p.length) (by omega) (by omega) W
  simp only [Int.natCast_mul, Int.cast_ofNat_Int] at hmk
  go_enter Try.func87, Try.ntmps87
  go_wp2_with (go_at_call 101; refine (isDims_yes _ _ (by omega) (by omega)).mono ?_; rintro e w' ⟨rfl, rfl⟩)
  have HC := Lib.hid hc; clear hc hmk hA
  have HZ := Lib.hid hz; clear hz
  generalize hg : w.heap.size = g at *
  obtain ⟨w0, hw0⟩ : ∃ w0, w0 = w.alloc (Obj.cells (madeCells #[Value.int IntKind.u8 0] (8 * p.length)) 5) := ⟨_, rfl⟩
  rw [← hw0]
  have hrow0 : w0.rowIs g 5 (8 * p.length) (codeCell p 0) := by
    rw [hw0, ← hg]
    exact (World.rowIs_made w _ _ _).congr fun i _ => by unfold codeCell; rw [byteOf_cut0]; rfl
  have hbel0 : Below g w w0 := by rw [hw0]; exact (Below.refl _ _).alloc (by omega) _
  clear hw0
  have HG := Lib.hid hg; clear hg
  go_loopw [5, 6] (fun v5 v6 wr => ∃ m q : Nat, m ≤ 64 ∧ Hid (q = m * p.length) ∧ v5 = .int .i64 q ∧ v6 = .int .i64 (63 - m) ∧ wr.rowIs g 5 (8 * p.length) (codeCell p q) ∧ Below g w wr) (fun _ v6 _ => (intOf v6 + 1).toNat)
  case atStart => exact ⟨0, 0, by omega, by simp [Hid], rfl, rfl, hrow0, hbel0⟩
  case round =>
    obtain ⟨m, q, hm, hq, rfl, rfl, hrow, hbel⟩ := hrel
    clear hrow0 hbel0
    by_cases hlt : m < 64
    · have hm63 : decide ((m : Int) ≤ 63) = true := by simp; omega
      have hqd : q + p.length ≤ 64 * p.length := by
        have := hq.out
        have h2 : (m + 1) * p.length ≤ 64 * p.length := Nat.mul_le_mul_right _ hlt
        rw [Nat.add_mul] at h2; omega
      go_wp2
      have hwr : ∃ wo : World, wo = wr := ⟨_, rfl⟩
      obtain ⟨wo, rfl⟩ := hwr
      go_loopw [5, 23] (fun v5 v23 wr => ∃ k : Nat, k ≤ p.length ∧ v5 = .int .i64 (q + k : Nat) ∧ v23 = .int .i64 k ∧ wr.rowIs g 5 (8 * p.length) (codeCell p (q + k)) ∧ Below g w wr) (fun _ v23 _ => p.length - (intOf v23).toNat)
      case atStart => exact ⟨0, by omega, rfl, rfl, hrow, hbel⟩
      case round =>
        obtain ⟨k, hk, rfl, rfl, hrow2, hbel2⟩ := hrel
        clear hrow hbel
        by_cases hkl : k < p.length
        · have hcell := (hbel2.cell (p := ⟨b, off + k, none⟩) hb).trans (HC.out k hkl)
          unfold i64s at hcell
          have hzk := HZ.out k
          have hcg := hrow2.cell (i := (q + k) / 8) (by omega)
          have hfz := hrow2.frozen ((q + k) / 8)
          unfold codeCell at hcg
          obtain ⟨y, hy⟩ : ∃ y, y = byteOf (cutF (rbit p) (q + k)) ((q + k) / 8) := ⟨_, rfl⟩
          rw [← hy] at hcg
          have hy256 : y < 256 := by rw [hy]; exact byteOf_lt _ (cutF_le _ (rbit_le p) _) _
          obtain ⟨z, hz⟩ : ∃ z, z = p.getD k 0 := ⟨_, rfl⟩
          rw [← hz] at hcell hzk
          have HY := Lib.hid hy; clear hy
          have HZ' := Lib.hid hz; clear hz
          have hpl : pl z < 18446744073709551616 := pl_lt z hzk.2
          go_wp2
          refine wp_region_still_tail 17 (by kernel_rfl) (by kernel_rfl) ?_
          simp only [List.take_succ_cons, List.take_zero, List.drop_succ_cons, List.drop_zero]
          repeat (first
            | (refine wpStill_step (fun K hK => ?_); go_simp; (try go_ints); (try (simp only [IntWalk.iteOmega]; go_simp)); refine hK _ ?_; clear hK K)
            | (refine wpStill_step (fun K hK => ?_); go_simp; refine ⟨_, (plain_any z _ hzk.1 hzk.2).mono (fun _ _ h => ⟨h.1, h.2.symm⟩), hK _ ?_⟩; clear hK K))
          refine wpStill_nil ?_
          go_wp2
          go_roundw
          case rel =>
            refine ⟨k + 1, by omega, by go_num, by go_num, ?_, (hbel2.setCell (p := ⟨g, (q + k) / 8, none⟩) (Nat.le_refl g) _).drew⟩
            refine ((hrow2.set ((q + k) / 8) _).drew).congr fun j hj => ?_
            rw [code_store (rbit p) (q + k) m (pl z) y (rbit_le p) HY.out hlt hpl (by rw [hq.out, rbit_at p m k hkl, HZ'.out])]
            unfold codeCell
            split
            · rename_i h; rw [h]; rfl
            · rename_i h; rw [← Nat.add_assoc, byteOf_far _ _ _ h]
          case measure => simp [intOf]; omega
        · obtain rfl : k = p.length := by omega
          go_wp2
          go_roundw
          case rel => exact ⟨m + 1, q + p.length, by omega, by simp only [Hid]; rw [hq.out, Nat.add_mul, Nat.one_mul], by go_num, by go_num, hrow2, hbel2⟩
          case measure => simp [intOf]; omega
    · obtain rfl : m = 64 := by omega
      go_wp2
      go_ret2
      have e := hq.out
      subst e
      exact ⟨g, rfl, Nat.le_of_eq HG.out, hrow.congr fun i hi => codeCell_all p i hi, by rw [HG.out]; exact hbel⟩
end Go.Proofs.Ytjdbpeblbejllaa
