/- Contracts of package sha: begin, rounds, schedule. -/
import Derived.IntWalk
import Derived.Test.YtedokpgkjcnoiaaGreatW30
set_option linter.unusedVariables false
set_option linter.unusedSimpArgs false
namespace Go.Proofs.YtedokpgkjcnoiaaGreat
open Go.RowKit
theorem join8 (y x : Nat) (hx : x < 256) : y * 256 ||| x = y * 256 + x := nat_join 8 (y * 256) x (by omega) (by omega)
theorem join16 (y x : Nat) (hx : x < 65536) : y * 65536 ||| x = y * 65536 + x := nat_join 16 (y * 65536) x (by omega) (by omega)
theorem join24 (y x : Nat) (hx : x < 16777216) : y * 16777216 ||| x = y * 16777216 + x := nat_join 24 (y * 16777216) x (by omega) (by omega)
theorem or4 (x0 x1 x2 x3 : Nat) (h0 : x0 < 256) (h1 : x1 < 256) (h2 : x2 < 256) (h3 : x3 < 256) :
    bits .or .u32 (bits .or .u32 (bits .or .u32 (IntKind.u32.wrap (IntKind.u32.wrap (x0 : Int) * 16777216)) (IntKind.u32.wrap (IntKind.u32.wrap (x1 : Int) * 65536))) (IntKind.u32.wrap (IntKind.u32.wrap (x2 : Int) * 256))) (IntKind.u32.wrap (x3 : Int)) =
      n32 (UInt32.ofNat (x0 * 16777216 + x1 * 65536 + x2 * 256 + x3)) := by
  rw [n32_ofNat]
  simp only [IntKind.wrap_u32']
  rw [show ((x0 : Int) % 4294967296 * 16777216 % 4294967296) = ((x0 * 16777216 : Nat) : Int) by omega, show ((x1 : Int) % 4294967296 * 65536 % 4294967296) = ((x1 * 65536 : Nat) : Int) by omega, show ((x2 : Int) % 4294967296 * 256 % 4294967296) = ((x2 * 256 : Nat) : Int) by omega, show ((x3 : Int) % 4294967296) = ((x3 : Nat) : Int) by omega]
  rw [u32_or_nat _ _ (by omega) (by omega), join24 x0 (x1 * 65536) (by omega)]
  rw [u32_or_nat _ _ (by omega) (by omega), show x0 * 16777216 + x1 * 65536 = (x0 * 256 + x1) * 65536 by omega, join16 (x0 * 256 + x1) (x2 * 256) (by omega)]
  rw [u32_or_nat _ _ (by omega) (by omega), show (x0 * 256 + x1) * 65536 + x2 * 256 = (x0 * 65536 + x1 * 256 + x2) * 256 by omega, join8 _ x3 h3]
  omega
theorem size_w64 : (Tryz.prog.info? 201).map (·.size) = some 64 := by kernel_rfl
theorem size_w8 : (Tryz.prog.info? 194).map (·.size) = some 8 := by kernel_rfl
set_option maxRecDepth 100000 in
set_option maxHeartbeats 4000000 in
theorem schedule_any (A : Option Addr) (b : List Nat) (c : Nat) (w : World) (hA : Arr w w.heap.size A 64 (u8s b)) (hb : IsB b) :
    Calls Tryz.prog 158 #[.slice A 64 c] w fun e w' => e = .returned (.agg (((List.range 64).map fun i => v32 (wrd b i)).toArray)) ∧ Below w.heap.size w w' := by
  have HhA := hideP hA; have Hhb := hideP hb; clear hA hb
  go_enter Tryz.func158, Tryz.ntmps158
  go_wp2_with fail
  obtain ⟨w1, hw1⟩ : ∃ w1, w1 = (w.alloc (Obj.cells #[.int .u32 0, .int .u32 0, .int .u32 0, .int .u32 0, .int .u32 0, .int .u32 0, .int .u32 0, .int .u32 0, .int .u32 0, .int .u32 0, .int .u32 0, .int .u32 0, .int .u32 0, .int .u32 0, .int .u32 0, .int .u32 0, .int .u32 0, .int .u32 0, .int .u32 0, .int .u32 0, .int .u32 0, .int .u32 0, .int .u32 0, .int .u32 0, .int .u32 0, .int .u32 0, .int .u32 0, .int .u32 0, .int .u32 0, .int .u32 0, .int .u32 0, .int .u32 0, .int .u32 0, .int .u32 0, .int .u32 0, .int .u32 0, .int .u32 0, .int .u32 0, .int .u32 0, .int .u32 0, .int .u32 0, .int .u32 0, .int .u32 0, .int .u32 0, .int .u32 0, .int .u32 0, .int .u32 0, .int .u32 0, .int .u32 0, .int .u32 0, .int .u32 0, .int .u32 0, .int .u32 0, .int .u32 0, .int .u32 0, .int .u32 0, .int .u32 0, .int .u32 0, .int .u32 0, .int .u32 0, .int .u32 0, .int .u32 0, .int .u32 0, .int .u32 0] 201)).alloc (Obj.cells #[.int .u32 0, .int .u32 0, .int .u32 0, .int .u32 0, .int .u32 0, .int .u32 0, .int .u32 0, .int .u32 0, .int .u32 0, .int .u32 0, .int .u32 0, .int .u32 0, .int .u32 0, .int .u32 0, .int .u32 0, .int .u32 0, .int .u32 0, .int .u32 0, .int .u32 0, .int .u32 0, .int .u32 0, .int .u32 0, .int .u32 0, .int .u32 0, .int .u32 0, .int .u32 0, .int .u32 0, .int .u32 0, .int .u32 0, .int .u32 0, .int .u32 0, .int .u32 0, .int .u32 0, .int .u32 0, .int .u32 0, .int .u32 0, .int .u32 0, .int .u32 0, .int .u32 0, .int .u32 0, .int .u32 0, .int .u32 0, .int .u32 0, .int .u32 0, .int .u32 0, .int .u32 0, .int .u32 0, .int .u32 0, .int .u32 0, .int .u32 0, .int .u32 0, .int .u32 0, .int .u32 0, .int .u32 0, .int .u32 0, .int .u32 0, .int .u32 0, .int .u32 0, .int .u32 0, .int .u32 0, .int .u32 0, .int .u32 0, .int .u32 0, .int .u32 0] 201) := ⟨_, rfl⟩
  have c1 := hideP (show Row32 w1 w.heap.size 201 z64 by rw [hw1]; exact Row.alloc (Row.new w 201 (z64.map v32)) _)
  have c2 := hideP (show Row32 w1 (w.heap.size + 1) 201 z64 by rw [hw1]; exact Row.new' _ 201 (z64.map v32) _ (by simp))
  have cb := hideP (show Below w.heap.size w w1 by rw [hw1]; exact (below_new _ _).alloc (by simp) _)
  rw [← hw1]
  clear hw1
  go_loopw [10] (fun v10 wr => ∃ (k : Nat) (l : List UInt32), k ≤ 16 ∧ v10 = .int .i64 k ∧ Hid (l.length = 64 ∧ (∀ j, j < k → l.getD j 0 = wrd b j) ∧ Row32 wr (w.heap.size + 1) 201 l ∧ Row32 wr w.heap.size 201 z64 ∧ Below w.heap.size w wr)) (fun v10 _ => 16 - (intOf v10).toNat)
  case atStart => exact ⟨0, z64, by omega, rfl, rfl, fun j hj => by omega, c2.out, c1.out, cb.out⟩
  case round =>
    obtain ⟨k, l, hk, rfl, hV⟩ := hrel
    clear c1 c2 cb
    by_cases hlt : k < 16
    · have t' : decide ((k : Int) < 16) = true := by simp; omega
      obtain ⟨g, off, rfl, hg, hc⟩ := (HhA.out.below hV.out.2.2.2.2) (by omega)
      have k0 := hc (4 * k) (by omega)
      have k1 := hc (4 * k + 1) (by omega)
      have k2 := hc (4 * k + 2) (by omega)
      have k3 := hc (4 * k + 3) (by omega)
      unfold u8s at k0 k1 k2 k3
      have b0 := Hhb.out (4 * k)
      have b1 := Hhb.out (4 * k + 1)
      have b2 := Hhb.out (4 * k + 2)
      have b3 := Hhb.out (4 * k + 3)
      obtain ⟨x0, e0⟩ : ∃ x, x = b.getD (4 * k) 0 := ⟨_, rfl⟩
      obtain ⟨x1, e1⟩ : ∃ x, x = b.getD (4 * k + 1) 0 := ⟨_, rfl⟩
      obtain ⟨x2, e2⟩ : ∃ x, x = b.getD (4 * k + 2) 0 := ⟨_, rfl⟩
      obtain ⟨x3, e3⟩ : ∃ x, x = b.getD (4 * k + 3) 0 := ⟨_, rfl⟩
      rw [← e0] at k0 b0
      rw [← e1] at k1 b1
      rw [← e2] at k2 b2
      rw [← e3] at k3 b3
      have i0 : (0 : Int) ≤ 4 * (k : Int) := by omega
      have i1 : 4 * (k : Int) < 64 := by omega
      have i2 : (0 : Int) ≤ 4 * (k : Int) + 1 := by omega
      have i3 : 4 * (k : Int) + 1 < 64 := by omega
      have i4 : (0 : Int) ≤ 4 * (k : Int) + 2 := by omega
      have i5 : 4 * (k : Int) + 2 < 64 := by omega
      have i6 : (0 : Int) ≤ 4 * (k : Int) + 3 := by omega
      have i7 : 4 * (k : Int) + 3 < 64 := by omega
      have i8 : (0 : Int) ≤ (k : Int) := by omega
      have i9 : (k : Int) < 64 := by omega
      have B0 : (x0 : Int) < 256 := by omega
      have B1 : (x1 : Int) < 256 := by omega
      have B2 : (x2 : Int) < 256 := by omega
      have B3 : (x3 : Int) < 256 := by omega
      have n0 : (4 * (k : Int)).toNat = 4 * k := by omega
      have n1 : (4 * (k : Int) + 1).toNat = 4 * k + 1 := by omega
      have n2 : (4 * (k : Int) + 2).toNat = 4 * k + 2 := by omega
      have n3 : (4 * (k : Int) + 3).toNat = 4 * k + 3 := by omega
      have m0 : IntKind.i64.wrap (4 * (k : Int)) = 4 * (k : Int) := IntWalk.i64_in _ (by omega)
      have m1 : IntKind.i64.wrap (4 * (k : Int) + 1) = 4 * (k : Int) + 1 := IntWalk.i64_in _ (by omega)
      have m2 : IntKind.i64.wrap (4 * (k : Int) + 2) = 4 * (k : Int) + 2 := IntWalk.i64_in _ (by omega)
      have m3 : IntKind.i64.wrap (4 * (k : Int) + 3) = 4 * (k : Int) + 3 := IntWalk.i64_in _ (by omega)
      have tw := or4 x0 x1 x2 x3 b0 b1 b2 b3
      obtain ⟨y, hy⟩ : ∃ y, y = UInt32.ofNat (x0 * 16777216 + x1 * 65536 + x2 * 256 + x3) := ⟨_, rfl⟩
      rw [← hy] at tw
      have hyw := hideP (show y = wrd b k by rw [wrd_lo hlt, hy, e0, e1, e2, e3]; rfl)
      clear hc e0 e1 e2 e3 hy
      have Hhg := hideP hg; clear hg
      go_wp2
      refine wp_region_eager 35 [(true, 0), (true, 1), (true, 2), (true, 3), (true, 4), (true, 5), (true, 6), (true, 7), (true, 8), (true, 9), (true, 10), (true, 11), (true, 12), (true, 13), (true, 14), (true, 15), (true, 16), (true, 17), (true, 18), (true, 19), (true, 20), (true, 21), (true, 22), (true, 23), (true, 24), (true, 25), (true, 26), (true, 27), (true, 28), (true, 29), (true, 30), (true, 31), (true, 32), (true, 33), (true, 34)] (by kernel_rfl) (by kernel_rfl) ?_
      simp only [pick, List.map_cons, List.map_nil, nthO_zero, nthO_succ]
      repeat (first
        | (refine wpPlan_skipK (by rfl) (fun K hK => ?_); go_simp; refine hK _ ?_; clear hK K)
        | (refine wpPlan_valK (by rfl) (fun K hK => ?_); apply Exists.intro; refine ⟨fun W hW => ?_, ?_⟩; (focus (have hs0 := hW.cell k0; have hs1 := hW.cell k1; have hs2 := hW.cell k2; have hs3 := hW.cell k3; go_simp; (try rfl); done)); go_simp; refine hK _ ?_; clear hK K))
      refine wpPlan_nil (fun W1 hW0 => ?_)
      simp only [List.drop_succ_cons, List.drop_zero, List.drop_nil]
      have c2 := hV.out.2.2.1.ext hW0.drew_left
      have hs1 := Row32.cell c2 k (by rw [hV.out.1]; omega)
      have hs2 := Row.fz c2 k
      have C2 := hideP (Row32.set c2 k y)
      have C1 := hideP (Row.setOther (hV.out.2.2.2.1.ext hW0.drew_left) (a := ⟨w.heap.size + 1, k, none⟩) (by simp) (v32 y))
      have cb := hideP ((below_ext hV.out.2.2.2.2 hW0.drew_left).setCell (p := ⟨w.heap.size + 1, k, none⟩) (by simp) (v32 y))
      have hl := hideP hV.out.1
      have hall := hideP hV.out.2.1
      clear c2 hW0 hV k0 k1 k2 k3 i0 i1 i2 i3 i4 i5 i6 i7 B0 B1 B2 B3 n0 n1 n2 n3 m0 m1 m2 m3 tw b0 b1 b2 b3
      go_wp2
      clear hs1 hs2
      go_roundw
      case rel =>
        refine ⟨k + 1, l.set k y, by omega, by go_num, by rw [List.length_set]; exact hl.out, fun j hj => ?_, C2.out, C1.out, cb.out⟩
        unfold List.getD
        rw [List.getElem?_set]
        by_cases e : k = j
        · subst e; rw [if_pos rfl, if_pos (by rw [hl.out]; omega)]; exact hyw.out
        · rw [if_neg e]; exact hall.out j (by omega)
      case measure => simp [intOf]; omega
    · have t' : decide ((k : Int) < 16) = false := by simp; omega
      obtain ⟨K, hK⟩ : ∃ K, K = k := ⟨_, rfl⟩
      have hkk : k = 16 := by omega
      rw [hkk] at hV
      rw [← hK] at t' ⊢
      clear hK hkk hk hlt k
      go_wp2_with fail
      go_loopw [5] (fun v5 wr => ∃ (k : Nat) (l : List UInt32), 16 ≤ k ∧ k ≤ 64 ∧ v5 = .int .i64 k ∧ Hid (l.length = 64 ∧ (∀ j, j < k → l.getD j 0 = wrd b j) ∧ Row32 wr (w.heap.size + 1) 201 l ∧ Row32 wr w.heap.size 201 z64 ∧ Below w.heap.size w wr)) (fun v5 _ => 64 - (intOf v5).toNat)
      case atStart => exact ⟨16, l, by omega, by omega, rfl, hV.out⟩
      case round =>
        clear hV t' l
        obtain ⟨k, l, hk0, hk, rfl, hV⟩ := hrel
        by_cases hlt : k < 64
        · have t' : decide ((k : Int) < 64) = true := by simp; omega
          have hl := hV.out.1
          have k15 := Row32.cell hV.out.2.2.1 (k - 15) (by omega)
          have k2 := Row32.cell hV.out.2.2.1 (k - 2) (by omega)
          have k16 := Row32.cell hV.out.2.2.1 (k - 16) (by omega)
          have k7 := Row32.cell hV.out.2.2.1 (k - 7) (by omega)
          rw [hV.out.2.1 (k - 15) (by omega)] at k15
          rw [hV.out.2.1 (k - 2) (by omega)] at k2
          rw [hV.out.2.1 (k - 16) (by omega)] at k16
          rw [hV.out.2.1 (k - 7) (by omega)] at k7
          unfold v32 at k15 k2 k16 k7
          have hy := hideP (wrd_hi (b := b) hk0)
          unfold s0 s1 at hy
          obtain ⟨x15, e15⟩ : ∃ x, x = wrd b (k - 15) := ⟨_, rfl⟩
          obtain ⟨x2, e2⟩ : ∃ x, x = wrd b (k - 2) := ⟨_, rfl⟩
          obtain ⟨x16, e16⟩ : ∃ x, x = wrd b (k - 16) := ⟨_, rfl⟩
          obtain ⟨x7, e7⟩ : ∃ x, x = wrd b (k - 7) := ⟨_, rfl⟩
          rw [← e15, ← e2, ← e16, ← e7] at hy
          rw [← e15] at k15
          rw [← e2] at k2
          rw [← e16] at k16
          rw [← e7] at k7
          have i0 : (15 : Int) ≤ (k : Int) := by omega
          have i1 : (k : Int) - 15 < 64 := by omega
          have i2 : (2 : Int) ≤ (k : Int) := by omega
          have i3 : (k : Int) - 2 < 64 := by omega
          have i4 : (16 : Int) ≤ (k : Int) := by omega
          have i5 : (k : Int) - 16 < 64 := by omega
          have i6 : (7 : Int) ≤ (k : Int) := by omega
          have i7 : (k : Int) - 7 < 64 := by omega
          have i8 : (0 : Int) ≤ (k : Int) := by omega
          have i9 : (k : Int) < 64 := by omega
          have j0 : (0 : Int) ≤ (k : Int) - 15 := by omega
          have j1 : (0 : Int) ≤ (k : Int) - 2 := by omega
          have j2 : (0 : Int) ≤ (k : Int) - 16 := by omega
          have j3 : (0 : Int) ≤ (k : Int) - 7 := by omega
          have n0 : ((k : Int) - 15).toNat = k - 15 := by omega
          have n1 : ((k : Int) - 2).toNat = k - 2 := by omega
          have n2 : ((k : Int) - 16).toNat = k - 16 := by omega
          have n3 : ((k : Int) - 7).toNat = k - 7 := by omega
          have m0 : IntKind.i64.wrap ((k : Int) - 15) = (k : Int) - 15 := IntWalk.i64_in _ (by omega)
          have m1 : IntKind.i64.wrap ((k : Int) - 2) = (k : Int) - 2 := IntWalk.i64_in _ (by omega)
          have m2 : IntKind.i64.wrap ((k : Int) - 16) = (k : Int) - 16 := IntWalk.i64_in _ (by omega)
          have m3 : IntKind.i64.wrap ((k : Int) - 7) = (k : Int) - 7 := IntWalk.i64_in _ (by omega)
          have r7 := hideP (fun x => rot_any x (-7) 7 (by omega) (by kernel_rfl))
          have r18 := hideP (fun x => rot_any x (-18) 18 (by omega) (by kernel_rfl))
          have r17 := hideP (fun x => rot_any x (-17) 17 (by omega) (by kernel_rfl))
          have r19 := hideP (fun x => rot_any x (-19) 19 (by omega) (by kernel_rfl))
          have rx := n32_xor
          have ra := n32_add
          have rs3 : ∀ x, n32 x / 8 = n32 (shr x 3) := fun x => n32_shr x 3
          have rs10 : ∀ x, n32 x / 1024 = n32 (shr x 10) := fun x => n32_shr x 10
          clear e15 e2 e16 e7
          have Hhl := hideP hl; clear hl
          go_wp2_with fail
          refine wp_region_eager 10 [(true, 0), (true, 1), (true, 2), (true, 3), (true, 4), (true, 5), (true, 6), (true, 7), (true, 8), (true, 9)] (by kernel_rfl) (by kernel_rfl) ?_
          simp only [pick, List.map_cons, List.map_nil, nthO_zero, nthO_succ]
          repeat (first
            | (refine wpPlan_skipK (by rfl) (fun K hK => ?_); go_simp; refine hK _ ?_; clear hK K)
            | (refine wpPlan_valK (by rfl) (fun K hK => ?_); apply Exists.intro; refine ⟨fun W hW => ?_, ?_⟩; (focus (have hs0 := hW.cell k15; have hs1 := hW.cell k2; go_simp; (try rfl); done)); go_simp; refine hK _ ?_; clear hK K))
          refine wpPlan_nil (fun W1 hW0 => ?_)
          simp only [List.drop_succ_cons, List.drop_zero, List.drop_nil]
          go_wp2_with fail
          refine (r7.out x15 W1).mono ?_
          rintro e w2 ⟨rfl, rfl⟩
          go_wp2_with fail
          refine (r18.out x15 W1).mono ?_
          rintro e w2 ⟨rfl, rfl⟩
          go_wp2_with fail
          refine (r17.out x2 W1).mono ?_
          rintro e w2 ⟨rfl, rfl⟩
          go_wp2_with fail
          refine (r19.out x2 W1).mono ?_
          rintro e w2 ⟨rfl, rfl⟩
          replace k16 := hW0.drew_left.cell k16
          replace k7 := hW0.drew_left.cell k7
          have C2 := hideP (Row.ext hV.out.2.2.1 hW0.drew_left)
          have C1 := hideP (Row.ext hV.out.2.2.2.1 hW0.drew_left)
          have cb := hideP (below_ext hV.out.2.2.2.2 hW0.drew_left)
          have hall := hideP hV.out.2.1
          clear hV hW0 k15 k2
          go_wp2_with fail
          refine wp_region_eager 15 [(true, 0), (true, 1), (true, 2), (true, 3), (true, 4), (true, 5), (true, 6), (true, 7), (true, 8), (true, 9), (true, 10), (true, 11), (true, 12), (true, 13), (true, 14)] (by kernel_rfl) (by kernel_rfl) ?_
          simp only [pick, List.map_cons, List.map_nil, nthO_zero, nthO_succ]
          repeat (first
            | (refine wpPlan_skipK (by rfl) (fun K hK => ?_); go_simp; refine hK _ ?_; clear hK K)
            | (refine wpPlan_valK (by rfl) (fun K hK => ?_); apply Exists.intro; refine ⟨fun W hW => ?_, ?_⟩; (focus (have hs0 := hW.cell k16; have hs1 := hW.cell k7; go_simp; (try rfl); done)); go_simp; refine hK _ ?_; clear hK K))
          refine wpPlan_nil (fun W2 hW0 => ?_)
          simp only [List.drop_succ_cons, List.drop_zero, List.drop_nil]
          obtain ⟨y, hyy⟩ : ∃ y, y = x16 + (rotr x15 7 ^^^ rotr x15 18 ^^^ shr x15 3) + x7 + (rotr x2 17 ^^^ rotr x2 19 ^^^ shr x2 10) := ⟨_, rfl⟩
          have hyw := hideP (show y = wrd b k by rw [hy.out, hyy])
          rw [← hyy]
          clear hyy
          have c2 := C2.out.ext hW0.drew_left
          have hs1 := Row32.cell c2 k (by rw [Hhl.out]; omega)
          have hs2 := Row.fz c2 k
          replace C1 := hideP (Row.setOther (C1.out.ext hW0.drew_left) (a := ⟨w.heap.size + 1, k, none⟩) (by simp) (v32 y))
          replace C2 := hideP (Row32.set c2 k y)
          replace cb := hideP ((below_ext cb.out hW0.drew_left).setCell (p := ⟨w.heap.size + 1, k, none⟩) (by simp) (v32 y))
          clear c2 hW0 k16 k7 rx ra rs3 rs10 r7 r18 r17 r19 m0 m1 m2 m3 n0 n1 n2 n3 i1 i3 i5 i7 j0 j1 j2 j3
          go_wp2_with fail
          clear hs1 hs2
          go_roundw
          case rel =>
            refine ⟨k + 1, l.set k y, by omega, by omega, by go_num, by rw [List.length_set]; exact Hhl.out, fun j hj => ?_, C2.out, C1.out, cb.out⟩
            unfold List.getD
            rw [List.getElem?_set]
            by_cases e : k = j
            · subst e; rw [if_pos rfl, if_pos (by rw [Hhl.out]; omega)]; exact hyw.out
            · rw [if_neg e]; exact hall.out j (by omega)
          case measure => simp [intOf]; omega
        · have t' : decide ((k : Int) < 64) = false := by simp; omega
          obtain rfl : k = 64 := by omega
          have hl : l = (List.range 64).map (wrd b) := by
            refine List.ext_getElem? fun i => ?_
            rcases Nat.lt_or_ge i 64 with hi | hi
            · have := hV.out.2.1 i hi
              unfold List.getD at this
              rw [List.getElem?_eq_getElem (by rw [hV.out.1]; exact hi)] at this ⊢
              simp [hi]; simpa using this
            · rw [List.getElem?_eq_none (by rw [hV.out.1]; exact hi)]; simp [hi]
          have hres := hideP (show (l.map v32) = (List.range 64).map fun i => v32 (wrd b i) by rw [hl, List.map_map]; rfl)
          have C2 := hideP hV.out.2.2.1
          have C1 := hideP hV.out.2.2.2.1
          have cb := hideP hV.out.2.2.2.2
          have hlen := hideP (show (l.map v32).length = 64 by rw [List.length_map]; exact hV.out.1)
          clear hV hl hlt hk hk0
          obtain ⟨Z, hZ⟩ : ∃ Z, Z = l.map v32 := ⟨_, rfl⟩
          have C2' : Row wr (w.heap.size + 1) 201 Z := by rw [hZ]; exact C2.out
          have hall := hideP (show Z.toArray.all (·.oneCell') = true by rw [hZ]; exact all_v32 l)
          rw [← hZ] at hres hlen
          replace C2 := hideP C2'
          clear hZ C2'
          have hsz := hideP (show (Tryz.prog.info? 201).map (·.size) = some Z.toArray.size by rw [size_w64]; simp [hlen.out])
          go_wp2_with (first
            | (refine wpList_load_row rfl 201 (.tmp 3) rfl (w.heap.size + 1) rfl 201 Z.toArray (0, 0) _ C2.out Tryz.underlying201 rfl hsz.out ?_)
            | (refine wpList_store_row rfl 201 (.tmp 2) (.tmp 92) rfl w.heap.size Z.toArray rfl rfl 201 (z64.map v32).toArray C1.out hsz.out (by rw [show (z64.map v32).toArray.size = 64 from rfl]; simp [hlen.out]) hall.out ?_))
          refine ret_row rfl rfl (Row.setRow C1.out Z) Tryz.underlying201 (by rw [size_w64, hlen.out]) rfl ⟨by rw [hres.out], ?_⟩
          exact below_setRow' cb.out (Nat.le_refl _) _
end Go.Proofs.YtedokpgkjcnoiaaGreat
