/- Contracts of the document's package for chapter 3: Between, ToBox. -/
import Derived.Test.YtnekbmndphbaoaaRef03
import Derived.Test.YtnekbmndphbaoaaEager
set_option linter.unusedVariables false
set_option linter.unusedSimpArgs false
namespace Go.Proofs.Ytnekbmndphbaoaa
open Go.RowKit
theorem rapart_quiet (a b : Int) (w : World) (ha : I64 a) (hb : I64 b) : Calls Try.prog 24 #[.int .i64 a, .int .i64 b] w fun e w' => e = .returned (.int .u64 (apart a b)) ∧ w' = w :=
  (rapart_any a b w ha hb).mono fun _ _ h => ⟨h.1, h.2.symm⟩
/-- the sides, summed, are less than 2^128 -/
theorem sides_small (f : Nat → Nat) (n : Nat) (hn : n ≤ 8) (hf : ∀ i, i < n → f i < 18446744073709551616) : (sides f n).sum % 340282366920938463463374607431768211456 = (sides f n).sum :=
  Nat.mod_eq_of_lt (Nat.lt_of_le_of_lt (sides_le f n hf) (Nat.lt_of_le_of_lt (Nat.mul_le_mul_right _ hn) (by decide)))

set_option maxRecDepth 100000 in
set_option maxHeartbeats 2000000 in
theorem rbetween_in (A B : Option Addr) (p q : List Int) (n c d : Nat) (w : World) (hA : Arr w w.heap.size A n (i64s p)) (hB : Arr w w.heap.size B n (i64s q)) (hp : IsI p) (hq : IsI q) (h1 : 1 ≤ n) (h8 : n ≤ 8) :
    Calls Try.prog 15 #[.slice A n c, .slice B n d] w fun e w' => e = .returned (.tuple #[dv (dpt p q n), .bool true]) ∧ Below w.heap.size w w' := by
  obtain ⟨i0, hi0, hz0, hz1, hz2⟩ := info_parts info_u64'
  obtain ⟨f, ef⟩ : ∃ f : Nat → Nat, f = fun i => apart (p.getD i 0) (q.getD i 0) := ⟨_, rfl⟩
  have hf : ∀ i, f i < 18446744073709551616 := fun i => by rw [ef]; exact apart_lt (hp i) (hq i)
  have hD : dpt p q n = (sides f n).sum % 340282366920938463463374607431768211456 := by rw [sides_small f n h8 (fun i _ => hf i), ef]; rfl
  rw [hD]
  have HP := hideP hp; have HQ := hideP hq; have HA := hideP hA; have HB := hideP hB; have EF := hideP ef; have HF := hideP hf
  have t1 : decide ((n : Int) < 1) = false := by simp; omega
  have t2 : decide ((8 : Int) < n) = false := by simp; omega
  clear hp hq hA hB ef hf hD
  go_enter Try.func15, Try.ntmps15
  go_wp2
  obtain ⟨g, hg⟩ : ∃ g, g = w.heap.size := ⟨_, rfl⟩
  obtain ⟨w0, hw0⟩ : ∃ w0, w0 = w.alloc (Obj.cells #[.int .u64 0, .int .u64 0] 29) := ⟨_, rfl⟩
  have r0 : Two w0 g 29 (.int .u64 (0 : Nat)) (.int .u64 (0 : Nat)) := by rw [hw0, hg]; exact heap_alloc_new _ _
  have rb : Below w.heap.size w w0 := by rw [hw0]; exact (Below.refl _ _).alloc (Nat.le_refl _) _
  rw [← hw0, ← hg]
  clear hw0
  have HG := hideP hg
  clear hg
  have hown0 : w0.ownsRow (g + 1) 27 1 (.slice none 0 0) 0 [] := World.ownsRow_nil _ _ _ _
  go_loopw [6, 7] (fun v6 v7 wr => ∃ (k s : Nat) (R : Option Addr), k ≤ n ∧ v7 = .int .i64 k ∧ v6 = .slice R k s ∧
    Hid (wr.ownsRow (g + 1) 27 1 (.slice R k s) k ((sides f k).map fun (x : Nat) => Value.int .u64 x) ∧ Two wr g 29 (.int .u64 (0 : Nat)) (.int .u64 (0 : Nat)) ∧ Below w.heap.size w wr)) (fun _ v7 _ => n - (intOf v7).toNat)
  case atStart => exact ⟨0, 0, none, by omega, rfl, rfl, hown0, r0, rb⟩
  case round =>
    obtain ⟨k, s, R, hk, rfl, rfl, hW⟩ := hrel
    clear r0 rb hown0
    by_cases hlt : k < n
    · have t : decide ((k : Int) < n) = true := by simp; omega
      obtain ⟨b, off, rfl, hb, hc⟩ := (HA.out.below hW.out.2.2) (by omega)
      obtain ⟨b', off', rfl, hb', hc'⟩ := (HB.out.below hW.out.2.2) (by omega)
      have k1 := hc k hlt
      have k2 := hc' k hlt
      unfold i64s at k1 k2
      have z1 := HP.out k
      have z2 := HQ.out k
      have hx : f k = apart (p.getD k 0) (q.getD k 0) := by rw [EF.out]
      obtain ⟨x, ex⟩ : ∃ x, x = p.getD k 0 := ⟨_, rfl⟩
      obtain ⟨y, ey⟩ : ∃ y, y = q.getD k 0 := ⟨_, rfl⟩
      rw [← ex] at k1 z1 hx
      rw [← ey] at k2 z2 hx
      have Z1 : I64 x := z1
      have Z2 : I64 y := z2
      have hlx := apart_lt Z1 Z2
      have HX := hideP hx
      have j0 : (0 : Int) ≤ (k : Int) := by omega
      have j1 : (k : Int) < (n : Int) := by omega
      clear ex ey hc hc' hx
      go_wp2
      refine wp_region_eager 11 [(true, 0), (true, 1), (true, 2), (true, 3), (true, 4), (true, 5), (true, 6), (true, 7), (true, 8), (true, 9), (false, 10)] (by kernel_rfl) (by kernel_rfl) ?_
      simp only [pick, List.map_cons, List.map_nil, nthO_zero, nthO_succ]
      repeat (first
        | (refine wpPlan_valK (by rfl) (fun K hK => ?_); apply Exists.intro; refine ⟨fun W hW => ?_, ?_⟩; (focus (have hs1 := hW.cell k1; have hs2 := hW.cell k2; go_simp; (try rfl); done)); go_simp; refine hK _ ?_; clear hK K)
        | (refine wpPlan_callK (.int .u64 (apart x y)) 24 #[.int .i64 x, .int .i64 y] (by rfl) (fun W => by go_simp) (fun W hW => (rapart_any x y W Z1 Z2).mono fun e w' h => ⟨h.1, by rw [← h.2]; exact Ext.refl _⟩) (fun K hK => ?_); go_simp; refine hK _ ?_; clear hK K))
      refine wpPlan_buildK (by rfl) (fun W hW2 => ?_)
      refine ⟨.slice (some ⟨W.heap.size, 0, none⟩) 1 1, W.alloc (.cells #[.int .u64 (apart x y)] 27), ⟨by go_simp, Ext.alloc _ _⟩, fun K hK => ?_⟩
      go_simp
      refine hK _ ?_
      clear hK K
      refine wpPlan_nil (fun W2 hW3 => ?_)
      simp only [List.drop_succ_cons, List.drop_zero, List.drop_nil]
      have hX : Ext wr W2 := (hW2.drew_left.trans (Ext.alloc _ _)).trans hW3
      have AX : Arr W2 W2.heap.size (some ⟨W.heap.size, 0, none⟩) 1 (fun _ => .int .u64 (apart x y)) := by
        refine Arr.ext (w := W.alloc (.cells #[.int .u64 (apart x y)] 27)) (fun _ => ⟨W.heap.size, 0, rfl, by simp, fun i hi => ?_⟩) hW3
        obtain rfl : i = 0 := by omega
        exact (One.new W _ _).c0
      have hown := ownsRow_ext hW.out.1 hX
      have HT := hideP (hW.out.2.1.ext hX)
      have HBL := hideP (below_ext hW.out.2.2 hX)
      have hg1 : g + 1 ≤ W2.heap.size := by have := HT.out.lt; omega
      clear hW hW2 hW3 hX k1 k2 j0 j1
      go_wp2_with (at_builtin; refine wpList_append_arr W2 rfl (.tmp 30) (.tmp 40) 40 rfl (g + 1) 27 i0 _ 8 Try.underlying40 hi0 hz0 hz1 hz2 rfl (.slice R k s) k ((sides f k).map fun (x : Nat) => Value.int .u64 x) rfl hown W2.heap.size (some ⟨W.heap.size, 0, none⟩) 1 1 (fun _ => .int .u64 (apart x y)) rfl AX (fun _ => rfl) (by unfold maxLen; omega) (by omega) hg1 ?_; intro A3 c3 w3 hown3 hg3 hat3)
      go_roundw
      case rel =>
        refine ⟨k + 1, c3, A3, by omega, by go_num, rfl, ?_, ?_, ?_⟩
        · have : (sides f (k + 1)).map (fun (x : Nat) => Value.int .u64 x) = (sides f k).map (fun (x : Nat) => Value.int .u64 x) ++ (List.range 1).map (fun _ => Value.int .u64 (apart x y)) := by
            simp [sides, List.range_succ, HX.out]
          rw [this]
          exact hown3
        · exact HT.out.below (below_own hown hg3 (Nat.le_refl _) hg1) (by omega)
        · have := HG.out
          exact HBL.out.trans ((below_own hown hg3 (by omega) HBL.out.size))
      case measure => simp [intOf]; omega
    · have t : decide ((k : Int) < n) = false := by simp; omega
      have e : k = n := by omega
      have hl : k = (sides f k).length := by simp [sides]
      have hA : Arr wr wr.heap.size R (sides f k).length (u64s (sides f k)) := by
        rw [← hl]
        refine Arr.of_own hW.out.1 fun i hi => ?_
        unfold u64s
        simp [List.getD, sides, List.getElem?_map, List.getElem?_range hi]
      have hsum := rsum_any R (sides f k) s wr hA (fun i => by
        by_cases hi : i < k
        · have := HF.out i
          simp [sides, List.getD, List.getElem?_map, List.getElem?_range hi]; exact this
        · rw [getD_out _ _ _ (by simp [sides]; omega)]; decide) (by rw [← hl]; omega)
      rw [← hl, e] at hsum
      have HSUM := hideP hsum
      have E := hideP e
      clear hsum hA hl e
      rw [E.out] at hW ⊢
      go_wp2_with fail
      refine HSUM.out.mono ?_
      obtain ⟨u, hu⟩ : ∃ u, u = (sides f n).sum % 340282366920938463463374607431768211456 / 18446744073709551616 := ⟨_, rfl⟩
      obtain ⟨v, hv⟩ : ∃ v, v = (sides f n).sum % 340282366920938463463374607431768211456 % 18446744073709551616 := ⟨_, rfl⟩
      unfold dv dvp
      rw [← hu, ← hv]
      rintro e1 w1 ⟨rfl, hb1⟩
      have r1 := hW.out.2.1.after hb1
      have hbel := hW.out.2.2.trans (hb1.mono hW.out.2.2.size)
      have f0 := r1.fz 0
      have f1 := r1.fz 1
      have p0 := r1.c0
      have p1 := r1.c1
      have HU := hideP hu; have HV := hideP hv
      have R1 := hideP r1; have HB' := hideP hbel
      clear r1 hbel hb1 hu hv
      go_wp2
      refine ret_dist2 rfl rfl rfl (R1.out.set2 _ _) rfl ?_
      refine ⟨?_, ?_⟩
      · unfold dv dvp; rw [← HU.out, ← HV.out]; rfl
      · have := HG.out
        exact (HB'.out.setCell (p := ⟨g, 0, none⟩) (by simp; omega) _).setCell (p := ⟨g, 1, none⟩) (by simp; omega) _

theorem rbetween_no (A B : Option Addr) (n m c d : Nat) (w : World) (h : (isPt n && decide (m = n)) = false) :
    Calls Try.prog 15 #[.slice A n c, .slice B m d] w fun e w' => e = .returned (.tuple #[dv 0, .bool false]) ∧ Below w.heap.size w w' := by
  unfold isPt at h
  by_cases h1 : 1 ≤ n
  · have t1 : decide ((n : Int) < 1) = false := by simp; omega
    by_cases h2 : n ≤ 8
    · have t2 : decide ((8 : Int) < n) = false := by simp; omega
      have t : ((n : Int) != (m : Int)) = true := by simp [h1, h2] at h; simp; omega
      clear h
      go_enter Try.func15, Try.ntmps15
      go_wp2
      refine ret_dist2 rfl rfl rfl (Two.new _ _ _ _) rfl ?_
      exact ⟨rfl, (Below.refl _ _).alloc (Nat.le_refl _) _⟩
    · have t2 : decide ((8 : Int) < n) = true := by simp; omega
      clear h
      go_enter Try.func15, Try.ntmps15
      go_wp2
      refine ret_dist2 rfl rfl rfl (Two.new _ _ _ _) rfl ?_
      exact ⟨rfl, (Below.refl _ _).alloc (Nat.le_refl _) _⟩
  · have t1 : decide ((n : Int) < 1) = true := by simp; omega
    clear h
    go_enter Try.func15, Try.ntmps15
    go_wp2
    refine ret_dist2 rfl rfl rfl (Two.new _ _ _ _) rfl ?_
    exact ⟨rfl, (Below.refl _ _).alloc (Nat.le_refl _) _⟩
set_option maxRecDepth 100000 in
set_option maxHeartbeats 2000000 in
theorem rtoBox_in (A L H : Option Addr) (p lo hi : List Int) (n c d dd : Nat) (w : World) (hA : Arr w w.heap.size A n (i64s p)) (hL : Arr w w.heap.size L n (i64s lo)) (hH : Arr w w.heap.size H n (i64s hi)) (hp : IsI p) (hlo : IsI lo) (hhi : IsI hi) (h1 : 1 ≤ n) (h8 : n ≤ 8) :
    Calls Try.prog 17 #[.slice A n c, .agg #[.slice L n d, .slice H n dd]] w fun e w' => e = .returned (.tuple #[dv (dbox p lo hi n), .bool true]) ∧ Below w.heap.size w w' := by
  obtain ⟨i0, hi0, hz0, hz1, hz2⟩ := info_parts info_u64'
  obtain ⟨f, ef⟩ : ∃ f : Nat → Nat, f = fun i => gap (p.getD i 0) (lo.getD i 0) (hi.getD i 0) := ⟨_, rfl⟩
  have hf : ∀ i, f i < 18446744073709551616 := fun i => by rw [ef]; exact gap_lt (hp i) (hlo i) (hhi i)
  have hD : dbox p lo hi n = (sides f n).sum % 340282366920938463463374607431768211456 := by rw [sides_small f n h8 (fun i _ => hf i), ef]; rfl
  rw [hD]
  have HP := hideP hp; have HLO := hideP hlo; have HHI := hideP hhi; have HA := hideP hA; have AL := hideP hL; have AH := hideP hH; have EF := hideP ef; have HF := hideP hf
  have t1 : decide ((n : Int) < 1) = false := by simp; omega
  have t2 : decide ((8 : Int) < n) = false := by simp; omega
  clear hp hlo hhi hA hL hH ef hf hD
  go_enter Try.func17, Try.ntmps17
  go_wp2
  obtain ⟨g, hg⟩ : ∃ g, g = w.heap.size + 1 := ⟨_, rfl⟩
  obtain ⟨w0, hw0⟩ : ∃ w0, w0 = (w.alloc (Obj.cells #[.slice L n d, .slice H n dd] 25)).alloc (Obj.cells #[.int .u64 0, .int .u64 0] 29) := ⟨_, rfl⟩
  have r0 : Two w0 g 29 (.int .u64 (0 : Nat)) (.int .u64 (0 : Nat)) := by rw [hw0, hg]; exact heap_alloc2_new _ _ _
  have rx : Two w0 w.heap.size 25 (.slice L n d) (.slice H n dd) := by rw [hw0]; exact (Two.new _ _ _ _).alloc _
  have rb : Below w.heap.size w w0 := by rw [hw0]; exact ((Below.refl _ _).alloc (Nat.le_refl _) _).alloc (by simp) _
  rw [← hw0, ← hg]
  clear hw0
  have HG := hideP hg
  clear hg
  have hown0 : w0.ownsRow (g + 1) 27 1 (.slice none 0 0) 0 [] := World.ownsRow_nil _ _ _ _
  go_loopw [6, 7] (fun v6 v7 wr => ∃ (k s : Nat) (R : Option Addr), k ≤ n ∧ v7 = .int .i64 k ∧ v6 = .slice R k s ∧
    Hid (wr.ownsRow (g + 1) 27 1 (.slice R k s) k ((sides f k).map fun (x : Nat) => Value.int .u64 x) ∧ Two wr g 29 (.int .u64 (0 : Nat)) (.int .u64 (0 : Nat)) ∧ Below w.heap.size w wr ∧ Two wr w.heap.size 25 (.slice L n d) (.slice H n dd))) (fun _ v7 _ => n - (intOf v7).toNat)
  case atStart => exact ⟨0, 0, none, by omega, rfl, rfl, hown0, r0, rb, rx⟩
  case round =>
    obtain ⟨k, s, R, hk, rfl, rfl, hW⟩ := hrel
    clear r0 rb rx hown0
    by_cases hlt : k < n
    · have t : decide ((k : Int) < n) = true := by simp; omega
      obtain ⟨b, off, rfl, hb, hc⟩ := (HA.out.below hW.out.2.2.1) (by omega)
      obtain ⟨b', off', rfl, hb', hc'⟩ := (AL.out.below hW.out.2.2.1) (by omega)
      obtain ⟨b'', off'', rfl, hb'', hc''⟩ := (AH.out.below hW.out.2.2.1) (by omega)
      have k1 := hc k hlt
      have k2 := hc' k hlt
      have k3 := hc'' k hlt
      unfold i64s at k1 k2 k3
      have z1 := HP.out k
      have z2 := HLO.out k
      have z3 := HHI.out k
      have hx : f k = gap (p.getD k 0) (lo.getD k 0) (hi.getD k 0) := by rw [EF.out]
      obtain ⟨x, ex⟩ : ∃ x, x = p.getD k 0 := ⟨_, rfl⟩
      obtain ⟨y, ey⟩ : ∃ y, y = lo.getD k 0 := ⟨_, rfl⟩
      obtain ⟨z, ez⟩ : ∃ z, z = hi.getD k 0 := ⟨_, rfl⟩
      rw [← ex] at k1 z1 hx
      rw [← ey] at k2 z2 hx
      rw [← ez] at k3 z3 hx
      have Z1 : I64 x := z1
      have Z2 : I64 y := z2
      have Z3 : I64 z := z3
      have hlx := gap_lt Z1 Z2 Z3
      have HX := hideP hx
      have j0 : (0 : Int) ≤ (k : Int) := by omega
      have j1 : (k : Int) < (n : Int) := by omega
      have x0 := hW.out.2.2.2.c0
      have x1 := hW.out.2.2.2.c1
      clear ex ey ez hc hc' hc'' hx
      go_wp2
      refine wp_region_eager 17 [(true, 0), (true, 1), (true, 2), (true, 3), (true, 4), (true, 5), (true, 6), (true, 7), (true, 8), (true, 9), (true, 10), (true, 11), (true, 12), (true, 13), (true, 14), (true, 15), (false, 16)] (by kernel_rfl) (by kernel_rfl) ?_
      simp only [pick, List.map_cons, List.map_nil, nthO_zero, nthO_succ]
      repeat (first
        | (refine wpPlan_valK (by rfl) (fun K hK => ?_); apply Exists.intro; refine ⟨fun W hW => ?_, ?_⟩; (focus (have hs1 := hW.cell k1; have hs2 := hW.cell k2; have hs3 := hW.cell k3; have hs4 := hW.cell x0; have hs5 := hW.cell x1; go_simp; (try rfl); done)); go_simp; refine hK _ ?_; clear hK K)
        | (refine wpPlan_callK (.int .u64 (gap x y z)) 26 #[.int .i64 x, .int .i64 y, .int .i64 z] (by rfl) (fun W => by go_simp) (fun W hW => (rgap_any x y z W Z1 Z2 Z3).mono fun e w' h => ⟨h.1, by rw [← h.2]; exact Ext.refl _⟩) (fun K hK => ?_); go_simp; refine hK _ ?_; clear hK K))
      refine wpPlan_buildK (by rfl) (fun W hW2 => ?_)
      refine ⟨.slice (some ⟨W.heap.size, 0, none⟩) 1 1, W.alloc (.cells #[.int .u64 (gap x y z)] 27), ⟨by go_simp, Ext.alloc _ _⟩, fun K hK => ?_⟩
      go_simp
      refine hK _ ?_
      clear hK K
      refine wpPlan_nil (fun W2 hW3 => ?_)
      simp only [List.drop_succ_cons, List.drop_zero, List.drop_nil]
      have hX : Ext wr W2 := (hW2.drew_left.trans (Ext.alloc _ _)).trans hW3
      have AX : Arr W2 W2.heap.size (some ⟨W.heap.size, 0, none⟩) 1 (fun _ => .int .u64 (gap x y z)) := by
        refine Arr.ext (w := W.alloc (.cells #[.int .u64 (gap x y z)] 27)) (fun _ => ⟨W.heap.size, 0, rfl, by simp, fun i hi => ?_⟩) hW3
        obtain rfl : i = 0 := by omega
        exact (One.new W _ _).c0
      have hown := ownsRow_ext hW.out.1 hX
      have HT := hideP (hW.out.2.1.ext hX)
      have HBL := hideP (And.intro (below_ext hW.out.2.2.1 hX) (hW.out.2.2.2.ext hX))
      have hg1 : g + 1 ≤ W2.heap.size := by have := HT.out.lt; omega
      clear hW hW2 hW3 hX k1 k2 k3 x0 x1 j0 j1
      go_wp2_with (at_builtin; refine wpList_append_arr W2 rfl (.tmp 39) (.tmp 55) 40 rfl (g + 1) 27 i0 _ 8 Try.underlying40 hi0 hz0 hz1 hz2 rfl (.slice R k s) k ((sides f k).map fun (x : Nat) => Value.int .u64 x) rfl hown W2.heap.size (some ⟨W.heap.size, 0, none⟩) 1 1 (fun _ => .int .u64 (gap x y z)) rfl AX (fun _ => rfl) (by unfold maxLen; omega) (by omega) hg1 ?_; intro A3 c3 w3 hown3 hg3 hat3)
      go_roundw
      case rel =>
        refine ⟨k + 1, c3, A3, by omega, by go_num, rfl, ?_, ?_, ?_, ?_⟩
        · have : (sides f (k + 1)).map (fun (x : Nat) => Value.int .u64 x) = (sides f k).map (fun (x : Nat) => Value.int .u64 x) ++ (List.range 1).map (fun _ => Value.int .u64 (gap x y z)) := by
            simp [sides, List.range_succ, HX.out]
          rw [this]
          exact hown3
        · exact HT.out.below (below_own hown hg3 (Nat.le_refl _) hg1) (by omega)
        · have := HG.out
          exact HBL.out.1.trans ((below_own hown hg3 (by omega) HBL.out.1.size))
        · have := HG.out
          exact HBL.out.2.below (below_own hown hg3 (Nat.le_refl _) hg1) (by omega)
      case measure => simp [intOf]; omega
    · have t : decide ((k : Int) < n) = false := by simp; omega
      have e : k = n := by omega
      have hl : k = (sides f k).length := by simp [sides]
      have hA : Arr wr wr.heap.size R (sides f k).length (u64s (sides f k)) := by
        rw [← hl]
        refine Arr.of_own hW.out.1 fun i hi => ?_
        unfold u64s
        simp [List.getD, sides, List.getElem?_map, List.getElem?_range hi]
      have hsum := rsum_any R (sides f k) s wr hA (fun i => by
        by_cases hi : i < k
        · have := HF.out i
          simp [sides, List.getD, List.getElem?_map, List.getElem?_range hi]; exact this
        · rw [getD_out _ _ _ (by simp [sides]; omega)]; decide) (by rw [← hl]; omega)
      rw [← hl, e] at hsum
      have HSUM := hideP hsum
      have E := hideP e
      clear hsum hA hl e
      rw [E.out] at hW ⊢
      go_wp2_with fail
      refine HSUM.out.mono ?_
      obtain ⟨u, hu⟩ : ∃ u, u = (sides f n).sum % 340282366920938463463374607431768211456 / 18446744073709551616 := ⟨_, rfl⟩
      obtain ⟨v, hv⟩ : ∃ v, v = (sides f n).sum % 340282366920938463463374607431768211456 % 18446744073709551616 := ⟨_, rfl⟩
      unfold dv dvp
      rw [← hu, ← hv]
      rintro e1 w1 ⟨rfl, hb1⟩
      have r1 := hW.out.2.1.after hb1
      have hbel := hW.out.2.2.1.trans (hb1.mono hW.out.2.2.1.size)
      have f0 := r1.fz 0
      have f1 := r1.fz 1
      have p0 := r1.c0
      have p1 := r1.c1
      have HU := hideP hu; have HV := hideP hv
      have R1 := hideP r1; have HB' := hideP hbel
      clear r1 hbel hb1 hu hv
      go_wp2
      refine ret_dist2 rfl rfl rfl (R1.out.set2 _ _) rfl ?_
      refine ⟨?_, ?_⟩
      · unfold dv dvp; rw [← HU.out, ← HV.out]; rfl
      · have := HG.out
        exact (HB'.out.setCell (p := ⟨g, 0, none⟩) (by simp; omega) _).setCell (p := ⟨g, 1, none⟩) (by simp; omega) _

theorem rtoBox_no (A L H : Option Addr) (n m k c d s : Nat) (w : World) (h : (isPt n && decide (m = n) && decide (k = n)) = false) :
    Calls Try.prog 17 #[.slice A n c, .agg #[.slice L m d, .slice H k s]] w fun e w' => e = .returned (.tuple #[dv 0, .bool false]) ∧ Below w.heap.size w w' := by
  unfold isPt at h
  by_cases h1 : 1 ≤ n
  · have t1 : decide ((n : Int) < 1) = false := by simp; omega
    by_cases h2 : n ≤ 8
    · have t2 : decide ((8 : Int) < n) = false := by simp; omega
      by_cases h3 : m = n
      · have t : ((m : Int) != (n : Int)) = false := by simp; omega
        have t' : ((k : Int) != (n : Int)) = true := by simp [h1, h2, h3] at h; simp; omega
        have H3 := hideP h3
        clear h h3
        go_enter Try.func17, Try.ntmps17
        go_wp2
        refine ret_dist2 rfl rfl rfl (Two.new' _ _ _ _ (w.heap.size + 1) (by simp)) rfl ?_
        exact ⟨rfl, ((Below.refl _ _).alloc (Nat.le_refl _) _).alloc (by simp) _⟩
      · have t : ((m : Int) != (n : Int)) = true := by simp; omega
        clear h
        go_enter Try.func17, Try.ntmps17
        go_wp2
        refine ret_dist2 rfl rfl rfl (Two.new' _ _ _ _ (w.heap.size + 1) (by simp)) rfl ?_
        exact ⟨rfl, ((Below.refl _ _).alloc (Nat.le_refl _) _).alloc (by simp) _⟩
    · have t2 : decide ((8 : Int) < n) = true := by simp; omega
      clear h
      go_enter Try.func17, Try.ntmps17
      go_wp2
      refine ret_dist2 rfl rfl rfl (Two.new' _ _ _ _ (w.heap.size + 1) (by simp)) rfl ?_
      exact ⟨rfl, ((Below.refl _ _).alloc (Nat.le_refl _) _).alloc (by simp) _⟩
  · have t1 : decide ((n : Int) < 1) = true := by simp; omega
    clear h
    go_enter Try.func17, Try.ntmps17
    go_wp2
    refine ret_dist2 rfl rfl rfl (Two.new' _ _ _ _ (w.heap.size + 1) (by simp)) rfl ?_
    exact ⟨rfl, ((Below.refl _ _).alloc (Nat.le_refl _) _).alloc (by simp) _⟩
end Go.Proofs.Ytnekbmndphbaoaa
