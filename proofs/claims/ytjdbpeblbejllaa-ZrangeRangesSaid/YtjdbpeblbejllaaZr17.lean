/- Contract of indentureref06's Split (printed by wip/gen/zrsplit.py). -/
import Derived.Test.YtjdbpeblbejllaaZp5
import Derived.Test.YtjdbpeblbejllaaBoxes
set_option linter.unusedVariables false
set_option linter.unusedSimpArgs false
namespace Go.Proofs.Ytjdbpeblbejllaa
open Go.RowKit
/-- what Split tells -/
def SplitTold (w w' : World) (e : Ending) : Option ((List Int × List Int) × (List Int × List Int)) → Prop
  | none => e = .returned (.tuple #[.agg #[.slice none 0 0, .slice none 0 0], .agg #[.slice none 0 0, .slice none 0 0], .bool false]) ∧ Below w.heap.size w w'
  | some ((a, b), (c, d)) => ∃ A sa B sb C sc D sd, e = .returned (.tuple #[.agg #[.slice A a.length sa, .slice B b.length sb], .agg #[.slice C c.length sc, .slice D d.length sd], .bool true]) ∧ Below w.heap.size w w' ∧
      ArrQ (fun k => w.heap.size ≤ k) w' A a.length (i64s a) ∧ ArrQ (fun k => w.heap.size ≤ k) w' B b.length (i64s b) ∧ ArrQ (fun k => w.heap.size ≤ k) w' C c.length (i64s c) ∧ ArrQ (fun k => w.heap.size ≤ k) w' D d.length (i64s d)
theorem regL_bits (p : List Int) (d n x : Nat) (hn : n ≤ 64 * d) : regL (bitL p (64 * d)) n d x d = rgn (rbit p) n d x := by
  unfold regL rgn
  refine List.map_congr_left fun k _ => ?_
  exact congrArg toI (regF_congr (fun j => (bitL p (64 * d)).getD j 0) _ _ _ _ _ fun j hj => bitL_get p _ _ (by omega))
set_option maxRecDepth 100000 in
set_option maxHeartbeats 8000000 in
/-- where the corners' codes are unlike first at bit N -/
theorem rsplit_in (L H : Option Addr) (lo hi : List Int) (dl sh n N : Nat) (w : World) (hL : Arr w w.heap.size L n (i64s lo)) (hH : Arr w w.heap.size H n (i64s hi)) (bx : Bx lo hi n) (hfd : FD lo hi n N) :
    Calls Try.prog 30 #[.agg #[.slice L n dl, .slice H n sh]] w fun e w' => SplitTold w w' e (if N < 64 * n then some ((lo, hi.set (N % n) (toI (upN (pl (hi.getD (N % n) 0)) (63 - N / n)))), (lo.set (N % n) (toI (loN (pl (hi.getD (N % n) 0)) (63 - N / n))), hi)) else none) := by
  obtain ⟨RS, hRS⟩ : ∃ R, R = (if N < 64 * n then some ((lo, hi.set (N % n) (toI (upN (pl (hi.getD (N % n) 0)) (63 - N / n)))), (lo.set (N % n) (toI (loN (pl (hi.getD (N % n) 0)) (63 - N / n))), hi)) else none) := ⟨_, rfl⟩
  rw [← hRS]
  have HRS := hideP hRS
  clear hRS
  have t1 := fun W h h' => rright_any L H lo hi dl sh (n : Int) W h h'
  rw [bx.right, bx.ll, bx.hl] at t1
  have h1 := bx.d1
  have h8 := bx.d8
  have tB1 := fun W h => bits_any L lo dl W h bx.li (by rw [bx.ll]; exact h8)
  have tB2 := fun W h => bits_any H hi sh W h bx.hi' (by rw [bx.hl]; exact h8)
  rw [bx.ll] at tB1
  rw [bx.hl] at tB2
  have hN64 := hfd.1
  obtain ⟨m, hm⟩ : ∃ m, m = 64 * n := ⟨_, rfl⟩
  rw [← hm] at tB1 tB2 hN64
  have hm512 : m ≤ 512 := by omega
  have HM := hideP hm
  clear hm
  have HhL := hideP hL; have HhH := hideP hH; have Ht1 := hideP t1; have Hbx := hideP bx; have Hhfd := hideP hfd; have HtB1 := hideP tB1; have HtB2 := hideP tB2; clear hL hH t1 bx hfd tB1 tB2
  go_enter Try.func30, Try.ntmps30
  go_upto_region 1 with fail
  obtain ⟨w1, hw1⟩ : ∃ w1, w1 = ((w.alloc (Obj.cells #[.slice L n dl, .slice H n sh] 58)).alloc (Obj.cells #[.slice none 0 0, .slice none 0 0] 58)).alloc (Obj.cells #[.slice none 0 0, .slice none 0 0] 58) := ⟨_, rfl⟩
  have c1 := hideP (show Two w1 w.heap.size 58 (.slice L n dl) (.slice H n sh) by rw [hw1]; exact ((Two.new _ _ _ _).alloc _).alloc _)
  have c2 := hideP (show Two w1 (w.heap.size + 1) 58 (.slice none 0 0) (.slice none 0 0) by rw [hw1]; exact (Two.new' _ _ _ _ _ (by simp)).alloc _)
  have c3 := hideP (show Two w1 (w.heap.size + 1 + 1) 58 (.slice none 0 0) (.slice none 0 0) by rw [hw1]; exact Two.new' _ _ _ _ _ (by simp))
  have cb := hideP (show Below w.heap.size w w1 by rw [hw1]; exact ((below_new _ _).alloc (by simp) _).alloc (by simp; omega) _)
  rw [← hw1]
  clear hw1
  have kc10 := c1.out.c0; have kc11 := c1.out.c1
  go_wp2_with fail
  refine (Ht1.out w1 (HhL.out.after cb.out) (HhH.out.after cb.out)).mono ?_
  rintro e w2 ⟨rfl, hb⟩
  clear kc10 kc11
  replace c1 := hideP (c1.out.after hb)
  replace c2 := hideP (c2.out.after hb)
  replace c3 := hideP (c3.out.after hb)
  replace cb := hideP (bstep cb.out hb)
  clear hb
  have kc10 := c1.out.c0; have kc11 := c1.out.c1
  go_upto_region 4 with fail
  refine wp_region_fork 8 (.q 0 (.q 1 (.q 3 (.q 4 (.l 2 (.l 5 (.q 6 (.q 7 .nil)))))))) (by kernel_rfl) (by kernel_rfl) ?_
  simp only [pickT, nthO_zero, nthO_succ]
  iterate 4 (refine wpT_valK (by rfl) (fun K hK => ?_); apply Exists.intro; refine ⟨fun W hW => ?_, ?_⟩; (focus (have hs0 := hW.cell kc10; have hs1 := hW.cell kc11; go_simp; (try rfl); done)); go_simp; refine hK _ ?_; clear hK K)
  refine wpT_loudK 57 #[.slice L n dl] (by rfl) (fun W => by go_simp) (fun W hW => (HtB1.out W (HhL.out.after (below_ext cb.out hW.drew_left))).mono ?_)
  rintro e w3 ⟨RB, dB, rfl, ho, hb⟩
  refine ⟨_, rfl, Ext.of_below hb, fun K hK => ?_⟩
  go_simp
  refine hK _ ?_
  clear hK K
  have xB := hideP (hW.drew_left.trans (Ext.of_below hb))
  have aB := hideP (show Arr w3 w3.heap.size RB m (u8s (bitL lo m)) from Arr.of_own ho fun i hi => by
    unfold u8s
    rw [bitL_get _ _ _ hi]
    simp [bitVals, List.getElem?_range hi])
  clear hW ho hb
  refine wpT_loudK 57 #[.slice H n sh] (by rfl) (fun W => by go_simp) (fun W hW => (HtB2.out W (HhH.out.after (below_ext cb.out (xB.out.trans hW)))).mono ?_)
  rintro e w4 ⟨RD, dD, rfl, ho, hb⟩
  refine ⟨_, rfl, Ext.of_below hb, fun K hK => ?_⟩
  go_simp
  refine hK _ ?_
  clear hK K
  have xD := hideP (xB.out.trans (hW.trans (Ext.of_below hb)))
  have aD := hideP (show Arr w4 w4.heap.size RD m (u8s (bitL hi m)) from Arr.of_own ho fun i hi => by
    unfold u8s
    rw [bitL_get _ _ _ hi]
    simp [bitVals, List.getElem?_range hi])
  replace aB := hideP (aB.out.ext (hW.trans (Ext.of_below hb)))
  clear hW ho hb xB
  iterate 2 (refine wpT_valK (by rfl) (fun K hK => ?_); apply Exists.intro; refine ⟨fun W hW => ?_, ?_⟩; (focus (go_simp; (try rfl); done)); go_simp; refine hK _ ?_; clear hK K)
  refine wpT_nil (fun w5 hW => ?_)
  try simp only [List.drop_succ_cons, List.drop_zero, List.drop_nil]
  have x5 := hideP (xD.out.trans hW)
  replace aB := hideP (aB.out.ext hW)
  replace aD := hideP (aD.out.ext hW)
  clear kc10 kc11
  replace c1 := hideP (c1.out.ext x5.out)
  replace c2 := hideP (c2.out.ext x5.out)
  replace c3 := hideP (c3.out.ext x5.out)
  replace cb := hideP (below_ext cb.out x5.out)
  clear hW xD x5
  go_wp2
  go_loopw [8] (fun v8 wr => ∃ k : Nat, k ≤ N ∧ v8 = .int .i64 k ∧ Hid (Ext w5 wr)) (fun v _ => N - (intOf v).toNat)
  case atStart => exact ⟨0, Nat.zero_le _, rfl, Ext.refl _⟩
  case round =>
    obtain ⟨k, hkN, rfl, hx⟩ := hrel
    by_cases hk : k < m
    · skip
      obtain ⟨ab, af, hAe, hAb, hAc⟩ := (aB.out.ext hx.out) (by omega)
      obtain ⟨bb, bf, hBe, hBb, hBc⟩ := (aD.out.ext hx.out) (by omega)
      have m1 := hAc k hk
      have m2 := hBc k hk
      unfold u8s at m1 m2
      rw [bitL_get _ _ _ hk] at m1 m2
      have hag := hideP (fun h : k < N => Hhfd.out.2.1 k h)
      have hdf := hideP (fun h : k = N => Hhfd.out.2.2 (by have := HM.out; omega))
      have bb1 := rbit_le lo k
      have bb2 := rbit_le hi k
      obtain ⟨x, hx1⟩ : ∃ x, x = rbit lo k := ⟨_, rfl⟩
      obtain ⟨y, hy1⟩ : ∃ x, x = rbit hi k := ⟨_, rfl⟩
      rw [← hx1] at m1 hag bb1
      rw [← hy1] at m2 hag bb2
      have HX1 := hideP hx1; have HY1 := hideP hy1
      subst hAe hBe
      clear hAc hBc hx1 hy1 hAb hBb
      by_cases hxy : x = y
      · have hlt := hideP (show k < N by
          rcases Nat.lt_or_ge k N with h | h
          · exact h
          · have e : k = N := by omega
            exact absurd (by subst e; rw [← HX1.out, ← HY1.out]; exact hxy) (hdf.out e))
        clear hag hdf
        subst hxy
        go_upto_region 6 with fail
        refine wp_region_eager 15 [(true, 0), (true, 1), (true, 2), (true, 3), (true, 4), (true, 5), (true, 6), (true, 7), (true, 8), (true, 9), (true, 10), (true, 11), (true, 12), (true, 13), (true, 14)] (by kernel_rfl) (by kernel_rfl) ?_
        simp only [pick, List.map_cons, List.map_nil, nthO_zero, nthO_succ]
        repeat (first
          | (refine wpPlan_skipK (by rfl) (fun K hK => ?_); go_simp; refine hK _ ?_; clear hK K)
          | (refine wpPlan_valK (by rfl) (fun K hK => ?_); apply Exists.intro; refine ⟨fun W hW => ?_, ?_⟩; (focus (have hs0 := hW.cell m1; have hs1 := hW.cell m2; go_simp; (try rfl); done)); go_simp; refine hK _ ?_; clear hK K))
        refine wpPlan_nil (fun W6 hW0 => ?_)
        simp only [List.drop_succ_cons, List.drop_zero, List.drop_nil]
        have x6 := hideP (hx.out.trans hW0.drew_left)
        clear hW0 m1 m2
        have hkn := hlt.out
        go_wp2
        go_roundw
        case rel => exact ⟨k + 1, by omega, by go_num, x6.out⟩
        case measure => simp [intOf]; omega
      · have heq := hideP (show k = N by
          rcases Nat.lt_or_ge k N with h | h
          · exact absurd (hag.out h) hxy
          · omega)
        have hb : ((x : Int) == (y : Int)) = false := by simp; omega
        clear hag hdf hxy
        go_upto_region 6 with fail
        refine wp_region_eager 15 [(true, 0), (true, 1), (true, 2), (true, 3), (true, 4), (true, 5), (true, 6), (true, 7), (true, 8), (true, 9), (true, 10), (true, 11), (true, 12), (true, 13), (true, 14)] (by kernel_rfl) (by kernel_rfl) ?_
        simp only [pick, List.map_cons, List.map_nil, nthO_zero, nthO_succ]
        repeat (first
          | (refine wpPlan_skipK (by rfl) (fun K hK => ?_); go_simp; refine hK _ ?_; clear hK K)
          | (refine wpPlan_valK (by rfl) (fun K hK => ?_); apply Exists.intro; refine ⟨fun W hW => ?_, ?_⟩; (focus (have hs0 := hW.cell m1; have hs1 := hW.cell m2; go_simp; (try rfl); done)); go_simp; refine hK _ ?_; clear hK K))
        refine wpPlan_nil (fun W6 hW0 => ?_)
        simp only [List.drop_succ_cons, List.drop_zero, List.drop_nil]
        have x6 := hideP (hx.out.trans hW0.drew_left)
        clear hW0 m1 m2 hb HX1 HY1
        obtain rfl : k = N := heq.out
        clear heq hx
        replace aB := hideP (aB.out.ext x6.out)
        replace aD := hideP (aD.out.ext x6.out)
        replace c1 := hideP (c1.out.ext x6.out)
        replace c2 := hideP (c2.out.ext x6.out)
        replace c3 := hideP (c3.out.ext x6.out)
        replace cb := hideP (below_ext cb.out x6.out)
        clear x6
        obtain ⟨wa1, rfl⟩ : ∃ W, W = W6 := ⟨_, rfl⟩
        have hNe : ((k : Int) == (m : Int)) = false := by simp; omega
        have hk2 := hideP (show k < 64 * n by have := HM.out; omega)
        have hhv := hideP (halves Hbx.out Hhfd.out hk2.out)
        have tR1 := hideP (fun W h => region_any (some ⟨ab, af, none⟩) (bitL lo m) dB (k + 1) n W h (bitL_le lo _) h8 (by rw [bitL_len]; omega) (by rw [bitL_len]; omega))
        rw [bitL_len, HM.out, regL_bits lo n (k + 1) 0 (by have := hk2.out; omega), regL_bits lo n (k + 1) 1 (by have := hk2.out; omega), ← HM.out, show ((k + 1 : Nat) : Int) = (k : Int) + 1 from rfl] at tR1
        have tR2 := hideP (fun W h => region_any (some ⟨bb, bf, none⟩) (bitL hi m) dD (k + 1) n W h (bitL_le hi _) h8 (by rw [bitL_len]; omega) (by rw [bitL_len]; omega))
        rw [bitL_len, HM.out, regL_bits hi n (k + 1) 0 (by have := hk2.out; omega), regL_bits hi n (k + 1) 1 (by have := hk2.out; omega), ← HM.out, show ((k + 1 : Nat) : Int) = (k : Int) + 1 from rfl] at tR2
        have bx1 := rgn_bx (rbit lo) (rbit_le lo) (k + 1) n h1 h8
        have bx2 := rgn_bx (rbit hi) (rbit_le hi) (k + 1) n h1 h8
        have tC1 := hideP (fun (R R' : Option Addr) (s s' : Nat) (W : World) hX hY hZ hU => rcut_in R R' L H (rgn (rbit lo) (k + 1) n 0) (rgn (rbit lo) (k + 1) n 1) lo hi n s s' dl sh W hX hY hZ hU (rgn_len _ _ _ _) (rgn_len _ _ _ _) Hbx.out.ll Hbx.out.hl bx1.right Hbx.out.right bx1.li bx1.hi' Hbx.out.li Hbx.out.hi')
        have tC2 := hideP (fun (R R' : Option Addr) (s s' : Nat) (W : World) hX hY hZ hU => rcut_in R R' L H (rgn (rbit hi) (k + 1) n 0) (rgn (rbit hi) (k + 1) n 1) lo hi n s s' dl sh W hX hY hZ hU (rgn_len _ _ _ _) (rgn_len _ _ _ _) Hbx.out.ll Hbx.out.hl bx2.right Hbx.out.right bx2.li bx2.hi' Hbx.out.li Hbx.out.hi')
        rw [hhv.out.ok1] at tC1
        rw [hhv.out.ok2] at tC2
        clear bx1 bx2
        have e1 : IntKind.i64.wrap ((k : Int) + 1) = (k : Int) + 1 := IntWalk.i64_in _ (by omega)
        have lt3 := hideP (show w.heap.size + 1 + 1 < wa1.heap.size from c3.out.lt)
        go_upto_region 10 with fail
        have kc10 := c1.out.c0; have kc11 := c1.out.c1
        have ns := hideP (show ¬ (wa1.heap.size ≤ w.heap.size) by have := c1.out.lt; omega)
        refine wp_region_float 13 (.q 0 (.q 1 (.q 2 (.q 3 (.q 5 (.l 4 (.l 6 (.q 7 (.q 8 (.q 9 .nil)))))))))) (.l 11 (.q 12 .nil)) (fun k => wa1.heap.size ≤ k) [10] (fun _ => .cells #[.slice none 0 0, .slice none 0 0] 58) (by kernel_rfl) (by kernel_rfl) (fun f hf => by
          obtain rfl : f = 10 := by simpa using hf
          exact ⟨rfl, fun ρ W => by simp only [nthO_zero, nthO_succ]; go_simp⟩) ?_
        simp only [pickT, nthO_zero, nthO_succ]
        iterate 5 (refine wpF_valK (by rfl) (fun K hK => ?_); apply Exists.intro; refine ⟨fun W hW => ?_, ?_⟩; (focus (have hs0 := hW.cell kc10 ns.out; have hs1 := hW.cell kc11 ns.out; go_simp; (try rfl); done)); go_simp; refine hK _ ?_; clear hK K)
        refine wpF_loudK 59 #[.slice (some ⟨ab, af, none⟩) m dB, .int .i64 ((k : Int) + 1), .int .i64 n] (by rfl) (fun W => by go_simp) (fun V1 hV1 => (tR1.out V1 (aB.out.ext hV1.drew_left)).mono ?_)
        rintro e V2 ⟨R1, s1, R2, s2, rfl, ho1, ho2, hb1⟩
        refine ⟨_, rfl, Ext.of_below hb1, fun K hK => ?_⟩
        go_simp
        refine hK _ ?_
        clear hK K
        have xV2 := hideP (hV1.drew_left.trans (Ext.of_below hb1))
        have a1 := hideP ho1.arr
        have a2 := hideP ho2.arr
        rw [rgn_len] at a1
        rw [rgn_len] at a2
        clear ho1 ho2 hb1 hV1
        refine wpF_loudK 58 #[.agg #[.slice R1 n s1, .slice R2 n s2], .agg #[.slice L n dl, .slice H n sh]] (by rfl) (fun W => by go_simp) (fun V3 hV3 => (tC1.out R1 R2 s1 s2 V3 (a1.out.ext hV3) (a2.out.ext hV3) (HhL.out.after (below_ext cb.out (xV2.out.trans hV3))) (HhH.out.after (below_ext cb.out (xV2.out.trans hV3)))).mono ?_)
        intro e V4 hct
        obtain ⟨X, Y, rfl, hX, hY, hb4, hrows⟩ := hct.val
        obtain ⟨RX, sx1, RY, sy1, rfl, rfl, hRX, hRY⟩ := hrows rfl
        refine ⟨_, rfl, Ext.of_below hb4, fun K hK => ?_⟩
        go_simp
        refine hK _ ?_
        clear hK K
        have xV4 := hideP (xV2.out.trans (hV3.trans (Ext.of_below hb4)))
        obtain ⟨gX, rfl, gXa, gXb⟩ := hRX.at (cLo_len _ _ _) (show 0 < n by omega)
        obtain ⟨gY, rfl, gYa, gYb⟩ := hRY.at (cHi_len _ _ _) (show 0 < n by omega)
        have bV3 := hideP (show wa1.heap.size ≤ V3.heap.size from (xV2.out.trans hV3).size)
        have oX := hideP hRX
        have oY := hideP hRY
        have gg := hideP (show V3.heap.size ≤ gX ∧ gX < V4.heap.size ∧ V3.heap.size ≤ gY ∧ gY < V4.heap.size from ⟨gXa, gXb, gYa, gYb⟩)
        clear hct hV3 hb4 hrows hX hY xV2 a1 a2 hRX hRY gXa gXb gYa gYb
        clear kc10 kc11
        iterate 3 (refine wpF_valK (by rfl) (fun K hK => ?_); apply Exists.intro; refine ⟨fun W hW => ?_, ?_⟩; (focus (go_simp; (try rfl); done)); go_simp; refine hK _ ?_; clear hK K)
        refine wpF_nil1 (fun W7 p1 hW7 hp1 hp2 hp3 hp4 => ?_)
        simp only [pickT, nthO_zero, nthO_succ]
        have tp := hideP (show Two W7 p1 58 (.slice none 0 0) (.slice none 0 0) from hp3)
        have hpv := hideP (hp4 (V3.heap.size, V4.heap.size) (by simp))
        have hpb := hideP (show wa1.heap.size ≤ p1 from hp1)
        have x7 := hideP (xV4.out.trans hW7)
        replace oX := hideP (oX.out.ext hW7)
        replace oY := hideP (oY.out.ext hW7)
        clear hp1 hp2 hp3 hp4 hW7 xV4
        go_simp
        refine wpM_storeK (by rfl) (fun W hW => ⟨_, ⟨exec_store_two 58 (.tmp 9) (.tmp 59) rfl p1 _ _ 58 _ _ rfl rfl (tp.out.ext hW) size_box' rfl rfl, (But.set _ _ _ hpb.out).trans (But.set _ _ _ hpb.out)⟩, fun K hK => ?_⟩)
        go_simp
        refine hK _ ?_
        clear hK K
        have xW := hideP hW
        obtain ⟨W8, hW8⟩ : ∃ V, V = (W.setCell ⟨p1, 0, none⟩ (.slice (some ⟨gX, 0, none⟩) (cLo (rgn (rbit lo) (k + 1) n 0) lo n).length sx1)).setCell ⟨p1, 1, none⟩ (.slice (some ⟨gY, 0, none⟩) (cHi (rgn (rbit lo) (k + 1) n 1) hi n).length sy1) := ⟨_, rfl⟩
        have tq := hideP (show Two W8 p1 58 _ _ by rw [hW8]; exact (tp.out.ext xW.out).set2 _ _)
        have x8 := hideP (show Ext wa1 W8 by rw [hW8]; exact Ext.of_below (((x7.out.trans xW.out).below.setCell (p := ⟨p1, 0, none⟩) hpb.out _).setCell (p := ⟨p1, 1, none⟩) hpb.out _))
        have hne := hideP (show gX ≠ p1 ∧ gY ≠ p1 by have := hpv.out; have := gg.out; simp only at *; omega)
        replace oX := hideP (show Own W8 V3.heap.size (some ⟨gX, 0, none⟩) sx1 _ by rw [hW8]; exact own_two (oX.out.ext xW.out) hne.out.1)
        replace oY := hideP (show Own W8 V3.heap.size (some ⟨gY, 0, none⟩) sy1 _ by rw [hW8]; exact own_two (oY.out.ext xW.out) hne.out.2)
        rw [← hW8]
        clear hW8 hW xW tp x7 hpv hne gg
        (refine wpM_valK (by rfl) (fun K hK => ?_); apply Exists.intro; refine ⟨fun W hW => ?_, ?_⟩; (focus (go_simp; (try rfl); done)); go_simp; refine hK _ ?_; clear hK K)
        refine wpM_nil (fun W9 hW9 => ?_)
        try simp only [List.drop_succ_cons, List.drop_zero, List.drop_nil]
        have x9 := hideP (x8.out.trans hW9)
        have hpb1 := hpb
        replace aD := hideP (aD.out.ext x9.out)
        replace c1 := hideP (c1.out.ext x9.out)
        replace c2 := hideP (c2.out.ext x9.out)
        replace c3 := hideP (c3.out.ext x9.out)
        replace cb := hideP (below_ext cb.out x9.out)
        have t1 := hideP (tq.out.ext hW9)
        have oX1 := hideP ((oX.out.ext hW9).mono bV3.out)
        have oY1 := hideP ((oY.out.ext hW9).mono bV3.out)
        rw [hhv.out.l1, hhv.out.h1] at t1
        rw [hhv.out.l1] at oX1
        rw [hhv.out.h1] at oY1
        obtain ⟨bX1, hbX⟩ : ∃ A : Option Addr, A = some ⟨gX, 0, none⟩ := ⟨_, rfl⟩
        obtain ⟨bY1, hbY⟩ : ∃ A : Option Addr, A = some ⟨gY, 0, none⟩ := ⟨_, rfl⟩
        rw [← hbX] at t1 oX1
        rw [← hbY] at t1 oY1
        rw [hhv.out.l1, hhv.out.h1, ← hbX, ← hbY]
        clear hW9 x9 x8 tq oX oY hpb hbX hbY bV3
        have lt4 := hideP (show w.heap.size + 1 + 1 < W9.heap.size from c3.out.lt)
        obtain ⟨wa2, rfl⟩ : ∃ W, W = W9 := ⟨_, rfl⟩
        go_upto_region 11 with fail
        have kc10 := c1.out.c0; have kc11 := c1.out.c1
        have ns := hideP (show ¬ (wa2.heap.size ≤ w.heap.size) by have := c1.out.lt; omega)
        refine wp_region_float 13 (.q 0 (.q 1 (.q 2 (.q 3 (.q 5 (.l 4 (.l 6 (.q 7 (.q 8 (.q 9 .nil)))))))))) (.l 11 (.q 12 .nil)) (fun k => wa2.heap.size ≤ k) [10] (fun _ => .cells #[.slice none 0 0, .slice none 0 0] 58) (by kernel_rfl) (by kernel_rfl) (fun f hf => by
          obtain rfl : f = 10 := by simpa using hf
          exact ⟨rfl, fun ρ W => by simp only [nthO_zero, nthO_succ]; go_simp⟩) ?_
        simp only [pickT, nthO_zero, nthO_succ]
        iterate 5 (refine wpF_valK (by rfl) (fun K hK => ?_); apply Exists.intro; refine ⟨fun W hW => ?_, ?_⟩; (focus (have hs0 := hW.cell kc10 ns.out; have hs1 := hW.cell kc11 ns.out; go_simp; (try rfl); done)); go_simp; refine hK _ ?_; clear hK K)
        refine wpF_loudK 59 #[.slice (some ⟨bb, bf, none⟩) m dD, .int .i64 ((k : Int) + 1), .int .i64 n] (by rfl) (fun W => by go_simp) (fun V1 hV1 => (tR2.out V1 (aD.out.ext hV1.drew_left)).mono ?_)
        rintro e V2 ⟨R1, s1, R2, s2, rfl, ho1, ho2, hb1⟩
        refine ⟨_, rfl, Ext.of_below hb1, fun K hK => ?_⟩
        go_simp
        refine hK _ ?_
        clear hK K
        have xV2 := hideP (hV1.drew_left.trans (Ext.of_below hb1))
        have a1 := hideP ho1.arr
        have a2 := hideP ho2.arr
        rw [rgn_len] at a1
        rw [rgn_len] at a2
        clear ho1 ho2 hb1 hV1
        refine wpF_loudK 58 #[.agg #[.slice R1 n s1, .slice R2 n s2], .agg #[.slice L n dl, .slice H n sh]] (by rfl) (fun W => by go_simp) (fun V3 hV3 => (tC2.out R1 R2 s1 s2 V3 (a1.out.ext hV3) (a2.out.ext hV3) (HhL.out.after (below_ext cb.out (xV2.out.trans hV3))) (HhH.out.after (below_ext cb.out (xV2.out.trans hV3)))).mono ?_)
        intro e V4 hct
        obtain ⟨X, Y, rfl, hX, hY, hb4, hrows⟩ := hct.val
        obtain ⟨RX, sx2, RY, sy2, rfl, rfl, hRX, hRY⟩ := hrows rfl
        refine ⟨_, rfl, Ext.of_below hb4, fun K hK => ?_⟩
        go_simp
        refine hK _ ?_
        clear hK K
        have xV4 := hideP (xV2.out.trans (hV3.trans (Ext.of_below hb4)))
        obtain ⟨gX, rfl, gXa, gXb⟩ := hRX.at (cLo_len _ _ _) (show 0 < n by omega)
        obtain ⟨gY, rfl, gYa, gYb⟩ := hRY.at (cHi_len _ _ _) (show 0 < n by omega)
        have bV3 := hideP (show wa2.heap.size ≤ V3.heap.size from (xV2.out.trans hV3).size)
        have oX := hideP hRX
        have oY := hideP hRY
        have gg := hideP (show V3.heap.size ≤ gX ∧ gX < V4.heap.size ∧ V3.heap.size ≤ gY ∧ gY < V4.heap.size from ⟨gXa, gXb, gYa, gYb⟩)
        clear hct hV3 hb4 hrows hX hY xV2 a1 a2 hRX hRY gXa gXb gYa gYb
        clear kc10 kc11
        iterate 3 (refine wpF_valK (by rfl) (fun K hK => ?_); apply Exists.intro; refine ⟨fun W hW => ?_, ?_⟩; (focus (go_simp; (try rfl); done)); go_simp; refine hK _ ?_; clear hK K)
        refine wpF_nil1 (fun W7 p2 hW7 hp1 hp2 hp3 hp4 => ?_)
        simp only [pickT, nthO_zero, nthO_succ]
        have tp := hideP (show Two W7 p2 58 (.slice none 0 0) (.slice none 0 0) from hp3)
        have hpv := hideP (hp4 (V3.heap.size, V4.heap.size) (by simp))
        have hpb := hideP (show wa2.heap.size ≤ p2 from hp1)
        have x7 := hideP (xV4.out.trans hW7)
        replace oX := hideP (oX.out.ext hW7)
        replace oY := hideP (oY.out.ext hW7)
        clear hp1 hp2 hp3 hp4 hW7 xV4
        go_simp
        refine wpM_storeK (by rfl) (fun W hW => ⟨_, ⟨exec_store_two 58 (.tmp 11) (.tmp 69) rfl p2 _ _ 58 _ _ rfl rfl (tp.out.ext hW) size_box' rfl rfl, (But.set _ _ _ hpb.out).trans (But.set _ _ _ hpb.out)⟩, fun K hK => ?_⟩)
        go_simp
        refine hK _ ?_
        clear hK K
        have xW := hideP hW
        obtain ⟨W8, hW8⟩ : ∃ V, V = (W.setCell ⟨p2, 0, none⟩ (.slice (some ⟨gX, 0, none⟩) (cLo (rgn (rbit hi) (k + 1) n 0) lo n).length sx2)).setCell ⟨p2, 1, none⟩ (.slice (some ⟨gY, 0, none⟩) (cHi (rgn (rbit hi) (k + 1) n 1) hi n).length sy2) := ⟨_, rfl⟩
        have tq := hideP (show Two W8 p2 58 _ _ by rw [hW8]; exact (tp.out.ext xW.out).set2 _ _)
        have x8 := hideP (show Ext wa2 W8 by rw [hW8]; exact Ext.of_below (((x7.out.trans xW.out).below.setCell (p := ⟨p2, 0, none⟩) hpb.out _).setCell (p := ⟨p2, 1, none⟩) hpb.out _))
        have hne := hideP (show gX ≠ p2 ∧ gY ≠ p2 by have := hpv.out; have := gg.out; simp only at *; omega)
        replace oX := hideP (show Own W8 V3.heap.size (some ⟨gX, 0, none⟩) sx2 _ by rw [hW8]; exact own_two (oX.out.ext xW.out) hne.out.1)
        replace oY := hideP (show Own W8 V3.heap.size (some ⟨gY, 0, none⟩) sy2 _ by rw [hW8]; exact own_two (oY.out.ext xW.out) hne.out.2)
        rw [← hW8]
        clear hW8 hW xW tp x7 hpv hne gg
        (refine wpM_valK (by rfl) (fun K hK => ?_); apply Exists.intro; refine ⟨fun W hW => ?_, ?_⟩; (focus (go_simp; (try rfl); done)); go_simp; refine hK _ ?_; clear hK K)
        refine wpM_nil (fun W9 hW9 => ?_)
        try simp only [List.drop_succ_cons, List.drop_zero, List.drop_nil]
        have x9 := hideP (x8.out.trans hW9)
        have hpb2 := hpb
        replace t1 := hideP (t1.out.ext x9.out)
        replace oX1 := hideP (oX1.out.ext x9.out)
        replace oY1 := hideP (oY1.out.ext x9.out)
        replace c1 := hideP (c1.out.ext x9.out)
        replace c2 := hideP (c2.out.ext x9.out)
        replace c3 := hideP (c3.out.ext x9.out)
        replace cb := hideP (below_ext cb.out x9.out)
        have t2 := hideP (tq.out.ext hW9)
        have oX2 := hideP ((oX.out.ext hW9).mono bV3.out)
        have oY2 := hideP ((oY.out.ext hW9).mono bV3.out)
        rw [hhv.out.l2, hhv.out.h2] at t2
        rw [hhv.out.l2] at oX2
        rw [hhv.out.h2] at oY2
        obtain ⟨bX2, hbX⟩ : ∃ A : Option Addr, A = some ⟨gX, 0, none⟩ := ⟨_, rfl⟩
        obtain ⟨bY2, hbY⟩ : ∃ A : Option Addr, A = some ⟨gY, 0, none⟩ := ⟨_, rfl⟩
        rw [← hbX] at t2 oX2
        rw [← hbY] at t2 oY2
        rw [hhv.out.l2, hhv.out.h2, ← hbX, ← hbY]
        clear hW9 x9 x8 tq oX oY hpb hbX hbY bV3
        clear tR1 tR2 tC1 tC2 e1 aB hNe
        have q1 := hideP (show ¬ (p1 = w.heap.size + 1 ∨ p1 = w.heap.size + 1 + 1) by have := hpb1.out; have := lt3.out; omega)
        have q2 := hideP (show ¬ (p2 = w.heap.size + 1 ∨ p2 = w.heap.size + 1 + 1) by have := hpb2.out; have := lt4.out; omega)
        go_upto_region 12 with fail
        have kt10 := t1.out.c0; have kt11 := t1.out.c1
        have kt20 := t2.out.c0; have kt21 := t2.out.c1
        refine wp_region_mut (S := fun k => k = w.heap.size + 1 ∨ k = w.heap.size + 1 + 1) 5 (.q 0 (.q 1 (.l 2 (.l 3 (.q 4 .nil))))) (by kernel_rfl) (by kernel_rfl) ?_
        simp only [pickT, nthO_zero, nthO_succ]
        iterate 2 (refine wpM_valK (by rfl) (fun K hK => ?_); apply Exists.intro; refine ⟨fun W hW => ?_, ?_⟩; (focus (have hs0 := hW.cell kt10 q1.out; have hs1 := hW.cell kt11 q1.out; have hs2 := hW.cell kt20 q2.out; have hs3 := hW.cell kt21 q2.out; go_simp; (try rfl); done)); go_simp; refine hK _ ?_; clear hK K)
        clear kt10 kt11 kt20 kt21
        refine wpM_storeK (by rfl) (fun W hW => ⟨_, ⟨exec_store_two 58 (.tmp 2) (.tmp 71) rfl (w.heap.size + 1) _ _ 58 _ _ rfl rfl (c2.out.ext hW.drew_left) size_box' rfl rfl, (But.set _ _ _ (.inl rfl)).trans (But.set _ _ _ (.inl rfl))⟩, fun K hK => ?_⟩)
        go_simp
        refine hK _ ?_
        clear hK K
        have e7 := hideP hW.drew_left
        obtain ⟨u1, hu1⟩ : ∃ u, u = (Value.slice bX1 lo.length sx1) := ⟨_, rfl⟩
        obtain ⟨u2, hu2⟩ : ∃ u, u = (Value.slice bY1 hi.length sy1) := ⟨_, rfl⟩
        obtain ⟨u3, hu3⟩ : ∃ u, u = (Value.slice bX2 lo.length sx2) := ⟨_, rfl⟩
        obtain ⟨u4, hu4⟩ : ∃ u, u = (Value.slice bY2 hi.length sy2) := ⟨_, rfl⟩
        have ou : u1.oneCell' = true ∧ u2.oneCell' = true ∧ u3.oneCell' = true ∧ u4.oneCell' = true := by rw [hu1, hu2, hu3, hu4]; exact ⟨rfl, rfl, rfl, rfl⟩
        rw [← hu1, ← hu2, ← hu3, ← hu4]
        have Hu := hideP (show _ ∧ _ ∧ _ ∧ _ from ⟨hu1, hu2, hu3, hu4⟩)
        have Ou := hideP ou
        clear hu1 hu2 hu3 hu4 ou t1 t2
        have l3 := lt3.out
        have l4 := lt4.out
        replace c2 := hideP ((c2.out.ext e7.out).set2 u1 u2)
        replace c3 := hideP (((c3.out.ext e7.out).setOther (a := ⟨w.heap.size + 1, 0, none⟩) (by simp) u1).setOther (a := ⟨w.heap.size + 1, 1, none⟩) (by simp) u2)
        replace oX1 := hideP (own_setCell (own_setCell (oX1.out.ext e7.out) (a := ⟨w.heap.size + 1, 0, none⟩) (by simp; omega) u1) (a := ⟨w.heap.size + 1, 1, none⟩) (by simp; omega) u2)
        replace oY1 := hideP (own_setCell (own_setCell (oY1.out.ext e7.out) (a := ⟨w.heap.size + 1, 0, none⟩) (by simp; omega) u1) (a := ⟨w.heap.size + 1, 1, none⟩) (by simp; omega) u2)
        replace oX2 := hideP (own_setCell (own_setCell (oX2.out.ext e7.out) (a := ⟨w.heap.size + 1, 0, none⟩) (by simp; omega) u1) (a := ⟨w.heap.size + 1, 1, none⟩) (by simp; omega) u2)
        replace oY2 := hideP (own_setCell (own_setCell (oY2.out.ext e7.out) (a := ⟨w.heap.size + 1, 0, none⟩) (by simp; omega) u1) (a := ⟨w.heap.size + 1, 1, none⟩) (by simp; omega) u2)
        replace cb := hideP (((below_ext cb.out e7.out).setCell (p := ⟨w.heap.size + 1, 0, none⟩) (by simp) u1).setCell (p := ⟨w.heap.size + 1, 1, none⟩) (by simp) u2)
        obtain ⟨W11, hW11⟩ : ∃ V, V = (W.setCell ⟨w.heap.size + 1, 0, none⟩ u1).setCell ⟨w.heap.size + 1, 1, none⟩ u2 := ⟨_, rfl⟩
        rw [← hW11] at c2 c3 oX1 oY1 oX2 oY2 cb ⊢
        clear hW11 e7 hW
        refine wpM_storeK (by rfl) (fun W hW => ⟨_, ⟨exec_store_two 58 (.tmp 3) (.tmp 72) rfl (w.heap.size + 1 + 1) _ _ 58 _ _ rfl rfl (c3.out.ext hW) size_box' Ou.out.2.2.1 Ou.out.2.2.2, (But.set _ _ _ (.inr rfl)).trans (But.set _ _ _ (.inr rfl))⟩, fun K hK => ?_⟩)
        go_simp
        refine hK _ ?_
        clear hK K
        have e7 := hideP hW
        replace c3 := hideP ((c3.out.ext e7.out).set2 u3 u4)
        replace c2 := hideP (((c2.out.ext e7.out).setOther (a := ⟨w.heap.size + 1 + 1, 0, none⟩) (by simp) u3).setOther (a := ⟨w.heap.size + 1 + 1, 1, none⟩) (by simp) u4)
        replace oX1 := hideP (own_setCell (own_setCell (oX1.out.ext e7.out) (a := ⟨w.heap.size + 1 + 1, 0, none⟩) (by simp; omega) u3) (a := ⟨w.heap.size + 1 + 1, 1, none⟩) (by simp; omega) u4)
        replace oY1 := hideP (own_setCell (own_setCell (oY1.out.ext e7.out) (a := ⟨w.heap.size + 1 + 1, 0, none⟩) (by simp; omega) u3) (a := ⟨w.heap.size + 1 + 1, 1, none⟩) (by simp; omega) u4)
        replace oX2 := hideP (own_setCell (own_setCell (oX2.out.ext e7.out) (a := ⟨w.heap.size + 1 + 1, 0, none⟩) (by simp; omega) u3) (a := ⟨w.heap.size + 1 + 1, 1, none⟩) (by simp; omega) u4)
        replace oY2 := hideP (own_setCell (own_setCell (oY2.out.ext e7.out) (a := ⟨w.heap.size + 1 + 1, 0, none⟩) (by simp; omega) u3) (a := ⟨w.heap.size + 1 + 1, 1, none⟩) (by simp; omega) u4)
        replace cb := hideP (((below_ext cb.out e7.out).setCell (p := ⟨w.heap.size + 1 + 1, 0, none⟩) (by simp; omega) u3).setCell (p := ⟨w.heap.size + 1 + 1, 1, none⟩) (by simp; omega) u4)
        obtain ⟨W12, hW12⟩ : ∃ V, V = (W.setCell ⟨w.heap.size + 1 + 1, 0, none⟩ u3).setCell ⟨w.heap.size + 1 + 1, 1, none⟩ u4 := ⟨_, rfl⟩
        rw [← hW12] at c2 c3 oX1 oY1 oX2 oY2 cb ⊢
        clear hW12 e7 hW
        (refine wpM_valK (by rfl) (fun K hK => ?_); apply Exists.intro; refine ⟨fun W hW => ?_, ?_⟩; (focus (go_simp; (try rfl); done)); go_simp; refine hK _ ?_; clear hK K)
        refine wpM_nil (fun W13 hW13 => ?_)
        try simp only [List.drop_succ_cons, List.drop_zero, List.drop_nil]
        have e7 := hideP hW13
        clear hW13 l3 l4
        go_wp2
        have hRS := HRS.out
        rw [if_pos hk2.out] at hRS
        rw [hRS]
        obtain ⟨hu1, hu2, hu3, hu4⟩ := Hu.out
        have hq1 : w.heap.size ≤ wa1.heap.size := by have := lt3.out; omega
        have hq2 : w.heap.size ≤ wa2.heap.size := by have := lt4.out; omega
        exact ret_box3 rfl rfl rfl rfl (c2.out.ext e7.out) (c3.out.ext e7.out) rfl ⟨bX1, sx1, bY1, sy1, bX2, sx2, bY2, sy2, by rw [hu1, hu2, hu3, hu4]; simp only [List.length_set]; rfl, below_ext cb.out e7.out, (ArrQ.of_own (oX1.out.ext e7.out)).mono (fun b _ h => Nat.le_trans hq1 h), (ArrQ.of_own (oY1.out.ext e7.out)).mono (fun b _ h => Nat.le_trans hq1 h), (ArrQ.of_own (oX2.out.ext e7.out)).mono (fun b _ h => Nat.le_trans hq2 h), (ArrQ.of_own (oY2.out.ext e7.out)).mono (fun b _ h => Nat.le_trans hq2 h)⟩
    · obtain rfl : k = N := by omega
      have hk2 : k = m := by omega
      have hnn := hideP (show ¬ k < 64 * n by have := HM.out; omega)
      subst hk2
      have gd : decide ((k : Int) < (k : Int)) = false := by simp
      go_upto_region 6 with fail
      refine wp_region_eager 15 [(true, 0), (true, 1), (true, 2), (true, 3), (true, 4), (true, 5), (true, 6), (true, 7), (true, 8), (true, 9), (true, 10), (true, 11), (true, 12), (true, 13), (true, 14)] (by kernel_rfl) (by kernel_rfl) ?_
      simp only [pick, List.map_cons, List.map_nil, nthO_zero, nthO_succ]
      repeat (first
        | (refine wpPlan_skipK (by rfl) (fun K hK => ?_); go_simp; refine hK _ ?_; clear hK K)
        | (refine wpPlan_valK (by rfl) (fun K hK => ?_); apply Exists.intro; refine ⟨fun W hW => ?_, ?_⟩; (focus (go_simp; (try rfl); done)); go_simp; refine hK _ ?_; clear hK K))
      refine wpPlan_nil (fun W6 hW0 => ?_)
      simp only [List.drop_succ_cons, List.drop_zero, List.drop_nil]
      have x6 := hideP (hx.out.trans hW0.drew_left)
      replace c2 := hideP (c2.out.ext x6.out)
      replace c3 := hideP (c3.out.ext x6.out)
      replace cb := hideP (below_ext cb.out x6.out)
      clear hW0 gd hx
      have eqk : ((k : Int) == (k : Int)) = true := by simp
      have z0 := c2.out.fz 0
      have z1 := c2.out.fz 1
      have z2 := c3.out.fz 0
      have z3 := c3.out.fz 1
      have kc20 := c2.out.c0; have kc21 := c2.out.c1
      have kc30 := c3.out.c0; have kc31 := c3.out.c1
      go_wp2
      have hRS := HRS.out
      rw [if_neg hnn.out] at hRS
      rw [hRS]
      have hs := cb.out.size
      exact ret_box3 rfl rfl rfl rfl (((c2.out.set2 _ _).setOther (a := ⟨w.heap.size + 1 + 1, 0, none⟩) (by simp) _).setOther (a := ⟨w.heap.size + 1 + 1, 1, none⟩) (by simp) _) (((c3.out.setOther (a := ⟨w.heap.size + 1, 0, none⟩) (by simp) _).setOther (a := ⟨w.heap.size + 1, 1, none⟩) (by simp) _).set2 _ _) rfl ⟨rfl, (((cb.out.setCell (p := ⟨w.heap.size + 1, 0, none⟩) (by simp) _).setCell (p := ⟨w.heap.size + 1, 1, none⟩) (by simp) _).setCell (p := ⟨w.heap.size + 1 + 1, 0, none⟩) (by simp; omega) _).setCell (p := ⟨w.heap.size + 1 + 1, 1, none⟩) (by simp; omega) _⟩
end Go.Proofs.Ytjdbpeblbejllaa
