/- Contract of indentureref06's Block (printed by wip/gen/zrblock.py). -/
import Derived.Test.YtjdbpeblbejllaaZr17
set_option linter.unusedVariables false
set_option linter.unusedSimpArgs false
namespace Go.Proofs.Ytjdbpeblbejllaa
open Go.RowKit
set_option maxRecDepth 100000 in
set_option maxHeartbeats 8000000 in
theorem rblock_in (L H : Option Addr) (lo hi : List Int) (dl sh n N : Nat) (w : World) (hL : Arr w w.heap.size L n (i64s lo)) (hH : Arr w w.heap.size H n (i64s hi)) (bx : Bx lo hi n) (hfd : FD lo hi n N) :
    Calls Try.prog 33 #[.agg #[.slice L n dl, .slice H n sh]] w fun e w' => e = .returned (.bool (blkD lo hi n N)) ∧ Below w.heap.size w w' := by
  obtain ⟨RB, hRB⟩ : ∃ R, R = blkD lo hi n N := ⟨_, rfl⟩
  rw [← hRB]
  have HRB := hideP hRB
  clear hRB
  have t1 := fun W h h' => rright_any L H lo hi dl sh (n : Int) W h h'
  rw [bx.right, bx.ll, bx.hl] at t1
  have h1 := bx.d1
  have h8 := bx.d8
  have tB1 := fun W h => bits_any L lo dl W h bx.li (by rw [bx.ll]; exact h8)
  have tB2 := fun W h => bits_any H hi sh W h bx.hi' (by rw [bx.hl]; exact h8)
  rw [bx.ll] at tB1
  rw [bx.hl] at tB2
  have hN64 := hfd.1
  obtain ⟨m, hm⟩ : ∃ m, m = 64 * n := ⟨_, rfl⟩
  rw [← hm] at tB1 tB2 hN64
  have hm512 : m ≤ 512 := by omega
  have HM := hideP hm
  clear hm
  have HhL := hideP hL; have HhH := hideP hH; have Ht1 := hideP t1; have Hbx := hideP bx; have Hhfd := hideP hfd; have HtB1 := hideP tB1; have HtB2 := hideP tB2; clear hL hH t1 bx hfd tB1 tB2
  go_enter Try.func33, Try.ntmps33
  go_upto_region 1 with fail
  obtain ⟨w1, hw1⟩ : ∃ w1, w1 = w.alloc (Obj.cells #[.slice L n dl, .slice H n sh] 58) := ⟨_, rfl⟩
  have c1 := hideP (show Two w1 w.heap.size 58 (.slice L n dl) (.slice H n sh) by rw [hw1]; exact Two.new _ _ _ _)
  have cb := hideP (show Below w.heap.size w w1 by rw [hw1]; exact below_new _ _)
  rw [← hw1]
  clear hw1
  have kc10 := c1.out.c0; have kc11 := c1.out.c1
  go_wp2_with fail
  refine (Ht1.out w1 (HhL.out.after cb.out) (HhH.out.after cb.out)).mono ?_
  rintro e w2 ⟨rfl, hb⟩
  clear kc10 kc11
  replace c1 := hideP (c1.out.after hb)
  replace cb := hideP (bstep cb.out hb)
  clear hb
  by_cases hone : n = 1
  · have h11 : ((n : Int) == 1) = true := by simp; omega
    have hres := hideP (show RB = true by rw [HRB.out, blkD_iff]; exact .inl hone)
    clear hone
    go_wp2
    go_ret
    exact ⟨by rw [hres.out]; rfl, cb.out⟩
  have h11 : ((n : Int) == 1) = false := by simp; omega
  have kc10 := c1.out.c0; have kc11 := c1.out.c1
  go_upto_region 6 with fail
  clear h11
  refine wp_region_fork 8 (.q 0 (.q 1 (.q 3 (.q 4 (.l 2 (.l 5 (.q 6 (.q 7 .nil)))))))) (by kernel_rfl) (by kernel_rfl) ?_
  simp only [pickT, nthO_zero, nthO_succ]
  iterate 4 (refine wpT_valK (by rfl) (fun K hK => ?_); apply Exists.intro; refine ⟨fun W hW => ?_, ?_⟩; (focus (have hs0 := hW.cell kc10; have hs1 := hW.cell kc11; go_simp; (try rfl); done)); go_simp; refine hK _ ?_; clear hK K)
  refine wpT_loudK 57 #[.slice L n dl] (by rfl) (fun W => by go_simp) (fun W hW => (HtB1.out W (HhL.out.after (below_ext cb.out hW.drew_left))).mono ?_)
  rintro e w3 ⟨RS, dB, rfl, ho, hb⟩
  refine ⟨_, rfl, Ext.of_below hb, fun K hK => ?_⟩
  go_simp
  refine hK _ ?_
  clear hK K
  have xB := hideP (hW.drew_left.trans (Ext.of_below hb))
  have aB := hideP (show Arr w3 w3.heap.size RS m (u8s (bitL lo m)) from Arr.of_own ho fun i hi => by
    unfold u8s
    rw [bitL_get _ _ _ hi]
    simp [bitVals, List.getElem?_range hi])
  clear hW ho hb
  refine wpT_loudK 57 #[.slice H n sh] (by rfl) (fun W => by go_simp) (fun W hW => (HtB2.out W (HhH.out.after (below_ext cb.out (xB.out.trans hW)))).mono ?_)
  rintro e w4 ⟨RD, dD, rfl, ho, hb⟩
  refine ⟨_, rfl, Ext.of_below hb, fun K hK => ?_⟩
  go_simp
  refine hK _ ?_
  clear hK K
  have xD := hideP (xB.out.trans (hW.trans (Ext.of_below hb)))
  have aD := hideP (show Arr w4 w4.heap.size RD m (u8s (bitL hi m)) from Arr.of_own ho fun i hi => by
    unfold u8s
    rw [bitL_get _ _ _ hi]
    simp [bitVals, List.getElem?_range hi])
  replace aB := hideP (aB.out.ext (hW.trans (Ext.of_below hb)))
  clear hW ho hb xB
  iterate 2 (refine wpT_valK (by rfl) (fun K hK => ?_); apply Exists.intro; refine ⟨fun W hW => ?_, ?_⟩; (focus (go_simp; (try rfl); done)); go_simp; refine hK _ ?_; clear hK K)
  refine wpT_nil (fun w5 hW => ?_)
  try simp only [List.drop_succ_cons, List.drop_zero, List.drop_nil]
  have x5 := hideP (xD.out.trans hW)
  replace aB := hideP (aB.out.ext hW)
  replace aD := hideP (aD.out.ext hW)
  clear kc10 kc11
  replace cb := hideP (below_ext cb.out x5.out)
  clear hW xD x5 c1
  go_wp2
  go_loopw [6, 7] (fun v6 v7 wr => ∃ k : Nat, k ≤ m ∧ v7 = .int .i64 k ∧ v6 = .bool (decide (N < k)) ∧ Hid (Ext w5 wr ∧ ∀ i, i < k → N ≤ i → rbit lo i = 0 ∧ rbit hi i = 1)) (fun _ v _ => m - (intOf v).toNat)
  case atStart => exact ⟨0, Nat.zero_le _, rfl, by simp, ⟨Ext.refl _, fun i hi => by omega⟩⟩
  case round =>
    obtain ⟨k, hkm, rfl, rfl, hI⟩ := hrel
    have hx := hideP hI.out.1
    have hgo := hideP hI.out.2
    clear hI
    by_cases hk : k < m
    · obtain ⟨ab, af, hAe, hAb, hAc⟩ := (aB.out.ext hx.out) (by omega)
      obtain ⟨bb, bf, hBe, hBb, hBc⟩ := (aD.out.ext hx.out) (by omega)
      have m1 := hAc k hk
      have m2 := hBc k hk
      unfold u8s at m1 m2
      rw [bitL_get _ _ _ hk] at m1 m2
      have hag := hideP (fun h : k < N => Hhfd.out.2.1 k h)
      have hdf := hideP (fun h : k = N => Hhfd.out.2.2 (by have := HM.out; omega))
      have bb1 := rbit_le lo k
      have bb2 := rbit_le hi k
      obtain ⟨x, hx1⟩ : ∃ x, x = rbit lo k := ⟨_, rfl⟩
      obtain ⟨y, hy1⟩ : ∃ x, x = rbit hi k := ⟨_, rfl⟩
      rw [← hx1] at m1 hag bb1
      rw [← hy1] at m2 hag bb2
      have HX1 := hideP hx1; have HY1 := hideP hy1
      subst hAe hBe
      clear hAc hBc hx1 hy1 hAb hBb
      by_cases hkN : k < N
      · have d0 : decide (N < k) = false := by simp; omega
        have d1 := hideP (show decide (N < k + 1) = false by simp; omega)
        have hxy := hag.out hkN
        subst hxy
        rw [d0]
        clear d0 hag hdf
        go_upto_region 11 with fail
        refine wp_region_eager 13 [(true, 0), (true, 1), (true, 2), (true, 3), (true, 4), (true, 5), (true, 6), (true, 7), (true, 8), (true, 9), (true, 10), (true, 11), (true, 12)] (by kernel_rfl) (by kernel_rfl) ?_
        simp only [pick, List.map_cons, List.map_nil, nthO_zero, nthO_succ]
        repeat (first
          | (refine wpPlan_skipK (by rfl) (fun K hK => ?_); go_simp; refine hK _ ?_; clear hK K)
          | (refine wpPlan_valK (by rfl) (fun K hK => ?_); apply Exists.intro; refine ⟨fun W hW => ?_, ?_⟩; (focus (have hs0 := hW.cell m1; have hs1 := hW.cell m2; go_simp; (try rfl); done)); go_simp; refine hK _ ?_; clear hK K))
        refine wpPlan_nil (fun W6 hW0 => ?_)
        simp only [List.drop_succ_cons, List.drop_zero, List.drop_nil]
        have x6 := hideP (hx.out.trans hW0.drew_left)
        clear hW0 m1 m2
        go_wp2
        go_roundw
        case rel =>
          refine ⟨k + 1, by omega, by go_num, by rw [d1.out], ⟨x6.out, fun i hi1 hi2 => ?_⟩⟩
          exact hgo.out i (by omega) hi2
        case measure => simp [intOf]; omega
      · have d1 := hideP (show decide (N < k + 1) = true by simp; omega)
        by_cases hlt : N < k
        · have d0 : decide (N < k) = true := by simp; omega
          rw [d0]
          clear d0 hag hdf
          go_upto_region 11 with fail
          refine wp_region_eager 13 [(true, 0), (true, 1), (true, 2), (true, 3), (true, 4), (true, 5), (true, 6), (true, 7), (true, 8), (true, 9), (true, 10), (true, 11), (true, 12)] (by kernel_rfl) (by kernel_rfl) ?_
          simp only [pick, List.map_cons, List.map_nil, nthO_zero, nthO_succ]
          repeat (first
            | (refine wpPlan_skipK (by rfl) (fun K hK => ?_); go_simp; refine hK _ ?_; clear hK K)
            | (refine wpPlan_valK (by rfl) (fun K hK => ?_); apply Exists.intro; refine ⟨fun W hW => ?_, ?_⟩; (focus (have hs0 := hW.cell m1; have hs1 := hW.cell m2; go_simp; (try rfl); done)); go_simp; refine hK _ ?_; clear hK K))
          refine wpPlan_nil (fun W6 hW0 => ?_)
          simp only [List.drop_succ_cons, List.drop_zero, List.drop_nil]
          have x6 := hideP (hx.out.trans hW0.drew_left)
          replace m1 := hW0.drew_left.cell m1
          replace m2 := hW0.drew_left.cell m2
          clear hW0
          by_cases hbad : x = 0 ∧ y = 1
          · obtain ⟨rfl, rfl⟩ := hbad
            have HXY := hideP (show rbit lo k = 0 ∧ rbit hi k = 1 from ⟨HX1.out.symm, HY1.out.symm⟩)
            clear HX1 HY1
            go_wp2
            go_roundw
            case rel =>
              refine ⟨k + 1, by omega, by go_num, by rw [d1.out], ⟨x6.out, fun i hi1 hi2 => ?_⟩⟩
              by_cases e : i = k
              · subst e; exact HXY.out
              · exact hgo.out i (by omega) hi2
            case measure => simp [intOf]; omega
          · have hres := hideP (show RB = false by
              rw [HRB.out]
              refine Decidable.byContradiction fun hc => ?_
              have := (blkD_iff lo hi n N).1 (by simpa using hc)
              rcases this with h | h
              · omega
              · have := h k (by have := HM.out; omega) (by omega)
                rw [← HX1.out, ← HY1.out] at this
                exact hbad this)
            rcases (show x = 0 ∨ x = 1 by omega) with rfl | rfl
            · have hy0 : y = 0 := by omega
              subst hy0
              clear hbad
              go_wp2
              go_ret
              exact ⟨by rw [hres.out]; rfl, below_ext cb.out x6.out⟩
            · clear hbad
              go_wp2
              go_ret
              exact ⟨by rw [hres.out]; rfl, below_ext cb.out x6.out⟩
        · have d0 : decide (N < k) = false := by simp; omega
          rw [d0]
          have hxy : ((x : Int) != (y : Int)) = true := by
            have := hdf.out (by omega)
            have h2 : k = N := by omega
            rw [← h2, ← HX1.out, ← HY1.out] at this
            simp; omega
          clear d0 hag hdf
          go_upto_region 11 with fail
          refine wp_region_eager 13 [(true, 0), (true, 1), (true, 2), (true, 3), (true, 4), (true, 5), (true, 6), (true, 7), (true, 8), (true, 9), (true, 10), (true, 11), (true, 12)] (by kernel_rfl) (by kernel_rfl) ?_
          simp only [pick, List.map_cons, List.map_nil, nthO_zero, nthO_succ]
          repeat (first
            | (refine wpPlan_skipK (by rfl) (fun K hK => ?_); go_simp; refine hK _ ?_; clear hK K)
            | (refine wpPlan_valK (by rfl) (fun K hK => ?_); apply Exists.intro; refine ⟨fun W hW => ?_, ?_⟩; (focus (have hs0 := hW.cell m1; have hs1 := hW.cell m2; go_simp; (try rfl); done)); go_simp; refine hK _ ?_; clear hK K))
          refine wpPlan_nil (fun W6 hW0 => ?_)
          simp only [List.drop_succ_cons, List.drop_zero, List.drop_nil]
          have x6 := hideP (hx.out.trans hW0.drew_left)
          replace m1 := hW0.drew_left.cell m1
          replace m2 := hW0.drew_left.cell m2
          clear hW0 hxy
          by_cases hbad : x = 0 ∧ y = 1
          · obtain ⟨rfl, rfl⟩ := hbad
            have HXY := hideP (show rbit lo k = 0 ∧ rbit hi k = 1 from ⟨HX1.out.symm, HY1.out.symm⟩)
            clear HX1 HY1
            go_wp2
            go_roundw
            case rel =>
              refine ⟨k + 1, by omega, by go_num, by rw [d1.out], ⟨x6.out, fun i hi1 hi2 => ?_⟩⟩
              by_cases e : i = k
              · subst e; exact HXY.out
              · exact hgo.out i (by omega) hi2
            case measure => simp [intOf]; omega
          · have hres := hideP (show RB = false by
              rw [HRB.out]
              refine Decidable.byContradiction fun hc => ?_
              have := (blkD_iff lo hi n N).1 (by simpa using hc)
              rcases this with h | h
              · omega
              · have := h k (by have := HM.out; omega) (by omega)
                rw [← HX1.out, ← HY1.out] at this
                exact hbad this)
            rcases (show x = 0 ∨ x = 1 by omega) with rfl | rfl
            · have hy0 : y = 0 := by omega
              subst hy0
              clear hbad
              go_wp2
              go_ret
              exact ⟨by rw [hres.out]; rfl, below_ext cb.out x6.out⟩
            · clear hbad
              go_wp2
              go_ret
              exact ⟨by rw [hres.out]; rfl, below_ext cb.out x6.out⟩
    · obtain rfl : k = m := by omega
      have hres := hideP (show RB = true by
        rw [HRB.out, blkD_iff]
        exact .inr fun i h1 h2 => hgo.out i (by have := HM.out; omega) h2)
      go_wp2
      go_ret
      exact ⟨by rw [hres.out]; rfl, below_ext cb.out hx.out⟩
theorem rblock_any (L H : Option Addr) (lo hi : List Int) (dl sh : Nat) (w : World) (hL : Arr w w.heap.size L lo.length (i64s lo)) (hH : Arr w w.heap.size H hi.length (i64s hi)) (hp : IsI lo) (hq : IsI hi) :
    Calls Try.prog 33 #[.agg #[.slice L lo.length dl, .slice H hi.length sh]] w fun e w' => e = .returned (.bool (blockP lo hi)) ∧ Below w.heap.size w w' := by
  by_cases hR : rightB lo hi lo.length = true
  · have bx := Bx.of hR hp hq
    obtain ⟨N, hN⟩ : ∃ N, FD lo hi lo.length N := by
      by_cases h : 0 ≤ (uSt lo hi lo.length).2
      · obtain ⟨b, _, _, _, h, _⟩ := fd_at bx h; exact ⟨_, h⟩
      · exact ⟨_, fd_none bx (by omega)⟩
    have h := rblock_in L H lo hi dl sh lo.length N w hL (by rw [← bx.hl]; exact hH) bx hN
    rw [← block_doc bx hN] at h
    rw [show hi.length = lo.length from bx.hl]
    exact h
  · have hv : blockP lo hi = false := by unfold blockP; rw [show rightB lo hi lo.length = false by simpa using hR]; rfl
    rw [hv]
    have t1 := fun W h h' => rright_any L H lo hi dl sh (lo.length : Int) W h h'
    rw [show rightB lo hi lo.length = false by simpa using hR] at t1
    clear hR hv hp hq
    have HhL := hideP hL; have HhH := hideP hH; have Ht1 := hideP t1; clear hL hH t1
    go_enter Try.func33, Try.ntmps33
    go_upto_region 1 with fail
    obtain ⟨w1, hw1⟩ : ∃ w1, w1 = w.alloc (Obj.cells #[.slice L lo.length dl, .slice H hi.length sh] 58) := ⟨_, rfl⟩
    have c1 := hideP (show Two w1 w.heap.size 58 (.slice L lo.length dl) (.slice H hi.length sh) by rw [hw1]; exact Two.new _ _ _ _)
    have cb := hideP (show Below w.heap.size w w1 by rw [hw1]; exact below_new _ _)
    rw [← hw1]
    clear hw1
    have kc10 := c1.out.c0; have kc11 := c1.out.c1
    go_wp2_with fail
    refine (Ht1.out w1 (HhL.out.after cb.out) (HhH.out.after cb.out)).mono ?_
    rintro e w2 ⟨rfl, hb⟩
    clear kc10 kc11
    replace c1 := hideP (c1.out.after hb)
    replace cb := hideP (bstep cb.out hb)
    clear hb
    go_wp2
    go_ret
    exact ⟨rfl, cb.out⟩
end Go.Proofs.Ytjdbpeblbejllaa
