/- Contracts of the reference's HeadRight, Head, Preimage, Sum. -/
import Derived.Test.YtiicdnbhphgieaaK36
import Derived.Test.YtiicdnbhphgieaaK38
set_option linter.unusedVariables false
set_option linter.unusedSimpArgs false
namespace Go.Proofs.Ytiicdnbhphgieaa
open Go.RowKit
set_option maxRecDepth 100000 in
set_option maxHeartbeats 1000000 in
theorem rhr_any (h : HeadD) (hk : HeadOk h) (w : World) :
    Calls Try.prog 27 #[.agg (headC h).toArray] w fun e w' => e = .returned (.bool (headR h)) ∧ Below w.heap.size w w' := by
  have k0 := head_num hk (Row.new w 48 (headC h))
  have hb := hideP (below_new w (.cells (headC h).toArray 48))
  have hR := hideP (show headR h = (decide (0 ≤ h.num) && decide (h.num ≤ 1099511627776)) from rfl)
  obtain ⟨RS, hRS⟩ : ∃ R, R = headR h := ⟨_, rfl⟩
  obtain ⟨C, hC⟩ : ∃ C, C = headC h := ⟨_, rfl⟩
  obtain ⟨n, hn⟩ : ∃ n, n = h.num := ⟨_, rfl⟩
  rw [← hRS] at hR ⊢
  rw [← hC] at hb k0 ⊢
  rw [← hn] at k0 hR
  clear hC hn hk hRS
  go_enter Try.func27, Try.ntmps27
  by_cases h0 : 0 ≤ n
  · by_cases h1 : n ≤ 1099511627776
    · have hf := hideP (show RS = true by rw [hR.out]; simp [h0, h1])
      go_wp2_with fail
      go_ret
      exact ⟨ret_bool hf.out.symm, hb.out⟩
    · have hf := hideP (show RS = false by rw [hR.out]; simp [h1])
      go_wp2_with fail
      go_ret
      exact ⟨ret_bool hf.out.symm, hb.out⟩
  · have hf := hideP (show RS = false by rw [hR.out]; simp [h0])
    go_wp2_with fail
    go_ret
    exact ⟨ret_bool hf.out.symm, hb.out⟩
set_option maxRecDepth 100000 in
set_option maxHeartbeats 1000000 in
theorem rhead_any (h : HeadD) (hk : HeadOk h) (w : World) :
    Calls Try.prog 38 #[.agg (headC h).toArray] w fun e w' => ∃ R d, e = .returned (.slice R 104 d) ∧ OwnB w' w.heap.size R d (headB h) ∧ Below w.heap.size w w' := by
  obtain ⟨v, hv⟩ : ∃ v, v = w.alloc (.cells (headC h).toArray 48) := ⟨_, rfl⟩
  obtain ⟨z, hz⟩ : ∃ z, z = w.heap.size := ⟨_, rfl⟩
  have r0 : Row v z 48 (headC h) := by rw [hv, hz]; exact Row.new w _ _
  have B0 := hideP (show Below w.heap.size w v by rw [hv]; exact below_new w _)
  have zv := hideP (Row.lt r0)
  have zw := hideP (show w.heap.size ≤ v.heap.size from B0.out.size)
  have k0 := hideP (head_num hk r0)
  have A1 := hideP (arr_range (head_prev hk r0) (Row.lt r0))
  have A2 := hideP (arr_range (head_ops hk r0) (Row.lt r0))
  have A3 := hideP (arr_range (head_tabs hk r0) (Row.lt r0))
  rw [hk.p] at A1
  rw [hk.o] at A2
  rw [hk.t] at A3
  have Hv := hideP hv
  have Hz := hideP hz
  have l1 := hideP hk.p
  have l2 := hideP hk.o
  have l3 := hideP hk.t
  have n1 := hk.n1
  have n2 := hk.n2
  have hE := hideP (show headB h = h.prev ++ num8 h.num ++ h.ops ++ h.tabs from rfl)
  obtain ⟨Z, hZ⟩ : ∃ Z, Z = headB h := ⟨_, rfl⟩
  obtain ⟨C, hC⟩ : ∃ Z, Z = headC h := ⟨_, rfl⟩
  obtain ⟨p, n, o, t⟩ := h
  dsimp only at k0 A1 A2 A3 l1 l2 l3 n1 n2 hE
  rw [← hZ] at hE ⊢
  rw [← hC] at Hv ⊢
  clear hv hz hZ hC r0 hk
  go_enter Try.func38, Try.ntmps38
  go_upto_region 1 with fail
  rw [← Hz.out, ← Hv.out]
  have X1 := hideP (Ext.alloc v (.cells #[] 5))
  obtain ⟨g, hg⟩ : ∃ g, g = v.heap.size + 1 := ⟨_, rfl⟩
  have hgs := hideP (show (v.alloc (.cells #[] 5)).heap.size = g by rw [hg]; simp)
  go_upto_region 2 with (at_builtin; refine wpList_grow0 rfl (.tmp 4) (.tmp 6) rfl v.heap.size z 0 32 32 p rfl rfl l1.out.symm (Arr.at32 (A1.out.ext X1.out) (by decide)) (by decide) (by decide) ?_; intro c2 w2 x_ o_; have E2 := hideP (below_ext (Below.refl v.heap.size v) (X1.out.trans x_)); have O2 := hideP (OwnB.monoR o_ X1.out.size); clear x_ o_)
  rw [hgs.out] at O2
  rw [← hg]
  clear hg
  have k2 := cell_below (a := ⟨z, 32, none⟩) E2.out zv.out k0.out
  go_upto_region 3 with (first
    | (go_at_call 85; refine (rwnum_any n _ n1 n2).mono ?_; rintro e1 w3 ⟨g3, rfl, o_, b_⟩; have O3 := hideP (O2.out.after b_); have N3 := hideP o_.arr; have E3 := hideP (E2.out.trans (b_.mono E2.out.size)); clear o_ b_)
    | (at_builtin; refine wpList_appn rfl (.tmp 8) (.tmp 11) rfl v.heap.size (some ⟨g, 0, none⟩) c2 32 p l1.out.symm rfl O3.out w3.heap.size (some ⟨g3, 0, none⟩) 8 8 (num8 n) (num8_len n).symm rfl (by have := N3.out; rwa [num8_len] at this) (by decide) E3.out.size ?_; intro A4 c4 w4 o_ b_; have O4 := hideP o_; have E4 := hideP (E3.out.trans b_); clear o_ b_))
  clear k2
  have l4 := hideP (show 40 = (p ++ num8 n).length by rw [List.length_append, l1.out, num8_len])
  go_upto_region 4 with (at_builtin; refine wpList_appn rfl (.tmp 13) (.tmp 15) rfl v.heap.size A4 c4 40 (p ++ num8 n) l4.out rfl O4.out v.heap.size (some ⟨z, 33, none⟩) 32 32 o l2.out.symm rfl (A2.out.below E4.out) (by decide) E4.out.size ?_; intro A5 c5 w5 o_ b_; have O5 := hideP o_; have E5 := hideP (E4.out.trans b_); clear o_ b_)
  have l5 := hideP (show 72 = (p ++ num8 n ++ o).length by rw [List.length_append, ← l4.out, l2.out])
  go_wp2_with (at_builtin; refine wpList_appn rfl (.tmp 17) (.tmp 19) rfl v.heap.size A5 c5 72 (p ++ num8 n ++ o) l5.out rfl O5.out v.heap.size (some ⟨z, 65, none⟩) 32 32 t l3.out.symm rfl (A3.out.below E5.out) (by decide) E5.out.size ?_; intro A6 c6 w6 o_ b_; have O6 := hideP o_; have E6 := hideP (E5.out.trans b_); clear o_ b_)
  rw [← hE.out] at O6
  go_ret
  exact ⟨A6, c6, rfl, OwnB.monoR O6.out zw.out, B0.out.trans (E6.out.mono zw.out)⟩
set_option maxRecDepth 100000 in
set_option maxHeartbeats 1000000 in
theorem rhpre_any (h : HeadD) (hk : HeadOk h) (w : World) :
    Calls Try.prog 40 #[.agg (headC h).toArray] w fun e w' => ∃ R d, e = .returned (.slice R (preN 66 [headB h]).length d) ∧ OwnB w' w.heap.size R d (preN 66 [headB h]) ∧ Below w.heap.size w w' := by
  have r0 := hideP (Row.new w 48 (headC h))
  have hb := hideP (below_new w (.cells (headC h).toArray 48))
  have hT := hideP (fun W => rhead_any h hk W)
  have hs := hideP (size_h97 hk.cells)
  have hP := hideP (fun W A c (hA : Arr W W.heap.size A (headB h).length (u8s (headB h))) => rpre_any 66 (some ⟨W.heap.size, 0, none⟩) 1 [headB h] (fun _ => A) (fun _ => c) (W.alloc (.cells #[.slice A (headB h).length c] 31)) (row1 W A (headB h) c hA).1 (row1 W A (headB h) c hA).2 (Nat.le_trans (pre1_len 66 _ (by rw [hk.len]; decide)) (by decide)) (by simp))
  have hl := hideP hk.len
  obtain ⟨C, hC⟩ : ∃ C, C = headC h := ⟨_, rfl⟩
  obtain ⟨P, hPP⟩ : ∃ P, P = preN 66 [headB h] := ⟨_, rfl⟩
  obtain ⟨X, hX⟩ : ∃ X, X = headB h := ⟨_, rfl⟩
  rw [← hC] at hb r0 hT hs ⊢
  rw [← hPP] at hP ⊢
  rw [← hX] at hT hP hl
  rw [hl.out] at hP
  clear hC hk hX hPP
  go_enter Try.func40, Try.ntmps40
  go_wp2_with (first
    | (refine wpList_load_row rfl 48 (.tmp 1) rfl w.heap.size rfl 48 C.toArray (0, 0) _ r0.out Try.underlying48 rfl hs.out ?_)
    | (go_at_call 38; refine (hT.out _).mono ?_; rintro e1 w2 ⟨R2, d2, rfl, o2_, b2_⟩; have O2 := hideP o2_; have B2 := hideP (bstep hb.out b2_); clear b2_ o2_)
    | (go_at_call 76; refine (hP.out w2 R2 d2 (by have := O2.out.arr; rwa [hl.out] at this)).mono ?_; rintro e1 w3 ⟨A3, c3, rfl, b3_, o3_⟩; have O3 := hideP o3_; have B3 := hideP (bstep (bstep B2.out (below_new w2 _)) b3_); clear b3_ o3_))
  go_ret
  exact ⟨A3, c3, rfl, OwnB.monoR O3.out (Nat.le_trans B2.out.size (by simp)), B3.out⟩
set_option maxRecDepth 100000 in
set_option maxHeartbeats 1000000 in
theorem rhsum_any (h : HeadD) (hk : HeadOk h) (w : World) :
    Calls Try.prog 39 #[.agg (headC h).toArray] w fun e w' => e = .returned (.agg ((tagD 66 (headB h)).map b8).toArray) ∧ Below w.heap.size w w' := by
  have hT := hideP (fun W => rhpre_any h hk W)
  have hs := hideP (size_h97 hk.cells)
  have hPB := hideP (show IsB (preN 66 [headB h]) from isB_prePart (by decide) (isB_one1 hk.isB) _)
  have hPn := hideP (pre1_len 66 (headB h) (by rw [hk.len]; decide))
  unfold tagD
  obtain ⟨C, hC⟩ : ∃ C, C = headC h := ⟨_, rfl⟩
  rw [← hC] at hT hs ⊢
  obtain ⟨P, hPP⟩ : ∃ P, P = preN 66 [headB h] := ⟨_, rfl⟩
  rw [← hPP] at hT hPB hPn ⊢
  clear hC hk hPP
  obtain ⟨DD, hDD⟩ : ∃ D, D = (dig (sumW P)).map b8 := ⟨_, rfl⟩
  have hDl := hideP (show DD.length = 32 by rw [hDD]; simp [dig])
  have hDa := hideP (show DD.toArray.all (·.oneCell') = true by rw [hDD]; exact all_b8 _)
  have hDe := hideP (show (dig (sumW P)).map b8 = DD from hDD.symm)
  rw [← hDD]
  clear hDD
  have hds := hideP (show (Try.prog.info? 41).map (·.size) = some DD.toArray.size by rw [size_dig]; simp [hDl.out])
  have hdo := hideP (show z32.toArray.size = DD.toArray.size by simp [hDl.out, z32])
  obtain ⟨v, hv⟩ : ∃ v, v = w.alloc (.cells C.toArray 48) := ⟨_, rfl⟩
  have r0 := hideP (show Row v w.heap.size 48 C by rw [hv]; exact Row.new w 48 C)
  have hb := hideP (show Below w.heap.size w v by rw [hv]; exact below_new w (.cells C.toArray 48))
  go_enter Try.func39, Try.ntmps39
  go_upto_region 1 with fail
  obtain ⟨w1, hw1⟩ : ∃ w1, w1 = (w.alloc (.cells C.toArray 48)).alloc (Obj.cells #[.int .u8 0, .int .u8 0, .int .u8 0, .int .u8 0, .int .u8 0, .int .u8 0, .int .u8 0, .int .u8 0, .int .u8 0, .int .u8 0, .int .u8 0, .int .u8 0, .int .u8 0, .int .u8 0, .int .u8 0, .int .u8 0, .int .u8 0, .int .u8 0, .int .u8 0, .int .u8 0, .int .u8 0, .int .u8 0, .int .u8 0, .int .u8 0, .int .u8 0, .int .u8 0, .int .u8 0, .int .u8 0, .int .u8 0, .int .u8 0, .int .u8 0, .int .u8 0] 41) := ⟨_, rfl⟩
  obtain ⟨z, hz⟩ : ∃ z, z = w.heap.size + 1 := ⟨_, rfl⟩
  rw [← hw1, ← hz]
  have sv := hideP (show v.heap.size = z by rw [hv, hz]; simp)
  have c1 := hideP (show Row w1 z 41 z32 by rw [hw1, ← hv, ← sv.out]; exact Row.new v _ z32)
  have bv1 : Below v.heap.size v w1 := by rw [hw1, ← hv]; exact below_new _ _
  have cb := hideP (bstep hb.out bv1)
  have r1 := hideP (Row.after r0.out bv1)
  have hzw := hideP (show w.heap.size ≤ z by omega)
  clear hw1 hv r0 hb sv hz bv1
  go_wp2_with (first
    | (refine wpList_load_row rfl 48 (.tmp 1) rfl w.heap.size rfl 48 C.toArray (0, 0) _ r1.out Try.underlying48 rfl hs.out ?_)
    | (go_at_call 40; refine (hT.out _).mono ?_; rintro e1 w2 ⟨A2, d2, rfl, o2_, b2_⟩; have O2 := hideP o2_; have B2 := hideP (bstep cb.out b2_); have c2 := hideP (Row.after c1.out b2_); clear b2_ o2_)
    | (go_at_call 75; refine (rsum_any A2 P d2 _ O2.out.arr hPB.out hPn.out).mono ?_; rintro e w4 ⟨rfl, hb4⟩; rw [hDe.out]; have c4 := hideP (Row.after c2.out hb4); have cb4 := hideP (B2.out.trans (hb4.mono B2.out.size)))
    | (refine wpList_store_row rfl 41 (.tmp 2) (.tmp 5) rfl z DD.toArray rfl rfl 41 z32.toArray c4.out hds.out hdo.out hDa.out ?_))
  refine ret_row rfl rfl (Row.setRow c4.out DD) Try.underlying41 (by rw [size_dig, hDl.out]) rfl ⟨rfl, ?_⟩
  exact below_setRow' cb4.out hzw.out _
end Go.Proofs.Ytiicdnbhphgieaa
