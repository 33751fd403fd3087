/- Openings: contracts of block.DigestPreimage and block.Digest. -/
import Derived.Test.YtiicdnbhphgieaaK26
import Derived.Test.YtiicdnbhphgieaaK34
set_option linter.unusedVariables false
set_option linter.unusedSimpArgs false
namespace Go.Proofs.Ytiicdnbhphgieaa
open Go.RowKit
structure OpenD where
  blocks : Int
  hist : List Nat
  head : List Nat
structure OpenOk (o : OpenD) : Prop where
  h : o.hist.length = 32
  d : o.head.length = 32
  hB : IsB o.hist
  dB : IsB o.head
  n1 : -9223372036854775808 ≤ o.blocks
  n2 : o.blocks ≤ 9223372036854775807
def openC (o : OpenD) : List Value := .int .i64 o.blocks :: (o.hist.map b8 ++ o.head.map b8)
def openP (o : OpenD) : List Nat := preN 68 [num8 o.blocks, o.hist, o.head]
theorem OpenOk.cells {o : OpenD} (k : OpenOk o) : (openC o).length = 65 := by simp [openC, k.h, k.d]
theorem size_o65 {cs : List Value} (h : cs.length = 65) : (Try.prog.info? 57).map (·.size) = some cs.length := by rw [h]; kernel_rfl
theorem openP_len {o : OpenD} (k : OpenOk o) : (openP o).length ≤ 1000 := by
  unfold openP preN
  simp [prePart, be8_len, num8_len, k.h, k.d]
theorem openP_isB {o : OpenD} (k : OpenOk o) : IsB (openP o) := isB_prePart (by decide) (fun i => by
  match i with
  | 0 => exact isB_be8 _
  | 1 => exact k.hB
  | 2 => exact k.dB
  | i + 3 => intro j; simp) _
theorem open_num {w : World} {g : Nat} {T : TypeId} {o : OpenD} (r : Row w g T (openC o)) : w.cell? ⟨g, 0, none⟩ = some (.int .i64 o.blocks) := by rw [Row.cell r]; rfl
theorem arr_range {w : World} {b o : Nat} {l : List Nat} (h : w.rangeAt b o (l.map b8)) (hb : b < w.heap.size) : Arr w w.heap.size (some ⟨b, o, none⟩) l.length (u8s l) := fun _ =>
  ⟨b, o, rfl, hb, fun i hi => by
    have := h i (b8 (l.getD i 0)) (by simp [List.getElem?_map, List.getD, List.getElem?_eq_getElem hi])
    exact this⟩
theorem range_mid {w : World} {g : Nat} {T : TypeId} {cs : List Value} (r : Row w g T cs) (a b c : List Value) (e : cs = a ++ (b ++ c)) : w.rangeAt g a.length b := fun j v hv => by
  have hj : j < b.length := (List.getElem?_eq_some_iff.1 hv).1
  rw [Row.cell r, e, List.getElem?_append_right (by omega), show a.length + j - a.length = j by omega, List.getElem?_append_left hj, hv]
theorem open_hist {w : World} {g : Nat} {T : TypeId} {o : OpenD} (k : OpenOk o) (r : Row w g T (openC o)) : Arr w w.heap.size (some ⟨g, 1, none⟩) 32 (u8s o.hist) := by
  have := arr_range (range_mid r [.int .i64 o.blocks] (o.hist.map b8) (o.head.map b8) (by simp [openC])) (Row.lt r)
  rwa [k.h] at this
theorem open_head {w : World} {g : Nat} {T : TypeId} {o : OpenD} (k : OpenOk o) (r : Row w g T (openC o)) : Arr w w.heap.size (some ⟨g, 33, none⟩) 32 (u8s o.head) := by
  have h := range_mid r (.int .i64 o.blocks :: o.hist.map b8) (o.head.map b8) [] (by simp [openC])
  rw [show ((.int .i64 o.blocks :: o.hist.map b8) : List Value).length = 33 by simp [k.h]] at h
  have := arr_range h (Row.lt r)
  rwa [k.d] at this
/-- a row that holds three texts -/
theorem row3 (w : World) (A1 A2 A3 : Option Addr) (t1 t2 t3 : List Nat) (n1 n2 n3 c1 c2 c3 : Nat) (e1 : n1 = t1.length) (e2 : n2 = t2.length) (e3 : n3 = t3.length) (h1 : Arr w w.heap.size A1 n1 (u8s t1)) (h2 : Arr w w.heap.size A2 n2 (u8s t2)) (h3 : Arr w w.heap.size A3 n3 (u8s t3)) :
    Arr (w.alloc (.cells #[.slice A1 n1 c1, .slice A2 n2 c2, .slice A3 n3 c3] 31)) (w.alloc (.cells #[.slice A1 n1 c1, .slice A2 n2 c2, .slice A3 n3 c3] 31)).heap.size (some ⟨w.heap.size, 0, none⟩) [t1, t2, t3].length (fun i => .slice ([A1, A2, A3].getD i none) ([t1, t2, t3].getD i []).length ([c1, c2, c3].getD i 0)) ∧
    ∀ i, i < [t1, t2, t3].length → Arr (w.alloc (.cells #[.slice A1 n1 c1, .slice A2 n2 c2, .slice A3 n3 c3] 31)) (w.alloc (.cells #[.slice A1 n1 c1, .slice A2 n2 c2, .slice A3 n3 c3] 31)).heap.size ([A1, A2, A3].getD i none) ([t1, t2, t3].getD i []).length (u8s ([t1, t2, t3].getD i [])) := by
  subst e1 e2 e3
  refine ⟨Arr.of_new w _ _ _ _ (by simp) fun i hi => ?_, fun i hi => ?_⟩
  · match i, hi with
    | 0, _ => rfl
    | 1, _ => rfl
    | 2, _ => rfl
    | i + 3, h => simp at h; omega
  · match i, hi with
    | 0, _ => exact h1.after (below_new _ _)
    | 1, _ => exact h2.after (below_new _ _)
    | 2, _ => exact h3.after (below_new _ _)
    | i + 3, h => simp at h; omega
theorem but_ext {w W : World} (h : But (fun _ => False) w W) : Ext w W := ⟨h.size, fun k hk => h.block k hk id, h.os, h.tape, h.output⟩
set_option maxRecDepth 100000 in
set_option maxHeartbeats 1000000 in
theorem bdpre_any (o : OpenD) (hk : OpenOk o) (w : World) :
    Calls Try.prog 30 #[.agg (openC o).toArray] w fun e w' => ∃ R d, e = .returned (.slice R (openP o).length d) ∧ OwnB w' w.heap.size R d (openP o) ∧ Below w.heap.size w w' := by
  obtain ⟨v, hv⟩ : ∃ v, v = w.alloc (.cells (openC o).toArray 57) := ⟨_, rfl⟩
  obtain ⟨z, hz⟩ : ∃ z, z = w.heap.size := ⟨_, rfl⟩
  have r0 : Row v z 57 (openC o) := by rw [hv, hz]; exact Row.new w _ _
  have B0 := hideP (show Below w.heap.size w v by rw [hv]; exact below_new w _)
  have R0 := hideP r0
  have k0 := open_num r0
  have H0 := hideP (open_hist hk r0)
  have D0 := hideP (open_head hk r0)
  have Hv := hideP hv
  have Hz := hideP hz
  have hP := hideP (fun W AT c (Af : Nat → Option Addr) cf hT hA => pre_any 68 AT c [num8 o.blocks, o.hist, o.head] Af cf W hT hA (Nat.le_trans (openP_len hk) (by decide)) (by simp))
  have hH := hideP hk.h
  have hD := hideP hk.d
  have n1 := hk.n1
  have n2 := hk.n2
  rw [show preN 68 [num8 o.blocks, o.hist, o.head] = openP o from rfl] at hP
  obtain ⟨Z, hZ⟩ : ∃ Z, Z = openP o := ⟨_, rfl⟩
  obtain ⟨C, hC⟩ : ∃ Z, Z = openC o := ⟨_, rfl⟩
  obtain ⟨n, t1, t2⟩ := o
  dsimp only at k0 H0 D0 hP hH hD n1 n2
  rw [← hZ] at hP ⊢
  rw [← hC] at Hv R0 ⊢
  clear hv hz hZ hC r0 hk
  go_enter Try.func30, Try.ntmps30
  go_upto_region 1 with fail
  rw [← Hz.out, ← Hv.out]
  go_upto_region 2 with fail
  obtain ⟨v2, hv2⟩ : ∃ v2, v2 = v.alloc (.cells #[.slice none 0 0, .int .i64 0] 100) := ⟨_, rfl⟩
  obtain ⟨g, hg⟩ : ∃ g, g = v.heap.size := ⟨_, rfl⟩
  rw [← hv2, ← hg]
  have V := hideP (Wr.new_at hv2 hg)
  have P0 := hideP (WrP.refl V.out)
  have hb2 : Below v.heap.size v v2 := by rw [hv2]; exact below_new _ _
  have B2 := hideP (bstep B0.out hb2)
  have hgw := hideP (show w.heap.size ≤ g by rw [hg]; exact B0.out.size)
  have H2 := hideP (show Arr v2 g (some ⟨z, 1, none⟩) 32 (u8s t1) by rw [hg]; exact H0.out.below hb2)
  have D2 := hideP (show Arr v2 g (some ⟨z, 33, none⟩) 32 (u8s t2) by rw [hg]; exact D0.out.below hb2)
  have k2 := (hb2.cell (p := ⟨z, 0, none⟩) (Row.lt R0.out)).trans k0
  clear hv2 hb2 hg k0 H0 D0
  go_upto_region 3 with (go_at_call 83; refine (wnumP n P0.out n1 n2 (by simp)).mono ?_; rintro e1 w3 ⟨rfl, p1_⟩; have P1 := hideP p1_; clear p1_)
  rw [List.nil_append] at P1
  have H3 := hideP (H2.out.below (WrP.below V.out P1.out))
  have D3 := hideP (D2.out.below (WrP.below V.out P1.out))
  have B3 := hideP (B2.out.trans ((WrP.below V.out P1.out).mono hgw.out))
  have hg3 := hideP (show g ≤ w3.heap.size from Nat.le_trans (Nat.le_of_lt V.out.lt) (WrP.below V.out P1.out).size)
  have hbs := hideP (fun W (hW : Ext w3 W) => wbytesP (P1.out.after hW.below) (by rw [num8_len]; decide))
  rw [num8_len] at hbs
  refine wp_region_mut (S := fun _ => False) 8 (.q 0 (.q 2 (.q 3 (.q 4 (.q 5 (.l 1 (.l 6 (.l 7 .nil)))))))) (by kernel_rfl) (by kernel_rfl) ?_
  simp only [pickT, nthO_zero, nthO_succ]
  iterate 5 (refine wpM_valK (by rfl) (fun K hK => ?_); apply Exists.intro; refine ⟨fun W hW => ?_, ?_⟩; (focus (go_simp; (try rfl); done)); go_simp; refine hK _ ?_; clear hK K)
  refine wpM_loudS 62 #[.pointer (some ⟨g, 0, none⟩)] (by rfl) (fun W => by go_simp) (fun W hW => (hbs.out W hW.drew_left).mono ?_)
  rintro e4 w4 ⟨R4, d4, rfl, o4_, b4_, p4_⟩
  refine ⟨_, rfl, But.of_below b4_, fun K hK => ?_⟩
  go_simp
  refine hK _ ?_
  clear hK K
  have X4 := hideP (hW.drew_left.trans (Ext.of_below b4_))
  have O4 := hideP o4_.arr
  clear hW b4_ o4_ p4_
  refine wpM_buildK (by rfl) (fun W5 hW5 => ?_)
  refine ⟨.slice (some ⟨W5.heap.size, 0, none⟩) 3 3, W5.alloc (.cells #[.slice R4 8 d4, .slice (some ⟨z, 1, none⟩) 32 32, .slice (some ⟨z, 33, none⟩) 32 32] 31), ⟨by go_simp, Ext.alloc _ _⟩, fun K hK => ?_⟩
  go_simp
  refine hK _ ?_
  clear hK K
  have B5 := hideP (below_ext B3.out (X4.out.trans hW5))
  have hr3 := hideP (row3 W5 R4 (some ⟨z, 1, none⟩) (some ⟨z, 33, none⟩) (num8 n) t1 t2 8 32 32 d4 32 32 (num8_len n).symm hH.out.symm hD.out.symm (by have := O4.out.after hW5.below; rwa [num8_len] at this) ((H3.out.more hg3.out).ext (X4.out.trans hW5)) ((D3.out.more hg3.out).ext (X4.out.trans hW5)))
  obtain ⟨v5, hv5⟩ : ∃ v, v = W5.alloc (.cells #[.slice R4 8 d4, .slice (some ⟨z, 1, none⟩) 32 32, .slice (some ⟨z, 33, none⟩) 32 32] 31) := ⟨_, rfl⟩
  rw [← hv5] at hr3 ⊢
  have B6 := hideP (below_ext B5.out (show Ext W5 v5 by rw [hv5]; exact Ext.alloc _ _))
  obtain ⟨h5a, h5b⟩ := hr3.out
  refine wpM_loudS 84 #[.int .u8 68, .slice (some ⟨W5.heap.size, 0, none⟩) 3 3] (by rfl) (fun W => by go_simp) (fun W hW => (hP.out W (some ⟨W5.heap.size, 0, none⟩) 3 _ _ (h5a.after hW.below) (fun i hi => (h5b i hi).after hW.below)).mono ?_)
  rintro e7 w7 ⟨A7, d7, rfl, b7_, o7_⟩
  refine ⟨_, rfl, But.of_below b7_, fun K hK => ?_⟩
  go_simp
  refine hK _ ?_
  clear hK K
  have B7 := hideP (below_ext B6.out (hW.trans (Ext.of_below b7_)))
  have O7 := hideP (OwnB.monoR o7_ (Nat.le_trans B6.out.size hW.size))
  clear hW b7_ o7_ h5a h5b hr3
  refine wpM_nil (fun W8 hW8 => ?_)
  simp only [List.drop_succ_cons, List.drop_zero, List.drop_nil]
  have B8 := hideP (below_ext B7.out hW8)
  have O8 := hideP (O7.out.ext hW8)
  clear hW8
  go_wp2_with fail
  go_ret
  exact ⟨A7, d7, rfl, O8.out, B8.out⟩
set_option maxRecDepth 100000 in
set_option maxHeartbeats 1000000 in
theorem bdig_any (o : OpenD) (hk : OpenOk o) (w : World) :
    Calls Try.prog 32 #[.agg (openC o).toArray] w fun e w' => e = .returned (.agg ((dig (sumW (openP o))).map b8).toArray) ∧ Below w.heap.size w w' := by
  have hT := hideP (fun W => bdpre_any o hk W)
  have hs := hideP (size_o65 hk.cells)
  have hPB := hideP (openP_isB hk)
  have hPn := hideP (openP_len hk)
  obtain ⟨C, hC⟩ : ∃ C, C = openC o := ⟨_, rfl⟩
  obtain ⟨P, hPP⟩ : ∃ P, P = openP o := ⟨_, rfl⟩
  rw [← hC] at hT hs ⊢
  rw [← hPP] at hT hPB hPn ⊢
  clear hC hk hPP
  obtain ⟨DD, hDD⟩ : ∃ D, D = (dig (sumW P)).map b8 := ⟨_, rfl⟩
  have hDl := hideP (show DD.length = 32 by rw [hDD]; simp [dig])
  have hDa := hideP (show DD.toArray.all (·.oneCell') = true by rw [hDD]; exact all_b8 _)
  have hDe := hideP (show (dig (sumW P)).map b8 = DD from hDD.symm)
  rw [← hDD]
  clear hDD
  have hds := hideP (show (Try.prog.info? 41).map (·.size) = some DD.toArray.size by rw [size_dig]; simp [hDl.out])
  have hdo := hideP (show z32.toArray.size = DD.toArray.size by simp [hDl.out, z32])
  obtain ⟨v, hv⟩ : ∃ v, v = w.alloc (.cells C.toArray 57) := ⟨_, rfl⟩
  have r0 := hideP (show Row v w.heap.size 57 C by rw [hv]; exact Row.new w 57 C)
  have hb := hideP (show Below w.heap.size w v by rw [hv]; exact below_new w (.cells C.toArray 57))
  go_enter Try.func32, Try.ntmps32
  go_upto_region 1 with fail
  obtain ⟨w1, hw1⟩ : ∃ w1, w1 = (w.alloc (.cells C.toArray 57)).alloc (Obj.cells #[.int .u8 0, .int .u8 0, .int .u8 0, .int .u8 0, .int .u8 0, .int .u8 0, .int .u8 0, .int .u8 0, .int .u8 0, .int .u8 0, .int .u8 0, .int .u8 0, .int .u8 0, .int .u8 0, .int .u8 0, .int .u8 0, .int .u8 0, .int .u8 0, .int .u8 0, .int .u8 0, .int .u8 0, .int .u8 0, .int .u8 0, .int .u8 0, .int .u8 0, .int .u8 0, .int .u8 0, .int .u8 0, .int .u8 0, .int .u8 0, .int .u8 0, .int .u8 0] 41) := ⟨_, rfl⟩
  obtain ⟨z, hz⟩ : ∃ z, z = w.heap.size + 1 := ⟨_, rfl⟩
  rw [← hw1, ← hz]
  have sv := hideP (show v.heap.size = z by rw [hv, hz]; simp)
  have c1 := hideP (show Row w1 z 41 z32 by rw [hw1, ← hv, ← sv.out]; exact Row.new v _ z32)
  have bv1 : Below v.heap.size v w1 := by rw [hw1, ← hv]; exact below_new _ _
  have cb := hideP (bstep hb.out bv1)
  have r1 := hideP (Row.after r0.out bv1)
  have hzw := hideP (show w.heap.size ≤ z by omega)
  clear hw1 hv r0 hb sv hz bv1
  go_wp2_with (first
    | (refine wpList_load_row rfl 57 (.tmp 1) rfl w.heap.size rfl 57 C.toArray (0, 0) _ r1.out Try.underlying57 rfl hs.out ?_)
    | (go_at_call 30; refine (hT.out _).mono ?_; rintro e1 w2 ⟨A2, d2, rfl, o2_, b2_⟩; have O2 := hideP o2_; have B2 := hideP (bstep cb.out b2_); have c2 := hideP (Row.after c1.out b2_); clear b2_ o2_)
    | (go_at_call 33; refine (ssum_any A2 P d2 _ O2.out.arr hPB.out (by have := hPn.out; omega)).mono ?_; rintro e w4 ⟨rfl, hb4⟩; rw [hDe.out]; have c4 := hideP (Row.after c2.out hb4); have cb4 := hideP (B2.out.trans (hb4.mono B2.out.size)))
    | (refine wpList_store_row rfl 41 (.tmp 2) (.tmp 5) rfl z DD.toArray rfl rfl 41 z32.toArray c4.out hds.out hdo.out hDa.out ?_))
  refine ret_row rfl rfl (Row.setRow c4.out DD) Try.underlying41 (by rw [size_dig, hDl.out]) rfl ⟨rfl, ?_⟩
  exact below_setRow' cb4.out hzw.out _
end Go.Proofs.Ytiicdnbhphgieaa
