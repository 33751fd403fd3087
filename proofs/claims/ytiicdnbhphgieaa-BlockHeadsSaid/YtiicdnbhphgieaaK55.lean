/- The walk of BlockHeads. -/
import Derived.Test.YtiicdnbhphgieaaK37
import Derived.Test.YtiicdnbhphgieaaK43
import Derived.Test.YtiicdnbhphgieaaK54
set_option linter.unusedVariables false
set_option linter.unusedSimpArgs false
namespace Go.Proofs.Ytiicdnbhphgieaa
open Go.RowKit
theorem headZ_ok : HeadOk headZ := ⟨rfl, rfl, rfl, fun i => by unfold headZ; simp only [List.getD, List.getElem?_replicate]; split <;> decide, fun i => by unfold headZ; simp only [List.getD, List.getElem?_replicate]; split <;> decide, fun i => by unfold headZ; simp only [List.getD, List.getElem?_replicate]; split <;> decide, by decide, by decide⟩
set_option maxRecDepth 100000 in
set_option maxHeartbeats 4000000 in
theorem blockheads_a (h : HeadD) (A : Option Addr) (b : List Nat) (n c : Nat) (w : World) (hk : HeadOk h) (hn : n = b.length) (hA0 : Arr w w.heap.size A n (u8s b)) (hI : IsB b) (h3 : n ≤ 300) (hr : headR h = false) (hN : rHead b = none) :
    Calls Try.prog 8 #[.agg (headC h).toArray, .slice A n c] w fun e w' => e = .returned (.bool true) ∧ Below w.heap.size w w' := by
  have h3' : decide ((300 : Int) < (n : Int)) = false := by simp; omega
  have hA := hideP hA0
  have hRH := fun W (hW : Below w.heap.size w W) => show Calls Try.prog 37 #[.slice A n c] W (fun e w' => e = .returned (.tuple #[.agg (headC headZ).toArray, .int .i64 21]) ∧ Below W.heap.size W w') by
    have := breadhead_any A b n c W hn (hA.out.after hW) hI (by omega)
    rw [hN] at this
    refine this.mono ?_
    rintro e w' ⟨b_, (⟨_, rfl⟩ | ⟨_, h, _⟩)⟩
    · exact ⟨rfl, b_⟩
    · exact absurd h (by simp)
  have hs0 := hideP (size_h97 headZ_ok.cells)
  have hC1 := hideP (headC_one headZ)
  have heq := fun W => show (binOp .eql 48 (.agg (headC headZ).toArray) (.agg Try.zeroCells48)).run Try.prog W = .ok (.bool true) W by
    have := run_eql_head headZ headZ headZ_ok headZ_ok W
    rw [eqH_refl] at this
    exact this
  obtain ⟨C0, hC0⟩ : ∃ C, C = headC headZ := ⟨_, rfl⟩
  have hso0 := hideP (show (headC headZ).toArray.size = C0.toArray.size by rw [hC0])
  rw [← hC0] at hRH hs0 hC1 heq
  have HEQ := hideP heq
  have hRH := hideP hRH
  clear hA0 hI hN hn heq hC0 h3
  have hBH := hideP (fun W => bhead_no h hk hr W)
  have hHR := fun W => rhr_any h hk W
  rw [hr] at hHR
  have hHR := hideP hHR
  have hBS := hideP (fun W => bsum_no h hk hr W)
  have hBP := hideP (fun W => bpre_no h hk hr W)
  have hnz := hideP (fun W => show (binOp .neq 41 (.agg z32.toArray) (.agg #[.int .u8 0, .int .u8 0, .int .u8 0, .int .u8 0, .int .u8 0, .int .u8 0, .int .u8 0, .int .u8 0, .int .u8 0, .int .u8 0, .int .u8 0, .int .u8 0, .int .u8 0, .int .u8 0, .int .u8 0, .int .u8 0, .int .u8 0, .int .u8 0, .int .u8 0, .int .u8 0, .int .u8 0, .int .u8 0, .int .u8 0, .int .u8 0, .int .u8 0, .int .u8 0, .int .u8 0, .int .u8 0, .int .u8 0, .int .u8 0, .int .u8 0, .int .u8 0])).run Try.prog W = .ok (.bool false) W by
    have := run_neq_dge (List.replicate 32 0) (List.replicate 32 0) rfl rfl headZ_ok.pB headZ_ok.pB W
    rw [decide_eq_true rfl] at this
    exact this)
  have hs := hideP (size_h97 hk.cells)
  obtain ⟨C, hC⟩ : ∃ C, C = headC h := ⟨_, rfl⟩
  rw [← hC] at hBH hHR hBS hBP hs ⊢
  clear hC hr hk
  obtain ⟨v, hv⟩ : ∃ v, v = w.alloc (.cells C.toArray 48) := ⟨_, rfl⟩
  obtain ⟨z, hz⟩ : ∃ z, z = w.heap.size := ⟨_, rfl⟩
  have X1 := hideP (show Row v z 48 C by rw [hv, hz]; exact Row.new w 48 C)
  have B1 := hideP (show Below w.heap.size w v by rw [hv]; exact below_new _ _)
  go_enter Try.func8, Try.ntmps8
  go_upto_region 1 with fail
  rw [← hv, ← hz]
  clear hv hz
  go_upto_region 7 with (first
    | (go_at_call 12; refine (alive19_any _).mono ?_; rintro e w3 ⟨rfl, b_⟩; have B3 := hideP (bstep B1.out b_); have X3 := hideP (Row.after X1.out b_); clear b_)
    | (refine wpList_load_row rfl 48 (.tmp 2) rfl z rfl 48 C.toArray (0, 0) _ X3.out Try.underlying48 rfl hs.out ?_)
    | (refine wpList_load_row rfl 48 (.tmp 2) rfl z rfl 48 C.toArray (0, 0) _ X4.out Try.underlying48 rfl hs.out ?_)
    | (go_at_call 34; refine (hBH.out w3).mono ?_; rintro e w4 ⟨rfl, b_⟩; have B4 := hideP (bstep B3.out b_); have X4 := hideP (Row.after X3.out b_); clear b_)
    | (go_at_call 27; refine (hHR.out w4).mono ?_; rintro e w5 ⟨rfl, b_⟩; have B5 := hideP (bstep B4.out b_); have X5 := hideP (Row.after X4.out b_); clear b_))
  have hnz0 := hnz.out
  go_wp2_with fail
  refine wp_load_row 48 (.tmp 2) ?_ z ?_ 48 C.toArray (0, 0) _ X5.out Try.underlying48 ?_ hs.out ?_
  iterate 3 (focus (rfl))
  go_wp2_with (go_at_call 35; refine (hBS.out w5).mono ?_; rintro e w6 ⟨rfl, b_⟩; have B6 := hideP (bstep B5.out b_); have X6 := hideP (Row.after X5.out b_); clear b_)
  refine wp_load_row 48 (.tmp 2) ?_ z ?_ 48 C.toArray (0, 0) _ X6.out Try.underlying48 ?_ hs.out ?_
  iterate 3 (focus (rfl))
  go_upto_region 12 with (go_at_call 36; refine (hBP.out w6).mono ?_; rintro e w7 ⟨rfl, b_⟩; have B7 := hideP (bstep B6.out b_); clear b_)
  clear X1 X3 X4 X5 X6 B1 B3 B4 B5 B6 hBH hHR hBS hBP hnz0
  go_upto_region 13 with (first
    | (go_at_call 37; refine (hRH.out w7 B7.out).mono ?_; rintro e w11 ⟨rfl, b_⟩; have B11 := hideP (bstep B7.out b_); clear b_)
    | (refine wpList_store_row rfl 48 (.tmp 9) (.tmp 86) rfl w11.heap.size C0.toArray rfl rfl 48 (headC headZ).toArray (Row.new w11 48 (headC headZ)) hs0.out hso0.out hC1.out ?_))
  obtain ⟨q, hq⟩ : ∃ u, u = w11.heap.size := ⟨_, rfl⟩
  obtain ⟨v12, hv12⟩ : ∃ v, v = (w11.alloc (.cells Try.zeroCells48 48)).setRow q C0.toArray := ⟨_, rfl⟩
  rw [← hq, ← hv12]
  have hb12 : Below w11.heap.size w11 v12 := by rw [hv12, hq]; exact below_setRow' (below_new w11 _) (Nat.le_refl _) _
  have Y12 := hideP (show Row v12 q 48 C0 by rw [hv12, hq]; exact Row.setRow (Row.new w11 48 (headC headZ)) C0)
  have B12 := hideP (bstep B11.out hb12)
  clear hv12 hb12 hq
  have heq := HEQ.out
  go_wp2_with fail
  refine wp_load_row 48 (.tmp 9) ?_ q ?_ 48 C0.toArray (0, 0) _ Y12.out Try.underlying48 ?_ hs0.out ?_
  iterate 3 (focus (rfl))
  go_wp2_with fail
  go_ret
  exact ⟨rfl, B12.out⟩
set_option maxRecDepth 100000 in
set_option maxHeartbeats 4000000 in
theorem blockheads_b (h k : HeadD) (A : Option Addr) (b : List Nat) (n c : Nat) (w : World) (hk : HeadOk h) (hn : n = b.length) (hA0 : Arr w w.heap.size A n (u8s b)) (hI : IsB b) (h3 : n ≤ 300) (hr : headR h = false) (hN : rHead b = some k) :
    Calls Try.prog 8 #[.agg (headC h).toArray, .slice A n c] w fun e w' => e = .returned (.bool true) ∧ Below w.heap.size w w' := by
  have h3' : decide ((300 : Int) < (n : Int)) = false := by simp; omega
  have hA := hideP hA0
  obtain ⟨hbk, hkk, hrk⟩ := rHead_inv hI hN
  have hRH := fun W (hW : Below w.heap.size w W) => show Calls Try.prog 37 #[.slice A n c] W (fun e w' => e = .returned (.tuple #[.agg (headC k).toArray, .int .i64 0]) ∧ Below W.heap.size W w') by
    have := breadhead_any A b n c W hn (hA.out.after hW) hI (by omega)
    rw [hN] at this
    refine this.mono ?_
    rintro e w' ⟨b_, (⟨h, _⟩ | ⟨m, h, rfl⟩)⟩
    · exact absurd h (by simp)
    · injection h with h
      subst h
      exact ⟨rfl, b_⟩
  have hn4 : b.length = 104 := by rw [hbk]; exact hkk.len
  have hDHR := fun W => rhr_any k hkk W
  rw [hrk] at hDHR
  have hDRd := fun W => rhead_any k hkk W
  rw [← hbk] at hDRd
  have hsD := size_h97 hkk.cells
  have hC1D := headC_one k
  have hsoD : (headC headZ).toArray.size = (headC k).toArray.size := by rw [List.size_toArray, List.size_toArray, hkk.cells]; rfl
  have cvA := fun W (hW : Below w.heap.size w W) => by have := run_str (P := Try.prog) W 31 5 Try.underlying31 Try.underlying5 (c := c) (show Arr W W.heap.size A b.length (u8s b) by rw [← hn]; exact hA.out.after hW) rfl 9 Try.underlying9; rwa [← hn] at this
  have cvD := fun W R d (hX : Arr W W.heap.size R b.length (u8s b)) => by have := run_str (P := Try.prog) W 31 5 Try.underlying31 Try.underlying5 (c := d) hX rfl 9 Try.underlying9; rwa [hn4] at this
  have hDS : ((bstr b).toList == (bstr b).toList) = true := by rw [bstr_beq hI hI]; exact decide_eq_true rfl
  obtain ⟨SB, hSB⟩ : ∃ S, S = bstr b := ⟨_, rfl⟩
  rw [← hSB] at cvA cvD hDS
  obtain ⟨D, hD⟩ : ∃ C, C = headC k := ⟨_, rfl⟩
  rw [← hD] at hRH hDHR hDRd hsD hC1D hsoD
  have hRH := hideP hRH; have DHR := hideP hDHR; have DRd := hideP hDRd; have hsD := hideP hsD; have hC1D := hideP hC1D; have hsoD := hideP hsoD; have CVA := hideP cvA; have CVD := hideP cvD; have HDS := hideP hDS
  clear hA0 hI hN hn hbk hkk hrk hn4 hDHR hDRd cvA cvD hDS hSB hD h3
  have hBH := hideP (fun W => bhead_no h hk hr W)
  have hHR := fun W => rhr_any h hk W
  rw [hr] at hHR
  have hHR := hideP hHR
  have hBS := hideP (fun W => bsum_no h hk hr W)
  have hBP := hideP (fun W => bpre_no h hk hr W)
  have hnz := hideP (fun W => show (binOp .neq 41 (.agg z32.toArray) (.agg #[.int .u8 0, .int .u8 0, .int .u8 0, .int .u8 0, .int .u8 0, .int .u8 0, .int .u8 0, .int .u8 0, .int .u8 0, .int .u8 0, .int .u8 0, .int .u8 0, .int .u8 0, .int .u8 0, .int .u8 0, .int .u8 0, .int .u8 0, .int .u8 0, .int .u8 0, .int .u8 0, .int .u8 0, .int .u8 0, .int .u8 0, .int .u8 0, .int .u8 0, .int .u8 0, .int .u8 0, .int .u8 0, .int .u8 0, .int .u8 0, .int .u8 0, .int .u8 0])).run Try.prog W = .ok (.bool false) W by
    have := run_neq_dge (List.replicate 32 0) (List.replicate 32 0) rfl rfl headZ_ok.pB headZ_ok.pB W
    rw [decide_eq_true rfl] at this
    exact this)
  have hs := hideP (size_h97 hk.cells)
  obtain ⟨C, hC⟩ : ∃ C, C = headC h := ⟨_, rfl⟩
  rw [← hC] at hBH hHR hBS hBP hs ⊢
  clear hC hr hk
  obtain ⟨v, hv⟩ : ∃ v, v = w.alloc (.cells C.toArray 48) := ⟨_, rfl⟩
  obtain ⟨z, hz⟩ : ∃ z, z = w.heap.size := ⟨_, rfl⟩
  have X1 := hideP (show Row v z 48 C by rw [hv, hz]; exact Row.new w 48 C)
  have B1 := hideP (show Below w.heap.size w v by rw [hv]; exact below_new _ _)
  go_enter Try.func8, Try.ntmps8
  go_upto_region 1 with fail
  rw [← hv, ← hz]
  clear hv hz
  go_upto_region 7 with (first
    | (go_at_call 12; refine (alive19_any _).mono ?_; rintro e w3 ⟨rfl, b_⟩; have B3 := hideP (bstep B1.out b_); have X3 := hideP (Row.after X1.out b_); clear b_)
    | (refine wpList_load_row rfl 48 (.tmp 2) rfl z rfl 48 C.toArray (0, 0) _ X3.out Try.underlying48 rfl hs.out ?_)
    | (refine wpList_load_row rfl 48 (.tmp 2) rfl z rfl 48 C.toArray (0, 0) _ X4.out Try.underlying48 rfl hs.out ?_)
    | (go_at_call 34; refine (hBH.out w3).mono ?_; rintro e w4 ⟨rfl, b_⟩; have B4 := hideP (bstep B3.out b_); have X4 := hideP (Row.after X3.out b_); clear b_)
    | (go_at_call 27; refine (hHR.out w4).mono ?_; rintro e w5 ⟨rfl, b_⟩; have B5 := hideP (bstep B4.out b_); have X5 := hideP (Row.after X4.out b_); clear b_))
  have hnz0 := hnz.out
  go_wp2_with fail
  refine wp_load_row 48 (.tmp 2) ?_ z ?_ 48 C.toArray (0, 0) _ X5.out Try.underlying48 ?_ hs.out ?_
  iterate 3 (focus (rfl))
  go_wp2_with (go_at_call 35; refine (hBS.out w5).mono ?_; rintro e w6 ⟨rfl, b_⟩; have B6 := hideP (bstep B5.out b_); have X6 := hideP (Row.after X5.out b_); clear b_)
  refine wp_load_row 48 (.tmp 2) ?_ z ?_ 48 C.toArray (0, 0) _ X6.out Try.underlying48 ?_ hs.out ?_
  iterate 3 (focus (rfl))
  go_upto_region 12 with (go_at_call 36; refine (hBP.out w6).mono ?_; rintro e w7 ⟨rfl, b_⟩; have B7 := hideP (bstep B6.out b_); clear b_)
  clear X1 X3 X4 X5 X6 B1 B3 B4 B5 B6 hBH hHR hBS hBP hnz0
  go_upto_region 15 with (first
    | (go_at_call 37; refine (hRH.out w7 B7.out).mono ?_; rintro e w21 ⟨rfl, b_⟩; have B21 := hideP (bstep B7.out b_); clear b_)
    | (refine wpList_store_row rfl 48 (.tmp 9) (.tmp 86) rfl w21.heap.size D.toArray rfl rfl 48 (headC headZ).toArray (Row.new w21 48 (headC headZ)) hsD.out hsoD.out hC1D.out ?_))
  obtain ⟨q, hq⟩ : ∃ u, u = w21.heap.size := ⟨_, rfl⟩
  obtain ⟨v22, hv22⟩ : ∃ v, v = (w21.alloc (.cells Try.zeroCells48 48)).setRow q D.toArray := ⟨_, rfl⟩
  rw [← hq, ← hv22]
  have hb22 : Below w21.heap.size w21 v22 := by rw [hv22, hq]; exact below_setRow' (below_new w21 _) (Nat.le_refl _) _
  have Y22 := hideP (show Row v22 q 48 D by rw [hv22, hq]; exact Row.setRow (Row.new w21 48 (headC headZ)) D)
  have B22 := hideP (bstep B21.out hb22)
  clear hv22 hb22 hq
  have hsd := HDS.out
  refine wp_region_mut (S := fun _ => False) 10 (.q 0 (.l 1 (.q 2 (.q 3 (.q 6 (.q 7 (.l 4 (.q 5 (.q 8 (.q 9 .nil)))))))))) (by kernel_rfl) (by kernel_rfl) ?_
  simp only [pickT, nthO_zero, nthO_succ]
  have hdrew := (Ext.refl v22.drew).drew_left
  have E22 := hideP hdrew
  clear hdrew
  iterate 1 (first
    | (refine wpM_valK ?_ (fun K hK => ?_); (focus (rfl)); refine ⟨.agg D.toArray, fun W hW => exec_load_mid 48 (.tmp 9) ?_ q 0 ?_ D _ (Row.range (Row.ext Y22.out (E22.out.trans (but_ext hW)))) Try.underlying48 rfl hsD.out, ?_⟩; (focus (rfl)); (focus (rfl)); go_simp; refine hK _ ?_; clear hK K)
    | (refine wpM_valK ?_ (fun K hK => ?_); (focus (rfl)); refine ⟨.agg D.toArray, fun W hW => exec_load_mid 48 (.tmp 9) ?_ q 0 ?_ D _ (Row.range (Row.ext Y22.out (E22.out.trans (but_ext hW)))) Try.underlying48 rfl hsD.out, ?_⟩; (focus (rfl)); (focus (rfl)); go_simp; refine hK _ ?_; clear hK K)
    | (refine wpM_valK ?_ (fun K hK => ?_); (focus (rfl)); apply Exists.intro; refine ⟨fun W hW => ?_, ?_⟩; (focus (have hs0 := True.intro; go_simp; (try rfl); done)); go_simp; refine hK _ ?_; clear hK K))
  refine wpM_loudS 27 #[.agg D.toArray] (by rfl) (fun W => by go_simp) (fun W hW => (DHR.out W).mono ?_)
  rintro e_ w23 ⟨rfl, b_⟩
  refine ⟨_, rfl, But.of_below b_, fun K hK => ?_⟩
  go_simp
  refine hK _ ?_
  clear hK K
  have E23 := hideP (E22.out.trans (hW.trans (Ext.of_below b_)))
  clear b_ hW
  have cvA := hideP (fun W (hW : Ext w23 W) => CVA.out W (below_ext B22.out (E23.out.trans hW)))
  iterate 4 (first
    | (refine wpM_valK ?_ (fun K hK => ?_); (focus (rfl)); refine ⟨.agg D.toArray, fun W hW => exec_load_mid 48 (.tmp 9) ?_ q 0 ?_ D _ (Row.range (Row.ext Y22.out (E23.out.trans (but_ext hW)))) Try.underlying48 rfl hsD.out, ?_⟩; (focus (rfl)); (focus (rfl)); go_simp; refine hK _ ?_; clear hK K)
    | (refine wpM_valK ?_ (fun K hK => ?_); (focus (rfl)); refine ⟨.agg D.toArray, fun W hW => exec_load_mid 48 (.tmp 9) ?_ q 0 ?_ D _ (Row.range (Row.ext Y22.out (E23.out.trans (but_ext hW)))) Try.underlying48 rfl hsD.out, ?_⟩; (focus (rfl)); (focus (rfl)); go_simp; refine hK _ ?_; clear hK K)
    | (refine wpM_valK ?_ (fun K hK => ?_); (focus (rfl)); apply Exists.intro; refine ⟨fun W hW => ?_, ?_⟩; (focus (have hs0 := cvA.out W (but_ext hW); go_simp; (try rfl); done)); go_simp; refine hK _ ?_; clear hK K))
  refine wpM_loudS 38 #[.agg D.toArray] (by rfl) (fun W => by go_simp) (fun W hW => (DRd.out W).mono ?_)
  rintro e_ w24 ⟨R24, d24, rfl, o_, b_⟩
  refine ⟨_, rfl, But.of_below b_, fun K hK => ?_⟩
  go_simp
  refine hK _ ?_
  clear hK K
  have E24 := hideP (E23.out.trans (hW.trans (Ext.of_below b_)))
  have cv24 := hideP (fun W (hW : Ext w24 W) => CVD.out W R24 d24 (o_.ext hW).arr)
  clear o_ b_ hW
  iterate 3 (first
    | (refine wpM_valK ?_ (fun K hK => ?_); (focus (rfl)); refine ⟨.agg D.toArray, fun W hW => exec_load_mid 48 (.tmp 9) ?_ q 0 ?_ D _ (Row.range (Row.ext Y22.out (E24.out.trans (but_ext hW)))) Try.underlying48 rfl hsD.out, ?_⟩; (focus (rfl)); (focus (rfl)); go_simp; refine hK _ ?_; clear hK K)
    | (refine wpM_valK ?_ (fun K hK => ?_); (focus (rfl)); refine ⟨.agg D.toArray, fun W hW => exec_load_mid 48 (.tmp 9) ?_ q 0 ?_ D _ (Row.range (Row.ext Y22.out (E24.out.trans (but_ext hW)))) Try.underlying48 rfl hsD.out, ?_⟩; (focus (rfl)); (focus (rfl)); go_simp; refine hK _ ?_; clear hK K)
    | (refine wpM_valK ?_ (fun K hK => ?_); (focus (rfl)); apply Exists.intro; refine ⟨fun W hW => ?_, ?_⟩; (focus (have hs0 := cv24.out W (but_ext hW); go_simp; (try rfl); done)); go_simp; refine hK _ ?_; clear hK K))
  refine wpM_nil (fun W25 hW25 => ?_)
  simp only [List.drop_succ_cons, List.drop_zero, List.drop_nil]
  have B25 := hideP (below_ext B22.out (E24.out.trans hW25))
  clear hW25
  go_wp2_with fail
  go_ret
  exact ⟨rfl, B25.out⟩
set_option maxRecDepth 100000 in
set_option maxHeartbeats 4000000 in
theorem blockheads_c (h : HeadD) (A : Option Addr) (b : List Nat) (n c : Nat) (w : World) (hk : HeadOk h) (hn : n = b.length) (hA0 : Arr w w.heap.size A n (u8s b)) (hI : IsB b) (h3 : n ≤ 300) (hr : headR h = true) (hN : rHead b = none) :
    Calls Try.prog 8 #[.agg (headC h).toArray, .slice A n c] w fun e w' => e = .returned (.bool true) ∧ Below w.heap.size w w' := by
  have h3' : decide ((300 : Int) < (n : Int)) = false := by simp; omega
  have hA := hideP hA0
  have hRH := fun W (hW : Below w.heap.size w W) => show Calls Try.prog 37 #[.slice A n c] W (fun e w' => e = .returned (.tuple #[.agg (headC headZ).toArray, .int .i64 21]) ∧ Below W.heap.size W w') by
    have := breadhead_any A b n c W hn (hA.out.after hW) hI (by omega)
    rw [hN] at this
    refine this.mono ?_
    rintro e w' ⟨b_, (⟨_, rfl⟩ | ⟨_, h, _⟩)⟩
    · exact ⟨rfl, b_⟩
    · exact absurd h (by simp)
  have hs0 := hideP (size_h97 headZ_ok.cells)
  have hC1 := hideP (headC_one headZ)
  have heq := fun W => show (binOp .eql 48 (.agg (headC headZ).toArray) (.agg Try.zeroCells48)).run Try.prog W = .ok (.bool true) W by
    have := run_eql_head headZ headZ headZ_ok headZ_ok W
    rw [eqH_refl] at this
    exact this
  obtain ⟨C0, hC0⟩ : ∃ C, C = headC headZ := ⟨_, rfl⟩
  have hso0 := hideP (show (headC headZ).toArray.size = C0.toArray.size by rw [hC0])
  rw [← hC0] at hRH hs0 hC1 heq
  have HEQ := hideP heq
  have hRH := hideP hRH
  clear hA0 hI hN hn heq hC0 h3
  have hBH := fun W => bhead_ok h hk hr W
  have hHR := fun W => rhr_any h hk W
  rw [hr] at hHR
  have hBS := fun W => bsum_ok h hk hr W
  have hRS := fun W => rhsum_any h hk W
  have hBP := fun W => bpre_ok h hk hr W
  have hRP := fun W => rhpre_any h hk W
  have hRd := fun W => rhead_any h hk W
  have hPR := fun W R d (hX : Arr W W.heap.size R 104 (u8s (headB h))) => show Calls Try.prog 37 #[.slice R 104 d] W (fun e w' => e = .returned (.tuple #[.agg (headC h).toArray, .int .i64 0]) ∧ Below W.heap.size W w') by
    have := breadhead_any R (headB h) 104 d W hk.len.symm hX hk.isB (by decide)
    rw [rHead_app h hk hr] at this
    refine this.mono ?_
    rintro e w' ⟨b_, (⟨h, _⟩ | ⟨m, h, rfl⟩)⟩
    · exact absurd h (by simp)
    · injection h with h
      subst h
      exact ⟨rfl, b_⟩
  have hDD := fun W => by have := run_neq_dge (tagD 66 (headB h)) (tagD 66 (headB h)) (by simp [tagD, dig]) (by simp [tagD, dig]) (isB_tagD 66 _) (isB_tagD 66 _) W; rwa [decide_eq_true rfl] at this
  have hEQ := fun W => by have := run_neq_head h h hk hk W; rwa [eqH_refl] at this
  have hs := hideP (size_h97 hk.cells)
  have hC1r := hideP (headC_one h)
  have hsor := hideP (show (headC headZ).toArray.size = (headC h).toArray.size by rw [List.size_toArray, List.size_toArray, hk.cells]; rfl)
  have hPB : IsB (preN 66 [headB h]) := isB_prePart (by decide) (isB_one1 hk.isB) _
  have hHl := hideP hk.len
  have hHB := hk.isB
  obtain ⟨DD, hD2⟩ : ∃ D, D = tagD 66 (headB h) := ⟨_, rfl⟩
  rw [← hD2] at hBS hRS hDD
  obtain ⟨P, hPP⟩ : ∃ D, D = preN 66 [headB h] := ⟨_, rfl⟩
  rw [← hPP] at hBP hRP hPB
  obtain ⟨HB, hHH⟩ : ∃ D, D = headB h := ⟨_, rfl⟩
  rw [← hHH] at hBH hRd hPR hHl hHB
  obtain ⟨C, hC⟩ : ∃ C, C = headC h := ⟨_, rfl⟩
  rw [← hC] at hBH hHR hBS hRS hBP hRP hRd hPR hEQ hs hC1r hsor ⊢
  have cvH := fun W R d (hX : Arr W W.heap.size R 104 (u8s HB)) => by have := run_str (P := Try.prog) W 31 5 Try.underlying31 Try.underlying5 (c := d) (show Arr W W.heap.size R HB.length (u8s HB) by rw [hHl.out]; exact hX) rfl 9 Try.underlying9; rwa [hHl.out] at this
  have cvP := fun W R d (hX : Arr W W.heap.size R P.length (u8s P)) => run_str (P := Try.prog) W 31 5 Try.underlying31 Try.underlying5 (c := d) hX rfl 9 Try.underlying9
  have hHS : ((bstr HB).toList == (bstr HB).toList) = true := by rw [bstr_beq hHB hHB]; exact decide_eq_true rfl
  have hPS : ((bstr P).toList == (bstr P).toList) = true := by rw [bstr_beq hPB hPB]; exact decide_eq_true rfl
  obtain ⟨SH, hSH⟩ : ∃ S, S = bstr HB := ⟨_, rfl⟩
  obtain ⟨SP, hSP⟩ : ∃ S, S = bstr P := ⟨_, rfl⟩
  rw [← hSH] at cvH hHS
  rw [← hSP] at cvP hPS
  have CVH := hideP cvH; have CVP := hideP cvP; have HHS := hideP hHS; have HPS := hideP hPS; have HEQ2 := hideP hEQ; have HDD := hideP hDD
  have GBH := hideP hBH; have GHR := hideP hHR; have GBS := hideP hBS; have GRS := hideP hRS; have GBP := hideP hBP; have GRP := hideP hRP; have GRd := hideP hRd; have GPR := hideP hPR
  clear hC hr hk hBH hHR hBS hRS hBP hRP hRd hPR hDD hEQ hPB hHB hD2 hPP hHH cvH cvP hHS hPS hSH hSP
  obtain ⟨v, hv⟩ : ∃ v, v = w.alloc (.cells C.toArray 48) := ⟨_, rfl⟩
  obtain ⟨z, hz⟩ : ∃ z, z = w.heap.size := ⟨_, rfl⟩
  have X1 := hideP (show Row v z 48 C by rw [hv, hz]; exact Row.new w 48 C)
  have B1 := hideP (show Below w.heap.size w v by rw [hv]; exact below_new _ _)
  go_enter Try.func8, Try.ntmps8
  go_upto_region 1 with fail
  rw [← hv, ← hz]
  clear hv hz
  go_upto_region 9 with (first
    | (go_at_call 12; refine (alive19_any _).mono ?_; rintro e w3 ⟨rfl, b_⟩; have B3 := hideP (bstep B1.out b_); have X3 := hideP (Row.after X1.out b_); clear b_)
    | (refine wpList_load_row rfl 48 (.tmp 2) rfl z rfl 48 C.toArray (0, 0) _ X3.out Try.underlying48 rfl hs.out ?_)
    | (refine wpList_load_row rfl 48 (.tmp 2) rfl z rfl 48 C.toArray (0, 0) _ X4.out Try.underlying48 rfl hs.out ?_)
    | (go_at_call 34; refine (GBH.out w3).mono ?_; rintro e w4 ⟨R4, d4, rfl, o_, b_⟩; have B4 := hideP (bstep B3.out b_); have X4 := hideP (Row.after X3.out b_); have O4 := hideP (show Arr w4 w4.heap.size R4 104 (u8s HB) by have := o_.arr; rwa [hHl.out] at this); clear b_ o_)
    | (go_at_call 27; refine (GHR.out w4).mono ?_; rintro e w5 ⟨rfl, b_⟩; have B5 := hideP (bstep B4.out b_); have X5 := hideP (Row.after X4.out b_); have O5 := hideP (O4.out.after b_); clear b_))
  go_upto_region 10 with (first
    | (go_at_call 37; refine (GPR.out w5 R4 d4 O5.out).mono ?_; rintro e w6 ⟨rfl, b_⟩; have B6 := hideP (bstep B5.out b_); have X6 := hideP (Row.after X5.out b_); have O6 := hideP (O5.out.after b_); clear b_)
    | (refine wpList_store_row rfl 48 (.tmp 7) (.tmp 46) rfl w6.heap.size C.toArray rfl rfl 48 (headC headZ).toArray (Row.new w6 48 (headC headZ)) hs.out hsor.out hC1r.out ?_))
  obtain ⟨u, hu⟩ : ∃ u, u = w6.heap.size := ⟨_, rfl⟩
  obtain ⟨v7, hv7⟩ : ∃ v, v = (w6.alloc (.cells Try.zeroCells48 48)).setRow u C.toArray := ⟨_, rfl⟩
  rw [← hu, ← hv7]
  have hb7 : Below w6.heap.size w6 v7 := by rw [hv7, hu]; exact below_setRow' (below_new w6 _) (Nat.le_refl _) _
  have Y7 := hideP (show Row v7 u 48 C by rw [hv7, hu]; exact Row.setRow (Row.new w6 48 (headC headZ)) C)
  have X7 := hideP (Row.after X6.out hb7)
  have O7 := hideP (O6.out.after hb7)
  have B7 := hideP (bstep B6.out hb7)
  clear hv7 hb7 hu X1 X3 X4 X5 X6 B1 B3 B4 B5 B6 O4 O5 O6 GBH GHR GPR
  have hd := HDD.out
  have hss := HHS.out
  have hpp := HPS.out
  have he := HEQ2.out
  refine wp_region_mut (S := fun _ => False) 35 (.q 0 (.q 1 (.q 2 (.q 3 (.q 4 (.q 5 (.l 6 (.q 7 (.q 8 (.q 9 (.q 10 (.q 11 (.q 12 (.q 13 (.q 14 (.q 15 (.q 16 (.q 17 (.q 18 (.q 19 (.q 20 (.q 22 (.l 21 (.l 23 (.q 24 (.q 25 (.q 26 (.q 27 (.q 30 (.l 28 (.q 29 (.l 31 (.q 32 (.q 33 (.q 34 .nil))))))))))))))))))))))))))))))))))) (by kernel_rfl) (by kernel_rfl) ?_
  simp only [pickT, nthO_zero, nthO_succ]
  have hdrew := (Ext.refl v7.drew).drew_left
  have E7 := hideP hdrew
  clear hdrew
  have cv7 := hideP (fun W (hW : Ext v7 W) => CVH.out W R4 d4 (O7.out.after hW.below))
  iterate 6 (first
    | (refine wpM_valK ?_ (fun K hK => ?_); (focus (rfl)); refine ⟨.agg C.toArray, fun W hW => exec_load_mid 48 (.tmp 2) ?_ z 0 ?_ C _ (Row.range (Row.ext X7.out (E7.out.trans (but_ext hW)))) Try.underlying48 rfl hs.out, ?_⟩; (focus (rfl)); (focus (rfl)); go_simp; refine hK _ ?_; clear hK K)
    | (refine wpM_valK ?_ (fun K hK => ?_); (focus (rfl)); refine ⟨.agg C.toArray, fun W hW => exec_load_mid 48 (.tmp 7) ?_ u 0 ?_ C _ (Row.range (Row.ext Y7.out (E7.out.trans (but_ext hW)))) Try.underlying48 rfl hs.out, ?_⟩; (focus (rfl)); (focus (rfl)); go_simp; refine hK _ ?_; clear hK K)
    | (refine wpM_valK ?_ (fun K hK => ?_); (focus (rfl)); apply Exists.intro; refine ⟨fun W hW => ?_, ?_⟩; (focus (have hs0 := cv7.out W (E7.out.trans (but_ext hW)); go_simp; (try rfl); done)); go_simp; refine hK _ ?_; clear hK K))
  refine wpM_loudS 38 #[.agg C.toArray] (by rfl) (fun W => by go_simp) (fun W hW => (GRd.out W).mono ?_)
  rintro e_ w8 ⟨R8, d8, rfl, o_, b_⟩
  refine ⟨_, rfl, But.of_below b_, fun K hK => ?_⟩
  go_simp
  refine hK _ ?_
  clear hK K
  have E8 := hideP (E7.out.trans (hW.trans (Ext.of_below b_)))
  have cv8 := hideP (fun W (hW : Ext w8 W) => CVH.out W R8 d8 (show Arr W W.heap.size R8 104 (u8s HB) by have := (o_.ext hW).arr; rwa [hHl.out] at this))
  clear o_ b_ hW
  iterate 15 (first
    | (refine wpM_valK ?_ (fun K hK => ?_); (focus (rfl)); refine ⟨.agg C.toArray, fun W hW => exec_load_mid 48 (.tmp 2) ?_ z 0 ?_ C _ (Row.range (Row.ext X7.out (E8.out.trans (but_ext hW)))) Try.underlying48 rfl hs.out, ?_⟩; (focus (rfl)); (focus (rfl)); go_simp; refine hK _ ?_; clear hK K)
    | (refine wpM_valK ?_ (fun K hK => ?_); (focus (rfl)); refine ⟨.agg C.toArray, fun W hW => exec_load_mid 48 (.tmp 7) ?_ u 0 ?_ C _ (Row.range (Row.ext Y7.out (E8.out.trans (but_ext hW)))) Try.underlying48 rfl hs.out, ?_⟩; (focus (rfl)); (focus (rfl)); go_simp; refine hK _ ?_; clear hK K)
    | (refine wpM_valK ?_ (fun K hK => ?_); (focus (rfl)); apply Exists.intro; refine ⟨fun W hW => ?_, ?_⟩; (focus (have hs0 := cv8.out W (but_ext hW); go_simp; (try rfl); done)); go_simp; refine hK _ ?_; clear hK K))
  refine wpM_loudS 35 #[.agg C.toArray] (by rfl) (fun W => by go_simp) (fun W hW => (GBS.out W).mono ?_)
  rintro e_ w9 ⟨rfl, b_⟩
  refine ⟨_, rfl, But.of_below b_, fun K hK => ?_⟩
  go_simp
  refine hK _ ?_
  clear hK K
  have E9 := hideP (E8.out.trans (hW.trans (Ext.of_below b_)))
  clear b_ hW
  refine wpM_loudS 39 #[.agg C.toArray] (by rfl) (fun W => by go_simp) (fun W hW => (GRS.out W).mono ?_)
  rintro e_ w10 ⟨rfl, b_⟩
  refine ⟨_, rfl, But.of_below b_, fun K hK => ?_⟩
  go_simp
  refine hK _ ?_
  clear hK K
  have E10 := hideP (E9.out.trans (hW.trans (Ext.of_below b_)))
  clear b_ hW
  iterate 5 (first
    | (refine wpM_valK ?_ (fun K hK => ?_); (focus (rfl)); refine ⟨.agg C.toArray, fun W hW => exec_load_mid 48 (.tmp 2) ?_ z 0 ?_ C _ (Row.range (Row.ext X7.out (E10.out.trans (but_ext hW)))) Try.underlying48 rfl hs.out, ?_⟩; (focus (rfl)); (focus (rfl)); go_simp; refine hK _ ?_; clear hK K)
    | (refine wpM_valK ?_ (fun K hK => ?_); (focus (rfl)); refine ⟨.agg C.toArray, fun W hW => exec_load_mid 48 (.tmp 7) ?_ u 0 ?_ C _ (Row.range (Row.ext Y7.out (E10.out.trans (but_ext hW)))) Try.underlying48 rfl hs.out, ?_⟩; (focus (rfl)); (focus (rfl)); go_simp; refine hK _ ?_; clear hK K)
    | (refine wpM_valK ?_ (fun K hK => ?_); (focus (rfl)); apply Exists.intro; refine ⟨fun W hW => ?_, ?_⟩; (focus (have hs0 := True.intro; go_simp; (try rfl); done)); go_simp; refine hK _ ?_; clear hK K))
  refine wpM_loudS 36 #[.agg C.toArray] (by rfl) (fun W => by go_simp) (fun W hW => (GBP.out W).mono ?_)
  rintro e_ w11 ⟨R11, d11, rfl, o_, b_⟩
  refine ⟨_, rfl, But.of_below b_, fun K hK => ?_⟩
  go_simp
  refine hK _ ?_
  clear hK K
  have E11 := hideP (E10.out.trans (hW.trans (Ext.of_below b_)))
  have cv11 := hideP (fun W (hW : Ext w11 W) => CVP.out W R11 d11 (o_.ext hW).arr)
  clear o_ b_ hW
  iterate 1 (first
    | (refine wpM_valK ?_ (fun K hK => ?_); (focus (rfl)); refine ⟨.agg C.toArray, fun W hW => exec_load_mid 48 (.tmp 2) ?_ z 0 ?_ C _ (Row.range (Row.ext X7.out (E11.out.trans (but_ext hW)))) Try.underlying48 rfl hs.out, ?_⟩; (focus (rfl)); (focus (rfl)); go_simp; refine hK _ ?_; clear hK K)
    | (refine wpM_valK ?_ (fun K hK => ?_); (focus (rfl)); refine ⟨.agg C.toArray, fun W hW => exec_load_mid 48 (.tmp 7) ?_ u 0 ?_ C _ (Row.range (Row.ext Y7.out (E11.out.trans (but_ext hW)))) Try.underlying48 rfl hs.out, ?_⟩; (focus (rfl)); (focus (rfl)); go_simp; refine hK _ ?_; clear hK K)
    | (refine wpM_valK ?_ (fun K hK => ?_); (focus (rfl)); apply Exists.intro; refine ⟨fun W hW => ?_, ?_⟩; (focus (have hs0 := cv11.out W (but_ext hW); go_simp; (try rfl); done)); go_simp; refine hK _ ?_; clear hK K))
  refine wpM_loudS 40 #[.agg C.toArray] (by rfl) (fun W => by go_simp) (fun W hW => (GRP.out W).mono ?_)
  rintro e_ w12 ⟨R12, d12, rfl, o_, b_⟩
  refine ⟨_, rfl, But.of_below b_, fun K hK => ?_⟩
  go_simp
  refine hK _ ?_
  clear hK K
  have E12 := hideP (E11.out.trans (hW.trans (Ext.of_below b_)))
  have cv12 := hideP (fun W (hW : Ext w12 W) => CVP.out W R12 d12 (o_.ext hW).arr)
  clear o_ b_ hW
  iterate 3 (first
    | (refine wpM_valK ?_ (fun K hK => ?_); (focus (rfl)); refine ⟨.agg C.toArray, fun W hW => exec_load_mid 48 (.tmp 2) ?_ z 0 ?_ C _ (Row.range (Row.ext X7.out (E12.out.trans (but_ext hW)))) Try.underlying48 rfl hs.out, ?_⟩; (focus (rfl)); (focus (rfl)); go_simp; refine hK _ ?_; clear hK K)
    | (refine wpM_valK ?_ (fun K hK => ?_); (focus (rfl)); refine ⟨.agg C.toArray, fun W hW => exec_load_mid 48 (.tmp 7) ?_ u 0 ?_ C _ (Row.range (Row.ext Y7.out (E12.out.trans (but_ext hW)))) Try.underlying48 rfl hs.out, ?_⟩; (focus (rfl)); (focus (rfl)); go_simp; refine hK _ ?_; clear hK K)
    | (refine wpM_valK ?_ (fun K hK => ?_); (focus (rfl)); apply Exists.intro; refine ⟨fun W hW => ?_, ?_⟩; (focus (have hs0 := cv12.out W (but_ext hW); go_simp; (try rfl); done)); go_simp; refine hK _ ?_; clear hK K))
  refine wpM_nil (fun W13 hW13 => ?_)
  simp only [List.drop_succ_cons, List.drop_zero, List.drop_nil]
  have B13 := hideP (below_ext B7.out (E12.out.trans hW13))
  clear hW13 hd hss hpp he X7 Y7 O7 E7 E8 E9 E10 E11 E12 cv7 cv8 cv11 cv12 B7 GBS GRS GBP GRP GRd
  go_upto_region 12 with fail
  go_upto_region 13 with (first
    | (go_at_call 37; refine (hRH.out W13 B13.out).mono ?_; rintro e w11 ⟨rfl, b_⟩; have B11 := hideP (bstep B13.out b_); clear b_)
    | (refine wpList_store_row rfl 48 (.tmp 9) (.tmp 86) rfl w11.heap.size C0.toArray rfl rfl 48 (headC headZ).toArray (Row.new w11 48 (headC headZ)) hs0.out hso0.out hC1.out ?_))
  obtain ⟨q, hq⟩ : ∃ u, u = w11.heap.size := ⟨_, rfl⟩
  obtain ⟨v12, hv12⟩ : ∃ v, v = (w11.alloc (.cells Try.zeroCells48 48)).setRow q C0.toArray := ⟨_, rfl⟩
  rw [← hq, ← hv12]
  have hb12 : Below w11.heap.size w11 v12 := by rw [hv12, hq]; exact below_setRow' (below_new w11 _) (Nat.le_refl _) _
  have Y12 := hideP (show Row v12 q 48 C0 by rw [hv12, hq]; exact Row.setRow (Row.new w11 48 (headC headZ)) C0)
  have B12 := hideP (bstep B11.out hb12)
  clear hv12 hb12 hq
  have heq := HEQ.out
  go_wp2_with fail
  refine wp_load_row 48 (.tmp 9) ?_ q ?_ 48 C0.toArray (0, 0) _ Y12.out Try.underlying48 ?_ hs0.out ?_
  iterate 3 (focus (rfl))
  go_wp2_with fail
  go_ret
  exact ⟨rfl, B12.out⟩
set_option maxRecDepth 100000 in
set_option maxHeartbeats 4000000 in
theorem blockheads_d (h k : HeadD) (A : Option Addr) (b : List Nat) (n c : Nat) (w : World) (hk : HeadOk h) (hn : n = b.length) (hA0 : Arr w w.heap.size A n (u8s b)) (hI : IsB b) (h3 : n ≤ 300) (hr : headR h = true) (hN : rHead b = some k) :
    Calls Try.prog 8 #[.agg (headC h).toArray, .slice A n c] w fun e w' => e = .returned (.bool true) ∧ Below w.heap.size w w' := by
  have h3' : decide ((300 : Int) < (n : Int)) = false := by simp; omega
  have hA := hideP hA0
  obtain ⟨hbk, hkk, hrk⟩ := rHead_inv hI hN
  have hRH := fun W (hW : Below w.heap.size w W) => show Calls Try.prog 37 #[.slice A n c] W (fun e w' => e = .returned (.tuple #[.agg (headC k).toArray, .int .i64 0]) ∧ Below W.heap.size W w') by
    have := breadhead_any A b n c W hn (hA.out.after hW) hI (by omega)
    rw [hN] at this
    refine this.mono ?_
    rintro e w' ⟨b_, (⟨h, _⟩ | ⟨m, h, rfl⟩)⟩
    · exact absurd h (by simp)
    · injection h with h
      subst h
      exact ⟨rfl, b_⟩
  have hn4 : b.length = 104 := by rw [hbk]; exact hkk.len
  have hDHR := fun W => rhr_any k hkk W
  rw [hrk] at hDHR
  have hDRd := fun W => rhead_any k hkk W
  rw [← hbk] at hDRd
  have hsD := size_h97 hkk.cells
  have hC1D := headC_one k
  have hsoD : (headC headZ).toArray.size = (headC k).toArray.size := by rw [List.size_toArray, List.size_toArray, hkk.cells]; rfl
  have cvA := fun W (hW : Below w.heap.size w W) => by have := run_str (P := Try.prog) W 31 5 Try.underlying31 Try.underlying5 (c := c) (show Arr W W.heap.size A b.length (u8s b) by rw [← hn]; exact hA.out.after hW) rfl 9 Try.underlying9; rwa [← hn] at this
  have cvD := fun W R d (hX : Arr W W.heap.size R b.length (u8s b)) => by have := run_str (P := Try.prog) W 31 5 Try.underlying31 Try.underlying5 (c := d) hX rfl 9 Try.underlying9; rwa [hn4] at this
  have hDS : ((bstr b).toList == (bstr b).toList) = true := by rw [bstr_beq hI hI]; exact decide_eq_true rfl
  obtain ⟨SB, hSB⟩ : ∃ S, S = bstr b := ⟨_, rfl⟩
  rw [← hSB] at cvA cvD hDS
  obtain ⟨D, hD⟩ : ∃ C, C = headC k := ⟨_, rfl⟩
  rw [← hD] at hRH hDHR hDRd hsD hC1D hsoD
  have hRH := hideP hRH; have DHR := hideP hDHR; have DRd := hideP hDRd; have hsD := hideP hsD; have hC1D := hideP hC1D; have hsoD := hideP hsoD; have CVA := hideP cvA; have CVD := hideP cvD; have HDS := hideP hDS
  clear hA0 hI hN hn hbk hkk hrk hn4 hDHR hDRd cvA cvD hDS hSB hD h3
  have hBH := fun W => bhead_ok h hk hr W
  have hHR := fun W => rhr_any h hk W
  rw [hr] at hHR
  have hBS := fun W => bsum_ok h hk hr W
  have hRS := fun W => rhsum_any h hk W
  have hBP := fun W => bpre_ok h hk hr W
  have hRP := fun W => rhpre_any h hk W
  have hRd := fun W => rhead_any h hk W
  have hPR := fun W R d (hX : Arr W W.heap.size R 104 (u8s (headB h))) => show Calls Try.prog 37 #[.slice R 104 d] W (fun e w' => e = .returned (.tuple #[.agg (headC h).toArray, .int .i64 0]) ∧ Below W.heap.size W w') by
    have := breadhead_any R (headB h) 104 d W hk.len.symm hX hk.isB (by decide)
    rw [rHead_app h hk hr] at this
    refine this.mono ?_
    rintro e w' ⟨b_, (⟨h, _⟩ | ⟨m, h, rfl⟩)⟩
    · exact absurd h (by simp)
    · injection h with h
      subst h
      exact ⟨rfl, b_⟩
  have hDD := fun W => by have := run_neq_dge (tagD 66 (headB h)) (tagD 66 (headB h)) (by simp [tagD, dig]) (by simp [tagD, dig]) (isB_tagD 66 _) (isB_tagD 66 _) W; rwa [decide_eq_true rfl] at this
  have hEQ := fun W => by have := run_neq_head h h hk hk W; rwa [eqH_refl] at this
  have hs := hideP (size_h97 hk.cells)
  have hC1r := hideP (headC_one h)
  have hsor := hideP (show (headC headZ).toArray.size = (headC h).toArray.size by rw [List.size_toArray, List.size_toArray, hk.cells]; rfl)
  have hPB : IsB (preN 66 [headB h]) := isB_prePart (by decide) (isB_one1 hk.isB) _
  have hHl := hideP hk.len
  have hHB := hk.isB
  obtain ⟨DD, hD2⟩ : ∃ D, D = tagD 66 (headB h) := ⟨_, rfl⟩
  rw [← hD2] at hBS hRS hDD
  obtain ⟨P, hPP⟩ : ∃ D, D = preN 66 [headB h] := ⟨_, rfl⟩
  rw [← hPP] at hBP hRP hPB
  obtain ⟨HB, hHH⟩ : ∃ D, D = headB h := ⟨_, rfl⟩
  rw [← hHH] at hBH hRd hPR hHl hHB
  obtain ⟨C, hC⟩ : ∃ C, C = headC h := ⟨_, rfl⟩
  rw [← hC] at hBH hHR hBS hRS hBP hRP hRd hPR hEQ hs hC1r hsor ⊢
  have cvH := fun W R d (hX : Arr W W.heap.size R 104 (u8s HB)) => by have := run_str (P := Try.prog) W 31 5 Try.underlying31 Try.underlying5 (c := d) (show Arr W W.heap.size R HB.length (u8s HB) by rw [hHl.out]; exact hX) rfl 9 Try.underlying9; rwa [hHl.out] at this
  have cvP := fun W R d (hX : Arr W W.heap.size R P.length (u8s P)) => run_str (P := Try.prog) W 31 5 Try.underlying31 Try.underlying5 (c := d) hX rfl 9 Try.underlying9
  have hHS : ((bstr HB).toList == (bstr HB).toList) = true := by rw [bstr_beq hHB hHB]; exact decide_eq_true rfl
  have hPS : ((bstr P).toList == (bstr P).toList) = true := by rw [bstr_beq hPB hPB]; exact decide_eq_true rfl
  obtain ⟨SH, hSH⟩ : ∃ S, S = bstr HB := ⟨_, rfl⟩
  obtain ⟨SP, hSP⟩ : ∃ S, S = bstr P := ⟨_, rfl⟩
  rw [← hSH] at cvH hHS
  rw [← hSP] at cvP hPS
  have CVH := hideP cvH; have CVP := hideP cvP; have HHS := hideP hHS; have HPS := hideP hPS; have HEQ2 := hideP hEQ; have HDD := hideP hDD
  have GBH := hideP hBH; have GHR := hideP hHR; have GBS := hideP hBS; have GRS := hideP hRS; have GBP := hideP hBP; have GRP := hideP hRP; have GRd := hideP hRd; have GPR := hideP hPR
  clear hC hr hk hBH hHR hBS hRS hBP hRP hRd hPR hDD hEQ hPB hHB hD2 hPP hHH cvH cvP hHS hPS hSH hSP
  obtain ⟨v, hv⟩ : ∃ v, v = w.alloc (.cells C.toArray 48) := ⟨_, rfl⟩
  obtain ⟨z, hz⟩ : ∃ z, z = w.heap.size := ⟨_, rfl⟩
  have X1 := hideP (show Row v z 48 C by rw [hv, hz]; exact Row.new w 48 C)
  have B1 := hideP (show Below w.heap.size w v by rw [hv]; exact below_new _ _)
  go_enter Try.func8, Try.ntmps8
  go_upto_region 1 with fail
  rw [← hv, ← hz]
  clear hv hz
  go_upto_region 9 with (first
    | (go_at_call 12; refine (alive19_any _).mono ?_; rintro e w3 ⟨rfl, b_⟩; have B3 := hideP (bstep B1.out b_); have X3 := hideP (Row.after X1.out b_); clear b_)
    | (refine wpList_load_row rfl 48 (.tmp 2) rfl z rfl 48 C.toArray (0, 0) _ X3.out Try.underlying48 rfl hs.out ?_)
    | (refine wpList_load_row rfl 48 (.tmp 2) rfl z rfl 48 C.toArray (0, 0) _ X4.out Try.underlying48 rfl hs.out ?_)
    | (go_at_call 34; refine (GBH.out w3).mono ?_; rintro e w4 ⟨R4, d4, rfl, o_, b_⟩; have B4 := hideP (bstep B3.out b_); have X4 := hideP (Row.after X3.out b_); have O4 := hideP (show Arr w4 w4.heap.size R4 104 (u8s HB) by have := o_.arr; rwa [hHl.out] at this); clear b_ o_)
    | (go_at_call 27; refine (GHR.out w4).mono ?_; rintro e w5 ⟨rfl, b_⟩; have B5 := hideP (bstep B4.out b_); have X5 := hideP (Row.after X4.out b_); have O5 := hideP (O4.out.after b_); clear b_))
  go_upto_region 10 with (first
    | (go_at_call 37; refine (GPR.out w5 R4 d4 O5.out).mono ?_; rintro e w6 ⟨rfl, b_⟩; have B6 := hideP (bstep B5.out b_); have X6 := hideP (Row.after X5.out b_); have O6 := hideP (O5.out.after b_); clear b_)
    | (refine wpList_store_row rfl 48 (.tmp 7) (.tmp 46) rfl w6.heap.size C.toArray rfl rfl 48 (headC headZ).toArray (Row.new w6 48 (headC headZ)) hs.out hsor.out hC1r.out ?_))
  obtain ⟨u, hu⟩ : ∃ u, u = w6.heap.size := ⟨_, rfl⟩
  obtain ⟨v7, hv7⟩ : ∃ v, v = (w6.alloc (.cells Try.zeroCells48 48)).setRow u C.toArray := ⟨_, rfl⟩
  rw [← hu, ← hv7]
  have hb7 : Below w6.heap.size w6 v7 := by rw [hv7, hu]; exact below_setRow' (below_new w6 _) (Nat.le_refl _) _
  have Y7 := hideP (show Row v7 u 48 C by rw [hv7, hu]; exact Row.setRow (Row.new w6 48 (headC headZ)) C)
  have X7 := hideP (Row.after X6.out hb7)
  have O7 := hideP (O6.out.after hb7)
  have B7 := hideP (bstep B6.out hb7)
  clear hv7 hb7 hu X1 X3 X4 X5 X6 B1 B3 B4 B5 B6 O4 O5 O6 GBH GHR GPR
  have hd := HDD.out
  have hss := HHS.out
  have hpp := HPS.out
  have he := HEQ2.out
  refine wp_region_mut (S := fun _ => False) 35 (.q 0 (.q 1 (.q 2 (.q 3 (.q 4 (.q 5 (.l 6 (.q 7 (.q 8 (.q 9 (.q 10 (.q 11 (.q 12 (.q 13 (.q 14 (.q 15 (.q 16 (.q 17 (.q 18 (.q 19 (.q 20 (.q 22 (.l 21 (.l 23 (.q 24 (.q 25 (.q 26 (.q 27 (.q 30 (.l 28 (.q 29 (.l 31 (.q 32 (.q 33 (.q 34 .nil))))))))))))))))))))))))))))))))))) (by kernel_rfl) (by kernel_rfl) ?_
  simp only [pickT, nthO_zero, nthO_succ]
  have hdrew := (Ext.refl v7.drew).drew_left
  have E7 := hideP hdrew
  clear hdrew
  have cv7 := hideP (fun W (hW : Ext v7 W) => CVH.out W R4 d4 (O7.out.after hW.below))
  iterate 6 (first
    | (refine wpM_valK ?_ (fun K hK => ?_); (focus (rfl)); refine ⟨.agg C.toArray, fun W hW => exec_load_mid 48 (.tmp 2) ?_ z 0 ?_ C _ (Row.range (Row.ext X7.out (E7.out.trans (but_ext hW)))) Try.underlying48 rfl hs.out, ?_⟩; (focus (rfl)); (focus (rfl)); go_simp; refine hK _ ?_; clear hK K)
    | (refine wpM_valK ?_ (fun K hK => ?_); (focus (rfl)); refine ⟨.agg C.toArray, fun W hW => exec_load_mid 48 (.tmp 7) ?_ u 0 ?_ C _ (Row.range (Row.ext Y7.out (E7.out.trans (but_ext hW)))) Try.underlying48 rfl hs.out, ?_⟩; (focus (rfl)); (focus (rfl)); go_simp; refine hK _ ?_; clear hK K)
    | (refine wpM_valK ?_ (fun K hK => ?_); (focus (rfl)); apply Exists.intro; refine ⟨fun W hW => ?_, ?_⟩; (focus (have hs0 := cv7.out W (E7.out.trans (but_ext hW)); go_simp; (try rfl); done)); go_simp; refine hK _ ?_; clear hK K))
  refine wpM_loudS 38 #[.agg C.toArray] (by rfl) (fun W => by go_simp) (fun W hW => (GRd.out W).mono ?_)
  rintro e_ w8 ⟨R8, d8, rfl, o_, b_⟩
  refine ⟨_, rfl, But.of_below b_, fun K hK => ?_⟩
  go_simp
  refine hK _ ?_
  clear hK K
  have E8 := hideP (E7.out.trans (hW.trans (Ext.of_below b_)))
  have cv8 := hideP (fun W (hW : Ext w8 W) => CVH.out W R8 d8 (show Arr W W.heap.size R8 104 (u8s HB) by have := (o_.ext hW).arr; rwa [hHl.out] at this))
  clear o_ b_ hW
  iterate 15 (first
    | (refine wpM_valK ?_ (fun K hK => ?_); (focus (rfl)); refine ⟨.agg C.toArray, fun W hW => exec_load_mid 48 (.tmp 2) ?_ z 0 ?_ C _ (Row.range (Row.ext X7.out (E8.out.trans (but_ext hW)))) Try.underlying48 rfl hs.out, ?_⟩; (focus (rfl)); (focus (rfl)); go_simp; refine hK _ ?_; clear hK K)
    | (refine wpM_valK ?_ (fun K hK => ?_); (focus (rfl)); refine ⟨.agg C.toArray, fun W hW => exec_load_mid 48 (.tmp 7) ?_ u 0 ?_ C _ (Row.range (Row.ext Y7.out (E8.out.trans (but_ext hW)))) Try.underlying48 rfl hs.out, ?_⟩; (focus (rfl)); (focus (rfl)); go_simp; refine hK _ ?_; clear hK K)
    | (refine wpM_valK ?_ (fun K hK => ?_); (focus (rfl)); apply Exists.intro; refine ⟨fun W hW => ?_, ?_⟩; (focus (have hs0 := cv8.out W (but_ext hW); go_simp; (try rfl); done)); go_simp; refine hK _ ?_; clear hK K))
  refine wpM_loudS 35 #[.agg C.toArray] (by rfl) (fun W => by go_simp) (fun W hW => (GBS.out W).mono ?_)
  rintro e_ w9 ⟨rfl, b_⟩
  refine ⟨_, rfl, But.of_below b_, fun K hK => ?_⟩
  go_simp
  refine hK _ ?_
  clear hK K
  have E9 := hideP (E8.out.trans (hW.trans (Ext.of_below b_)))
  clear b_ hW
  refine wpM_loudS 39 #[.agg C.toArray] (by rfl) (fun W => by go_simp) (fun W hW => (GRS.out W).mono ?_)
  rintro e_ w10 ⟨rfl, b_⟩
  refine ⟨_, rfl, But.of_below b_, fun K hK => ?_⟩
  go_simp
  refine hK _ ?_
  clear hK K
  have E10 := hideP (E9.out.trans (hW.trans (Ext.of_below b_)))
  clear b_ hW
  iterate 5 (first
    | (refine wpM_valK ?_ (fun K hK => ?_); (focus (rfl)); refine ⟨.agg C.toArray, fun W hW => exec_load_mid 48 (.tmp 2) ?_ z 0 ?_ C _ (Row.range (Row.ext X7.out (E10.out.trans (but_ext hW)))) Try.underlying48 rfl hs.out, ?_⟩; (focus (rfl)); (focus (rfl)); go_simp; refine hK _ ?_; clear hK K)
    | (refine wpM_valK ?_ (fun K hK => ?_); (focus (rfl)); refine ⟨.agg C.toArray, fun W hW => exec_load_mid 48 (.tmp 7) ?_ u 0 ?_ C _ (Row.range (Row.ext Y7.out (E10.out.trans (but_ext hW)))) Try.underlying48 rfl hs.out, ?_⟩; (focus (rfl)); (focus (rfl)); go_simp; refine hK _ ?_; clear hK K)
    | (refine wpM_valK ?_ (fun K hK => ?_); (focus (rfl)); apply Exists.intro; refine ⟨fun W hW => ?_, ?_⟩; (focus (have hs0 := True.intro; go_simp; (try rfl); done)); go_simp; refine hK _ ?_; clear hK K))
  refine wpM_loudS 36 #[.agg C.toArray] (by rfl) (fun W => by go_simp) (fun W hW => (GBP.out W).mono ?_)
  rintro e_ w11 ⟨R11, d11, rfl, o_, b_⟩
  refine ⟨_, rfl, But.of_below b_, fun K hK => ?_⟩
  go_simp
  refine hK _ ?_
  clear hK K
  have E11 := hideP (E10.out.trans (hW.trans (Ext.of_below b_)))
  have cv11 := hideP (fun W (hW : Ext w11 W) => CVP.out W R11 d11 (o_.ext hW).arr)
  clear o_ b_ hW
  iterate 1 (first
    | (refine wpM_valK ?_ (fun K hK => ?_); (focus (rfl)); refine ⟨.agg C.toArray, fun W hW => exec_load_mid 48 (.tmp 2) ?_ z 0 ?_ C _ (Row.range (Row.ext X7.out (E11.out.trans (but_ext hW)))) Try.underlying48 rfl hs.out, ?_⟩; (focus (rfl)); (focus (rfl)); go_simp; refine hK _ ?_; clear hK K)
    | (refine wpM_valK ?_ (fun K hK => ?_); (focus (rfl)); refine ⟨.agg C.toArray, fun W hW => exec_load_mid 48 (.tmp 7) ?_ u 0 ?_ C _ (Row.range (Row.ext Y7.out (E11.out.trans (but_ext hW)))) Try.underlying48 rfl hs.out, ?_⟩; (focus (rfl)); (focus (rfl)); go_simp; refine hK _ ?_; clear hK K)
    | (refine wpM_valK ?_ (fun K hK => ?_); (focus (rfl)); apply Exists.intro; refine ⟨fun W hW => ?_, ?_⟩; (focus (have hs0 := cv11.out W (but_ext hW); go_simp; (try rfl); done)); go_simp; refine hK _ ?_; clear hK K))
  refine wpM_loudS 40 #[.agg C.toArray] (by rfl) (fun W => by go_simp) (fun W hW => (GRP.out W).mono ?_)
  rintro e_ w12 ⟨R12, d12, rfl, o_, b_⟩
  refine ⟨_, rfl, But.of_below b_, fun K hK => ?_⟩
  go_simp
  refine hK _ ?_
  clear hK K
  have E12 := hideP (E11.out.trans (hW.trans (Ext.of_below b_)))
  have cv12 := hideP (fun W (hW : Ext w12 W) => CVP.out W R12 d12 (o_.ext hW).arr)
  clear o_ b_ hW
  iterate 3 (first
    | (refine wpM_valK ?_ (fun K hK => ?_); (focus (rfl)); refine ⟨.agg C.toArray, fun W hW => exec_load_mid 48 (.tmp 2) ?_ z 0 ?_ C _ (Row.range (Row.ext X7.out (E12.out.trans (but_ext hW)))) Try.underlying48 rfl hs.out, ?_⟩; (focus (rfl)); (focus (rfl)); go_simp; refine hK _ ?_; clear hK K)
    | (refine wpM_valK ?_ (fun K hK => ?_); (focus (rfl)); refine ⟨.agg C.toArray, fun W hW => exec_load_mid 48 (.tmp 7) ?_ u 0 ?_ C _ (Row.range (Row.ext Y7.out (E12.out.trans (but_ext hW)))) Try.underlying48 rfl hs.out, ?_⟩; (focus (rfl)); (focus (rfl)); go_simp; refine hK _ ?_; clear hK K)
    | (refine wpM_valK ?_ (fun K hK => ?_); (focus (rfl)); apply Exists.intro; refine ⟨fun W hW => ?_, ?_⟩; (focus (have hs0 := cv12.out W (but_ext hW); go_simp; (try rfl); done)); go_simp; refine hK _ ?_; clear hK K))
  refine wpM_nil (fun W13 hW13 => ?_)
  simp only [List.drop_succ_cons, List.drop_zero, List.drop_nil]
  have B13 := hideP (below_ext B7.out (E12.out.trans hW13))
  clear hW13 hd hss hpp he X7 Y7 O7 E7 E8 E9 E10 E11 E12 cv7 cv8 cv11 cv12 B7 GBS GRS GBP GRP GRd
  go_upto_region 12 with fail
  go_upto_region 15 with (first
    | (go_at_call 37; refine (hRH.out W13 B13.out).mono ?_; rintro e w21 ⟨rfl, b_⟩; have B21 := hideP (bstep B13.out b_); clear b_)
    | (refine wpList_store_row rfl 48 (.tmp 9) (.tmp 86) rfl w21.heap.size D.toArray rfl rfl 48 (headC headZ).toArray (Row.new w21 48 (headC headZ)) hsD.out hsoD.out hC1D.out ?_))
  obtain ⟨q, hq⟩ : ∃ u, u = w21.heap.size := ⟨_, rfl⟩
  obtain ⟨v22, hv22⟩ : ∃ v, v = (w21.alloc (.cells Try.zeroCells48 48)).setRow q D.toArray := ⟨_, rfl⟩
  rw [← hq, ← hv22]
  have hb22 : Below w21.heap.size w21 v22 := by rw [hv22, hq]; exact below_setRow' (below_new w21 _) (Nat.le_refl _) _
  have Y22 := hideP (show Row v22 q 48 D by rw [hv22, hq]; exact Row.setRow (Row.new w21 48 (headC headZ)) D)
  have B22 := hideP (bstep B21.out hb22)
  clear hv22 hb22 hq
  have hsd := HDS.out
  refine wp_region_mut (S := fun _ => False) 10 (.q 0 (.l 1 (.q 2 (.q 3 (.q 6 (.q 7 (.l 4 (.q 5 (.q 8 (.q 9 .nil)))))))))) (by kernel_rfl) (by kernel_rfl) ?_
  simp only [pickT, nthO_zero, nthO_succ]
  have hdrew := (Ext.refl v22.drew).drew_left
  have E22 := hideP hdrew
  clear hdrew
  iterate 1 (first
    | (refine wpM_valK ?_ (fun K hK => ?_); (focus (rfl)); refine ⟨.agg D.toArray, fun W hW => exec_load_mid 48 (.tmp 9) ?_ q 0 ?_ D _ (Row.range (Row.ext Y22.out (E22.out.trans (but_ext hW)))) Try.underlying48 rfl hsD.out, ?_⟩; (focus (rfl)); (focus (rfl)); go_simp; refine hK _ ?_; clear hK K)
    | (refine wpM_valK ?_ (fun K hK => ?_); (focus (rfl)); refine ⟨.agg D.toArray, fun W hW => exec_load_mid 48 (.tmp 9) ?_ q 0 ?_ D _ (Row.range (Row.ext Y22.out (E22.out.trans (but_ext hW)))) Try.underlying48 rfl hsD.out, ?_⟩; (focus (rfl)); (focus (rfl)); go_simp; refine hK _ ?_; clear hK K)
    | (refine wpM_valK ?_ (fun K hK => ?_); (focus (rfl)); apply Exists.intro; refine ⟨fun W hW => ?_, ?_⟩; (focus (have hs0 := True.intro; go_simp; (try rfl); done)); go_simp; refine hK _ ?_; clear hK K))
  refine wpM_loudS 27 #[.agg D.toArray] (by rfl) (fun W => by go_simp) (fun W hW => (DHR.out W).mono ?_)
  rintro e_ w23 ⟨rfl, b_⟩
  refine ⟨_, rfl, But.of_below b_, fun K hK => ?_⟩
  go_simp
  refine hK _ ?_
  clear hK K
  have E23 := hideP (E22.out.trans (hW.trans (Ext.of_below b_)))
  clear b_ hW
  have cvA := hideP (fun W (hW : Ext w23 W) => CVA.out W (below_ext B22.out (E23.out.trans hW)))
  iterate 4 (first
    | (refine wpM_valK ?_ (fun K hK => ?_); (focus (rfl)); refine ⟨.agg D.toArray, fun W hW => exec_load_mid 48 (.tmp 9) ?_ q 0 ?_ D _ (Row.range (Row.ext Y22.out (E23.out.trans (but_ext hW)))) Try.underlying48 rfl hsD.out, ?_⟩; (focus (rfl)); (focus (rfl)); go_simp; refine hK _ ?_; clear hK K)
    | (refine wpM_valK ?_ (fun K hK => ?_); (focus (rfl)); refine ⟨.agg D.toArray, fun W hW => exec_load_mid 48 (.tmp 9) ?_ q 0 ?_ D _ (Row.range (Row.ext Y22.out (E23.out.trans (but_ext hW)))) Try.underlying48 rfl hsD.out, ?_⟩; (focus (rfl)); (focus (rfl)); go_simp; refine hK _ ?_; clear hK K)
    | (refine wpM_valK ?_ (fun K hK => ?_); (focus (rfl)); apply Exists.intro; refine ⟨fun W hW => ?_, ?_⟩; (focus (have hs0 := cvA.out W (but_ext hW); go_simp; (try rfl); done)); go_simp; refine hK _ ?_; clear hK K))
  refine wpM_loudS 38 #[.agg D.toArray] (by rfl) (fun W => by go_simp) (fun W hW => (DRd.out W).mono ?_)
  rintro e_ w24 ⟨R24, d24, rfl, o_, b_⟩
  refine ⟨_, rfl, But.of_below b_, fun K hK => ?_⟩
  go_simp
  refine hK _ ?_
  clear hK K
  have E24 := hideP (E23.out.trans (hW.trans (Ext.of_below b_)))
  have cv24 := hideP (fun W (hW : Ext w24 W) => CVD.out W R24 d24 (o_.ext hW).arr)
  clear o_ b_ hW
  iterate 3 (first
    | (refine wpM_valK ?_ (fun K hK => ?_); (focus (rfl)); refine ⟨.agg D.toArray, fun W hW => exec_load_mid 48 (.tmp 9) ?_ q 0 ?_ D _ (Row.range (Row.ext Y22.out (E24.out.trans (but_ext hW)))) Try.underlying48 rfl hsD.out, ?_⟩; (focus (rfl)); (focus (rfl)); go_simp; refine hK _ ?_; clear hK K)
    | (refine wpM_valK ?_ (fun K hK => ?_); (focus (rfl)); refine ⟨.agg D.toArray, fun W hW => exec_load_mid 48 (.tmp 9) ?_ q 0 ?_ D _ (Row.range (Row.ext Y22.out (E24.out.trans (but_ext hW)))) Try.underlying48 rfl hsD.out, ?_⟩; (focus (rfl)); (focus (rfl)); go_simp; refine hK _ ?_; clear hK K)
    | (refine wpM_valK ?_ (fun K hK => ?_); (focus (rfl)); apply Exists.intro; refine ⟨fun W hW => ?_, ?_⟩; (focus (have hs0 := cv24.out W (but_ext hW); go_simp; (try rfl); done)); go_simp; refine hK _ ?_; clear hK K))
  refine wpM_nil (fun W25 hW25 => ?_)
  simp only [List.drop_succ_cons, List.drop_zero, List.drop_nil]
  have B25 := hideP (below_ext B22.out (E24.out.trans hW25))
  clear hW25
  go_wp2_with fail
  go_ret
  exact ⟨rfl, B25.out⟩
set_option maxRecDepth 100000 in
set_option maxHeartbeats 4000000 in
theorem walk_BlockHeads (h : HeadD) (A : Option Addr) (b : List Nat) (c : Nat) (w : World) (hk : HeadOk h) (hA : Arr w w.heap.size A b.length (u8s b)) (hI : IsB b) (hn : b.length ≤ 140737488351232) :
    Calls Try.prog 8 #[.agg (headC h).toArray, .slice A b.length c] w fun e w' => e = .returned (.bool true) ∧ Below w.heap.size w w' := by
  by_cases h3 : b.length ≤ 300
  · rcases hN : rHead b with _ | k
    · rcases hr : headR h with _ | _
      · exact blockheads_a h A b b.length c w hk rfl hA hI h3 hr hN
      · exact blockheads_c h A b b.length c w hk rfl hA hI h3 hr hN
    · rcases hr : headR h with _ | _
      · exact blockheads_b h k A b b.length c w hk rfl hA hI h3 hr hN
      · exact blockheads_d h k A b b.length c w hk rfl hA hI h3 hr hN
  · have h3' : (300 : Int) < (b.length : Int) := by omega
    clear hA hI hn h3 hk
    obtain ⟨C, hC⟩ : ∃ C, C = headC h := ⟨_, rfl⟩
    rw [← hC]
    obtain ⟨n, hn⟩ : ∃ n, n = b.length := ⟨_, rfl⟩
    rw [← hn] at h3' ⊢
    clear hC hn
    obtain ⟨v, hv⟩ : ∃ v, v = w.alloc (.cells C.toArray 48) := ⟨_, rfl⟩
    obtain ⟨z, hz⟩ : ∃ z, z = w.heap.size := ⟨_, rfl⟩
    have X1 := hideP (show Row v z 48 C by rw [hv, hz]; exact Row.new w 48 C)
    have B1 := hideP (show Below w.heap.size w v by rw [hv]; exact below_new _ _)
    go_enter Try.func8, Try.ntmps8
    go_upto_region 1 with fail
    rw [← hv, ← hz]
    clear hv hz
    go_wp2_with (go_at_call 12; refine (alive19_any _).mono ?_; rintro e w3 ⟨rfl, b_⟩; have B3 := hideP (bstep B1.out b_); clear b_)
    go_ret
    exact ⟨rfl, B3.out⟩
end Go.Proofs.Ytiicdnbhphgieaa
