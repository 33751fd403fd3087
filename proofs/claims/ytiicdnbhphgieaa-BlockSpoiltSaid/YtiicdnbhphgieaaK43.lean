/- Openings compared; the walk of BlockDigests. -/
import Derived.Test.YtiicdnbhphgieaaK36
import Derived.Test.YtiicdnbhphgieaaK42
set_option linter.unusedVariables false
set_option linter.unusedSimpArgs false
namespace Go.Proofs.Ytiicdnbhphgieaa
open Go.RowKit
def eqO (h k : OpenD) : Bool := decide (h.blocks = k.blocks) && (decide (h.hist = k.hist) && decide (h.head = k.head))
theorem eqO_iff (h k : OpenD) : eqO h k = true ↔ h = k := by
  simp only [eqO, Bool.and_eq_true, decide_eq_true_eq]
  constructor
  · rintro ⟨a, b, c⟩; cases h; cases k; simp_all
  · rintro rfl; exact ⟨rfl, rfl, rfl⟩
theorem part_num0 (w : World) (xs : Array Value) (v : Value) (h : xs[0]? = some v) : (part 3 xs 0).run Try.prog w = .ok v w := by
  have hi : (isAgg 3).run Try.prog w = .ok false w := by kernel_rfl
  unfold part
  simp only [Sem.run_bind, hi, Result.andThen_ok, Bool.false_eq_true, if_false, h, Sem.run_pure]
theorem run_equalIn_open (d : Nat) (h k : OpenD) (a : OpenOk h) (b : OpenOk k) (w : World) :
    (Op.equalIn (d + 3) 57 (.agg (openC h).toArray) (.agg (openC k).toArray)).run Try.prog w = .ok (eqO h k) w := by
  have ht : Try.prog.underlying 57 = some (.struct (Try.prog.fieldsOf 57)) := by kernel_rfl
  rw [run_equalIn_struct w (d + 2) 57 _ _ ht (by kernel_rfl)]
  have p0 := fun (x : OpenD) (k : OpenOk x) => part_num0 w (openC x).toArray (.int .i64 x.blocks) rfl
  have p1 := fun (x : OpenD) (k : OpenOk x) => part_row w (openC x).toArray 1 [.int .i64 x.blocks] (x.hist.map b8) (x.head.map b8) (by simp [openC]) rfl (by simp [k.h])
  have p2 := fun (x : OpenD) (k : OpenOk x) => part_row w (openC x).toArray 33 (.int .i64 x.blocks :: x.hist.map b8) (x.head.map b8) [] (by simp [openC]) (by simp [k.h]) (by simp [k.d])
  have e0 : (Op.equalIn (d + 2) 3 (.int .i64 h.blocks) (.int .i64 k.blocks)).run Try.prog w = .ok (decide (h.blocks = k.blocks)) w := (run_equalIn_int (P := Try.prog) w (d + 1) 3 .i64 .i64 h.blocks k.blocks Try.underlying3)
  have e1 := run_equalIn_dg d h.hist k.hist a.h b.h a.hB b.hB w
  have e2 := run_equalIn_dg d h.head k.head a.d b.d a.dB b.dB w
  simp only [Program.fieldsOf, Try.underlying57]
  exact eqF_cons (by decide) (p0 h a) (p0 k b) e0 (eqF_cons (by decide) (p1 h a) (p1 k b) e1 (eqF_last (by decide) (p2 h a) (p2 k b) e2))
theorem run_eql_open (h k : OpenD) (a : OpenOk h) (b : OpenOk k) (w : World) : (binOp .eql 57 (.agg (openC h).toArray) (.agg (openC k).toArray)).run Try.prog w = .ok (.bool (eqO h k)) w := by
  rw [run_eql_struct, run_equalIn_open 9997 h k a b w]; rfl
theorem num8_inj {x y : Int} (hx1 : -9223372036854775808 ≤ x) (hx2 : x ≤ 9223372036854775807) (hy1 : -9223372036854775808 ≤ y) (hy2 : y ≤ 9223372036854775807) (h : num8 x = num8 y) : x = y := by
  have a := (num_app x [] hx1 hx2).1
  have b := (num_app y [] hy1 hy2).1
  rw [h] at a
  exact a.symm.trans b
theorem openP_eq (o : OpenD) (k : OpenOk o) : openP o = [68] ++ be8 8 ++ (num8 o.blocks ++ (be8 32 ++ (o.hist ++ (be8 32 ++ o.head)))) := by
  unfold openP preN
  simp [prePart, num8_len, k.h, k.d]
theorem openP_inj {o q : OpenD} (k : OpenOk o) (k' : OpenOk q) : openP o = openP q ↔ o = q := by
  constructor
  · intro h
    rw [openP_eq o k, openP_eq q k'] at h
    obtain ⟨_, h⟩ := List.append_inj h rfl
    obtain ⟨h1, h⟩ := List.append_inj h (by simp [num8_len])
    obtain ⟨_, h⟩ := List.append_inj h rfl
    obtain ⟨h2, h⟩ := List.append_inj h (by rw [k.h, k'.h])
    obtain ⟨_, h3⟩ := List.append_inj h rfl
    have h0 := num8_inj k.n1 k.n2 k'.n1 k'.n2 h1
    exact (eqO_iff o q).1 (by simp [eqO, h0, h2, h3])
  · rintro rfl; rfl
theorem isB_dig (h : List UInt32) : IsB (dig h) := fun i => by
  unfold dig
  rcases Nat.lt_or_ge i 32 with h | h
  · simp only [List.getD, List.getElem?_map, List.getElem?_range h, Option.map_some, Option.getD_some]
    exact Nat.mod_lt _ (by decide)
  · rw [getD_out _ _ _ (by simp; exact h)]; decide
theorem bstr_beq {l m : List Nat} (hl : IsB l) (hm : IsB m) : ((bstr l).toList == (bstr m).toList) = decide (l = m) := by
  rw [toList_bstr, toList_bstr]
  exact ofNat_beq hl hm
set_option maxRecDepth 100000 in
set_option maxHeartbeats 4000000 in
theorem walk_BlockDigests (o q : OpenD) (w : World) (ho : OpenOk o) (hq : OpenOk q) :
    Calls Try.prog 7 #[.agg (openC o).toArray, .agg (openC q).toArray] w fun e w' => e = .returned (.bool true) ∧ Below w.heap.size w w' := by
  have hP := hideP (fun W => bdpre_any o ho W)
  have hP2 := hideP (fun W => bdpre_any q hq W)
  have hR := hideP (fun W => rdpre_any o ho W)
  have hD := hideP (fun W => bdig_any o ho W)
  have hs := hideP (size_o65 ho.cells)
  have hs2 := hideP (size_o65 hq.cells)
  have hPB := hideP (openP_isB ho)
  have hPn := hideP (openP_len ho)
  have hQB := hideP (openP_isB hq)
  have hE := run_eql_open o q ho hq
  have hSS := hideP (show ((bstr (openP o)).toList == (bstr (openP o)).toList) = true by rw [bstr_beq (openP_isB ho) (openP_isB ho)]; exact decide_eq_true rfl)
  have hST := bstr_beq (openP_isB ho) (openP_isB hq)
  have hb : decide (openP o = openP q) = eqO o q := by
    rw [Bool.eq_iff_iff, decide_eq_true_eq, openP_inj ho hq, eqO_iff]
  rw [hb] at hST
  obtain ⟨E, hEE⟩ : ∃ E, E = eqO o q := ⟨_, rfl⟩
  rw [← hEE] at hE hST
  have hDD := hideP (fun W => by have := run_eql_dge (dig (sumW (openP o))) (dig (sumW (openP o))) (by simp [dig]) (by simp [dig]) (isB_dig _) (isB_dig _) W; rwa [decide_eq_true rfl] at this)
  obtain ⟨C, hC⟩ : ∃ C, C = openC o := ⟨_, rfl⟩
  obtain ⟨C2, hC2⟩ : ∃ C, C = openC q := ⟨_, rfl⟩
  obtain ⟨P, hPP⟩ : ∃ P, P = openP o := ⟨_, rfl⟩
  obtain ⟨Q, hQQ⟩ : ∃ P, P = openP q := ⟨_, rfl⟩
  rw [← hC] at hP hR hD hs hE ⊢
  rw [← hC2] at hP2 hs2 hE ⊢
  rw [← hPP] at hP hR hD hPB hPn hSS hST hDD
  rw [← hQQ] at hP2 hQB hST
  obtain ⟨S, hS⟩ : ∃ S, S = bstr P := ⟨_, rfl⟩
  obtain ⟨S2, hS2⟩ : ∃ S, S = bstr Q := ⟨_, rfl⟩
  obtain ⟨DD, hD2⟩ : ∃ D, D = dig (sumW P) := ⟨_, rfl⟩
  rw [← hS, ← hS2] at hST
  rw [← hD2] at hD hDD
  have HS := hideP hS
  have HS2 := hideP hS2
  have HD2 := hideP hD2
  have HE := hideP hE
  have HST := hideP hST
  clear hb hEE hC hC2 hPP hQQ hS hS2 hD2 ho hq hE hST
  obtain ⟨v1, hv1⟩ : ∃ v, v = w.alloc (.cells C.toArray 57) := ⟨_, rfl⟩
  obtain ⟨v2, hv2⟩ : ∃ v, v = v1.alloc (.cells C2.toArray 57) := ⟨_, rfl⟩
  obtain ⟨z, hz⟩ : ∃ z, z = w.heap.size := ⟨_, rfl⟩
  obtain ⟨z2, hz2⟩ : ∃ z, z = w.heap.size + 1 := ⟨_, rfl⟩
  have s1 : v1.heap.size = z2 := by rw [hv1, hz2]; simp
  have b1 : Below w.heap.size w v1 := by rw [hv1]; exact below_new _ _
  have b2 : Below v1.heap.size v1 v2 := by rw [hv2]; exact below_new _ _
  have R1 := hideP (show Row v2 z 57 C from Row.after (by rw [hv1, hz]; exact Row.new w 57 C) b2)
  have R2 := hideP (show Row v2 z2 57 C2 by rw [hv2, ← s1]; exact Row.new v1 57 C2)
  have B2 := hideP (bstep b1 b2)
  rw [hv1] at hv2
  clear s1 b1 b2 hv1
  go_enter Try.func7, Try.ntmps7
  go_upto_region 1 with fail
  rw [← hv2, ← hz2, ← hz]
  clear hv2 hz2 hz
  go_upto_region 4 with (first
    | (go_at_call 12; refine (alive19_any _).mono ?_; rintro e w3 ⟨rfl, b_⟩; have B3 := hideP (bstep B2.out b_); have X3 := hideP (Row.after R1.out b_); have Y3 := hideP (Row.after R2.out b_); clear b_)
    | (refine wpList_load_row rfl 57 (.tmp 2) rfl z rfl 57 C.toArray (0, 0) _ X3.out Try.underlying57 rfl hs.out ?_)
    | (go_at_call 30; refine (hP.out w3).mono ?_; rintro e w4 ⟨R4, d4, rfl, o_, b_⟩; have B4 := hideP (bstep B3.out b_); have X4 := hideP (Row.after X3.out b_); have Y4 := hideP (Row.after Y3.out b_); have O4 := hideP o_; clear b_ o_))
  have hsum := hideP (fun W (hW : Ext w4 W) => ssum_any R4 P d4 W (O4.out.ext hW).arr hPB.out (by have := hPn.out; omega))
  rw [← HD2.out] at hsum
  have cv4 := hideP (fun W (hW : Ext w4 W) => by have := run_str (P := Try.prog) W 31 5 Try.underlying31 Try.underlying5 (c := d4) (O4.out.ext hW).arr rfl 9 Try.underlying9; rwa [← HS.out] at this)
  have ss := HST.out
  have he := HE.out
  have hd := hDD.out
  refine wp_region_mut (S := fun _ => False) 25 (.q 0 (.q 1 (.q 2 (.l 3 (.q 4 (.q 5 (.q 6 (.q 7 (.q 9 (.l 8 (.l 10 (.q 11 (.q 12 (.q 13 (.q 14 (.q 15 (.q 16 (.q 20 (.q 21 (.q 22 (.l 17 (.q 18 (.q 19 (.q 23 (.q 24 .nil))))))))))))))))))))))))) (by kernel_rfl) (by kernel_rfl) ?_
  simp only [pickT, nthO_zero, nthO_succ]
  have hdrew := (Ext.refl w4.drew).drew_left
  have E4 := hideP hdrew
  clear hdrew
  iterate 3 (first
    | (refine wpM_valK ?_ (fun K hK => ?_); (focus (rfl)); refine ⟨.agg C.toArray, fun W hW => exec_load_mid 57 (.tmp 2) ?_ z 0 ?_ C _ (Row.range (Row.ext X4.out (E4.out.trans (but_ext hW)))) Try.underlying57 rfl hs.out, ?_⟩; (focus (rfl)); (focus (rfl)); go_simp; refine hK _ ?_; clear hK K)
    | (refine wpM_valK ?_ (fun K hK => ?_); (focus (rfl)); refine ⟨.agg C2.toArray, fun W hW => exec_load_mid 57 (.tmp 3) ?_ z2 0 ?_ C2 _ (Row.range (Row.ext Y4.out (E4.out.trans (but_ext hW)))) Try.underlying57 rfl hs2.out, ?_⟩; (focus (rfl)); (focus (rfl)); go_simp; refine hK _ ?_; clear hK K)
    | (refine wpM_valK ?_ (fun K hK => ?_); (focus (rfl)); apply Exists.intro; refine ⟨fun W hW => ?_, ?_⟩; (focus (have hs0 := cv4.out W (E4.out.trans (but_ext hW)); go_simp; (try rfl); done)); go_simp; refine hK _ ?_; clear hK K))
  refine wpM_loudS 31 #[.agg C.toArray] (by rfl) (fun W => by go_simp) (fun W hW => (hR.out W).mono ?_)
  rintro e_ w5 ⟨R5, d5, rfl, o_, b_⟩
  refine ⟨_, rfl, But.of_below b_, fun K hK => ?_⟩
  go_simp
  refine hK _ ?_
  clear hK K
  have E5 := hideP (E4.out.trans (hW.trans (Ext.of_below b_)))
  have cv5 := hideP (fun W (hW : Ext w5 W) => by have := run_str (P := Try.prog) W 31 5 Try.underlying31 Try.underlying5 (c := d5) (o_.ext hW).arr rfl 9 Try.underlying9; rwa [← HS.out] at this)
  clear o_ b_ hW
  iterate 5 (first
    | (refine wpM_valK ?_ (fun K hK => ?_); (focus (rfl)); refine ⟨.agg C.toArray, fun W hW => exec_load_mid 57 (.tmp 2) ?_ z 0 ?_ C _ (Row.range (Row.ext X4.out (E5.out.trans (but_ext hW)))) Try.underlying57 rfl hs.out, ?_⟩; (focus (rfl)); (focus (rfl)); go_simp; refine hK _ ?_; clear hK K)
    | (refine wpM_valK ?_ (fun K hK => ?_); (focus (rfl)); refine ⟨.agg C2.toArray, fun W hW => exec_load_mid 57 (.tmp 3) ?_ z2 0 ?_ C2 _ (Row.range (Row.ext Y4.out (E5.out.trans (but_ext hW)))) Try.underlying57 rfl hs2.out, ?_⟩; (focus (rfl)); (focus (rfl)); go_simp; refine hK _ ?_; clear hK K)
    | (refine wpM_valK ?_ (fun K hK => ?_); (focus (rfl)); apply Exists.intro; refine ⟨fun W hW => ?_, ?_⟩; (focus (have hs0 := cv5.out W (but_ext hW); go_simp; (try rfl); done)); go_simp; refine hK _ ?_; clear hK K))
  refine wpM_loudS 32 #[.agg C.toArray] (by rfl) (fun W => by go_simp) (fun W hW => (hD.out W).mono ?_)
  rintro e_ w6 ⟨rfl, b_⟩
  refine ⟨_, rfl, But.of_below b_, fun K hK => ?_⟩
  go_simp
  refine hK _ ?_
  clear hK K
  have E6 := hideP (E5.out.trans (hW.trans (Ext.of_below b_)))
  clear b_ hW
  refine wpM_loudS 33 #[.slice R4 P.length d4] (by rfl) (fun W => by go_simp) (fun W hW => (hsum.out W (E6.out.trans hW)).mono ?_)
  rintro e_ w7 ⟨rfl, b_⟩
  refine ⟨_, rfl, But.of_below b_, fun K hK => ?_⟩
  go_simp
  refine hK _ ?_
  clear hK K
  have E7 := hideP (E6.out.trans (hW.trans (Ext.of_below b_)))
  clear b_ hW
  iterate 9 (first
    | (refine wpM_valK ?_ (fun K hK => ?_); (focus (rfl)); refine ⟨.agg C.toArray, fun W hW => exec_load_mid 57 (.tmp 2) ?_ z 0 ?_ C _ (Row.range (Row.ext X4.out (E7.out.trans (but_ext hW)))) Try.underlying57 rfl hs.out, ?_⟩; (focus (rfl)); (focus (rfl)); go_simp; refine hK _ ?_; clear hK K)
    | (refine wpM_valK ?_ (fun K hK => ?_); (focus (rfl)); refine ⟨.agg C2.toArray, fun W hW => exec_load_mid 57 (.tmp 3) ?_ z2 0 ?_ C2 _ (Row.range (Row.ext Y4.out (E7.out.trans (but_ext hW)))) Try.underlying57 rfl hs2.out, ?_⟩; (focus (rfl)); (focus (rfl)); go_simp; refine hK _ ?_; clear hK K)
    | (refine wpM_valK ?_ (fun K hK => ?_); (focus (rfl)); apply Exists.intro; refine ⟨fun W hW => ?_, ?_⟩; (focus (have hs0 := cv4.out W (E7.out.trans (but_ext hW)); go_simp; (try rfl); done)); go_simp; refine hK _ ?_; clear hK K))
  refine wpM_loudS 30 #[.agg C2.toArray] (by rfl) (fun W => by go_simp) (fun W hW => (hP2.out W).mono ?_)
  rintro e_ w8 ⟨R8, d8, rfl, o_, b_⟩
  refine ⟨_, rfl, But.of_below b_, fun K hK => ?_⟩
  go_simp
  refine hK _ ?_
  clear hK K
  have E8 := hideP (E7.out.trans (hW.trans (Ext.of_below b_)))
  have cv8 := hideP (fun W (hW : Ext w8 W) => by have := run_str (P := Try.prog) W 31 5 Try.underlying31 Try.underlying5 (c := d8) (o_.ext hW).arr rfl 9 Try.underlying9; rwa [← HS2.out] at this)
  clear o_ b_ hW
  iterate 4 (first
    | (refine wpM_valK ?_ (fun K hK => ?_); (focus (rfl)); refine ⟨.agg C.toArray, fun W hW => exec_load_mid 57 (.tmp 2) ?_ z 0 ?_ C _ (Row.range (Row.ext X4.out (E8.out.trans (but_ext hW)))) Try.underlying57 rfl hs.out, ?_⟩; (focus (rfl)); (focus (rfl)); go_simp; refine hK _ ?_; clear hK K)
    | (refine wpM_valK ?_ (fun K hK => ?_); (focus (rfl)); refine ⟨.agg C2.toArray, fun W hW => exec_load_mid 57 (.tmp 3) ?_ z2 0 ?_ C2 _ (Row.range (Row.ext Y4.out (E8.out.trans (but_ext hW)))) Try.underlying57 rfl hs2.out, ?_⟩; (focus (rfl)); (focus (rfl)); go_simp; refine hK _ ?_; clear hK K)
    | (refine wpM_valK ?_ (fun K hK => ?_); (focus (rfl)); apply Exists.intro; refine ⟨fun W hW => ?_, ?_⟩; (focus (have hs0 := cv8.out W (but_ext hW); go_simp; (try rfl); done)); go_simp; refine hK _ ?_; clear hK K))
  refine wpM_nil (fun W9 hW9 => ?_)
  simp only [List.drop_succ_cons, List.drop_zero, List.drop_nil]
  have B9 := hideP (below_ext B4.out (E8.out.trans hW9))
  clear hW9
  go_wp2_with fail
  go_ret
  exact ⟨rfl, B9.out⟩
end Go.Proofs.Ytiicdnbhphgieaa
