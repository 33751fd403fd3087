/-
  The zero head is one.
  Contract of the reference's Block.
  The walk of BlockBack.
-/
import Derived.Test.YtiicdnbhphgieaaK34
import Derived.Test.YtiicdnbhphgieaaK54
import Derived.Test.YtiicdnbhphgieaaK40
import Derived.Test.YtiicdnbhphgieaaK51
import Derived.Deep.DeepCutAuto
set_option linter.unusedVariables false
set_option linter.unusedSimpArgs false
namespace Go.Proofs.Ytiicdnbhphgieaa
open Go.RowKit
theorem headZ_okz : HeadOk headZ := ⟨rfl, rfl, rfl, fun i => by unfold headZ; simp only [List.getD, List.getElem?_replicate]; split <;> decide, fun i => by unfold headZ; simp only [List.getD, List.getElem?_replicate]; split <;> decide, fun i => by unfold headZ; simp only [List.getD, List.getElem?_replicate]; split <;> decide, by decide, by decide⟩
end Go.Proofs.Ytiicdnbhphgieaa
namespace Go.Proofs.Ytiicdnbhphgieaa
open Go.RowKit
set_option maxRecDepth 100000 in
set_option maxHeartbeats 1000000 in
theorem rwblock_any (h : HeadD) (hk : HeadOk h) (A : Option Addr) (l : List OpD) (ps : Nat → OpP) (n c : Nat) (w : World) (hn : n = l.length) (hA : OpsL w w.heap.size A l ps) (hl : n ≤ 400) (hw : ∀ i, i < n → (l.getD i default).cols.length ≤ 255 ∧ (l.getD i default).row.length ≤ 255) :
    Calls Try.prog 29 #[.agg (headC h).toArray, .slice A n c] w fun e w' => ∃ R d, e = .returned (.slice R (textB (headB h) ++ textB (opsR l)).length d) ∧ OwnB w' w.heap.size R d (textB (headB h) ++ textB (opsR l)) ∧ Below w.heap.size w w' := by
  have r0 := hideP (Row.new w 48 (headC h))
  have hb := hideP (below_new w (.cells (headC h).toArray 48))
  have hH := hideP (fun W => rhead_any h hk W)
  have hs := hideP (size_h97 hk.cells)
  have hO := hideP (fun W (hW : Below w.heap.size w W) => rwops_any A l ps n c W hn (hA.after hW) (by omega) hw)
  have hHl := hideP hk.len
  have hOl := hideP (show (opsR l).length ≤ 900000000000 by
    have := opsR_len (fun i hi => (hA.2 i hi).2) l.length (Nat.le_refl _)
    rw [List.take_length] at this
    unfold opsR
    rw [List.length_append]
    have h3 : (be3 l.length).length = 3 := rfl
    omega)
  obtain ⟨C, hC⟩ : ∃ C, C = headC h := ⟨_, rfl⟩
  obtain ⟨X, hX⟩ : ∃ X, X = headB h := ⟨_, rfl⟩
  obtain ⟨Y, hY⟩ : ∃ X, X = opsR l := ⟨_, rfl⟩
  rw [← hC] at hb r0 hs hH ⊢
  rw [← hX] at hH hHl ⊢
  rw [← hY] at hO hOl ⊢
  have hT1 := hideP (fun W A c hA => rwtext_any A X 104 c W hHl.out.symm hA (by decide))
  have hT2 := hideP (fun W A c hA => rwtext_any A Y Y.length c W rfl hA (by have := hOl.out; omega))
  obtain ⟨TX, hTX⟩ : ∃ t, t = textB X := ⟨_, rfl⟩
  obtain ⟨TY, hTY⟩ : ∃ t, t = textB Y := ⟨_, rfl⟩
  have hTl := hideP (show TX.length + TY.length ≤ 100000000000000 by rw [hTX, hTY]; unfold textB; simp only [List.length_append]; have := hHl.out; have := hOl.out; simp only [be3, List.length_cons, List.length_nil]; omega)
  rw [← hTX] at hT1 ⊢
  rw [← hTY] at hT2 ⊢
  clear hC hk hX hY hA hn hl hw hTX hTY
  go_enter Try.func29, Try.ntmps29
  go_wp2_with (first
    | (refine wpList_load_row rfl 48 (.tmp 2) rfl w.heap.size rfl 48 C.toArray (0, 0) _ r0.out Try.underlying48 rfl hs.out ?_)
    | (go_at_call 38; refine (hH.out _).mono ?_; rintro e1 w2 ⟨R2, d2, rfl, o_, b_⟩; have O2 := hideP o_; have B2 := hideP (bstep hb.out b_); clear b_ o_)
    | (go_at_call 71; refine (hT1.out w2 R2 d2 (by have := O2.out.arr; rwa [hHl.out] at this)).mono ?_; rintro e1 w3 ⟨R3, d3, rfl, o_, b_⟩; have O3 := hideP (OwnB.monoR o_ B2.out.size); have B3 := hideP (bstep B2.out b_); clear b_ o_)
    | (go_at_call 21; refine (hO.out w3 B3.out).mono ?_; rintro e1 w4 ⟨R4, d4, rfl, o_, b_⟩; have O4 := hideP o_.arr; have Q3 := hideP (O3.out.after b_); have B4 := hideP (bstep B3.out b_); clear b_ o_)
    | (go_at_call 71; refine (hT2.out w4 R4 d4 O4.out).mono ?_; rintro e1 w5 ⟨R5, d5, rfl, o_, b_⟩; have O5 := hideP o_.arr; have P3 := hideP (Q3.out.after b_); have B5 := hideP (bstep B4.out b_); clear b_ o_)
    | (at_builtin; refine wpList_appn rfl (.tmp 7) (.tmp 10) rfl w.heap.size R3 d3 TX.length TX rfl rfl P3.out w5.heap.size R5 TY.length d5 TY rfl rfl O5.out (by have := hTl.out; omega) B5.out.size ?_; intro A6 c6 w6 o_ b_; have O6 := hideP o_; have B6 := hideP (B5.out.trans b_); clear o_ b_))
  go_ret
  exact ⟨A6, c6, by rw [List.length_append]; rfl, O6.out, B6.out⟩
end Go.Proofs.Ytiicdnbhphgieaa
namespace Go.Proofs.Ytiicdnbhphgieaa
open Go.RowKit
theorem great_facts {l : List OpD} (hg : greatB l = false) : l.length ≤ 300 ∧ ∀ i, i < l.length → (l.getD i default).table.size ≤ 100 ∧ (l.getD i default).cols.length ≤ 20 ∧ (l.getD i default).row.length ≤ 50 ∧ ∀ k, ((l.getD i default).cols.getD k default).size ≤ 100 := by
  simp only [greatB, Bool.or_eq_false_iff, decide_eq_false_iff_not] at hg
  refine ⟨by omega, fun i hi => ?_⟩
  have := anyTo_false hg.2 i hi
  simp only [greatO, Bool.or_eq_false_iff, decide_eq_false_iff_not] at this
  refine ⟨by omega, by omega, by omega, fun k => ?_⟩
  rcases Nat.lt_or_ge k (l.getD i default).cols.length with hk | hk
  · have := anyTo_false this.2.2.2 k hk
    simp only [decide_eq_false_iff_not] at this
    omega
  · have e : ∀ (L : List ByteArray), L.length ≤ k → L.getD k default = default := fun L h => by simp [List.getD, List.getElem?_eq_none h]
    rw [e _ hk]; decide
theorem opR_small {o : OpD} (h1 : o.table.size ≤ 100) (h2 : o.cols.length ≤ 20) (h3 : o.row.length ≤ 50) (h4 : ∀ k, (o.cols.getD k default).size ≤ 100) : (opR o).length ≤ 3000 := by
  have h5 := texts_len_gen o.cols 100 h4 o.cols.length
  rw [List.take_length] at h5
  have e1 : (if o.kind = 1 then [o.cols.length] ++ textsB o.cols else []).length ≤ 1 + (textsB o.cols).length := by
    split
    · simp; omega
    · simp
  have e2 : (if 2 < o.kind then rowB o.row else []).length ≤ 1 + 8 * o.row.length := by
    split
    · unfold rowB; rw [List.length_append, rows_len]; exact Nat.le_refl _
    · simp
  unfold opR
  rw [List.length_append, List.length_append, List.length_append, textB_len]
  have : ([o.kind] : List Nat).length = 1 := rfl
  omega
theorem opsR_small {l : List OpD} (hg : greatB l = false) : (opsR l).length ≤ 1000000 := by
  obtain ⟨hl, hO⟩ := great_facts hg
  have : ∀ k, k ≤ l.length → (((l.take k).map opR).flatten).length ≤ k * 3000 := by
    intro k hk
    induction k with
    | zero => simp
    | succ k ih =>
      rw [opsR_succ l k (by omega), List.length_append, Nat.succ_mul]
      obtain ⟨h1, h2, h3, h4⟩ := hO k (by omega)
      have := opR_small h1 h2 h3 h4
      have := ih (by omega)
      omega
  have h := this l.length (Nat.le_refl _)
  rw [List.take_length] at h
  unfold opsR
  rw [List.length_append]
  have h3 : (be3 l.length).length = 3 := rfl
  omega
theorem isB_opsR {l : List OpD} (h : ∀ i, i < l.length → (l.getD i default).kind < 256 ∧ (l.getD i default).cols.length ≤ 255 ∧ (l.getD i default).row.length ≤ 255) : IsB (opsR l) := by
  refine isB_append (isB_be3 _) (isB_flat _ fun x hx => ?_)
  obtain ⟨o, ho, rfl⟩ := List.mem_map.1 hx
  obtain ⟨i, hi, rfl⟩ := List.getElem_of_mem ho
  have := h i hi
  simp only [List.getD, List.getElem?_eq_getElem hi, Option.getD_some] at this
  obtain ⟨h1, h3, h4⟩ := this
  unfold opR
  refine isB_append (isB_append (isB_append (isB_one (by omega)) (isB_textB _ (isB_nb _))) ?_) ?_
  · split
    · exact isB_append (isB_one (by omega)) (isB_textsB _)
    · exact fun i => by simp
  · split
    · exact isB_rowB _ (by omega)
    · exact fun i => by simp
set_option maxRecDepth 100000 in
set_option maxHeartbeats 4000000 in
theorem blockback_any (h : HeadD) (A : Option Addr) (l : List OpD) (ps : Nat → OpP) (n c : Nat) (own : Bool) (M : Option Addr) (mo : List Nat) (nm cm : Nat) (w : World) (hk : HeadOk h) (hn : n = l.length) (hA0 : OpsM w w.heap.size A l ps) (hM0 : Arr w w.heap.size M nm (u8s mo)) (hmo : nm = mo.length) (hmI : IsB mo) :
    Calls Try.prog 5 #[.agg (headC h).toArray, .slice A n c, .bool own, .slice M nm cm] w fun e w' => e = .returned (.bool true) ∧ Below w.heap.size w w' := by
  have hG := hideP (fun W (hW : Below w.heap.size w W) => great19_any A l ps n c W hn (hA0.after hW))
  have hsm := hideP (small_ops hA0)
  have hsR := hideP (fun e => opsR_small (l := l) e)
  have Hn := hideP hn
  have hs := hideP (size_h97 hk.cells)
  have HM := hideP hM0
  have Hmo := hideP hmo
  have HmI := hideP hmI
  obtain ⟨G, hGG⟩ : ∃ G, G = greatB l := ⟨_, rfl⟩
  rw [← hGG] at hG hsm hsR
  obtain ⟨C, hC⟩ : ∃ C, C = headC h := ⟨_, rfl⟩
  rw [← hC] at hs ⊢
  have HC := hideP hC
  have Hk0 := hideP hk
  clear hn hGG hA0 hC hk hM0 hmo hmI
  obtain ⟨v, hv⟩ : ∃ v, v = w.alloc (.cells C.toArray 48) := ⟨_, rfl⟩
  obtain ⟨z, hz⟩ : ∃ z, z = w.heap.size := ⟨_, rfl⟩
  have X1 := hideP (show Row v z 48 C by rw [hv, hz]; exact Row.new w 48 C)
  have B1 := hideP (show Below w.heap.size w v by rw [hv]; exact below_new _ _)
  have hwz := hideP (show w.heap.size ≤ z by omega)
  rcases Bool.eq_false_or_eq_true G with hg | hg
  · subst hg
    go_enter Try.func5, Try.ntmps5
    go_upto_region 1 with fail
    rw [← hv, ← hz]
    clear hv hz
    go_wp2_with (first
      | (go_at_call 12; refine (alive19_any v).mono ?_; rintro e w1 ⟨rfl, b_⟩; have B3 := hideP (bstep B1.out b_); clear b_)
      | (go_at_call 13; refine (hG.out w1 B3.out).mono ?_; rintro e w2 ⟨rfl, rfl⟩))
    go_ret
    exact ⟨rfl, B3.out⟩
  · subst hg
    by_cases h100 : nm ≤ 100
    · have h1' : decide ((100 : Int) < (nm : Int)) = false := by simp; omega
      have h1'' : ¬ (100 : Int) < (nm : Int) := by omega
      obtain ⟨hl0, hL, hww⟩ := hsm.out rfl
      rw [← Hn.out] at hl0
      have Hl := hideP hl0
      have HIm := hideP (opsL_isI hL)
      have HL := hideP (fun W (hW : Below w.heap.size w W) => hL.after hW)
      have Hw := hideP (fun i (hi : i < n) => hww i (by have := Hn.out; omega))
      have Hnm := hideP h100
      clear hsm hww hL hl0 h100
      have hOp0 := hideP (fun W (hW : Below w.heap.size w W) => rwops_any A l ps n c W Hn.out (HL.out W hW) (by have := Hl.out; omega) Hw.out)
      have hbR := isB_opsR (l := l) (fun i hi => ⟨((HL.out w (Below.refl _ _)).2 i hi).2.kind, Hw.out i (by have := Hn.out; omega)⟩)
      have hlR := hsR.out rfl
      have hOS0 := hideP (fun W R d (hX : Arr W W.heap.size R (opsR l).length (u8s (opsR l))) => ropssum_any R (opsR l) (opsR l).length d W rfl hX hbR (by omega))
      clear hsR hlR hbR
      have hdl := hideP (show (tagD 79 (opsR l)).length = 32 by simp [tagD, dig])
      have hdb := hideP (isB_tagD 79 (opsR l))
      obtain ⟨TD, hTD⟩ : ∃ T, T = tagD 79 (opsR l) := ⟨_, rfl⟩
      rw [← hTD] at hOS0 hdl hdb
      obtain ⟨P, hP⟩ : ∃ T, T = opsR l := ⟨_, rfl⟩
      rw [← hP] at hOS0 hOp0
      have HTD := hideP hTD
      have HP := hideP hP
      clear hTD hP
      go_enter Try.func5, Try.ntmps5
      go_upto_region 1 with fail
      rw [← hv, ← hz]
      clear hv hz
      go_upto_region 5 with (first
        | (go_at_call 12; refine (alive19_any v).mono ?_; rintro e w1 ⟨rfl, b_⟩; have B3 := hideP (bstep B1.out b_); have X3 := hideP (Row.after X1.out b_); clear b_)
        | (go_at_call 13; refine (hG.out w1 B3.out).mono ?_; rintro e w2 ⟨rfl, rfl⟩))
      go_upto_if 26 with fail
      go_cut [26] (fun s26 wx => (True ∨ s26 = s26) ∧ Hid (∃ h', HeadOk h' ∧ Row wx z 48 (headC h') ∧ Below w.heap.size w wx))
      case first =>
        cases own
        · go_wp2_with fail
          go_meet
          exact ⟨.inl trivial, h, Hk0.out, by rw [← HC.out]; exact X3.out, B3.out⟩
        · go_wp2_with (first
            | (go_at_call 21; refine (hOp0.out w1 B3.out).mono ?_; rintro e w5 ⟨R5, d5, rfl, o_, b_⟩; have B6 := hideP (bstep B3.out b_); have X6 := hideP (Row.after X3.out b_); have O6 := hideP o_; clear b_ o_)
            | (go_at_call 24; refine (hOS0.out w5 R5 d5 O6.out.arr).mono ?_; rintro e w6 ⟨rfl, b_⟩; have B7 := hideP (bstep B6.out b_); have X7 := hideP (show Row w6 z 48 (headC ⟨h.prev, h.num, h.ops, h.tabs⟩) by have := Row.after X6.out b_; rw [HC.out] at this; exact this); clear b_)
            | (refine wpList_store_mid rfl 41 (.tmp 30) (.tmp 29) rfl z 33 (TD.map b8).toArray rfl rfl (there_row X7.out 33 _ (by simp [headC, Hk0.out.p, Hk0.out.o, hdl.out]; have := Hk0.out.t; omega)) (by rw [size_dig]; simp [hdl.out]) (all_b8 TD) ?_))
          go_meet
          refine ⟨.inl trivial, ⟨h.prev, h.num, TD, h.tabs⟩, ⟨Hk0.out.p, hdl.out, Hk0.out.t, Hk0.out.pB, hdb.out, Hk0.out.tB, Hk0.out.n1, Hk0.out.n2⟩, row_setOps X7.out TD Hk0.out.p (by rw [hdl.out]; exact Hk0.out.o), ?_⟩
          exact B7.out.trans ((below_setCells (Nat.le_refl z) _ _ (Below.refl _ _)).mono hwz.out)
      case rest =>
        obtain ⟨-, hV⟩ := hcut
        obtain ⟨h', hk_, hY_, hB_⟩ := hV.out
        have Hk := hideP hk_
        have Y7 := hideP hY_
        have C7 := hideP hB_
        obtain ⟨v7, rfl⟩ : ∃ W, W = wc := ⟨_, rfl⟩
        clear hV hk_ hY_ hB_ X1 X3 B1 B3 hG hs HC Hk0 hwz
        have hn' := Hn.out
        have hk' := Hk.out
        have hl := Hl.out
        have hAll := hideP (fun W (hW : Below w.heap.size w W) => all19_any A l ps n c W hn' (HL.out W hW) (by omega))
        have hHR := hideP (fun W => rhr_any h' hk' W)
        have hsD := hideP (size_h97 hk'.cells)
        have hC1D := hideP (headC_one h')
        have hsoD := hideP (show (headC headZ).toArray.size = (headC h').toArray.size by rw [List.size_toArray, List.size_toArray, hk'.cells]; rfl)
        have hpD := hideP (fun W g (r : Row W g 48 (headC h')) => head_ops hk' r)
        have ls := hideP (size_d32 hk'.o)
        rcases hbr : blockR h' l with _ | _
        · skip
          have hb7 := fun W (hW : Below w.heap.size w W) => bblock_any h' hk' A l ps n c W hn' (HL.out W hW) (by omega)
          rw [hbr] at hb7
          have hB7 := hideP (fun W (hW : Below w.heap.size w W) => show Calls Try.prog 26 #[.agg (headC h').toArray, .slice A n c] W (fun e w' => e = .returned (.tuple #[.slice none 0 0, .int .i64 1]) ∧ Below W.heap.size W w') by
            refine (hb7 W hW).mono ?_
            rintro e w' ⟨b_, (⟨h, _⟩ | ⟨_, rfl⟩)⟩
            · exact absurd h (by simp)
            · exact ⟨rfl, b_⟩)
          clear hb7
          rcases Bool.eq_false_or_eq_true (allB l) with hall | hall
          · rcases Bool.eq_false_or_eq_true (headR h') with hr | hr
            · have hne : ¬ TD = h'.ops := fun e => by
                have := blockR_of hr hall (by rw [← e, HTD.out, opsR_eq hall])
                rw [hbr] at this; cases this
              have hn9 := fun W => by have := run_neq_dge h'.ops TD hk'.o hdl.out hk'.oB hdb.out W; rwa [show (!decide (h'.ops = TD)) = true by simp; exact fun e => hne e.symm] at this
              rw [hall] at hAll
              rw [hr] at hHR
              obtain ⟨D, hD⟩ : ∃ C, C = headC h' := ⟨_, rfl⟩
              have p7 := hideP (hpD.out v7 z Y7.out)
              rw [← hD] at Y7 hB7 hHR hsD hC1D hsoD hpD
              obtain ⟨O2, hO2⟩ : ∃ P, P = h'.ops := ⟨_, rfl⟩
              rw [← hO2] at p7 ls hpD
              have HD := hideP hD
              have HO2 := hideP hO2
              clear hD hO2
              rw [← HO2.out] at hn9
              have HN9 := hideP hn9
              clear hn9 hbr hall hr hn' hk' hl hne
              go_upto_region 8 with (first
                | (refine wpList_load_row rfl 48 (.tmp 4) rfl z rfl 48 D.toArray (0, 0) _ Y7.out Try.underlying48 rfl hsD.out ?_)
                | (go_at_call 26; refine (hB7.out v7 C7.out).mono ?_; rintro e w8 ⟨rfl, b_⟩; have C8 := hideP (bstep C7.out b_); replace p7 := hideP (show w8.rangeAt z 33 (O2.map b8) from fun j v hv => (Ext.of_below b_).cell (p7.out j v hv)); replace Y7 := hideP (Row.after Y7.out b_); clear b_))
              have hn9 := HN9.out
              have hOp := hOp0; have hOS := hOS0
              refine wp_region_mut (S := fun _ => False) 16 (.q 0 (.l 1 (.q 2 (.q 3 (.q 4 (.l 5 (.q 6 (.q 7 (.q 8 (.q 9 (.q 10 (.q 11 (.l 12 (.l 13 (.q 14 (.q 15 .nil)))))))))))))))) (by kernel_rfl) (by kernel_rfl) ?_
              simp only [pickT, nthO_zero, nthO_succ]
              have hdrew := (Ext.refl w8.drew).drew_left
              have E0 := hideP hdrew
              clear hdrew
              iterate 1 (first
                | (refine wpM_skipK ?_ (fun K hK => ?_); (focus (rfl)); go_simp; refine hK _ ?_; clear hK K)
                | (refine wpM_valK ?_ (fun K hK => ?_); (focus (rfl)); refine ⟨.agg D.toArray, fun W hW => exec_load_mid 48 (.tmp 4) ?_ z 0 ?_ D _ (Row.range (Row.ext Y7.out (E0.out.trans (but_ext hW)))) Try.underlying48 rfl hsD.out, ?_⟩; (focus (rfl)); (focus (rfl)); go_simp; refine hK _ ?_; clear hK K)
                | (refine wpM_valK ?_ (fun K hK => ?_); (focus (rfl)); refine ⟨.agg (O2.map b8).toArray, fun W hW => exec_load_mid 41 (.tmp 46) ?_ z 33 ?_ (O2.map b8) _ (fun j v hv => (E0.out.trans (but_ext hW)).cell (p7.out j v hv)) Try.underlying41 rfl ls.out, ?_⟩; (focus (rfl)); (focus (rfl)); go_simp; refine hK _ ?_; clear hK K)
                | (refine wpM_valK ?_ (fun K hK => ?_); (focus (rfl)); apply Exists.intro; refine ⟨fun W hW => ?_, ?_⟩; (focus (have hs0 := True.intro; go_simp; (try rfl); done)); go_simp; refine hK _ ?_; clear hK K))
              refine wpM_loudS 19 #[.slice A n c] (by rfl) (fun W => by go_simp) (fun W hW => (hAll.out W (below_ext C8.out (E0.out.trans hW))).mono ?_)
              rintro e_ w9 ⟨rfl, b_⟩
              refine ⟨_, rfl, But.of_below b_, fun K hK => ?_⟩
              go_simp
              refine hK _ ?_
              clear hK K
              have E1 := hideP (E0.out.trans (hW.trans (Ext.of_below b_)))
              clear b_ hW
              iterate 3 (first
                | (refine wpM_skipK ?_ (fun K hK => ?_); (focus (rfl)); go_simp; refine hK _ ?_; clear hK K)
                | (refine wpM_valK ?_ (fun K hK => ?_); (focus (rfl)); refine ⟨.agg D.toArray, fun W hW => exec_load_mid 48 (.tmp 4) ?_ z 0 ?_ D _ (Row.range (Row.ext Y7.out (E1.out.trans (but_ext hW)))) Try.underlying48 rfl hsD.out, ?_⟩; (focus (rfl)); (focus (rfl)); go_simp; refine hK _ ?_; clear hK K)
                | (refine wpM_valK ?_ (fun K hK => ?_); (focus (rfl)); refine ⟨.agg (O2.map b8).toArray, fun W hW => exec_load_mid 41 (.tmp 46) ?_ z 33 ?_ (O2.map b8) _ (fun j v hv => (E1.out.trans (but_ext hW)).cell (p7.out j v hv)) Try.underlying41 rfl ls.out, ?_⟩; (focus (rfl)); (focus (rfl)); go_simp; refine hK _ ?_; clear hK K)
                | (refine wpM_valK ?_ (fun K hK => ?_); (focus (rfl)); apply Exists.intro; refine ⟨fun W hW => ?_, ?_⟩; (focus (have hs0 := True.intro; go_simp; (try rfl); done)); go_simp; refine hK _ ?_; clear hK K))
              refine wpM_loudS 27 #[.agg D.toArray] (by rfl) (fun W => by go_simp) (fun W hW => (hHR.out W).mono ?_)
              rintro e_ w10 ⟨rfl, b_⟩
              refine ⟨_, rfl, But.of_below b_, fun K hK => ?_⟩
              go_simp
              refine hK _ ?_
              clear hK K
              have E2 := hideP (E1.out.trans (hW.trans (Ext.of_below b_)))
              clear b_ hW
              iterate 6 (first
                | (refine wpM_skipK ?_ (fun K hK => ?_); (focus (rfl)); go_simp; refine hK _ ?_; clear hK K)
                | (refine wpM_valK ?_ (fun K hK => ?_); (focus (rfl)); refine ⟨.agg D.toArray, fun W hW => exec_load_mid 48 (.tmp 4) ?_ z 0 ?_ D _ (Row.range (Row.ext Y7.out (E2.out.trans (but_ext hW)))) Try.underlying48 rfl hsD.out, ?_⟩; (focus (rfl)); (focus (rfl)); go_simp; refine hK _ ?_; clear hK K)
                | (refine wpM_valK ?_ (fun K hK => ?_); (focus (rfl)); refine ⟨.agg (O2.map b8).toArray, fun W hW => exec_load_mid 41 (.tmp 46) ?_ z 33 ?_ (O2.map b8) _ (fun j v hv => (E2.out.trans (but_ext hW)).cell (p7.out j v hv)) Try.underlying41 rfl ls.out, ?_⟩; (focus (rfl)); (focus (rfl)); go_simp; refine hK _ ?_; clear hK K)
                | (refine wpM_valK ?_ (fun K hK => ?_); (focus (rfl)); apply Exists.intro; refine ⟨fun W hW => ?_, ?_⟩; (focus (have hs0 := True.intro; go_simp; (try rfl); done)); go_simp; refine hK _ ?_; clear hK K))
              refine wpM_loudS 21 #[.slice A n c] (by rfl) (fun W => by go_simp) (fun W hW => (hOp.out W (below_ext C8.out (E2.out.trans hW))).mono ?_)
              rintro e_ w11 ⟨R11, d11, rfl, o_, b_⟩
              refine ⟨_, rfl, But.of_below b_, fun K hK => ?_⟩
              go_simp
              refine hK _ ?_
              clear hK K
              have E3 := hideP (E2.out.trans (hW.trans (Ext.of_below b_)))
              have O11 := hideP (fun W (hW : Ext w11 W) => (o_.ext hW).arr)
              clear o_ b_ hW
              refine wpM_loudS 24 #[.slice R11 P.length d11] (by rfl) (fun W => by go_simp) (fun W hW => (hOS.out W R11 d11 (O11.out W hW)).mono ?_)
              rintro e_ w12 ⟨rfl, b_⟩
              refine ⟨_, rfl, But.of_below b_, fun K hK => ?_⟩
              go_simp
              refine hK _ ?_
              clear hK K
              have E4 := hideP (E3.out.trans (hW.trans (Ext.of_below b_)))
              clear b_ hW
              iterate 2 (first
                | (refine wpM_skipK ?_ (fun K hK => ?_); (focus (rfl)); go_simp; refine hK _ ?_; clear hK K)
                | (refine wpM_valK ?_ (fun K hK => ?_); (focus (rfl)); refine ⟨.agg D.toArray, fun W hW => exec_load_mid 48 (.tmp 4) ?_ z 0 ?_ D _ (Row.range (Row.ext Y7.out (E4.out.trans (but_ext hW)))) Try.underlying48 rfl hsD.out, ?_⟩; (focus (rfl)); (focus (rfl)); go_simp; refine hK _ ?_; clear hK K)
                | (refine wpM_valK ?_ (fun K hK => ?_); (focus (rfl)); refine ⟨.agg (O2.map b8).toArray, fun W hW => exec_load_mid 41 (.tmp 46) ?_ z 33 ?_ (O2.map b8) _ (fun j v hv => (E4.out.trans (but_ext hW)).cell (p7.out j v hv)) Try.underlying41 rfl ls.out, ?_⟩; (focus (rfl)); (focus (rfl)); go_simp; refine hK _ ?_; clear hK K)
                | (refine wpM_valK ?_ (fun K hK => ?_); (focus (rfl)); apply Exists.intro; refine ⟨fun W hW => ?_, ?_⟩; (focus (have hs0 := True.intro; go_simp; (try rfl); done)); go_simp; refine hK _ ?_; clear hK K))
              refine wpM_nil (fun W26 hW26 => ?_)
              simp only [List.drop_succ_cons, List.drop_zero, List.drop_nil]
              have B26 := hideP (below_ext C8.out (E4.out.trans hW26))
              clear hW26
              go_wp2_with fail
              go_ret
              exact ⟨rfl, B26.out⟩
            · rw [hall] at hAll
              rw [hr] at hHR
              obtain ⟨D, hD⟩ : ∃ C, C = headC h' := ⟨_, rfl⟩
              have p7 := hideP (hpD.out v7 z Y7.out)
              rw [← hD] at Y7 hB7 hHR hsD hC1D hsoD hpD
              obtain ⟨O2, hO2⟩ : ∃ P, P = h'.ops := ⟨_, rfl⟩
              rw [← hO2] at p7 ls hpD
              have HD := hideP hD
              have HO2 := hideP hO2
              clear hD hO2
              clear hbr hall hr hn' hk' hl
              go_upto_region 8 with (first
                | (refine wpList_load_row rfl 48 (.tmp 4) rfl z rfl 48 D.toArray (0, 0) _ Y7.out Try.underlying48 rfl hsD.out ?_)
                | (go_at_call 26; refine (hB7.out v7 C7.out).mono ?_; rintro e w8 ⟨rfl, b_⟩; have C8 := hideP (bstep C7.out b_); replace p7 := hideP (show w8.rangeAt z 33 (O2.map b8) from fun j v hv => (Ext.of_below b_).cell (p7.out j v hv)); replace Y7 := hideP (Row.after Y7.out b_); clear b_))
              refine wp_region_mut (S := fun _ => False) 16 (.q 0 (.l 1 (.q 2 (.q 3 (.q 4 (.l 5 (.q 6 (.q 7 (.q 8 (.q 9 (.q 10 (.q 11 (.l 12 (.l 13 (.q 14 (.q 15 .nil)))))))))))))))) (by kernel_rfl) (by kernel_rfl) ?_
              simp only [pickT, nthO_zero, nthO_succ]
              have hdrew := (Ext.refl w8.drew).drew_left
              have E0 := hideP hdrew
              clear hdrew
              iterate 1 (first
                | (refine wpM_skipK ?_ (fun K hK => ?_); (focus (rfl)); go_simp; refine hK _ ?_; clear hK K)
                | (refine wpM_valK ?_ (fun K hK => ?_); (focus (rfl)); refine ⟨.agg D.toArray, fun W hW => exec_load_mid 48 (.tmp 4) ?_ z 0 ?_ D _ (Row.range (Row.ext Y7.out (E0.out.trans (but_ext hW)))) Try.underlying48 rfl hsD.out, ?_⟩; (focus (rfl)); (focus (rfl)); go_simp; refine hK _ ?_; clear hK K)
                | (refine wpM_valK ?_ (fun K hK => ?_); (focus (rfl)); refine ⟨.agg (O2.map b8).toArray, fun W hW => exec_load_mid 41 (.tmp 46) ?_ z 33 ?_ (O2.map b8) _ (fun j v hv => (E0.out.trans (but_ext hW)).cell (p7.out j v hv)) Try.underlying41 rfl ls.out, ?_⟩; (focus (rfl)); (focus (rfl)); go_simp; refine hK _ ?_; clear hK K)
                | (refine wpM_valK ?_ (fun K hK => ?_); (focus (rfl)); apply Exists.intro; refine ⟨fun W hW => ?_, ?_⟩; (focus (have hs0 := True.intro; go_simp; (try rfl); done)); go_simp; refine hK _ ?_; clear hK K))
              refine wpM_loudS 19 #[.slice A n c] (by rfl) (fun W => by go_simp) (fun W hW => (hAll.out W (below_ext C8.out (E0.out.trans hW))).mono ?_)
              rintro e_ w9 ⟨rfl, b_⟩
              refine ⟨_, rfl, But.of_below b_, fun K hK => ?_⟩
              go_simp
              refine hK _ ?_
              clear hK K
              have E1 := hideP (E0.out.trans (hW.trans (Ext.of_below b_)))
              clear b_ hW
              iterate 3 (first
                | (refine wpM_skipK ?_ (fun K hK => ?_); (focus (rfl)); go_simp; refine hK _ ?_; clear hK K)
                | (refine wpM_valK ?_ (fun K hK => ?_); (focus (rfl)); refine ⟨.agg D.toArray, fun W hW => exec_load_mid 48 (.tmp 4) ?_ z 0 ?_ D _ (Row.range (Row.ext Y7.out (E1.out.trans (but_ext hW)))) Try.underlying48 rfl hsD.out, ?_⟩; (focus (rfl)); (focus (rfl)); go_simp; refine hK _ ?_; clear hK K)
                | (refine wpM_valK ?_ (fun K hK => ?_); (focus (rfl)); refine ⟨.agg (O2.map b8).toArray, fun W hW => exec_load_mid 41 (.tmp 46) ?_ z 33 ?_ (O2.map b8) _ (fun j v hv => (E1.out.trans (but_ext hW)).cell (p7.out j v hv)) Try.underlying41 rfl ls.out, ?_⟩; (focus (rfl)); (focus (rfl)); go_simp; refine hK _ ?_; clear hK K)
                | (refine wpM_valK ?_ (fun K hK => ?_); (focus (rfl)); apply Exists.intro; refine ⟨fun W hW => ?_, ?_⟩; (focus (have hs0 := True.intro; go_simp; (try rfl); done)); go_simp; refine hK _ ?_; clear hK K))
              refine wpM_loudS 27 #[.agg D.toArray] (by rfl) (fun W => by go_simp) (fun W hW => (hHR.out W).mono ?_)
              rintro e_ w10 ⟨rfl, b_⟩
              refine ⟨_, rfl, But.of_below b_, fun K hK => ?_⟩
              go_simp
              refine hK _ ?_
              clear hK K
              have E2 := hideP (E1.out.trans (hW.trans (Ext.of_below b_)))
              clear b_ hW
              iterate 6 (first
                | (refine wpM_skipK ?_ (fun K hK => ?_); (focus (rfl)); go_simp; refine hK _ ?_; clear hK K)
                | (refine wpM_valK ?_ (fun K hK => ?_); (focus (rfl)); refine ⟨.agg D.toArray, fun W hW => exec_load_mid 48 (.tmp 4) ?_ z 0 ?_ D _ (Row.range (Row.ext Y7.out (E2.out.trans (but_ext hW)))) Try.underlying48 rfl hsD.out, ?_⟩; (focus (rfl)); (focus (rfl)); go_simp; refine hK _ ?_; clear hK K)
                | (refine wpM_valK ?_ (fun K hK => ?_); (focus (rfl)); refine ⟨.agg (O2.map b8).toArray, fun W hW => exec_load_mid 41 (.tmp 46) ?_ z 33 ?_ (O2.map b8) _ (fun j v hv => (E2.out.trans (but_ext hW)).cell (p7.out j v hv)) Try.underlying41 rfl ls.out, ?_⟩; (focus (rfl)); (focus (rfl)); go_simp; refine hK _ ?_; clear hK K)
                | (refine wpM_valK ?_ (fun K hK => ?_); (focus (rfl)); apply Exists.intro; refine ⟨fun W hW => ?_, ?_⟩; (focus (have hs0 := True.intro; go_simp; (try rfl); done)); go_simp; refine hK _ ?_; clear hK K))
              refine wpM_skipK' ?_ (fun W hW K hK => ?_)
              · rfl
              go_simp
              refine hK _ ?_
              clear hK K
              have E3 := hideP (E2.out.trans hW)
              clear hW
              refine wpM_skipK' ?_ (fun W hW K hK => ?_)
              · rfl
              go_simp
              refine hK _ ?_
              clear hK K
              have E4 := hideP (E3.out.trans hW)
              clear hW
              iterate 2 (first
                | (refine wpM_skipK ?_ (fun K hK => ?_); (focus (rfl)); go_simp; refine hK _ ?_; clear hK K)
                | (refine wpM_valK ?_ (fun K hK => ?_); (focus (rfl)); refine ⟨.agg D.toArray, fun W hW => exec_load_mid 48 (.tmp 4) ?_ z 0 ?_ D _ (Row.range (Row.ext Y7.out (E4.out.trans (but_ext hW)))) Try.underlying48 rfl hsD.out, ?_⟩; (focus (rfl)); (focus (rfl)); go_simp; refine hK _ ?_; clear hK K)
                | (refine wpM_valK ?_ (fun K hK => ?_); (focus (rfl)); refine ⟨.agg (O2.map b8).toArray, fun W hW => exec_load_mid 41 (.tmp 46) ?_ z 33 ?_ (O2.map b8) _ (fun j v hv => (E4.out.trans (but_ext hW)).cell (p7.out j v hv)) Try.underlying41 rfl ls.out, ?_⟩; (focus (rfl)); (focus (rfl)); go_simp; refine hK _ ?_; clear hK K)
                | (refine wpM_valK ?_ (fun K hK => ?_); (focus (rfl)); apply Exists.intro; refine ⟨fun W hW => ?_, ?_⟩; (focus (have hs0 := True.intro; go_simp; (try rfl); done)); go_simp; refine hK _ ?_; clear hK K))
              refine wpM_nil (fun W26 hW26 => ?_)
              simp only [List.drop_succ_cons, List.drop_zero, List.drop_nil]
              have B26 := hideP (below_ext C8.out (E4.out.trans hW26))
              clear hW26
              go_wp2_with fail
              go_ret
              exact ⟨rfl, B26.out⟩
          · rw [hall] at hAll
            obtain ⟨D, hD⟩ : ∃ C, C = headC h' := ⟨_, rfl⟩
            have p7 := hideP (hpD.out v7 z Y7.out)
            rw [← hD] at Y7 hB7 hHR hsD hC1D hsoD hpD
            obtain ⟨O2, hO2⟩ : ∃ P, P = h'.ops := ⟨_, rfl⟩
            rw [← hO2] at p7 ls hpD
            have HD := hideP hD
            have HO2 := hideP hO2
            clear hD hO2
            clear hbr hall hn' hk' hl
            go_upto_region 8 with (first
              | (refine wpList_load_row rfl 48 (.tmp 4) rfl z rfl 48 D.toArray (0, 0) _ Y7.out Try.underlying48 rfl hsD.out ?_)
              | (go_at_call 26; refine (hB7.out v7 C7.out).mono ?_; rintro e w8 ⟨rfl, b_⟩; have C8 := hideP (bstep C7.out b_); replace p7 := hideP (show w8.rangeAt z 33 (O2.map b8) from fun j v hv => (Ext.of_below b_).cell (p7.out j v hv)); replace Y7 := hideP (Row.after Y7.out b_); clear b_))
            refine wp_region_mut (S := fun _ => False) 16 (.q 0 (.l 1 (.q 2 (.q 3 (.q 4 (.l 5 (.q 6 (.q 7 (.q 8 (.q 9 (.q 10 (.q 11 (.l 12 (.l 13 (.q 14 (.q 15 .nil)))))))))))))))) (by kernel_rfl) (by kernel_rfl) ?_
            simp only [pickT, nthO_zero, nthO_succ]
            have hdrew := (Ext.refl w8.drew).drew_left
            have E0 := hideP hdrew
            clear hdrew
            iterate 1 (first
              | (refine wpM_skipK ?_ (fun K hK => ?_); (focus (rfl)); go_simp; refine hK _ ?_; clear hK K)
              | (refine wpM_valK ?_ (fun K hK => ?_); (focus (rfl)); refine ⟨.agg D.toArray, fun W hW => exec_load_mid 48 (.tmp 4) ?_ z 0 ?_ D _ (Row.range (Row.ext Y7.out (E0.out.trans (but_ext hW)))) Try.underlying48 rfl hsD.out, ?_⟩; (focus (rfl)); (focus (rfl)); go_simp; refine hK _ ?_; clear hK K)
              | (refine wpM_valK ?_ (fun K hK => ?_); (focus (rfl)); refine ⟨.agg (O2.map b8).toArray, fun W hW => exec_load_mid 41 (.tmp 46) ?_ z 33 ?_ (O2.map b8) _ (fun j v hv => (E0.out.trans (but_ext hW)).cell (p7.out j v hv)) Try.underlying41 rfl ls.out, ?_⟩; (focus (rfl)); (focus (rfl)); go_simp; refine hK _ ?_; clear hK K)
              | (refine wpM_valK ?_ (fun K hK => ?_); (focus (rfl)); apply Exists.intro; refine ⟨fun W hW => ?_, ?_⟩; (focus (have hs0 := True.intro; go_simp; (try rfl); done)); go_simp; refine hK _ ?_; clear hK K))
            refine wpM_loudS 19 #[.slice A n c] (by rfl) (fun W => by go_simp) (fun W hW => (hAll.out W (below_ext C8.out (E0.out.trans hW))).mono ?_)
            rintro e_ w9 ⟨rfl, b_⟩
            refine ⟨_, rfl, But.of_below b_, fun K hK => ?_⟩
            go_simp
            refine hK _ ?_
            clear hK K
            have E1 := hideP (E0.out.trans (hW.trans (Ext.of_below b_)))
            clear b_ hW
            iterate 3 (first
              | (refine wpM_skipK ?_ (fun K hK => ?_); (focus (rfl)); go_simp; refine hK _ ?_; clear hK K)
              | (refine wpM_valK ?_ (fun K hK => ?_); (focus (rfl)); refine ⟨.agg D.toArray, fun W hW => exec_load_mid 48 (.tmp 4) ?_ z 0 ?_ D _ (Row.range (Row.ext Y7.out (E1.out.trans (but_ext hW)))) Try.underlying48 rfl hsD.out, ?_⟩; (focus (rfl)); (focus (rfl)); go_simp; refine hK _ ?_; clear hK K)
              | (refine wpM_valK ?_ (fun K hK => ?_); (focus (rfl)); refine ⟨.agg (O2.map b8).toArray, fun W hW => exec_load_mid 41 (.tmp 46) ?_ z 33 ?_ (O2.map b8) _ (fun j v hv => (E1.out.trans (but_ext hW)).cell (p7.out j v hv)) Try.underlying41 rfl ls.out, ?_⟩; (focus (rfl)); (focus (rfl)); go_simp; refine hK _ ?_; clear hK K)
              | (refine wpM_valK ?_ (fun K hK => ?_); (focus (rfl)); apply Exists.intro; refine ⟨fun W hW => ?_, ?_⟩; (focus (have hs0 := True.intro; go_simp; (try rfl); done)); go_simp; refine hK _ ?_; clear hK K))
            refine wpM_skipK' ?_ (fun W hW K hK => ?_)
            · rfl
            go_simp
            refine hK _ ?_
            clear hK K
            have E2 := hideP (E1.out.trans hW)
            clear hW
            iterate 6 (first
              | (refine wpM_skipK ?_ (fun K hK => ?_); (focus (rfl)); go_simp; refine hK _ ?_; clear hK K)
              | (refine wpM_valK ?_ (fun K hK => ?_); (focus (rfl)); refine ⟨.agg D.toArray, fun W hW => exec_load_mid 48 (.tmp 4) ?_ z 0 ?_ D _ (Row.range (Row.ext Y7.out (E2.out.trans (but_ext hW)))) Try.underlying48 rfl hsD.out, ?_⟩; (focus (rfl)); (focus (rfl)); go_simp; refine hK _ ?_; clear hK K)
              | (refine wpM_valK ?_ (fun K hK => ?_); (focus (rfl)); refine ⟨.agg (O2.map b8).toArray, fun W hW => exec_load_mid 41 (.tmp 46) ?_ z 33 ?_ (O2.map b8) _ (fun j v hv => (E2.out.trans (but_ext hW)).cell (p7.out j v hv)) Try.underlying41 rfl ls.out, ?_⟩; (focus (rfl)); (focus (rfl)); go_simp; refine hK _ ?_; clear hK K)
              | (refine wpM_valK ?_ (fun K hK => ?_); (focus (rfl)); apply Exists.intro; refine ⟨fun W hW => ?_, ?_⟩; (focus (have hs0 := True.intro; go_simp; (try rfl); done)); go_simp; refine hK _ ?_; clear hK K))
            refine wpM_skipK' ?_ (fun W hW K hK => ?_)
            · rfl
            go_simp
            refine hK _ ?_
            clear hK K
            have E3 := hideP (E2.out.trans hW)
            clear hW
            refine wpM_skipK' ?_ (fun W hW K hK => ?_)
            · rfl
            go_simp
            refine hK _ ?_
            clear hK K
            have E4 := hideP (E3.out.trans hW)
            clear hW
            iterate 2 (first
              | (refine wpM_skipK ?_ (fun K hK => ?_); (focus (rfl)); go_simp; refine hK _ ?_; clear hK K)
              | (refine wpM_valK ?_ (fun K hK => ?_); (focus (rfl)); refine ⟨.agg D.toArray, fun W hW => exec_load_mid 48 (.tmp 4) ?_ z 0 ?_ D _ (Row.range (Row.ext Y7.out (E4.out.trans (but_ext hW)))) Try.underlying48 rfl hsD.out, ?_⟩; (focus (rfl)); (focus (rfl)); go_simp; refine hK _ ?_; clear hK K)
              | (refine wpM_valK ?_ (fun K hK => ?_); (focus (rfl)); refine ⟨.agg (O2.map b8).toArray, fun W hW => exec_load_mid 41 (.tmp 46) ?_ z 33 ?_ (O2.map b8) _ (fun j v hv => (E4.out.trans (but_ext hW)).cell (p7.out j v hv)) Try.underlying41 rfl ls.out, ?_⟩; (focus (rfl)); (focus (rfl)); go_simp; refine hK _ ?_; clear hK K)
              | (refine wpM_valK ?_ (fun K hK => ?_); (focus (rfl)); apply Exists.intro; refine ⟨fun W hW => ?_, ?_⟩; (focus (have hs0 := True.intro; go_simp; (try rfl); done)); go_simp; refine hK _ ?_; clear hK K))
            refine wpM_nil (fun W26 hW26 => ?_)
            simp only [List.drop_succ_cons, List.drop_zero, List.drop_nil]
            have B26 := hideP (below_ext C8.out (E4.out.trans hW26))
            clear hW26
            go_wp2_with fail
            go_ret
            exact ⟨rfl, B26.out⟩
        · skip
          obtain ⟨hr, hall, hops⟩ := blockR_facts hbr
          rw [hall] at hAll
          rw [hr] at hHR
          have hRe := opsR_eq hall
          have hTO : h'.ops = TD := by rw [HTD.out, hRe, hops]
          have hn9 := fun W => by have := run_neq_dge h'.ops h'.ops hk'.o hk'.o hk'.oB hk'.oB W; rwa [show (!decide (h'.ops = h'.ops)) = false by simp] at this
          have hEQ := fun W => by have := run_neq_head h' h' hk' hk' W; rwa [eqH_refl] at this
          have hRB := fun W (hW : Below w.heap.size w W) => rwblock_any h' hk' A l ps n c W hn' (HL.out W hW) (by omega) Hw.out
          rw [hRe, show textB (headB h') ++ textB (opsB l) = blockB h' l from rfl] at hRB
          have hSm := hideP (fun W A' ps' c' (hA' : OpsL W W.heap.size A' l ps') (hW : Below w.heap.size w W) => rsame_eq A' A l ps' ps n c' c W hn' hA' (HL.out W hW) (by omega))
          obtain ⟨Z, hZ⟩ : ∃ Z, Z = blockB h' l := ⟨_, rfl⟩
          have hnz := hideP (show Z.length ≤ 1100000 by rw [hZ]; unfold blockB textB; have h1 := opsB_small hall; have h2 := hk'.len; have h3 : ∀ k, (be3 k).length = 3 := fun _ => rfl; simp only [List.length_append, h3, h2]; omega)
          have hZB := hideP (show IsB Z by rw [hZ]; exact isB_append (isB_textB _ hk'.isB) (isB_textB _ (isB_opsB hall)))
          have hb7 := fun W (hW : Below w.heap.size w W) => bblock_any h' hk' A l ps n c W hn' (HL.out W hW) (by omega)
          rw [hbr, ← hZ] at hb7
          rw [← hZ] at hRB
          have HZ := hideP hZ
          clear hZ
          obtain ⟨nz, hnZ⟩ : ∃ m, m = Z.length := ⟨_, rfl⟩
          rw [← hnZ] at hnz hRB
          have HnZ := hideP hnZ
          have hB7 := hideP (fun W (hW : Below w.heap.size w W) => show Calls Try.prog 26 #[.agg (headC h').toArray, .slice A n c] W (fun e w' => ∃ R d, e = .returned (.tuple #[.slice R nz d, .int .i64 0]) ∧ OwnB w' W.heap.size R d Z ∧ Below W.heap.size W w') by
            refine (hb7 W hW).mono ?_
            rintro e w' ⟨b_, (⟨_, R, m, d, rfl, rfl, o_⟩ | ⟨h, _⟩)⟩
            · exact ⟨R, d, by rw [hnZ], o_, b_⟩
            · exact absurd h (by simp))
          clear hb7
          have hRd := hideP (fun W R d (hX : Arr W W.heap.size R nz (u8s Z)) => show Calls Try.prog 28 #[.slice R nz d] W (fun e w' => (∃ R2 d2 ps2, e = .returned (.tuple #[.agg (headC h').toArray, .slice R2 n d2, .int .i64 0]) ∧ OpsH w' W.heap.size R2 l ps2) ∧ Below W.heap.size W w') by
            have := breadblock_any R Z nz d W HnZ.out hX hZB.out (by have := hnz.out; omega)
            rw [HZ.out, rBlock_app hk' hbr HIm.out] at this
            refine this.mono ?_
            rintro e w' ⟨b_, (⟨h, _⟩ | ⟨h3, l3, R3, d3, ps3, n3, h, hn3, rfl, ho⟩)⟩
            · exact absurd h (by simp)
            · obtain ⟨rfl, rfl⟩ := Prod.mk.inj (Option.some.inj h)
              subst hn3
              rw [← hn'] at *
              exact ⟨⟨R3, d3, ps3, rfl, ho⟩, b_⟩)
          have hRm0 := fun W R d (hX : Arr W W.heap.size R (nz + nm) (u8s (Z ++ mo))) => breadblock_any R (Z ++ mo) (nz + nm) d W (by rw [List.length_append, hnZ, Hmo.out]) hX (isB_append hZB.out HmI.out) (by have := hnz.out; have := Hnm.out; omega)
          rw [HZ.out, rBlock_more hk' hbr HIm.out mo, ← HZ.out] at hRm0
          have hmo0 : (mo = []) = (nm = 0) := by rw [Hmo.out, List.length_eq_zero_iff]
          simp only [hmo0] at hRm0
          have cvZ := fun W R d (hX : Arr W W.heap.size R nz (u8s Z)) => by have := run_str (P := Try.prog) W 31 5 Try.underlying31 Try.underlying5 (c := d) (show Arr W W.heap.size R Z.length (u8s Z) by rw [← hnZ]; exact hX) rfl 9 Try.underlying9; rwa [← hnZ] at this
          have hSS : ((bstr Z).toList == (bstr Z).toList) = true := by rw [bstr_beq hZB.out hZB.out]; exact decide_eq_true rfl
          obtain ⟨SZ, hSZ⟩ : ∃ S, S = bstr Z := ⟨_, rfl⟩
          rw [← hSZ] at cvZ hSS
          have cvZ := hideP cvZ; have HSS := hideP hSS
          clear hSS hSZ hmo0 hnZ
          obtain ⟨D, hD⟩ : ∃ C, C = headC h' := ⟨_, rfl⟩
          have p7 := hideP (hpD.out v7 z Y7.out)
          rw [← hD] at Y7 hB7 hHR hsD hC1D hsoD hpD
          obtain ⟨O2, hO2⟩ : ∃ P, P = h'.ops := ⟨_, rfl⟩
          rw [← hO2] at p7 ls hpD
          have HD := hideP hD
          have HO2 := hideP hO2
          clear hD hO2
          rw [← HD.out] at hEQ hRB hRd
          rw [← HO2.out] at hn9 hTO
          have hRm := hideP hRm0
          have HN9 := hideP hn9
          have HEQ2 := hideP hEQ
          have HRB := hideP hRB
          subst hTO
          clear hn9 hbr hall hr hn' hk' hl hops hRe hEQ hRB hRm0 HTD HO2 HZ
          go_upto_region 8 with (first
            | (refine wpList_load_row rfl 48 (.tmp 4) rfl z rfl 48 D.toArray (0, 0) _ Y7.out Try.underlying48 rfl hsD.out ?_)
            | (go_at_call 26; refine (hB7.out v7 C7.out).mono ?_; rintro e w8 ⟨R8, d8, rfl, o_, b_⟩; have C8 := hideP (bstep C7.out b_); have O8 := hideP (show Arr w8 w8.heap.size R8 nz (u8s Z) by rw [HnZ.out]; exact o_.arr); replace p7 := hideP (show w8.rangeAt z 33 (O2.map b8) from fun j v hv => (Ext.of_below b_).cell (p7.out j v hv)); replace Y7 := hideP (Row.after Y7.out b_); clear b_ o_))
          have hn9 := HN9.out
          have hOp := hOp0; have hOS := hOS0
          refine wp_region_mut (S := fun _ => False) 16 (.q 0 (.l 1 (.q 2 (.q 3 (.q 4 (.l 5 (.q 6 (.q 7 (.q 8 (.q 9 (.q 10 (.q 11 (.l 12 (.l 13 (.q 14 (.q 15 .nil)))))))))))))))) (by kernel_rfl) (by kernel_rfl) ?_
          simp only [pickT, nthO_zero, nthO_succ]
          have hdrew := (Ext.refl w8.drew).drew_left
          have E0 := hideP hdrew
          clear hdrew
          iterate 1 (first
            | (refine wpM_skipK ?_ (fun K hK => ?_); (focus (rfl)); go_simp; refine hK _ ?_; clear hK K)
            | (refine wpM_valK ?_ (fun K hK => ?_); (focus (rfl)); refine ⟨.agg D.toArray, fun W hW => exec_load_mid 48 (.tmp 4) ?_ z 0 ?_ D _ (Row.range (Row.ext Y7.out (E0.out.trans (but_ext hW)))) Try.underlying48 rfl hsD.out, ?_⟩; (focus (rfl)); (focus (rfl)); go_simp; refine hK _ ?_; clear hK K)
            | (refine wpM_valK ?_ (fun K hK => ?_); (focus (rfl)); refine ⟨.agg (O2.map b8).toArray, fun W hW => exec_load_mid 41 (.tmp 46) ?_ z 33 ?_ (O2.map b8) _ (fun j v hv => (E0.out.trans (but_ext hW)).cell (p7.out j v hv)) Try.underlying41 rfl ls.out, ?_⟩; (focus (rfl)); (focus (rfl)); go_simp; refine hK _ ?_; clear hK K)
            | (refine wpM_valK ?_ (fun K hK => ?_); (focus (rfl)); apply Exists.intro; refine ⟨fun W hW => ?_, ?_⟩; (focus (have hs0 := True.intro; go_simp; (try rfl); done)); go_simp; refine hK _ ?_; clear hK K))
          refine wpM_loudS 19 #[.slice A n c] (by rfl) (fun W => by go_simp) (fun W hW => (hAll.out W (below_ext C8.out (E0.out.trans hW))).mono ?_)
          rintro e_ w9 ⟨rfl, b_⟩
          refine ⟨_, rfl, But.of_below b_, fun K hK => ?_⟩
          go_simp
          refine hK _ ?_
          clear hK K
          have E1 := hideP (E0.out.trans (hW.trans (Ext.of_below b_)))
          clear b_ hW
          iterate 3 (first
            | (refine wpM_skipK ?_ (fun K hK => ?_); (focus (rfl)); go_simp; refine hK _ ?_; clear hK K)
            | (refine wpM_valK ?_ (fun K hK => ?_); (focus (rfl)); refine ⟨.agg D.toArray, fun W hW => exec_load_mid 48 (.tmp 4) ?_ z 0 ?_ D _ (Row.range (Row.ext Y7.out (E1.out.trans (but_ext hW)))) Try.underlying48 rfl hsD.out, ?_⟩; (focus (rfl)); (focus (rfl)); go_simp; refine hK _ ?_; clear hK K)
            | (refine wpM_valK ?_ (fun K hK => ?_); (focus (rfl)); refine ⟨.agg (O2.map b8).toArray, fun W hW => exec_load_mid 41 (.tmp 46) ?_ z 33 ?_ (O2.map b8) _ (fun j v hv => (E1.out.trans (but_ext hW)).cell (p7.out j v hv)) Try.underlying41 rfl ls.out, ?_⟩; (focus (rfl)); (focus (rfl)); go_simp; refine hK _ ?_; clear hK K)
            | (refine wpM_valK ?_ (fun K hK => ?_); (focus (rfl)); apply Exists.intro; refine ⟨fun W hW => ?_, ?_⟩; (focus (have hs0 := True.intro; go_simp; (try rfl); done)); go_simp; refine hK _ ?_; clear hK K))
          refine wpM_loudS 27 #[.agg D.toArray] (by rfl) (fun W => by go_simp) (fun W hW => (hHR.out W).mono ?_)
          rintro e_ w10 ⟨rfl, b_⟩
          refine ⟨_, rfl, But.of_below b_, fun K hK => ?_⟩
          go_simp
          refine hK _ ?_
          clear hK K
          have E2 := hideP (E1.out.trans (hW.trans (Ext.of_below b_)))
          clear b_ hW
          iterate 6 (first
            | (refine wpM_skipK ?_ (fun K hK => ?_); (focus (rfl)); go_simp; refine hK _ ?_; clear hK K)
            | (refine wpM_valK ?_ (fun K hK => ?_); (focus (rfl)); refine ⟨.agg D.toArray, fun W hW => exec_load_mid 48 (.tmp 4) ?_ z 0 ?_ D _ (Row.range (Row.ext Y7.out (E2.out.trans (but_ext hW)))) Try.underlying48 rfl hsD.out, ?_⟩; (focus (rfl)); (focus (rfl)); go_simp; refine hK _ ?_; clear hK K)
            | (refine wpM_valK ?_ (fun K hK => ?_); (focus (rfl)); refine ⟨.agg (O2.map b8).toArray, fun W hW => exec_load_mid 41 (.tmp 46) ?_ z 33 ?_ (O2.map b8) _ (fun j v hv => (E2.out.trans (but_ext hW)).cell (p7.out j v hv)) Try.underlying41 rfl ls.out, ?_⟩; (focus (rfl)); (focus (rfl)); go_simp; refine hK _ ?_; clear hK K)
            | (refine wpM_valK ?_ (fun K hK => ?_); (focus (rfl)); apply Exists.intro; refine ⟨fun W hW => ?_, ?_⟩; (focus (have hs0 := True.intro; go_simp; (try rfl); done)); go_simp; refine hK _ ?_; clear hK K))
          refine wpM_loudS 21 #[.slice A n c] (by rfl) (fun W => by go_simp) (fun W hW => (hOp.out W (below_ext C8.out (E2.out.trans hW))).mono ?_)
          rintro e_ w11 ⟨R11, d11, rfl, o_, b_⟩
          refine ⟨_, rfl, But.of_below b_, fun K hK => ?_⟩
          go_simp
          refine hK _ ?_
          clear hK K
          have E3 := hideP (E2.out.trans (hW.trans (Ext.of_below b_)))
          have O11 := hideP (fun W (hW : Ext w11 W) => (o_.ext hW).arr)
          clear o_ b_ hW
          refine wpM_loudS 24 #[.slice R11 P.length d11] (by rfl) (fun W => by go_simp) (fun W hW => (hOS.out W R11 d11 (O11.out W hW)).mono ?_)
          rintro e_ w12 ⟨rfl, b_⟩
          refine ⟨_, rfl, But.of_below b_, fun K hK => ?_⟩
          go_simp
          refine hK _ ?_
          clear hK K
          have E4 := hideP (E3.out.trans (hW.trans (Ext.of_below b_)))
          clear b_ hW
          iterate 2 (first
            | (refine wpM_skipK ?_ (fun K hK => ?_); (focus (rfl)); go_simp; refine hK _ ?_; clear hK K)
            | (refine wpM_valK ?_ (fun K hK => ?_); (focus (rfl)); refine ⟨.agg D.toArray, fun W hW => exec_load_mid 48 (.tmp 4) ?_ z 0 ?_ D _ (Row.range (Row.ext Y7.out (E4.out.trans (but_ext hW)))) Try.underlying48 rfl hsD.out, ?_⟩; (focus (rfl)); (focus (rfl)); go_simp; refine hK _ ?_; clear hK K)
            | (refine wpM_valK ?_ (fun K hK => ?_); (focus (rfl)); refine ⟨.agg (O2.map b8).toArray, fun W hW => exec_load_mid 41 (.tmp 46) ?_ z 33 ?_ (O2.map b8) _ (fun j v hv => (E4.out.trans (but_ext hW)).cell (p7.out j v hv)) Try.underlying41 rfl ls.out, ?_⟩; (focus (rfl)); (focus (rfl)); go_simp; refine hK _ ?_; clear hK K)
            | (refine wpM_valK ?_ (fun K hK => ?_); (focus (rfl)); apply Exists.intro; refine ⟨fun W hW => ?_, ?_⟩; (focus (have hs0 := True.intro; go_simp; (try rfl); done)); go_simp; refine hK _ ?_; clear hK K))
          refine wpM_nil (fun W9 hW9 => ?_)
          simp only [List.drop_succ_cons, List.drop_zero, List.drop_nil]
          have hx9 := E4.out.trans hW9
          have C9 := hideP (below_ext C8.out hx9)
          have O9 := hideP (O8.out.after hx9.below)
          have Y9 := hideP (Row.ext Y7.out hx9)
          clear hW9 hx9 E0 E1 E2 E3 E4 O11 C8 O8 Y7 p7 hn9 HN9 hOp hOS hOp0 hOS0 hAll hHR hB7 C7
          go_upto_region 11 with (first
            | (go_at_call 28; refine (hRd.out W9 R8 d8 O9.out).mono ?_; rintro e w21 ⟨⟨R2, d2, ps2, rfl, o_⟩, b_⟩; have C21 := hideP (bstep C9.out b_); have L21 := hideP o_; have Y21 := hideP (Row.after Y9.out b_); have O21 := hideP (O9.out.after b_); clear b_ o_)
            | (refine wpList_store_row rfl 48 (.tmp 11) (.tmp 63) rfl w21.heap.size D.toArray rfl rfl 48 (headC headZ).toArray (Row.new w21 48 (headC headZ)) hsD.out hsoD.out hC1D.out ?_))
          obtain ⟨q, hq⟩ : ∃ u, u = w21.heap.size := ⟨_, rfl⟩
          obtain ⟨v22, hv22⟩ : ∃ v, v = (w21.alloc (.cells Try.zeroCells48 48)).setRow q D.toArray := ⟨_, rfl⟩
          rw [← hq, ← hv22]
          have hb22 : Below w21.heap.size w21 v22 := by rw [hv22, hq]; exact below_setRow' (below_new w21 _) (Nat.le_refl _) _
          have Y22 := hideP (show Row v22 q 48 D by rw [hv22, hq]; exact Row.setRow (Row.new w21 48 (headC headZ)) D)
          have L22 := hideP (L21.out.after hb22)
          have C22 := hideP (bstep C21.out hb22)
          have O22 := hideP (O21.out.after hb22)
          have Y7 := hideP (Row.after Y21.out hb22)
          clear hv22 hb22 hq L21 C21 O21 Y21 O9 Y9 C9
          have hss := HSS.out
          have he := HEQ2.out
          refine wp_region_mut (S := fun _ => False) 26 (.q 0 (.q 1 (.q 2 (.q 3 (.q 4 (.q 5 (.q 6 (.l 7 (.q 8 (.q 9 (.q 10 (.q 11 (.q 12 (.q 13 (.q 14 (.q 15 (.q 16 (.q 17 (.q 18 (.q 19 (.q 20 (.q 21 (.q 22 (.l 23 (.q 24 (.q 25 .nil)))))))))))))))))))))))))) (by kernel_rfl) (by kernel_rfl) ?_
          simp only [pickT, nthO_zero, nthO_succ]
          have hdrew := (Ext.refl v22.drew).drew_left
          have E0 := hideP hdrew
          clear hdrew
          have cv22 := hideP (fun W (hW : Ext v22 W) => cvZ.out W R8 d8 (O22.out.after hW.below))
          iterate 7 (first
            | (refine wpM_valK ?_ (fun K hK => ?_); (focus (rfl)); refine ⟨.agg D.toArray, fun W hW => exec_load_mid 48 (.tmp 4) ?_ z 0 ?_ D _ (Row.range (Row.ext Y7.out (E0.out.trans (but_ext hW)))) Try.underlying48 rfl hsD.out, ?_⟩; (focus (rfl)); (focus (rfl)); go_simp; refine hK _ ?_; clear hK K)
            | (refine wpM_valK ?_ (fun K hK => ?_); (focus (rfl)); refine ⟨.agg D.toArray, fun W hW => exec_load_mid 48 (.tmp 11) ?_ q 0 ?_ D _ (Row.range (Row.ext Y22.out (E0.out.trans (but_ext hW)))) Try.underlying48 rfl hsD.out, ?_⟩; (focus (rfl)); (focus (rfl)); go_simp; refine hK _ ?_; clear hK K)
            | (refine wpM_valK ?_ (fun K hK => ?_); (focus (rfl)); apply Exists.intro; refine ⟨fun W hW => ?_, ?_⟩; (focus (have hs0 := cv22.out W (E0.out.trans (but_ext hW)); go_simp; (try rfl); done)); go_simp; refine hK _ ?_; clear hK K))
          refine wpM_loudS 29 #[.agg D.toArray, .slice A n c] (by rfl) (fun W => by go_simp) (fun W hW => (HRB.out W (below_ext C22.out (E0.out.trans hW))).mono ?_)
          rintro e_ w23 ⟨R23, d23, rfl, o_, b_⟩
          refine ⟨_, rfl, But.of_below b_, fun K hK => ?_⟩
          go_simp
          refine hK _ ?_
          clear hK K
          have E1 := hideP (E0.out.trans (hW.trans (Ext.of_below b_)))
          have cv23 := hideP (fun W (hW : Ext w23 W) => cvZ.out W R23 d23 (by have := (o_.ext hW).arr; rwa [← HnZ.out] at this))
          clear o_ b_ hW
          iterate 15 (first
            | (refine wpM_valK ?_ (fun K hK => ?_); (focus (rfl)); refine ⟨.agg D.toArray, fun W hW => exec_load_mid 48 (.tmp 4) ?_ z 0 ?_ D _ (Row.range (Row.ext Y7.out (E1.out.trans (but_ext hW)))) Try.underlying48 rfl hsD.out, ?_⟩; (focus (rfl)); (focus (rfl)); go_simp; refine hK _ ?_; clear hK K)
            | (refine wpM_valK ?_ (fun K hK => ?_); (focus (rfl)); refine ⟨.agg D.toArray, fun W hW => exec_load_mid 48 (.tmp 11) ?_ q 0 ?_ D _ (Row.range (Row.ext Y22.out (E1.out.trans (but_ext hW)))) Try.underlying48 rfl hsD.out, ?_⟩; (focus (rfl)); (focus (rfl)); go_simp; refine hK _ ?_; clear hK K)
            | (refine wpM_valK ?_ (fun K hK => ?_); (focus (rfl)); apply Exists.intro; refine ⟨fun W hW => ?_, ?_⟩; (focus (have hs0 := cv23.out W (but_ext hW); go_simp; (try rfl); done)); go_simp; refine hK _ ?_; clear hK K))
          refine wpM_loudS 22 #[.slice R2 n d2, .slice A n c] (by rfl) (fun W => by go_simp) (fun W hW => (hSm.out W R2 ps2 d2 (L22.out.after (E1.out.trans hW).below).opsL (below_ext C22.out (E1.out.trans hW))).mono ?_)
          rintro e_ w24 ⟨rfl, b_⟩
          refine ⟨_, rfl, But.of_below b_, fun K hK => ?_⟩
          go_simp
          refine hK _ ?_
          clear hK K
          have E2 := hideP (E1.out.trans (hW.trans (Ext.of_below b_)))
          clear b_ hW
          iterate 2 (first
            | (refine wpM_valK ?_ (fun K hK => ?_); (focus (rfl)); refine ⟨.agg D.toArray, fun W hW => exec_load_mid 48 (.tmp 4) ?_ z 0 ?_ D _ (Row.range (Row.ext Y7.out (E2.out.trans (but_ext hW)))) Try.underlying48 rfl hsD.out, ?_⟩; (focus (rfl)); (focus (rfl)); go_simp; refine hK _ ?_; clear hK K)
            | (refine wpM_valK ?_ (fun K hK => ?_); (focus (rfl)); refine ⟨.agg D.toArray, fun W hW => exec_load_mid 48 (.tmp 11) ?_ q 0 ?_ D _ (Row.range (Row.ext Y22.out (E2.out.trans (but_ext hW)))) Try.underlying48 rfl hsD.out, ?_⟩; (focus (rfl)); (focus (rfl)); go_simp; refine hK _ ?_; clear hK K)
            | (refine wpM_valK ?_ (fun K hK => ?_); (focus (rfl)); apply Exists.intro; refine ⟨fun W hW => ?_, ?_⟩; (focus (have hs0 := True.intro; go_simp; (try rfl); done)); go_simp; refine hK _ ?_; clear hK K))
          refine wpM_nil (fun W26 hW26 => ?_)
          simp only [List.drop_succ_cons, List.drop_zero, List.drop_nil]
          have hx26 := E2.out.trans hW26
          have C26 := hideP (below_ext C22.out hx26)
          have O26 := hideP (O22.out.after hx26.below)
          clear hW26 hx26 E0 E1 E2 C22 O22 L22 Y7 Y22 cv22 cv23 hss he HSS HEQ2 HRB hSm cvZ hRd
          have bn := hideP (below_new W26 (Obj.cells #[] 5))
          have A14 := hideP (O26.out.after bn.out)
          have C14 := hideP (bstep C26.out bn.out)
          have o14 := hideP (OwnB.lit0 W26)
          have z14 := hideP (show W26.heap.size ≤ (W26.alloc (Obj.cells #[] 5)).heap.size by simp)
          by_cases hm0 : nm = 0
          · have hi0 : (nm : Int) = 0 := by omega
            have hRn := hideP (fun W R d hX => show Calls Try.prog 28 #[.slice R (nz + nm) d] W (fun e w' => (∃ R2 d2, e = .returned (.tuple #[.agg D.toArray, .slice R2 n d2, .int .i64 0])) ∧ Below W.heap.size W w') by
              have := hRm.out W R d hX
              rw [if_pos hm0] at this
              refine this.mono ?_
              rintro e w' ⟨b_, (⟨h, _⟩ | ⟨h3, l3, R3, d3, ps3, n3, h, hn3, rfl, ho⟩)⟩
              · exact absurd h (by simp)
              · obtain ⟨rfl, rfl⟩ := Prod.mk.inj (Option.some.inj h)
                subst hn3
                exact ⟨⟨R3, d3, by rw [HD.out, Hn.out]⟩, b_⟩)
            clear hm0 hRm
            go_upto_region 14 with (first
              | (at_builtin; refine wpList_appn rfl (.tmp 93) (.tmp 94) rfl W26.heap.size (some ⟨W26.heap.size, 0, none⟩) 0 0 [] rfl rfl o14.out _ R8 nz d8 Z HnZ.out rfl A14.out (by have := hnz.out; omega) z14.out ?_; intro A15 c15 w15 o_ b_; have z15 := hideP (Nat.le_trans z14.out b_.size); have O15 := hideP (show OwnB w15 W26.heap.size A15 c15 Z from o_); have C15 := hideP (C14.out.trans (b_.mono C26.out.size)); clear o_ b_)
              | (at_builtin; refine wpList_appn rfl (.tmp 95) (.tmp 96) rfl W26.heap.size A15 c15 nz Z HnZ.out rfl O15.out _ M nm cm mo Hmo.out rfl (HM.out.after C15.out) (by have := hnz.out; have := Hnm.out; omega) z15.out ?_; intro A16 c16 w16 o_ b_; have O16 := hideP (show Arr w16 w16.heap.size A16 (nz + nm) (u8s (Z ++ mo)) by have := o_.arr; rwa [List.length_append, ← HnZ.out, ← Hmo.out] at this); have C16 := hideP (C15.out.trans (b_.mono C26.out.size)); clear o_ b_)
              | (go_at_call 28; refine (hRn.out w16 A16 c16 O16.out).mono ?_; rintro e w17 ⟨⟨R17, d17, rfl⟩, b_⟩; have C17 := hideP (bstep C16.out b_); clear b_)
              | (refine wpList_store_row rfl 48 (.tmp 14) (.tmp 99) rfl w17.heap.size D.toArray rfl rfl 48 (headC headZ).toArray (Row.new w17 48 (headC headZ)) hsD.out hsoD.out hC1D.out ?_))
            obtain ⟨u, hu⟩ : ∃ u, u = w17.heap.size := ⟨_, rfl⟩
            obtain ⟨v18, hv18⟩ : ∃ v, v = (w17.alloc (.cells Try.zeroCells48 48)).setRow u D.toArray := ⟨_, rfl⟩
            rw [← hu, ← hv18]
            have hb18 : Below w17.heap.size w17 v18 := by rw [hv18, hu]; exact below_setRow' (below_new w17 _) (Nat.le_refl _) _
            have C18 := hideP (bstep C17.out hb18)
            clear hv18 hb18 hu
            go_wp2_with fail
            go_ret
            exact ⟨rfl, C18.out⟩
          · have hi0 : ¬ (nm : Int) = 0 := by omega
            have hi1 : ((nm : Int) == 0) = false := by simp; omega
            have hRn := hideP (fun W R d hX => show Calls Try.prog 28 #[.slice R (nz + nm) d] W (fun e w' => e = .returned (.tuple #[.agg (headC headZ).toArray, .slice none 0 0, .int .i64 21]) ∧ Below W.heap.size W w') by
              have := hRm.out W R d hX
              rw [if_neg hm0] at this
              refine this.mono ?_
              rintro e w' ⟨b_, (⟨_, rfl⟩ | ⟨_, _, _, _, _, _, h, _⟩)⟩
              · exact ⟨rfl, b_⟩
              · exact absurd h (by simp))
            have hs0 := hideP (size_h97 headZ_okz.cells)
            have hC1 := hideP (headC_one headZ)
            obtain ⟨C0, hC0⟩ : ∃ C, C = headC headZ := ⟨_, rfl⟩
            have hso0 := hideP (show (headC headZ).toArray.size = C0.toArray.size by rw [hC0])
            rw [← hC0] at hRn hs0 hC1
            clear hm0 hRm hC0
            go_upto_region 14 with (first
              | (at_builtin; refine wpList_appn rfl (.tmp 93) (.tmp 94) rfl W26.heap.size (some ⟨W26.heap.size, 0, none⟩) 0 0 [] rfl rfl o14.out _ R8 nz d8 Z HnZ.out rfl A14.out (by have := hnz.out; omega) z14.out ?_; intro A15 c15 w15 o_ b_; have z15 := hideP (Nat.le_trans z14.out b_.size); have O15 := hideP (show OwnB w15 W26.heap.size A15 c15 Z from o_); have C15 := hideP (C14.out.trans (b_.mono C26.out.size)); clear o_ b_)
              | (at_builtin; refine wpList_appn rfl (.tmp 95) (.tmp 96) rfl W26.heap.size A15 c15 nz Z HnZ.out rfl O15.out _ M nm cm mo Hmo.out rfl (HM.out.after C15.out) (by have := hnz.out; have := Hnm.out; omega) z15.out ?_; intro A16 c16 w16 o_ b_; have O16 := hideP (show Arr w16 w16.heap.size A16 (nz + nm) (u8s (Z ++ mo)) by have := o_.arr; rwa [List.length_append, ← HnZ.out, ← Hmo.out] at this); have C16 := hideP (C15.out.trans (b_.mono C26.out.size)); clear o_ b_)
              | (go_at_call 28; refine (hRn.out w16 A16 c16 O16.out).mono ?_; rintro e w17 ⟨rfl, b_⟩; have C17 := hideP (bstep C16.out b_); clear b_)
              | (refine wpList_store_row rfl 48 (.tmp 14) (.tmp 99) rfl w17.heap.size C0.toArray rfl rfl 48 (headC headZ).toArray (Row.new w17 48 (headC headZ)) hs0.out hso0.out hC1.out ?_))
            obtain ⟨u, hu⟩ : ∃ u, u = w17.heap.size := ⟨_, rfl⟩
            obtain ⟨v18, hv18⟩ : ∃ v, v = (w17.alloc (.cells Try.zeroCells48 48)).setRow u C0.toArray := ⟨_, rfl⟩
            rw [← hu, ← hv18]
            have hb18 : Below w17.heap.size w17 v18 := by rw [hv18, hu]; exact below_setRow' (below_new w17 _) (Nat.le_refl _) _
            have C18 := hideP (bstep C17.out hb18)
            clear hv18 hb18 hu
            go_wp2_with fail
            go_ret
            exact ⟨rfl, C18.out⟩
    · have h1' : decide ((100 : Int) < (nm : Int)) = true := by simp; omega
      have h1'' : (100 : Int) < (nm : Int) := by omega
      clear hsm hsR h100
      go_enter Try.func5, Try.ntmps5
      go_upto_region 1 with fail
      rw [← hv, ← hz]
      clear hv hz
      go_wp2_with (first
        | (go_at_call 12; refine (alive19_any v).mono ?_; rintro e w1 ⟨rfl, b_⟩; have B3 := hideP (bstep B1.out b_); clear b_)
        | (go_at_call 13; refine (hG.out w1 B3.out).mono ?_; rintro e w2 ⟨rfl, rfl⟩))
      go_ret
      exact ⟨rfl, B3.out⟩
theorem walk_BlockBack (h : HeadD) (A : Option Addr) (l : List OpD) (ps : Nat → OpP) (c : Nat) (own : Bool) (M : Option Addr) (mo : List Nat) (cm : Nat) (w : World) (hk : HeadOk h) (hA0 : OpsM w w.heap.size A l ps) (hM : Arr w w.heap.size M mo.length (u8s mo)) (hI : IsB mo) (hn : mo.length ≤ 140737488351232) :
    Calls Try.prog 5 #[.agg (headC h).toArray, .slice A l.length c, .bool own, .slice M mo.length cm] w fun e w' => e = .returned (.bool true) ∧ Below w.heap.size w w' := blockback_any h A l ps l.length c own M mo mo.length cm w hk rfl hA0 hM rfl hI
end Go.Proofs.Ytiicdnbhphgieaa
