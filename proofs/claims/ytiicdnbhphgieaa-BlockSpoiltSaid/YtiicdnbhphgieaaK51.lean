/- The walk of BlockOps. -/
import Derived.Test.YtiicdnbhphgieaaK38
import Derived.Test.YtiicdnbhphgieaaK49
import Derived.Test.YtiicdnbhphgieaaK50
set_option linter.unusedVariables false
set_option linter.unusedSimpArgs false
namespace Go.Proofs.Ytiicdnbhphgieaa
open Go.RowKit
theorem opsL_isI {w : World} {B : Nat} {A : Option Addr} {l : List OpD} {ps : Nat → OpP} (h : OpsL w B A l ps) : ∀ o ∈ l, IsI o.row := fun o ho => by
  obtain ⟨i, hi, rfl⟩ := List.getElem_of_mem ho
  have := (h.2 i hi).2.num
  simpa only [List.getD, List.getElem?_eq_getElem hi, Option.getD_some] using this
set_option maxRecDepth 100000 in
set_option maxHeartbeats 4000000 in
theorem blockops_any (A : Option Addr) (l : List OpD) (ps : Nat → OpP) (n c : Nat) (s : ByteArray) (w : World) (hn : n = l.length) (hA0 : OpsM w w.heap.size A l ps) :
    Calls Try.prog 3 #[.slice A n c, .string s] w fun e w' => e = .returned (.bool true) ∧ Below w.heap.size w w' := by
  have hG := hideP (fun W (hW : Below w.heap.size w W) => great19_any A l ps n c W hn (hA0.after hW))
  have hsm := hideP (small_ops hA0)
  have hn' := hideP hn
  obtain ⟨G, hGG⟩ : ∃ G, G = greatB l := ⟨_, rfl⟩
  rw [← hGG] at hG hsm
  clear hn hGG hA0
  rcases Bool.eq_false_or_eq_true G with hg | hg
  · subst hg
    go_enter Try.func3, Try.ntmps3
    go_wp2_with (first
      | (go_at_call 12; refine (alive19_any w).mono ?_; rintro e w1 ⟨rfl, b_⟩; have B1 := hideP b_; clear b_)
      | (go_at_call 13; refine (hG.out w1 B1.out).mono ?_; rintro e w2 ⟨rfl, rfl⟩))
    go_ret
    exact ⟨rfl, B1.out⟩
  · subst hg
    by_cases h2 : s.size ≤ 200
    · have h2' : decide ((200 : Int) < (s.size : Int)) = false := by simp; omega
      obtain ⟨hl, hL, hww⟩ := hsm.out rfl
      have hIm := opsL_isI hL
      rw [← hn'.out] at hl
      have HL := hideP (fun W (hW : Below w.heap.size w W) => hL.after hW)
      have Hw := hideP hww
      have hNm := hideP (fun W => isname_any s W (by omega))
      have hRm := hideP (fun W => rname_any s W (by omega))
      have hAll := hideP (fun W (hW : Below w.heap.size w W) => all19_any A l ps n c W hn'.out (hL.after hW) (by omega))
      have hsz := hideP (show (Try.prog.info? 30).map (·.size) = some 4 by kernel_rfl)
      obtain ⟨NB, hNB⟩ : ∃ G, G = nameB (nb s) := ⟨_, rfl⟩
      rw [← hNB] at hNm hRm
      have hI9 := hideP hIm
      clear hIm
      have hIm := hideP hI9.out
      clear hI9
      clear hsm hww h2 hNB hL
      go_enter Try.func3, Try.ntmps3
      go_upto_region 6 with (first
        | (go_at_call 12; refine (alive19_any w).mono ?_; rintro e w1 ⟨rfl, b_⟩; have B1 := hideP b_; clear b_)
        | (go_at_call 13; refine (hG.out w1 B1.out).mono ?_; rintro e w2 ⟨rfl, rfl⟩))
      go_wp2_with fail
      go_loopw [5] (fun v5 wr => ∃ i : Nat, i ≤ n ∧ v5 = .int .i64 (i : Nat) ∧ Hid (Below w.heap.size w wr)) (fun v5 _ => n - (intOf v5).toNat)
      case atStart => exact ⟨0, Nat.zero_le _, rfl, B1.out⟩
      case round =>
        obtain ⟨i, hi, rfl, hV⟩ := hrel
        by_cases hlt : i < n
        · have i1 : (i : Int) < (n : Int) := by omega
          have hLr := HL.out wr hV.out
          obtain ⟨b0, off, hA, hB0, hc⟩ := hLr.1 (by have := hn'.out; omega)
          subst hA
          have hm := (hLr.2 i (by have := hn'.out; omega)).1
          have hok := (hLr.2 i (by have := hn'.out; omega)).2
          have hrg : wr.rangeAt b0 (off + i * 4) (opC (l.getD i default) (ps i)) := hc i (by have := hn'.out; omega)
          obtain ⟨o, ho⟩ : ∃ o, o = l.getD i default := ⟨_, rfl⟩
          obtain ⟨⟨AC, cc, AR, cr⟩, hp⟩ : ∃ p, p = ps i := ⟨_, rfl⟩
          rw [← ho] at hm hrg hok
          rw [← hp] at hm hrg
          unfold opC at hrg
          have hBR := fun W (hW : Ext wr W) => bright_any o o.kind o.cols.length o.row.length o.table AC AR cc cr W rfl rfl rfl rfl ((hm.below hW.below).cols.more hW.below.size) (fun j => by have := hok.col j; omega) (by have := hok.table; omega) (by have := hok.cols; omega) hm.cap (by have := hok.row; omega)
          have hRR := fun W (hW : Ext wr W) => rright_any o o.kind o.cols.length o.row.length o.table AC AR cc cr W rfl rfl rfl rfl ((hm.below hW.below).cols.more hW.below.size) (fun j => by have := hok.col j; omega) (by have := hok.table; omega) (by have := hok.cols; omega) (by have := hok.row; omega)
          obtain ⟨k, e1⟩ : ∃ k, k = o.kind := ⟨_, rfl⟩
          obtain ⟨t, e2⟩ : ∃ k, k = o.table := ⟨_, rfl⟩
          obtain ⟨nc, e3⟩ : ∃ k, k = o.cols.length := ⟨_, rfl⟩
          obtain ⟨nr, e4⟩ : ∃ k, k = o.row.length := ⟨_, rfl⟩
          obtain ⟨R, e6⟩ : ∃ G, G = oprB o := ⟨_, rfl⟩
          rw [← e1, ← e2, ← e3, ← e4] at hrg hBR hRR
          rw [← e6] at hBR hRR
          have hBR := hideP hBR
          have hRR := hideP hRR
          have hL3 := hideP (fun W (hW : Ext wr W) => (show W.rangeAt b0 (off + i * 4) [.int .u8 (k : Nat), .string t, .slice AC nc cc, .slice AR nr cr] from fun j v hv => (hW.below.cell (p := ⟨b0, off + i * 4 + j, none⟩) hB0).trans (hrg j v hv)))
          clear e1 e2 e3 e4 e6 hrg hm ho hp hc hok hLr
          go_upto_region 8 with fail
          rcases Bool.eq_false_or_eq_true R with hG | hG
          · subst hG
            have hdrew := (Ext.refl wr.drew).drew_left
            have E0 := hideP hdrew
            clear hdrew
            refine wp_region_mut (S := fun _ => False) 11 (.q 0 (.q 1 (.q 2 (.q 3 (.q 5 (.q 6 (.q 7 (.q 8 (.l 4 (.l 9 (.q 10 .nil))))))))))) (by kernel_rfl) (by kernel_rfl) ?_
            simp only [pickT, nthO_zero, nthO_succ]
            iterate 3 (refine wpM_valK ?_ (fun K hK => ?_); (focus (rfl)); apply Exists.intro; refine ⟨fun W hW => ?_, ?_⟩; (focus (have hs0 := True.intro; go_simp; (try rfl); done)); go_simp; refine hK _ ?_; clear hK K)
            refine wpM_valK ?_ (fun K hK => ?_)
            · rfl
            refine ⟨.agg #[.int .u8 (k : Nat), .string t, .slice AC nc cc, .slice AR nr cr], fun W hW => exec_load_mid 30 (.tmp 27) ?_ b0 (off + i * 4) ?_ [.int .u8 (k : Nat), .string t, .slice AC nc cc, .slice AR nr cr] _ (fun j v hv => (hL3.out W (E0.out.trans (but_ext hW)) j v hv)) Try.underlying30 rfl hsz.out, ?_⟩
            · rfl
            · rfl
            go_simp
            refine hK _ ?_
            clear hK K
            iterate 3 (refine wpM_valK ?_ (fun K hK => ?_); (focus (rfl)); apply Exists.intro; refine ⟨fun W hW => ?_, ?_⟩; (focus (have hs0 := True.intro; go_simp; (try rfl); done)); go_simp; refine hK _ ?_; clear hK K)
            refine wpM_valK ?_ (fun K hK => ?_)
            · rfl
            refine ⟨.agg #[.int .u8 (k : Nat), .string t, .slice AC nc cc, .slice AR nr cr], fun W hW => exec_load_mid 30 (.tmp 32) ?_ b0 (off + i * 4) ?_ [.int .u8 (k : Nat), .string t, .slice AC nc cc, .slice AR nr cr] _ (fun j v hv => (hL3.out W (E0.out.trans (but_ext hW)) j v hv)) Try.underlying30 rfl hsz.out, ?_⟩
            · rfl
            · rfl
            go_simp
            refine hK _ ?_
            clear hK K
            refine wpM_loudS 14 #[.agg #[.int .u8 (k : Nat), .string t, .slice AC nc cc, .slice AR nr cr]] (by rfl) (fun W => by go_simp) (fun W hW => (hBR.out W (E0.out.trans hW)).mono ?_)
            rintro e_ w4 ⟨rfl, b_⟩
            refine ⟨_, rfl, But.of_below b_, fun K hK => ?_⟩
            go_simp
            refine hK _ ?_
            clear hK K
            have E4 := hideP (E0.out.trans (hW.trans (Ext.of_below b_)))
            clear b_ hW
            refine wpM_loudS 15 #[.agg #[.int .u8 (k : Nat), .string t, .slice AC nc cc, .slice AR nr cr]] (by rfl) (fun W => by go_simp) (fun W hW => (hRR.out W (E4.out.trans hW)).mono ?_)
            rintro e_ w5 ⟨rfl, b_⟩
            refine ⟨_, rfl, But.of_below b_, fun K hK => ?_⟩
            go_simp
            refine hK _ ?_
            clear hK K
            have E5 := hideP (E4.out.trans (hW.trans (Ext.of_below b_)))
            clear b_ hW
            iterate 1 (refine wpM_valK ?_ (fun K hK => ?_); (focus (rfl)); apply Exists.intro; refine ⟨fun W hW => ?_, ?_⟩; (focus (have hs0 := True.intro; go_simp; (try rfl); done)); go_simp; refine hK _ ?_; clear hK K)
            refine wpM_nil (fun W9 hW9 => ?_)
            simp only [List.drop_succ_cons, List.drop_zero, List.drop_nil]
            have B9 := hideP (below_ext hV.out (E5.out.trans hW9))
            clear hW9
            go_wp2_with fail
            go_roundw
            case rel => exact ⟨i + 1, by omega, by go_num, B9.out⟩
            case measure => simp [intOf]; omega
          · subst hG
            have hdrew := (Ext.refl wr.drew).drew_left
            have E0 := hideP hdrew
            clear hdrew
            refine wp_region_mut (S := fun _ => False) 11 (.q 0 (.q 1 (.q 2 (.q 3 (.q 5 (.q 6 (.q 7 (.q 8 (.l 4 (.l 9 (.q 10 .nil))))))))))) (by kernel_rfl) (by kernel_rfl) ?_
            simp only [pickT, nthO_zero, nthO_succ]
            iterate 3 (refine wpM_valK ?_ (fun K hK => ?_); (focus (rfl)); apply Exists.intro; refine ⟨fun W hW => ?_, ?_⟩; (focus (have hs0 := True.intro; go_simp; (try rfl); done)); go_simp; refine hK _ ?_; clear hK K)
            refine wpM_valK ?_ (fun K hK => ?_)
            · rfl
            refine ⟨.agg #[.int .u8 (k : Nat), .string t, .slice AC nc cc, .slice AR nr cr], fun W hW => exec_load_mid 30 (.tmp 27) ?_ b0 (off + i * 4) ?_ [.int .u8 (k : Nat), .string t, .slice AC nc cc, .slice AR nr cr] _ (fun j v hv => (hL3.out W (E0.out.trans (but_ext hW)) j v hv)) Try.underlying30 rfl hsz.out, ?_⟩
            · rfl
            · rfl
            go_simp
            refine hK _ ?_
            clear hK K
            iterate 3 (refine wpM_valK ?_ (fun K hK => ?_); (focus (rfl)); apply Exists.intro; refine ⟨fun W hW => ?_, ?_⟩; (focus (have hs0 := True.intro; go_simp; (try rfl); done)); go_simp; refine hK _ ?_; clear hK K)
            refine wpM_valK ?_ (fun K hK => ?_)
            · rfl
            refine ⟨.agg #[.int .u8 (k : Nat), .string t, .slice AC nc cc, .slice AR nr cr], fun W hW => exec_load_mid 30 (.tmp 32) ?_ b0 (off + i * 4) ?_ [.int .u8 (k : Nat), .string t, .slice AC nc cc, .slice AR nr cr] _ (fun j v hv => (hL3.out W (E0.out.trans (but_ext hW)) j v hv)) Try.underlying30 rfl hsz.out, ?_⟩
            · rfl
            · rfl
            go_simp
            refine hK _ ?_
            clear hK K
            refine wpM_loudS 14 #[.agg #[.int .u8 (k : Nat), .string t, .slice AC nc cc, .slice AR nr cr]] (by rfl) (fun W => by go_simp) (fun W hW => (hBR.out W (E0.out.trans hW)).mono ?_)
            rintro e_ w4 ⟨rfl, b_⟩
            refine ⟨_, rfl, But.of_below b_, fun K hK => ?_⟩
            go_simp
            refine hK _ ?_
            clear hK K
            have E4 := hideP (E0.out.trans (hW.trans (Ext.of_below b_)))
            clear b_ hW
            refine wpM_loudS 15 #[.agg #[.int .u8 (k : Nat), .string t, .slice AC nc cc, .slice AR nr cr]] (by rfl) (fun W => by go_simp) (fun W hW => (hRR.out W (E4.out.trans hW)).mono ?_)
            rintro e_ w5 ⟨rfl, b_⟩
            refine ⟨_, rfl, But.of_below b_, fun K hK => ?_⟩
            go_simp
            refine hK _ ?_
            clear hK K
            have E5 := hideP (E4.out.trans (hW.trans (Ext.of_below b_)))
            clear b_ hW
            iterate 1 (refine wpM_valK ?_ (fun K hK => ?_); (focus (rfl)); apply Exists.intro; refine ⟨fun W hW => ?_, ?_⟩; (focus (have hs0 := True.intro; go_simp; (try rfl); done)); go_simp; refine hK _ ?_; clear hK K)
            refine wpM_nil (fun W9 hW9 => ?_)
            simp only [List.drop_succ_cons, List.drop_zero, List.drop_nil]
            have B9 := hideP (below_ext hV.out (E5.out.trans hW9))
            clear hW9
            go_wp2_with fail
            go_roundw
            case rel => exact ⟨i + 1, by omega, by go_num, B9.out⟩
            case measure => simp [intOf]; omega
        · obtain rfl : n = i := by omega
          have i1 : ¬ ((n : Int) < (n : Int)) := by omega
          rcases Bool.eq_false_or_eq_true (allB l) with hall | hall
          · have hsm := opsB_small hall
            have hPB := isB_opsB hall
            have hOk := fun W (hW : Below w.heap.size w W) => bops_ok A l ps n c W hn'.out (HL.out W hW) hall
            have hRP := readP_app l hall hIm.out
            have hOp := fun W (hW : Below w.heap.size w W) => rwops_any A l ps n c W hn'.out (HL.out W hW) (by omega) (fun i hi => Hw.out i (by have := hn'.out; omega))
            rw [opsR_eq hall] at hOp
            have hSm := hideP (fun W A' ps' c' (hA' : OpsL W W.heap.size A' l ps') (hW : Below w.heap.size w W) => rsame_eq A' A l ps' ps n c' c W hn'.out hA' (HL.out W hW) (by omega))
            obtain ⟨P, hP⟩ : ∃ P, P = opsB l := ⟨_, rfl⟩
            rw [← hP] at hsm hPB hOk hRP hOp
            have hRd := hideP (fun W R d (h : Arr W W.heap.size R P.length (u8s P)) => show Calls Try.prog 20 #[.slice R P.length d] W (fun e w' => (∃ R d ps, e = .returned (.tuple #[.slice R n d, .int .i64 0]) ∧ OpsH w' W.heap.size R l ps) ∧ Below W.heap.size W w') by
              have := breadops_any R P P.length d W rfl h hPB (by omega)
              rw [hRP] at this
              refine this.mono ?_
              rintro e w' ⟨b_, (⟨h, _⟩ | ⟨m2, R, d, ps, n2, h, h3, rfl, h4⟩)⟩
              · exact absurd h (by simp)
              · injection h with h
                subst h
                exact ⟨⟨R, d, ps, by rw [h3, ← hn'.out], h4⟩, b_⟩)
            have hBS := hideP (fun W R d (h : Arr W W.heap.size R P.length (u8s P)) => bopssum_any R P P.length d W rfl h hPB (by omega))
            have hRS := fun W R d (h : Arr W W.heap.size R P.length (u8s P)) => ropssum_any R P P.length d W rfl h hPB (by omega)
            have hDD := fun W => by have := run_eql_dge (tagD 79 P) (tagD 79 P) (by simp [tagD, dig]) (by simp [tagD, dig]) (isB_tagD 79 P) (isB_tagD 79 P) W; rwa [decide_eq_true rfl] at this
            have hBS := hBS.out
            obtain ⟨DD, hD2⟩ : ∃ D, D = tagD 79 P := ⟨_, rfl⟩
            rw [← hD2] at hBS hRS hDD
            have hBS := hideP hBS
            have hRS := hideP hRS
            have HDD := hideP hDD
            have hOk := hideP hOk
            have hOp := hideP hOp
            have hSS : ((bstr P).toList == (bstr P).toList) = true := by rw [bstr_beq hPB hPB]; exact decide_eq_true rfl
            have cvB := fun W A d (h : Arr W W.heap.size A P.length (u8s P)) => run_str (P := Try.prog) W 31 5 Try.underlying31 Try.underlying5 (c := d) h rfl 9 Try.underlying9
            obtain ⟨S, hS⟩ : ∃ S, S = bstr P := ⟨_, rfl⟩
            rw [← hS] at hSS cvB
            have CVB := hideP cvB
            have HSS := hideP hSS
            rw [hall] at hAll
            clear hall hsm hPB hRP hP hDD hD2 hSS cvB hS
            rcases Bool.eq_false_or_eq_true NB with hB | hB
            all_goals
              subst hB
              go_upto_region 16 with (first
                | (go_at_call 16; refine (hOk.out wr hV.out).mono ?_; rintro e w2 ⟨R2, d2, rfl, o_, b_⟩; have B2 := hideP (bstep hV.out b_); have O2 := hideP o_; clear b_ o_)
                | (go_at_call 17; refine (hNm.out w2).mono ?_; rintro e w3 ⟨rfl, b_⟩; have B3 := hideP (bstep B2.out b_); have O3 := hideP (O2.out.after b_); clear b_)
                | (go_at_call 18; refine (hRm.out w3).mono ?_; rintro e w4 ⟨rfl, rfl⟩)
                | (go_at_call 19; refine (hAll.out w3 B3.out).mono ?_; rintro e w5 ⟨rfl, b_⟩; have B5 := hideP (bstep B3.out b_); have O5 := hideP (O3.out.after b_); clear b_)
                | (go_at_call 20; refine (hRd.out w5 R2 d2 O5.out.arr).mono ?_; rintro e w6 ⟨⟨R6, d6, ps6, rfl, o_⟩, b_⟩; have B6 := hideP (bstep B5.out b_); have O6 := hideP (O5.out.after b_); have M6 := hideP o_; clear b_ o_))
              have hd := HDD.out
              have hss := HSS.out
              refine wp_region_mut (S := fun _ => False) 26 (.q 0 (.q 1 (.q 2 (.q 3 (.q 4 (.q 5 (.l 6 (.q 7 (.q 8 (.q 9 (.q 10 (.q 11 (.q 12 (.q 13 (.q 14 (.q 15 (.q 16 (.l 17 (.q 18 (.q 19 (.q 20 (.q 22 (.l 21 (.l 23 (.q 24 (.q 25 .nil)))))))))))))))))))))))))) (by kernel_rfl) (by kernel_rfl) ?_
              simp only [pickT, nthO_zero, nthO_succ]
              have hdrew := (Ext.refl w6.drew).drew_left
              have E6 := hideP hdrew
              clear hdrew
              have cv6 := hideP (fun W (hW : Ext w6 W) => CVB.out W R2 d2 (O6.out.ext hW).arr)
              iterate 6 (refine wpM_valK ?_ (fun K hK => ?_); (focus (rfl)); apply Exists.intro; refine ⟨fun W hW => ?_, ?_⟩; (focus (have hs0 := cv6.out W (E6.out.trans (but_ext hW)); go_simp; (try rfl); done)); go_simp; refine hK _ ?_; clear hK K)
              refine wpM_loudS 21 #[.slice A n c] (by rfl) (fun W => by go_simp) (fun W hW => (hOp.out W (below_ext B6.out (E6.out.trans hW))).mono ?_)
              rintro e_ w7 ⟨R7, d7, rfl, o_, b_⟩
              refine ⟨_, rfl, But.of_below b_, fun K hK => ?_⟩
              go_simp
              refine hK _ ?_
              clear hK K
              have E7 := hideP (E6.out.trans (hW.trans (Ext.of_below b_)))
              have cv7 := hideP (fun W (hW : Ext w7 W) => CVB.out W R7 d7 (o_.ext hW).arr)
              clear o_ b_ hW
              iterate 10 (refine wpM_valK ?_ (fun K hK => ?_); (focus (rfl)); apply Exists.intro; refine ⟨fun W hW => ?_, ?_⟩; (focus (have hs0 := cv7.out W (but_ext hW); go_simp; (try rfl); done)); go_simp; refine hK _ ?_; clear hK K)
              refine wpM_loudS 22 #[.slice R6 n d6, .slice A n c] (by rfl) (fun W => by go_simp) (fun W hW => (hSm.out W R6 ps6 d6 (M6.out.after (E7.out.trans hW).below).opsL (below_ext B6.out (E7.out.trans hW))).mono ?_)
              rintro e_ w8 ⟨rfl, b_⟩
              refine ⟨_, rfl, But.of_below b_, fun K hK => ?_⟩
              go_simp
              refine hK _ ?_
              clear hK K
              have E8 := hideP (E7.out.trans (hW.trans (Ext.of_below b_)))
              clear b_ hW
              iterate 4 (refine wpM_valK ?_ (fun K hK => ?_); (focus (rfl)); apply Exists.intro; refine ⟨fun W hW => ?_, ?_⟩; (focus (have hs0 := True.intro; go_simp; (try rfl); done)); go_simp; refine hK _ ?_; clear hK K)
              refine wpM_loudS 23 #[.slice R2 P.length d2] (by rfl) (fun W => by go_simp) (fun W hW => (hBS.out W R2 d2 (O6.out.ext (E8.out.trans hW)).arr).mono ?_)
              rintro e_ w9 ⟨rfl, b_⟩
              refine ⟨_, rfl, But.of_below b_, fun K hK => ?_⟩
              go_simp
              refine hK _ ?_
              clear hK K
              have E9 := hideP (E8.out.trans (hW.trans (Ext.of_below b_)))
              clear b_ hW
              refine wpM_loudS 24 #[.slice R2 P.length d2] (by rfl) (fun W => by go_simp) (fun W hW => (hRS.out W R2 d2 (O6.out.ext (E9.out.trans hW)).arr).mono ?_)
              rintro e_ w10 ⟨rfl, b_⟩
              refine ⟨_, rfl, But.of_below b_, fun K hK => ?_⟩
              go_simp
              refine hK _ ?_
              clear hK K
              have E10 := hideP (E9.out.trans (hW.trans (Ext.of_below b_)))
              clear b_ hW
              iterate 2 (refine wpM_valK ?_ (fun K hK => ?_); (focus (rfl)); apply Exists.intro; refine ⟨fun W hW => ?_, ?_⟩; (focus (have hs0 := True.intro; go_simp; (try rfl); done)); go_simp; refine hK _ ?_; clear hK K)
              refine wpM_nil (fun W9 hW9 => ?_)
              simp only [List.drop_succ_cons, List.drop_zero, List.drop_nil]
              have B9 := hideP (below_ext B6.out (E10.out.trans hW9))
              clear hW9
              go_wp2_with fail
              go_ret
              exact ⟨rfl, B9.out⟩
          · have hNo := hideP (fun W (hW : Below w.heap.size w W) => bops_no A l ps n c W hn'.out (HL.out W hW) (by omega) hall)
            rw [hall] at hAll
            clear hall
            rcases Bool.eq_false_or_eq_true NB with hB | hB
            all_goals
              subst hB
              go_wp2_with (first
                | (go_at_call 16; refine (hNo.out wr hV.out).mono ?_; rintro e w2 ⟨rfl, b_⟩; have B2 := hideP (bstep hV.out b_); clear b_)
                | (go_at_call 17; refine (hNm.out w2).mono ?_; rintro e w3 ⟨rfl, b_⟩; have B3 := hideP (bstep B2.out b_); clear b_)
                | (go_at_call 18; refine (hRm.out w3).mono ?_; rintro e w4 ⟨rfl, rfl⟩)
                | (go_at_call 19; refine (hAll.out w3 B3.out).mono ?_; rintro e w5 ⟨rfl, b_⟩; have B5 := hideP (bstep B3.out b_); clear b_))
              go_ret
              exact ⟨rfl, B5.out⟩
    · have h2' : decide ((200 : Int) < (s.size : Int)) = true := by simp; omega
      go_enter Try.func3, Try.ntmps3
      go_wp2_with (first
        | (go_at_call 12; refine (alive19_any w).mono ?_; rintro e w1 ⟨rfl, b_⟩; have B1 := hideP b_; clear b_)
        | (go_at_call 13; refine (hG.out w1 B1.out).mono ?_; rintro e w2 ⟨rfl, rfl⟩))
      go_ret
      exact ⟨rfl, B1.out⟩
theorem walk_BlockOps (A : Option Addr) (l : List OpD) (ps : Nat → OpP) (c : Nat) (s : ByteArray) (w : World) (hA : OpsM w w.heap.size A l ps) (hs : s.data.toList.length ≤ reachBytes) :
    Calls Try.prog 3 #[.slice A l.length c, .string s] w fun e w' => e = .returned (.bool true) ∧ Below w.heap.size w w' := blockops_any A l ps l.length c s w rfl hA
end Go.Proofs.Ytiicdnbhphgieaa
