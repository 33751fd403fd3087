/- The walk of BlockReads. -/
import Derived.Test.YtiicdnbhphgieaaK43
import Derived.Test.YtiicdnbhphgieaaK48
set_option linter.unusedVariables false
set_option linter.unusedSimpArgs false
namespace Go.Proofs.Ytiicdnbhphgieaa
open Go.RowKit
theorem oprB_short {o : OpD} (h : oprB o = true) : o.cols.length ≤ 255 ∧ o.row.length ≤ 255 := by
  unfold oprB at h
  rw [Bool.and_eq_true] at h
  have h2 := h.2
  split at h2
  · simp only [Bool.and_eq_true, decide_eq_true_eq] at h2
    have h3 := h2.1
    simp only [colsB, Bool.and_eq_true, decide_eq_true_eq] at h3
    omega
  · split at h2
    · simp only [Bool.and_eq_true, decide_eq_true_eq] at h2
      omega
    · split at h2
      · simp only [Bool.and_eq_true, decide_eq_true_eq] at h2
        omega
      · cases h2
theorem allB_short {m : List OpD} (h : allB m = true) : m.length ≤ 256 ∧ ∀ i, i < m.length → (m.getD i default).cols.length ≤ 255 ∧ (m.getD i default).row.length ≤ 255 := by
  simp only [allB, Bool.and_eq_true, decide_eq_true_eq, List.all_eq_true] at h
  refine ⟨h.2, fun i hi => oprB_short (h.1 _ ?_)⟩
  simp only [List.getD, List.getElem?_eq_getElem hi, Option.getD_some]
  exact List.getElem_mem _
set_option maxRecDepth 100000 in
set_option maxHeartbeats 4000000 in
theorem blockreads_any (A : Option Addr) (b : List Nat) (n c : Nat) (w : World) (hn : n = b.length) (hA0 : Arr w w.heap.size A n (u8s b)) (hI : IsB b) (hc : n ≤ c) :
    Calls Try.prog 4 #[.slice A n c] w fun e w' => e = .returned (.bool true) ∧ Below w.heap.size w w' := by
  by_cases h2 : n ≤ 2000
  · have h2' : ¬ (2000 : Int) < (n : Int) := by omega
    have hA := hideP hA0
    have hII := hideP hI
    have Hn := hideP hn
    have H2 := hideP h2
    have hsame := read_same hI
    rcases hN : readR b with _ | m
    · rw [hN] at hsame
      have hR := hideP (fun W (hW : Below w.heap.size w W) => show Calls Try.prog 20 #[.slice A n c] W (fun e w' => e = .returned (.tuple #[.slice none 0 0, .int .i64 21]) ∧ Below W.heap.size W w') by
        have := breadops_any A b n c W hn (hA.out.after hW) hI (by omega)
        rw [hsame] at this
        refine this.mono ?_
        rintro e w' ⟨b_, (⟨_, rfl⟩ | ⟨_, _, _, _, _, h, _⟩)⟩
        · exact ⟨rfl, b_⟩
        · exact absurd h (by simp))
      have hQ := hideP (fun W (hW : Below w.heap.size w W) => show Calls Try.prog 25 #[.slice A n c] W (fun e w' => (∃ R n d, e = .returned (.tuple #[.slice R n d, .bool false])) ∧ Below W.heap.size W w') by
        have := qreadops_any A b n c W hn (hA.out.after hW) hI hc (by omega)
        rw [hN] at this
        refine this.mono ?_
        rintro e w' ⟨b_, (⟨_, h⟩ | ⟨_, _, _, _, _, h, _⟩)⟩
        · exact ⟨h, b_⟩
        · exact absurd h (by simp))
      clear hsame hN hn hA0 hI hc h2
      go_enter Try.func4, Try.ntmps4
      go_wp2_with (first
        | (go_at_call 12; refine (alive19_any w).mono ?_; rintro e w1 ⟨rfl, b_⟩; have B1 := hideP b_; clear b_)
        | (go_at_call 20; refine (hR.out w1 B1.out).mono ?_; rintro e w2 ⟨rfl, b_⟩; have B2 := hideP (bstep B1.out b_); clear b_)
        | (go_at_call 25; refine (hQ.out w2 B2.out).mono ?_; rintro e w3 ⟨⟨R3, n3, d3, rfl⟩, b_⟩; have B3 := hideP (bstep B2.out b_); clear b_))
      go_ret
      exact ⟨rfl, B3.out⟩
    · obtain ⟨hall, hbm, hIm⟩ := readR_inv hI hN
      obtain ⟨hml, hmw⟩ := allB_short hall
      have hRe : opsR m = b := (opsR_eq hall).trans hbm.symm
      rw [hN] at hsame
      have hR := hideP (fun W (hW : Below w.heap.size w W) => show Calls Try.prog 20 #[.slice A n c] W (fun e w' => (∃ R d ps, e = .returned (.tuple #[.slice R m.length d, .int .i64 0]) ∧ OpsH w' W.heap.size R m ps) ∧ Below W.heap.size W w') by
        have := breadops_any A b n c W hn (hA.out.after hW) hI (by omega)
        rw [hsame] at this
        refine this.mono ?_
        rintro e w' ⟨b_, (⟨h, _⟩ | ⟨m2, R, d, ps, n2, h, h3, rfl, h4⟩)⟩
        · exact absurd h (by simp)
        · injection h with h
          subst h
          subst h3
          exact ⟨⟨R, d, ps, rfl, h4⟩, b_⟩)
      have hQ := hideP (fun W (hW : Below w.heap.size w W) => show Calls Try.prog 25 #[.slice A n c] W (fun e w' => (∃ R d ps, e = .returned (.tuple #[.slice R m.length d, .bool true]) ∧ OpsH w' W.heap.size R m ps) ∧ Below W.heap.size W w') by
        have := qreadops_any A b n c W hn (hA.out.after hW) hI hc (by omega)
        rw [hN] at this
        refine this.mono ?_
        rintro e w' ⟨b_, (⟨h, _⟩ | ⟨m2, R, d, ps, n2, h, h3, rfl, h4⟩)⟩
        · exact absurd h (by simp)
        · injection h with h
          subst h
          subst h3
          exact ⟨⟨R, d, ps, rfl, h4⟩, b_⟩)
      have hSm := hideP (fun W A A' ps ps' c c' hA hA' => rsame_eq A A' m ps ps' m.length c c' W rfl hA hA' (by omega))
      have hOp := hideP (fun W A ps c hA => show Calls Try.prog 21 #[.slice A m.length c] W (fun e w' => ∃ R d, e = .returned (.slice R b.length d) ∧ OwnB w' W.heap.size R d b ∧ Below W.heap.size W w') by
        have := rwops_any A m ps m.length c W rfl hA (by omega) hmw
        rwa [hRe] at this)
      have hBS := hideP (fun W (hW : Below w.heap.size w W) => bopssum_any A b n c W hn (hA.out.after hW) hI (by omega))
      have hRS := hideP (fun W (hW : Below w.heap.size w W) => ropssum_any A b n c W hn (hA.out.after hW) hI (by omega))
      have hDD := fun W => by have := run_eql_dge (tagD 79 b) (tagD 79 b) (by simp [tagD, dig]) (by simp [tagD, dig]) (isB_tagD 79 b) (isB_tagD 79 b) W; rwa [decide_eq_true rfl] at this
      obtain ⟨DD, hD2⟩ : ∃ D, D = tagD 79 b := ⟨_, rfl⟩
      rw [← hD2] at hBS hRS hDD
      have HDD := hideP hDD
      have hSS : ((bstr b).toList == (bstr b).toList) = true := by rw [bstr_beq hI hI]; exact decide_eq_true rfl
      have cvA := fun W (hW : Below w.heap.size w W) => by have := run_str (P := Try.prog) W 31 5 Try.underlying31 Try.underlying5 (c := c) (show Arr W W.heap.size A b.length (u8s b) by rw [← hn]; exact hA.out.after hW) rfl 9 Try.underlying9; rwa [← hn] at this
      have cvB := fun W A d (h : Arr W W.heap.size A b.length (u8s b)) => by have := run_str (P := Try.prog) W 31 5 Try.underlying31 Try.underlying5 (c := d) h rfl 9 Try.underlying9; rwa [← hn] at this
      obtain ⟨S, hS⟩ : ∃ S, S = bstr b := ⟨_, rfl⟩
      rw [← hS] at hSS cvA cvB
      rw [← hn] at hOp
      obtain ⟨k, hk⟩ : ∃ k, k = m.length := ⟨_, rfl⟩
      rw [← hk] at hR hQ hSm hOp
      have CVA := hideP cvA
      have CVB := hideP cvB
      have HSS := hideP hSS
      clear hsame hN hn hA0 hI hc h2 hall hbm hIm hml hmw hRe hDD hD2 hSS cvA cvB hS hk
      go_enter Try.func4, Try.ntmps4
      go_upto_region 9 with (first
        | (go_at_call 12; refine (alive19_any w).mono ?_; rintro e w1 ⟨rfl, b_⟩; have B1 := hideP b_; clear b_)
        | (go_at_call 20; refine (hR.out w1 B1.out).mono ?_; rintro e w2 ⟨⟨R2, d2, ps2, rfl, o_⟩, b_⟩; have B2 := hideP (bstep B1.out b_); have L2 := hideP o_; clear b_ o_)
        | (go_at_call 25; refine (hQ.out w2 B2.out).mono ?_; rintro e w3 ⟨⟨R3, d3, ps3, rfl, o_⟩, b_⟩; have B3 := hideP (bstep B2.out b_); have M2 := hideP (L2.out.after b_); have M3 := hideP o_; clear b_ o_))
      have hd := HDD.out
      have hss := HSS.out
      refine wp_region_mut (S := fun _ => False) 22 (.q 0 (.q 1 (.q 2 (.q 3 (.q 4 (.l 5 (.q 6 (.q 7 (.q 8 (.q 11 (.q 12 (.l 9 (.q 10 (.q 13 (.q 14 (.q 15 (.q 16 (.q 18 (.l 17 (.l 19 (.q 20 (.q 21 .nil)))))))))))))))))))))) (by kernel_rfl) (by kernel_rfl) ?_
      simp only [pickT, nthO_zero, nthO_succ]
      have hdrew := (Ext.refl w3.drew).drew_left
      have E3 := hideP hdrew
      clear hdrew
      iterate 5 (refine wpM_valK ?_ (fun K hK => ?_); (focus (rfl)); apply Exists.intro; refine ⟨fun W hW => ?_, ?_⟩; (focus (have hs0 := True.intro; go_simp; (try rfl); done)); go_simp; refine hK _ ?_; clear hK K)
      refine wpM_loudS 22 #[.slice R2 k d2, .slice R3 k d3] (by rfl) (fun W => by go_simp) (fun W hW => (hSm.out W R2 R3 ps2 ps3 d2 d3 (M2.out.after (E3.out.trans hW).below).opsL (M3.out.after (E3.out.trans hW).below).opsL).mono ?_)
      rintro e_ w4 ⟨rfl, b_⟩
      refine ⟨_, rfl, But.of_below b_, fun K hK => ?_⟩
      go_simp
      refine hK _ ?_
      clear hK K
      have E4 := hideP (E3.out.trans (hW.trans (Ext.of_below b_)))
      clear b_ hW
      have cvA4 := hideP (fun W (hW : Ext w4 W) => CVA.out W (below_ext B3.out (E4.out.trans hW)))
      iterate 5 (refine wpM_valK ?_ (fun K hK => ?_); (focus (rfl)); apply Exists.intro; refine ⟨fun W hW => ?_, ?_⟩; (focus (have hs0 := cvA4.out W (but_ext hW); go_simp; (try rfl); done)); go_simp; refine hK _ ?_; clear hK K)
      refine wpM_loudS 21 #[.slice R3 k d3] (by rfl) (fun W => by go_simp) (fun W hW => (hOp.out W R3 ps3 d3 (M3.out.after (E4.out.trans hW).below).opsL).mono ?_)
      rintro e_ w5 ⟨R5, d5, rfl, o_, b_⟩
      refine ⟨_, rfl, But.of_below b_, fun K hK => ?_⟩
      go_simp
      refine hK _ ?_
      clear hK K
      have E5 := hideP (E4.out.trans (hW.trans (Ext.of_below b_)))
      have cv5 := hideP (fun W (hW : Ext w5 W) => CVB.out W R5 d5 (o_.ext hW).arr)
      clear o_ b_ hW
      iterate 6 (refine wpM_valK ?_ (fun K hK => ?_); (focus (rfl)); apply Exists.intro; refine ⟨fun W hW => ?_, ?_⟩; (focus (have hs0 := cv5.out W (but_ext hW); go_simp; (try rfl); done)); go_simp; refine hK _ ?_; clear hK K)
      refine wpM_loudS 23 #[.slice A n c] (by rfl) (fun W => by go_simp) (fun W hW => (hBS.out W (below_ext B3.out (E5.out.trans hW))).mono ?_)
      rintro e_ w6 ⟨rfl, b_⟩
      refine ⟨_, rfl, But.of_below b_, fun K hK => ?_⟩
      go_simp
      refine hK _ ?_
      clear hK K
      have E6 := hideP (E5.out.trans (hW.trans (Ext.of_below b_)))
      clear b_ hW
      refine wpM_loudS 24 #[.slice A n c] (by rfl) (fun W => by go_simp) (fun W hW => (hRS.out W (below_ext B3.out (E6.out.trans hW))).mono ?_)
      rintro e_ w7 ⟨rfl, b_⟩
      refine ⟨_, rfl, But.of_below b_, fun K hK => ?_⟩
      go_simp
      refine hK _ ?_
      clear hK K
      have E7 := hideP (E6.out.trans (hW.trans (Ext.of_below b_)))
      clear b_ hW
      iterate 2 (refine wpM_valK ?_ (fun K hK => ?_); (focus (rfl)); apply Exists.intro; refine ⟨fun W hW => ?_, ?_⟩; (focus (have hs0 := True.intro; go_simp; (try rfl); done)); go_simp; refine hK _ ?_; clear hK K)
      refine wpM_nil (fun W9 hW9 => ?_)
      simp only [List.drop_succ_cons, List.drop_zero, List.drop_nil]
      have B9 := hideP (below_ext B3.out (E7.out.trans hW9))
      clear hW9
      go_wp2_with fail
      go_ret
      exact ⟨rfl, B9.out⟩
  · have h2' : (2000 : Int) < (n : Int) := by omega
    clear hA0 hI hn hc h2
    go_enter Try.func4, Try.ntmps4
    go_wp2_with (go_at_call 12; refine (alive19_any w).mono ?_; rintro e w1 ⟨rfl, b_⟩; have B1 := hideP b_; clear b_)
    go_ret
    exact ⟨rfl, B1.out⟩
theorem walk_BlockReads (A : Option Addr) (b : List Nat) (c : Nat) (w : World) (hA : Arr w w.heap.size A b.length (u8s b)) (hI : IsB b) (hn : b.length ≤ 140737488351232) (hc : b.length ≤ c) :
    Calls Try.prog 4 #[.slice A b.length c] w fun e w' => e = .returned (.bool true) ∧ Below w.heap.size w w' := blockreads_any A b b.length c w rfl hA hI hc
end Go.Proofs.Ytiicdnbhphgieaa
