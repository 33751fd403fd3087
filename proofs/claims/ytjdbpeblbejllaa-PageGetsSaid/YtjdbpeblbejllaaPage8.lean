/- PageSums: the walk. -/
import Derived.Test.YtjdbpeblbejllaaPage7
set_option linter.unusedVariables false
set_option linter.unusedSimpArgs false
namespace Go.Proofs.Ytjdbpeblbejllaa
open Go.RowKit
set_option maxRecDepth 100000 in
set_option maxHeartbeats 1000000 in
theorem walk_PageSums (A : Option Addr) (t : List Nat) (c : Nat) (w : World) (hA : Arr w w.heap.size A t.length (u8s t)) (ht : IsB t) (hn : t.length ≤ 140737488351232) :
    Calls Try.prog 3 #[.slice A t.length c] w fun e w' => e = .returned (.bool true) ∧ Below w.heap.size w w' := by
  have ha := hideP (alive09 w)
  by_cases hg : t.length ≤ 500
  · have hg1 := hideP hg
    have HhA := hideP hA; have Hht := hideP ht; have Hhn := hideP hn; clear hA ht hn
    have hg2 : ((t.length : Nat) : Int) ≤ 500 := by omega
    obtain ⟨D, hDe⟩ : ∃ D, D = pageD t := ⟨_, rfl⟩
    have hD := hideP (show pageD t = D from hDe.symm)
    have hq : ∀ W, (binOp .eql 25 (.agg D.toArray) (.agg D.toArray)).run Try.prog W = .ok (.bool true) W := fun W => by
      rw [hDe]
      have := run_eql_dg (sum9 t) (sum9 t) (sum9_len t) (sum9_len t) (isB_dig _) (isB_dig _) W
      simp only [beq_self_eq_true] at this
      exact this
    clear hDe
    go_enter Try.func3, Try.ntmps3
    go_upto_region 5 with (go_at_call 11; refine ha.out.mono ?_; rintro e w1 ⟨rfl, hb1⟩; have b1 := hideP hb1; have A1 := hideP (HhA.out.after hb1); clear hb1)
    refine wp_region_fork 16 (.q 0 (.q 1 (.q 2 (.q 3 (.q 4 (.q 5 (.q 6 (.q 9 (.alt (.l 7 (.q 8 (.l 10 (.l 11 (.q 12 (.q 13 (.q 14 (.q 15 .nil)))))))) (.l 10 (.l 7 (.q 8 (.l 11 (.q 12 (.q 13 (.q 14 (.q 15 .nil))))))))))))))))) (by kernel_rfl) (by kernel_rfl) ?_
    simp only [pickT, nthO_zero, nthO_succ]
    iterate 8 (first
      | (refine wpT_skipK (by rfl) (fun K hK => ?_); go_simp; refine hK _ ?_; clear hK K)
      | (refine wpT_callK (.agg D.toArray) 12 #[.slice A t.length c] (by rfl) ?_ (fun W hW => (psum_any A t c W (A1.out.ext hW.drew_left) Hht.out (by have := hg1.out; omega)).mono fun e w2 ⟨he, hb⟩ => ⟨by rw [he, hD.out], Ext.of_below hb⟩) (fun K hK => ?_); (focus (intro W; go_simp; done)); go_simp; refine hK _ ?_; clear hK K)
      | (refine wpT_callK (.agg D.toArray) 13 #[.slice A t.length c] (by rfl) ?_ (fun W hW => (r9sum_any A t c W (A1.out.ext hW.drew_left) Hht.out (by have := hg1.out; omega)).mono fun e w2 ⟨he, hb⟩ => ⟨by rw [he, hD.out], Ext.of_below hb⟩) (fun K hK => ?_); (focus (intro W; go_simp; done)); go_simp; refine hK _ ?_; clear hK K)
      | (refine wpT_valK (by rfl) (fun K hK => ?_); apply Exists.intro; refine ⟨fun W hW => ?_, ?_⟩; (focus (go_simp; (try rfl); done)); go_simp; refine hK _ ?_; clear hK K))
    have hpb : IsB (preN 80 [t]) := isB_prePart (by decide) (fun i => by cases i with
      | zero => exact Hht.out
      | succ i => intro j; simp) _
    have hpn : (preN 80 [t]).length ≤ 1000000000000 := by have := hg1.out; unfold preN; simp [prePart, be8_len]; omega
    obtain ⟨P, hP⟩ : ∃ P, P = preN 80 [t] := ⟨_, rfl⟩
    rw [← hP] at hpb hpn
    have hP' := hideP hP
    have hPb := hideP hpb
    have hPn := hideP hpn
    clear hP hpb hpn
    refine wpT_alt ?_ ?_
    · refine wpT_loudK 14 #[.slice A t.length c] (by rfl) (fun W' => by go_simp) (fun W hW => (ppre_any A t c W (A1.out.ext hW.drew_left) (by have := hg1.out; omega)).mono ?_)
      rintro e w2 ⟨R, d, rfl, hb2, ho2⟩
      rw [← hP'.out] at ho2 ⊢
      have x2 := hideP (hW.drew_left.trans (Ext.of_below hb2))
      have o2 := hideP ho2.arr
      refine ⟨_, rfl, Ext.of_below hb2, fun K hK => ?_⟩
      clear hW hb2 ho2
      go_simp
      refine hK _ ?_
      clear hK K
      (refine wpT_valK (by rfl) (fun K hK => ?_); apply Exists.intro; refine ⟨fun W hW => ?_, ?_⟩; (focus (have hs0 := run_str (P := Try.prog) W 22 5 Try.underlying22 Try.underlying5 (c := d) (o2.out.ext hW) rfl 9 Try.underlying9; go_simp; (try rfl); done)); go_simp; refine hK _ ?_; clear hK K)
      refine wpT_buildK (by rfl) (fun W hW => ?_)
      refine ⟨.slice (some ⟨W.heap.size, 0, none⟩) 1 1, W.alloc (.cells #[.slice A t.length c] 22), ⟨by go_simp, Ext.alloc _ _⟩, fun K hK => ?_⟩
      go_simp
      refine hK _ ?_
      clear hK K
      have x3 := hideP ((x2.out.trans hW).trans (Ext.alloc W (.cells #[.slice A t.length c] 22)))
      have o3 := hideP (o2.out.ext (hW.trans (Ext.alloc W (.cells #[.slice A t.length c] 22))))
      have hR1 := hideP ((arr_one W (.slice A t.length c) 22).congr (g := fun i => .slice A ([t].getD i []).length c) (fun i (hi : i < 1) => by cases (show i = 0 by omega); rfl))
      clear hW x2 o2
      obtain ⟨W3, hW3⟩ : ∃ W3, W3 = W.alloc (.cells #[.slice A t.length c] 22) := ⟨_, rfl⟩
      obtain ⟨b, hb⟩ : ∃ b, b = W.heap.size := ⟨_, rfl⟩
      rw [← hW3] at x3 o3 hR1 ⊢
      rw [← hb] at hR1 ⊢
      clear hW3 hb
      have A3 := hideP (A1.out.ext x3.out)
      refine wpT_loudK 15 #[.int .u8 80, .slice (some ⟨b, 0, none⟩) 1 1] (by rfl) (fun W' => by go_simp) (fun W hW => ?_)
      have hall : ∀ i, i < [t].length → Arr W W.heap.size A ([t].getD i []).length (u8s ([t].getD i [])) := fun i hi => by
        obtain rfl : i = 0 := by simpa using hi
        exact A3.out.ext hW
      have hpr := rpre_any 80 (some ⟨b, 0, none⟩) 1 [t] (fun _ => A) (fun _ => c) W (hR1.out.ext hW) hall (by rw [← show P = preN 80 [t] from hP'.out]; exact hPn.out) (by simp)
      refine hpr.mono ?_
      rintro e W4 ⟨R', d', rfl, hb4, ho4⟩
      rw [show preN 80 [t] = P from hP'.out.symm] at ho4 ⊢
      have x4 := hideP (x3.out.trans (hW.trans (Ext.of_below hb4)))
      have o4 := hideP ho4.arr
      refine ⟨_, rfl, Ext.of_below hb4, fun K hK => ?_⟩
      clear hW hb4 ho4 hpr hall
      go_simp
      refine hK _ ?_
      clear hK K
      iterate 4 (refine wpT_valK (by rfl) (fun K hK => ?_); apply Exists.intro; refine ⟨fun W hW => ?_, ?_⟩; (focus (have hs0 := run_str (P := Try.prog) W 22 5 Try.underlying22 Try.underlying5 (c := d') (o4.out.ext hW) rfl 9 Try.underlying9; go_simp; (try rfl); done)); go_simp; refine hK _ ?_; clear hK K)
      refine wpT_nil (fun W5 hW5 => ?_)
      simp only [List.drop_succ_cons, List.drop_zero, List.drop_nil]
      have x5 := hideP (x4.out.trans hW5)
      clear hW5 hq
      go_wp2
      go_ret
      exact ⟨rfl, b1.out.trans (x5.out.below.mono b1.out.size)⟩
    · refine wpT_buildK (by rfl) (fun W hW => ?_)
      refine ⟨.slice (some ⟨W.heap.size, 0, none⟩) 1 1, W.alloc (.cells #[.slice A t.length c] 22), ⟨by go_simp, Ext.alloc _ _⟩, fun K hK => ?_⟩
      go_simp
      refine hK _ ?_
      clear hK K
      have x2 := hideP (hW.drew_left.trans (Ext.alloc W (.cells #[.slice A t.length c] 22)))
      have hR0 := hideP ((arr_one W (.slice A t.length c) 22).congr (g := fun i => .slice A ([t].getD i []).length c) (fun i (hi : i < 1) => by cases (show i = 0 by omega); rfl))
      clear hW
      obtain ⟨W2, hW2⟩ : ∃ W2, W2 = W.alloc (.cells #[.slice A t.length c] 22) := ⟨_, rfl⟩
      obtain ⟨b, hb⟩ : ∃ b, b = W.heap.size := ⟨_, rfl⟩
      rw [← hW2] at x2 hR0 ⊢
      rw [← hb] at hR0 ⊢
      clear hW2 hb
      refine wpT_loudK 14 #[.slice A t.length c] (by rfl) (fun W' => by go_simp) (fun W hW => (ppre_any A t c W (A1.out.ext (x2.out.trans hW)) (by have := hg1.out; omega)).mono ?_)
      rintro e W3 ⟨R, d, rfl, hb2, ho2⟩
      rw [← hP'.out] at ho2 ⊢
      have x3 := hideP ((x2.out.trans hW).trans (Ext.of_below hb2))
      have o3 := hideP ho2.arr
      have hR1 := hideP (hR0.out.ext (hW.trans (Ext.of_below hb2)))
      have A3 := hideP (A1.out.ext x3.out)
      refine ⟨_, rfl, Ext.of_below hb2, fun K hK => ?_⟩
      clear hW hb2 ho2 hR0 x2
      go_simp
      refine hK _ ?_
      clear hK K
      (refine wpT_valK (by rfl) (fun K hK => ?_); apply Exists.intro; refine ⟨fun W hW => ?_, ?_⟩; (focus (have hs0 := run_str (P := Try.prog) W 22 5 Try.underlying22 Try.underlying5 (c := d) (o3.out.ext hW) rfl 9 Try.underlying9; go_simp; (try rfl); done)); go_simp; refine hK _ ?_; clear hK K)
      refine wpT_loudK 15 #[.int .u8 80, .slice (some ⟨b, 0, none⟩) 1 1] (by rfl) (fun W' => by go_simp) (fun W hW => ?_)
      have hall : ∀ i, i < [t].length → Arr W W.heap.size A ([t].getD i []).length (u8s ([t].getD i [])) := fun i hi => by
        obtain rfl : i = 0 := by simpa using hi
        exact A3.out.ext hW
      have hpr := rpre_any 80 (some ⟨b, 0, none⟩) 1 [t] (fun _ => A) (fun _ => c) W (hR1.out.ext hW) hall (by rw [← show P = preN 80 [t] from hP'.out]; exact hPn.out) (by simp)
      refine hpr.mono ?_
      rintro e W4 ⟨R', d', rfl, hb4, ho4⟩
      rw [show preN 80 [t] = P from hP'.out.symm] at ho4 ⊢
      have x4 := hideP (x3.out.trans (hW.trans (Ext.of_below hb4)))
      have o4 := hideP ho4.arr
      refine ⟨_, rfl, Ext.of_below hb4, fun K hK => ?_⟩
      clear hW hb4 ho4 hpr hall
      go_simp
      refine hK _ ?_
      clear hK K
      iterate 4 (refine wpT_valK (by rfl) (fun K hK => ?_); apply Exists.intro; refine ⟨fun W hW => ?_, ?_⟩; (focus (have hs0 := run_str (P := Try.prog) W 22 5 Try.underlying22 Try.underlying5 (c := d') (o4.out.ext hW) rfl 9 Try.underlying9; go_simp; (try rfl); done)); go_simp; refine hK _ ?_; clear hK K)
      refine wpT_nil (fun W5 hW5 => ?_)
      simp only [List.drop_succ_cons, List.drop_zero, List.drop_nil]
      have x5 := hideP (x4.out.trans hW5)
      clear hW5 hq
      go_wp2
      go_ret
      exact ⟨rfl, b1.out.trans (x5.out.below.mono b1.out.size)⟩
  · have hg2 : ¬ ((t.length : Nat) : Int) ≤ 500 := by omega
    have hg3 : (500 : Int) < (t.length : Nat) := by omega
    have HhA := hideP hA; have Hht := hideP ht; have Hhn := hideP hn; clear hA ht hn
    go_enter Try.func3, Try.ntmps3
    go_wp2_with (go_at_call 11; refine ha.out.mono ?_; rintro e w1 ⟨rfl, hb1⟩; have b1 := hideP hb1; clear hb1)
    go_ret
    exact ⟨rfl, b1.out⟩
end Go.Proofs.Ytjdbpeblbejllaa
