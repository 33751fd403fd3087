/- The walk of DistTexts. -/
import Derived.Test.YtnekbmndphbaoaaLaw03
import Derived.Test.YtnekbmndphbaoaaRef03c
set_option linter.unusedVariables false
set_option linter.unusedSimpArgs false
namespace Go.Proofs.Ytnekbmndphbaoaa
open Go.RowKit
set_option maxRecDepth 100000 in
set_option maxHeartbeats 4000000 in
theorem walk_DistTexts (D : Nat) (w : World) (hD : D < 340282366920938463463374607431768211456) :
    Calls Try.prog 4 #[dv D] w fun e w' => e = .returned (.bool true) ∧ Below w.heap.size w w' := by
  have T1 := hideP (fun W => dist_text D W hD)
  have T2 := hideP (fun W => rtext_any D W hD)
  unfold dv dvp at T1 T2 ⊢
  obtain ⟨h, hh⟩ : ∃ h, h = D / 18446744073709551616 := ⟨_, rfl⟩
  obtain ⟨l, hl⟩ : ∃ l, l = D % 18446744073709551616 := ⟨_, rfl⟩
  rw [← hh, ← hl] at T1 T2 ⊢
  obtain ⟨s, hs⟩ : ∃ s, s = digText D := ⟨_, rfl⟩
  rw [← hs] at T1 T2
  clear hh hl hs hD
  go_enter Try.func4, Try.ntmps4
  go_wp2_with fail
  obtain ⟨w0, hw0⟩ : ∃ w0, w0 = w.alloc (Obj.cells #[.int .u64 h, .int .u64 l] 29) := ⟨_, rfl⟩
  have tb : Two w0 w.heap.size 29 (.int .u64 h) (.int .u64 l) := by rw [hw0]; exact Two.new _ _ _ _
  have bb : Below w.heap.size w w0 := by rw [hw0]; exact below_new _ _
  rw [← hw0]
  clear hw0
  refine (alive03 w0).mono ?_
  rintro e w1 ⟨rfl, hb1⟩
  have tb1 := tb.after hb1; have bb1 := hideP (bb.trans (hb1.mono bb.size))
  have k0 := tb1.c0
  have k1 := tb1.c1
  clear tb bb hb1 tb1
  go_wp2_with fail
  refine wp_region_eager 6 [(true, 0), (true, 1), (true, 2), (true, 3), (true, 4), (true, 5)] (by kernel_rfl) (by kernel_rfl) ?_
  simp only [pick, List.map_cons, List.map_nil, nthO_zero, nthO_succ]
  repeat (first
    | (refine wpPlan_valK (by rfl) (fun K hK => ?_); apply Exists.intro; refine ⟨fun W hW => ?_, ?_⟩; (focus (have hs1 := hW.cell k0; have hs2 := hW.cell k1; go_simp; (try rfl); done)); go_simp; refine hK _ ?_; clear hK K)
    | (refine wpPlan_callK (.string s) 18 #[.agg #[.int .u64 h, .int .u64 l]] (by rfl) ?_ (fun W hW => (T1.out W).mono fun e w' h => ⟨h.1, Ext.of_below h.2⟩) (fun K hK => ?_); (focus (intro W; go_simp; done)); go_simp; refine hK _ ?_; clear hK K)
    | (refine wpPlan_callK (.string s) 19 #[.agg #[.int .u64 h, .int .u64 l]] (by rfl) ?_ (fun W hW => (T2.out W).mono fun e w' h => ⟨h.1, Ext.of_below h.2⟩) (fun K hK => ?_); (focus (intro W; go_simp; done)); go_simp; refine hK _ ?_; clear hK K))
  refine wpPlan_nil (fun W hW => ?_)
  simp only [List.drop_succ_cons, List.drop_zero, List.drop_nil]
  have hX : Below w.heap.size w W := below_ext bb1.out hW.drew_left
  have HX := hideP hX
  clear hX hW k0 k1
  go_wp2
  go_ret
  exact ⟨rfl, HX.out⟩
end Go.Proofs.Ytnekbmndphbaoaa
