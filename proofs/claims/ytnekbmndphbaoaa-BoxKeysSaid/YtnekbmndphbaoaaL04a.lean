/- The walk of BoxKeys. -/
import Derived.Test.YtnekbmndphbaoaaLaw04
set_option linter.unusedVariables false
set_option linter.unusedSimpArgs false
namespace Go.Proofs.Ytnekbmndphbaoaa
open Go.RowKit
set_option maxRecDepth 100000 in
set_option maxHeartbeats 8000000 in
theorem walk_BoxKeys (K col : Int) (A : Option Addr) (at_ : List Int) (ca : Nat) (P : Option Addr) (p : List Int) (c : Nat) (Q : Option Addr) (q : List Int) (c' : Nat) (d : Int) (w : World)
    (hA : Arr w w.heap.size A at_.length (i64s at_)) (ha : IsI at_) (hP : Arr w w.heap.size P p.length (i64s p)) (hp : IsI p) (hn : p.length ≤ 17592186043904) (hc : p.length ≤ c)
    (hQ : Arr w w.heap.size Q q.length (i64s q)) (hq : IsI q) (hm : q.length ≤ 17592186043904) (hc' : q.length ≤ c') (hd : I64 d) :
    Calls Try.prog 8 #[.agg #[.int .u8 K, .int .i64 col, .slice A at_.length ca], .slice P p.length c, .slice Q q.length c', .int .i64 d] w fun e w' => e = .returned (.bool true) ∧ Below w.heap.size w w' := by
  obtain ⟨e1, hE1, t1⟩ := key_any K col A at_ ca ha P p c hp hn hc
  obtain ⟨e2, hE2, t2⟩ := rkey_any K col A at_ ca ha P p c hp hn hc
  have t3 := fun W => ord_any K col A at_.length ca d W hd
  have t4 := fun W => rord_any K col A at_.length ca d W hd
  have t5 := fun W h h' h'' => aheadO_any K col A P Q at_ p q ca c c' W h h' h'' ha hp hq hn hm hc hc'
  have t6 := fun W h h' h'' => raheadO_any K col A P Q at_ p q ca c c' W h h' h'' ha hp hq hn hm hc hc'
  have hcase : (e1 = 0 ∧ e2 = true) ∨ (e1 = 1 ∧ e2 = false) := by
    rcases hE1 with ⟨h1, h2⟩ | ⟨h1, h2⟩ <;> rcases hE2 with ⟨h3, h4⟩ | ⟨h3, h4⟩
    · exact .inl ⟨h1, h3⟩
    · rw [h2] at h4; cases h4
    · rw [h2] at h4; cases h4
    · exact .inr ⟨h1, h3⟩
  clear hE1 hE2
  unfold dv dvp at t1 t2
  obtain ⟨h1, g1⟩ : ∃ h, h = keyD K col at_ p / 18446744073709551616 := ⟨_, rfl⟩
  obtain ⟨l1, g2⟩ : ∃ l, l = keyD K col at_ p % 18446744073709551616 := ⟨_, rfl⟩
  rw [← g1, ← g2] at t1 t2
  obtain ⟨r, hr⟩ : ∃ r, r = ordB K col at_.length d := ⟨_, rfl⟩
  rw [← hr] at t3 t4
  obtain ⟨s, hs⟩ : ∃ r, r = aheadO K col at_ p q := ⟨_, rfl⟩
  rw [← hs] at t5 t6
  obtain ⟨m, hm'⟩ : ∃ m, m = at_.length := ⟨_, rfl⟩
  rw [← hm'] at t1 t2 t3 t4 t5 t6 hA ⊢
  clear g1 g2 hr hs hm' ha hp hq hn hm hc hc' hd
  have Ht1 := hideP t1; have Ht2 := hideP t2; have Ht3 := hideP t3; have Ht4 := hideP t4; have Ht5 := hideP t5; have Ht6 := hideP t6; have HhA := hideP hA; have HhP := hideP hP; have HhQ := hideP hQ; clear t1 t2 t3 t4 t5 t6 hA hP hQ
  rcases hcase with ⟨rfl, rfl⟩ | ⟨rfl, rfl⟩
  all_goals
    go_enter Try.func8, Try.ntmps8
    go_wp2_with fail
    obtain ⟨w1, hw1⟩ : ∃ w1, w1 = w.alloc (Obj.cells #[.int .u8 K, .int .i64 col, .slice A m ca] 50) := ⟨_, rfl⟩
    have c1 := hideP (show Three w1 w.heap.size 50 (.int .u8 K) (.int .i64 col) (.slice A m ca) by rw [hw1]; exact Three.new _ _ _ _ _)
    have cb := hideP (show Below w.heap.size w w1 by rw [hw1]; exact below_new _ _)
    rw [← hw1]
    clear hw1
    refine (alive04 w1).mono ?_
    rintro e w2 ⟨rfl, hb_⟩
    replace c1 := hideP (c1.out.after hb_)
    replace cb := hideP (bstep cb.out hb_)
    clear hb_
    have q0 := c1.out.c0
    have q1 := c1.out.c1
    have q2 := c1.out.c2
    go_wp2_with fail
    clear q0 q1 q2
    refine (Ht1.out w2 (HhA.out.after cb.out) (HhP.out.after cb.out)).mono ?_
    rintro e w3 ⟨rfl, hb_⟩
    replace c1 := hideP (c1.out.after hb_)
    replace cb := hideP (bstep cb.out hb_)
    clear hb_
    have q0 := (c1.out.alloc (Obj.cells #[.int .u64 h1, .int .u64 l1] 29)).c0
    have q1 := (c1.out.alloc (Obj.cells #[.int .u64 h1, .int .u64 l1] 29)).c1
    have q2 := (c1.out.alloc (Obj.cells #[.int .u64 h1, .int .u64 l1] 29)).c2
    go_wp2_with fail
    clear q0 q1 q2
    obtain ⟨v3, hv_⟩ : ∃ v, v = w3.alloc (Obj.cells #[.int .u64 h1, .int .u64 l1] 29) := ⟨_, rfl⟩
    obtain ⟨g9, hg_⟩ : ∃ g, g = w3.heap.size := ⟨_, rfl⟩
    have hb_ : Below w3.heap.size w3 v3 := by rw [hv_]; exact below_new _ _
    have x9 := hideP (show Two v3 g9 29 (.int .u64 h1) (.int .u64 l1) by rw [hv_, hg_]; exact Two.new _ _ _ _)
    have Gx9 := hideP (show w3.heap.size ≤ g9 from Nat.le_of_eq hg_.symm)
    replace c1 := hideP (c1.out.after hb_)
    replace cb := hideP (bstep cb.out hb_)
    rw [← hv_, ← hg_]
    clear hv_ hg_ hb_
    refine (Ht2.out v3 (HhA.out.after cb.out) (HhP.out.after cb.out)).mono ?_
    rintro e w4 ⟨rfl, hb_⟩
    replace c1 := hideP (c1.out.after hb_)
    replace x9 := hideP (x9.out.after hb_)
    replace cb := hideP (bstep cb.out hb_)
    clear hb_
    go_wp2
    obtain ⟨v4, hv_⟩ : ∃ v, v = w4.alloc (Obj.cells #[.int .u64 h1, .int .u64 l1] 29) := ⟨_, rfl⟩
    obtain ⟨g11, hg_⟩ : ∃ g, g = w4.heap.size := ⟨_, rfl⟩
    have hb_ : Below w4.heap.size w4 v4 := by rw [hv_]; exact below_new _ _
    have x11 := hideP (show Two v4 g11 29 (.int .u64 h1) (.int .u64 l1) by rw [hv_, hg_]; exact Two.new _ _ _ _)
    have Gx11 := hideP (show w4.heap.size ≤ g11 from Nat.le_of_eq hg_.symm)
    replace c1 := hideP (c1.out.after hb_)
    replace x9 := hideP (x9.out.after hb_)
    replace cb := hideP (bstep cb.out hb_)
    rw [← hv_, ← hg_]
    clear hv_ hg_ hb_
    have q0 := c1.out.c0
    have q1 := c1.out.c1
    have q2 := c1.out.c2
    have kx90 := x9.out.c0; have kx91 := x9.out.c1
    have kx110 := x11.out.c0; have kx111 := x11.out.c1
    refine wp_region_eager 38 [(true, 0), (true, 1), (true, 2), (true, 3), (true, 4), (true, 5), (true, 6), (true, 7), (true, 8), (true, 9), (true, 10), (true, 11), (true, 12), (true, 13), (true, 14), (true, 15), (true, 16), (true, 17), (true, 18), (true, 19), (true, 20), (true, 21), (true, 22), (true, 23), (true, 24), (true, 25), (true, 26), (true, 27), (true, 28), (true, 29), (true, 30), (true, 31), (true, 32), (true, 33), (true, 34), (true, 35), (true, 36), (true, 37)] (by kernel_rfl) (by kernel_rfl) ?_
    simp only [pick, List.map_cons, List.map_nil, nthO_zero, nthO_succ]
    repeat (first
      | (refine wpPlan_skipK (by rfl) (fun K hK => ?_); go_simp; refine hK _ ?_; clear hK K)
      | (refine wpPlan_valK (by rfl) (fun K hK => ?_); apply Exists.intro; refine ⟨fun W hW => ?_, ?_⟩; (focus (have hs0 := hW.cell q0; have hs1 := hW.cell q1; have hs2 := hW.cell q2; have hs3 := hW.cell kx90; have hs4 := hW.cell kx91; have hs5 := hW.cell kx110; have hs6 := hW.cell kx111; go_simp; (try rfl); done)); go_simp; refine hK _ ?_; clear hK K)
      | (refine wpPlan_callK (.bool r) 32 #[.agg #[.int .u8 K, .int .i64 col, .slice A m ca], .int .i64 d] (by rfl) ?_ (fun W hW => (Ht3.out W).mono fun e w' h => ⟨h.1, Ext.of_below h.2⟩) (fun K hK => ?_); (focus (intro W; go_simp; done)); go_simp; refine hK _ ?_; clear hK K)
      | (refine wpPlan_callK (.bool r) 33 #[.agg #[.int .u8 K, .int .i64 col, .slice A m ca], .int .i64 d] (by rfl) ?_ (fun W hW => (Ht4.out W).mono fun e w' h => ⟨h.1, Ext.of_below h.2⟩) (fun K hK => ?_); (focus (intro W; go_simp; done)); go_simp; refine hK _ ?_; clear hK K)
      | (refine wpPlan_callK (.bool s) 34 #[.agg #[.int .u8 K, .int .i64 col, .slice A m ca], .slice P p.length c, .slice Q q.length c'] (by rfl) ?_ (fun W hW => (Ht5.out W (HhA.out.after (below_ext cb.out hW.drew_left)) (HhP.out.after (below_ext cb.out hW.drew_left)) (HhQ.out.after (below_ext cb.out hW.drew_left))).mono fun e w' h => ⟨h.1, Ext.of_below h.2⟩) (fun K hK => ?_); (focus (intro W; go_simp; done)); go_simp; refine hK _ ?_; clear hK K)
      | (refine wpPlan_callK (.bool s) 35 #[.agg #[.int .u8 K, .int .i64 col, .slice A m ca], .slice P p.length c, .slice Q q.length c'] (by rfl) ?_ (fun W hW => (Ht6.out W (HhA.out.after (below_ext cb.out hW.drew_left)) (HhP.out.after (below_ext cb.out hW.drew_left)) (HhQ.out.after (below_ext cb.out hW.drew_left))).mono fun e w' h => ⟨h.1, Ext.of_below h.2⟩) (fun K hK => ?_); (focus (intro W; go_simp; done)); go_simp; refine hK _ ?_; clear hK K))
    refine wpPlan_nil (fun w5 hW0 => ?_)
    simp only [List.drop_succ_cons, List.drop_zero, List.drop_nil]
    replace cb := hideP (below_ext cb.out hW0.drew_left)
    clear hW0
    go_wp2
    go_ret
    exact ⟨rfl, cb.out⟩
end Go.Proofs.Ytnekbmndphbaoaa
