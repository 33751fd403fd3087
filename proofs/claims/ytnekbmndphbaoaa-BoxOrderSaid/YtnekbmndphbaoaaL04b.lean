/- The walk of BoxOrder. -/
import Derived.Test.YtnekbmndphbaoaaLaw04
set_option linter.unusedVariables false
set_option linter.unusedSimpArgs false
namespace Go.Proofs.Ytnekbmndphbaoaa
open Go.RowKit
theorem order_law (D E F : Nat) (x y z : Int) :
    ((aheadB D E x y = true ∧ aheadB E D y x = false) ∨ (aheadB D E x y = false ∧ aheadB E D y x = true) ∨ (aheadB D E x y = false ∧ aheadB E D y x = false ∧ x = y)) ∧ aheadB D D x x = false ∧
      (aheadB D E x y = true → aheadB E F y z = true → aheadB D F x z = true) := by
  unfold aheadB
  simp only [decide_eq_true_eq, decide_eq_false_iff_not]
  omega
set_option maxRecDepth 100000 in
set_option maxHeartbeats 8000000 in
theorem walk_BoxOrder (K col : Int) (A : Option Addr) (at_ : List Int) (ca : Nat) (P : Option Addr) (p : List Int) (c : Nat) (Q : Option Addr) (q : List Int) (c' : Nat) (R : Option Addr) (r : List Int) (c'' : Nat) (w : World)
    (hA : Arr w w.heap.size A at_.length (i64s at_)) (ha : IsI at_) (hP : Arr w w.heap.size P p.length (i64s p)) (hp : IsI p) (hn : p.length ≤ 17592186043904) (hc : p.length ≤ c)
    (hQ : Arr w w.heap.size Q q.length (i64s q)) (hq : IsI q) (hm : q.length ≤ 17592186043904) (hc' : q.length ≤ c') (hR : Arr w w.heap.size R r.length (i64s r)) (hr : IsI r) (hl : r.length ≤ 17592186043904) (hc'' : r.length ≤ c'') :
    Calls Try.prog 9 #[.agg #[.int .u8 K, .int .i64 col, .slice A at_.length ca], .slice P p.length c, .slice Q q.length c', .slice R r.length c''] w fun e w' => e = .returned (.bool true) ∧ Below w.heap.size w w' := by
  have t4 := fun W => rord_any K col A at_.length ca p.length W (by unfold I64; omega)
  by_cases hB : ordB K col at_.length p.length = true ∧ q.length = p.length ∧ r.length = p.length
  case neg =>
    obtain ⟨o, ho⟩ : ∃ r, r = ordB K col at_.length p.length := ⟨_, rfl⟩
    rw [← ho] at t4 hB
    have hcase : o = false ∨ (o = true ∧ q.length ≠ p.length) ∨ (o = true ∧ q.length = p.length ∧ r.length ≠ p.length) := by
      cases o
      · exact .inl rfl
      · right
        by_cases h : q.length = p.length
        · right; exact ⟨rfl, h, fun h2 => hB ⟨rfl, h, h2⟩⟩
        · left; exact ⟨rfl, h⟩
    obtain ⟨np, hnp⟩ : ∃ n, n = p.length := ⟨_, rfl⟩
    obtain ⟨nq, hnq⟩ : ∃ n, n = q.length := ⟨_, rfl⟩
    obtain ⟨nr, hnr⟩ : ∃ n, n = r.length := ⟨_, rfl⟩
    clear hP hQ hR hA hn hm hl hc hc' hc'' hB
    rw [← hnp] at t4 hcase ⊢
    rw [← hnq] at hcase ⊢
    rw [← hnr] at hcase ⊢
    clear ho hnp hnq hnr ha hp hq hr
    have Ht4 := hideP t4; clear t4
    rcases hcase with rfl | ⟨rfl, h⟩ | ⟨rfl, rfl, h⟩
    case' inr.inl => have tq : ((nq : Int) != np) = true := by simp; omega
    case' inr.inl => clear h
    case' inr.inr => have tq : ((nr : Int) != nq) = true := by simp; omega
    case' inr.inr => clear h
    all_goals
      go_enter Try.func9, Try.ntmps9
      go_wp2_with fail
      obtain ⟨w1, hw1⟩ : ∃ w1, w1 = w.alloc (Obj.cells #[.int .u8 K, .int .i64 col, .slice A at_.length ca] 50) := ⟨_, rfl⟩
      have c1 := hideP (show Three w1 w.heap.size 50 (.int .u8 K) (.int .i64 col) (.slice A at_.length ca) by rw [hw1]; exact Three.new _ _ _ _ _)
      have cb := hideP (show Below w.heap.size w w1 by rw [hw1]; exact below_new _ _)
      rw [← hw1]
      clear hw1
      refine (alive04 w1).mono ?_
      rintro e w2 ⟨rfl, hb_⟩
      replace c1 := hideP (c1.out.after hb_)
      replace cb := hideP (bstep cb.out hb_)
      clear hb_
      have q0 := c1.out.c0
      have q1 := c1.out.c1
      have q2 := c1.out.c2
      go_wp2_with fail
      refine (Ht4.out w2).mono ?_
      rintro e w3 ⟨rfl, hb_⟩
      replace cb := hideP (bstep cb.out hb_)
      clear hb_
      clear q0 q1 q2
      go_wp2
      go_ret
      exact ⟨rfl, cb.out⟩
  obtain ⟨hB, e1, e2⟩ := hB
  have hB1 : ordB K col at_.length q.length = true := by rw [e1]; exact hB
  have hB2 : ordB K col at_.length r.length = true := by rw [e2]; exact hB
  have t1 := fun W h h' h'' => aheadO_any K col A P Q at_ p q ca c c' W h h' h'' ha hp hq hn hm hc hc'
  have t2 := fun W h h' h'' => aheadO_any K col A Q P at_ q p ca c' c W h h' h'' ha hq hp hm hn hc' hc
  have t3 := fun W h h' h'' => aheadO_any K col A Q R at_ q r ca c' c'' W h h' h'' ha hq hr hm hl hc' hc''
  have t5 := fun W h h' h'' => aheadO_any K col A P P at_ p p ca c c W h h' h'' ha hp hp hn hn hc hc
  have t6 := fun W h h' h'' => aheadO_any K col A P R at_ p r ca c c'' W h h' h'' ha hp hr hn hl hc hc''
  rw [hB] at t4
  have au : ∀ u v : List Int, ordB K col at_.length u.length = true → ordB K col at_.length v.length = true → u.length = v.length → aheadO K col at_ u v = aheadB (keyN K col at_ u) (keyN K col at_ v) (u.getD 0 0) (v.getD 0 0) := fun u v h1 h2 h3 => by
    unfold aheadO; rw [h1, h2]; simp [h3]
  rw [au p q hB hB1 e1.symm] at t1
  rw [au q p hB1 hB e1] at t2
  rw [au q r hB1 hB2 (e1.trans e2.symm)] at t3
  rw [au p p hB hB rfl] at t5
  rw [au p r hB hB2 e2.symm] at t6
  obtain ⟨lw1, lw2, lw3⟩ := order_law (keyN K col at_ p) (keyN K col at_ q) (keyN K col at_ r) (p.getD 0 0) (q.getD 0 0) (r.getD 0 0)
  rw [lw2] at t5
  obtain ⟨va, hva⟩ : ∃ v, v = aheadB (keyN K col at_ p) (keyN K col at_ q) (p.getD 0 0) (q.getD 0 0) := ⟨_, rfl⟩
  obtain ⟨vb, hvb⟩ : ∃ v, v = aheadB (keyN K col at_ q) (keyN K col at_ p) (q.getD 0 0) (p.getD 0 0) := ⟨_, rfl⟩
  obtain ⟨vc, hvc⟩ : ∃ v, v = aheadB (keyN K col at_ q) (keyN K col at_ r) (q.getD 0 0) (r.getD 0 0) := ⟨_, rfl⟩
  obtain ⟨vz, hvz⟩ : ∃ v, v = aheadB (keyN K col at_ p) (keyN K col at_ r) (p.getD 0 0) (r.getD 0 0) := ⟨_, rfl⟩
  rw [← hva] at t1 lw1 lw3
  rw [← hvb] at t2 lw1
  rw [← hvc] at t3 lw3
  rw [← hvz] at t6 lw3
  have hpos := ordB_len hB
  rw [e1] at hQ t1 t2 t3 ⊢
  rw [e2] at hR t3 t6 ⊢
  obtain ⟨np, hnp⟩ : ∃ n, n = p.length := ⟨_, rfl⟩
  obtain ⟨m, hm'⟩ : ∃ m, m = at_.length := ⟨_, rfl⟩
  rw [← hnp] at t1 t2 t3 t4 t5 t6 hP hQ hR hpos ⊢
  rw [← hm'] at t1 t2 t3 t4 t5 t6 hA ⊢
  obtain ⟨x, hx⟩ : ∃ x, x = p.getD 0 0 := ⟨_, rfl⟩
  obtain ⟨y, hy⟩ : ∃ x, x = q.getD 0 0 := ⟨_, rfl⟩
  rw [← hx, ← hy] at lw1
  have j0 : (0 : Int) < np := by omega
  have jn : 0 < np := by omega
  obtain ⟨b, off, rfl, hb, hcl⟩ := hP (by omega)
  obtain ⟨b', off', rfl, hb', hcl'⟩ := hQ (by omega)
  have u1 := hcl 0 (by omega)
  have u2 := hcl' 0 (by omega)
  rw [Nat.add_zero] at u1 u2
  unfold i64s at u1 u2
  rw [← hx] at u1
  rw [← hy] at u2
  have hcase : (va = true ∧ vb = false ∧ x = y) ∨ (va = true ∧ vb = false ∧ ¬ x = y) ∨ (va = false ∧ vb = true ∧ x = y) ∨ (va = false ∧ vb = true ∧ ¬ x = y) ∨ (va = false ∧ vb = false ∧ x = y) := by
    rcases lw1 with ⟨h1, h2⟩ | ⟨h1, h2⟩ | h
    · by_cases h : x = y
      · exact .inl ⟨h1, h2, h⟩
      · exact .inr (.inl ⟨h1, h2, h⟩)
    · by_cases h : x = y
      · exact .inr (.inr (.inl ⟨h1, h2, h⟩))
      · exact .inr (.inr (.inr (.inl ⟨h1, h2, h⟩)))
    · exact .inr (.inr (.inr (.inr h)))
  clear lw1 lw2 hB hB1 hB2 e1 e2 au hva hvb hvc hvz hnp hm' hx hy hcl hcl' hpos ha hp hq hr hn hm hl hc hc' hc''
  have L3 := hideP lw3
  clear lw3
  have Ht1 := hideP t1; have Ht2 := hideP t2; have Ht3 := hideP t3; have Ht4 := hideP t4; have Ht5 := hideP t5; have Ht6 := hideP t6; have HhA := hideP hA; have HhP := hideP hP; have HhQ := hideP hQ; have HhR := hideP hR; have Hhb := hideP hb; have Hhb' := hideP hb'; have Hu1 := hideP u1; have Hu2 := hideP u2; clear t1 t2 t3 t4 t5 t6 hA hP hQ hR hb hb' u1 u2
  rcases hcase with ⟨rfl, rfl, rfl⟩ | ⟨rfl, rfl, hxy⟩ | ⟨rfl, rfl, rfl⟩ | ⟨rfl, rfl, hxy⟩ | ⟨rfl, rfl, rfl⟩
  all_goals first
    | (have tx : (x != y) = true := by simp [hxy]); clear hxy
    | have tx : (x != x) = false := by simp
  all_goals
    go_enter Try.func9, Try.ntmps9
    go_wp2_with fail
    obtain ⟨w1, hw1⟩ : ∃ w1, w1 = w.alloc (Obj.cells #[.int .u8 K, .int .i64 col, .slice A m ca] 50) := ⟨_, rfl⟩
    have c1 := hideP (show Three w1 w.heap.size 50 (.int .u8 K) (.int .i64 col) (.slice A m ca) by rw [hw1]; exact Three.new _ _ _ _ _)
    have cb := hideP (show Below w.heap.size w w1 by rw [hw1]; exact below_new _ _)
    rw [← hw1]
    clear hw1
    refine (alive04 w1).mono ?_
    rintro e w2 ⟨rfl, hb_⟩
    replace c1 := hideP (c1.out.after hb_)
    replace cb := hideP (bstep cb.out hb_)
    clear hb_
    have q0 := c1.out.c0
    have q1 := c1.out.c1
    have q2 := c1.out.c2
    go_wp2_with fail
    refine (Ht4.out w2).mono ?_
    rintro e w3 ⟨rfl, hb_⟩
    replace c1 := hideP (c1.out.after hb_)
    replace cb := hideP (bstep cb.out hb_)
    clear hb_
    clear q0 q1 q2
    have q0 := c1.out.c0
    have q1 := c1.out.c1
    have q2 := c1.out.c2
    go_wp2
    refine wp_region_eager 12 [(true, 0), (true, 1), (true, 2), (true, 3), (true, 4), (true, 5), (true, 6), (true, 7), (true, 8), (true, 9), (true, 10), (true, 11)] (by kernel_rfl) (by kernel_rfl) ?_
    simp only [pick, List.map_cons, List.map_nil, nthO_zero, nthO_succ]
    repeat (first
      | (refine wpPlan_skipK (by rfl) (fun K hK => ?_); go_simp; refine hK _ ?_; clear hK K)
      | (refine wpPlan_valK (by rfl) (fun K hK => ?_); apply Exists.intro; refine ⟨fun W hW => ?_, ?_⟩; (focus (have hs0 := hW.cell q0; have hs1 := hW.cell q1; have hs2 := hW.cell q2; go_simp; (try rfl); done)); go_simp; refine hK _ ?_; clear hK K)
      | (refine wpPlan_callK (.bool _) 34 #[.agg #[.int .u8 K, .int .i64 col, .slice A m ca], .slice (some ⟨b, off, none⟩) np c, .slice (some ⟨b', off', none⟩) np c'] (by rfl) ?_ (fun W hW => (Ht1.out W (HhA.out.after (below_ext cb.out hW.drew_left)) (HhP.out.after (below_ext cb.out hW.drew_left)) (HhQ.out.after (below_ext cb.out hW.drew_left))).mono fun e w' h => ⟨h.1, Ext.of_below h.2⟩) (fun K hK => ?_); (focus (intro W; go_simp; done)); go_simp; refine hK _ ?_; clear hK K)
      | (refine wpPlan_callK (.bool _) 34 #[.agg #[.int .u8 K, .int .i64 col, .slice A m ca], .slice (some ⟨b', off', none⟩) np c', .slice (some ⟨b, off, none⟩) np c] (by rfl) ?_ (fun W hW => (Ht2.out W (HhA.out.after (below_ext cb.out hW.drew_left)) (HhQ.out.after (below_ext cb.out hW.drew_left)) (HhP.out.after (below_ext cb.out hW.drew_left))).mono fun e w' h => ⟨h.1, Ext.of_below h.2⟩) (fun K hK => ?_); (focus (intro W; go_simp; done)); go_simp; refine hK _ ?_; clear hK K)
      | (refine wpPlan_callK (.bool vc) 34 #[.agg #[.int .u8 K, .int .i64 col, .slice A m ca], .slice (some ⟨b', off', none⟩) np c', .slice (R) np c''] (by rfl) ?_ (fun W hW => (Ht3.out W (HhA.out.after (below_ext cb.out hW.drew_left)) (HhQ.out.after (below_ext cb.out hW.drew_left)) (HhR.out.after (below_ext cb.out hW.drew_left))).mono fun e w' h => ⟨h.1, Ext.of_below h.2⟩) (fun K hK => ?_); (focus (intro W; go_simp; done)); go_simp; refine hK _ ?_; clear hK K))
    refine wpPlan_nil (fun w4 hW0 => ?_)
    simp only [List.drop_succ_cons, List.drop_zero, List.drop_nil]
    replace c1 := hideP (c1.out.ext hW0.drew_left)
    replace cb := hideP (below_ext cb.out hW0.drew_left)
    clear hW0 q0 q1 q2
    have q0 := c1.out.c0
    have q1 := c1.out.c1
    have q2 := c1.out.c2
    have v1 := cell_below cb.out Hhb.out Hu1.out
    have v2 := cell_below cb.out Hhb'.out Hu2.out
    go_wp2
    refine wp_region_eager 27 [(true, 0), (true, 1), (true, 2), (true, 3), (true, 4), (true, 5), (true, 6), (true, 7), (true, 8), (true, 9), (true, 10), (true, 11), (true, 12), (true, 13), (true, 14), (true, 15), (true, 16), (true, 17), (true, 18), (true, 19), (true, 20), (true, 21), (true, 22), (true, 23), (true, 24), (true, 25), (true, 26)] (by kernel_rfl) (by kernel_rfl) ?_
    simp only [pick, List.map_cons, List.map_nil, nthO_zero, nthO_succ]
    repeat (first
      | (refine wpPlan_skipK (by rfl) (fun K hK => ?_); go_simp; refine hK _ ?_; clear hK K)
      | (refine wpPlan_valK (by rfl) (fun K hK => ?_); apply Exists.intro; refine ⟨fun W hW => ?_, ?_⟩; (focus (have hs0 := hW.cell q0; have hs1 := hW.cell q1; have hs2 := hW.cell q2; have hs3 := hW.cell v1; have hs4 := hW.cell v2; go_simp; (try rfl); done)); go_simp; refine hK _ ?_; clear hK K)
      | (refine wpPlan_callK (.bool false) 34 #[.agg #[.int .u8 K, .int .i64 col, .slice A m ca], .slice (some ⟨b, off, none⟩) np c, .slice (some ⟨b, off, none⟩) np c] (by rfl) ?_ (fun W hW => (Ht5.out W (HhA.out.after (below_ext cb.out hW.drew_left)) (HhP.out.after (below_ext cb.out hW.drew_left)) (HhP.out.after (below_ext cb.out hW.drew_left))).mono fun e w' h => ⟨h.1, Ext.of_below h.2⟩) (fun K hK => ?_); (focus (intro W; go_simp; done)); go_simp; refine hK _ ?_; clear hK K))
    refine wpPlan_nil (fun w5 hW0 => ?_)
    simp only [List.drop_succ_cons, List.drop_zero, List.drop_nil]
    replace c1 := hideP (c1.out.ext hW0.drew_left)
    replace cb := hideP (below_ext cb.out hW0.drew_left)
    clear hW0 q0 q1 q2 v1 v2
    have q0 := c1.out.c0
    have q1 := c1.out.c1
    have q2 := c1.out.c2
    cases vc
  all_goals first
    | (have hv : vz = true := L3.out (by decide) (by decide)
       subst hv
       go_wp2_with fail
       refine (Ht6.out w5 (HhA.out.after cb.out) (HhP.out.after cb.out) (HhR.out.after cb.out)).mono ?_
       rintro e w6 ⟨rfl, hb_⟩
       clear q0 q1 q2
       replace cb := hideP (bstep cb.out hb_)
       go_wp2
       go_ret
       exact ⟨rfl, cb.out⟩)
    | (go_wp2; go_ret; exact ⟨rfl, cb.out⟩)
end Go.Proofs.Ytnekbmndphbaoaa
