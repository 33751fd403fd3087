/- Contract of box.Hull where a box may be none. -/
import Derived.Test.YtgcbodpjidoanaaQ6
set_option linter.unusedVariables false
set_option linter.unusedSimpArgs false
namespace Go.Proofs.Ytgcbodpjidoanaa
open Go.RowKit
abbrev BoxD := List Int × List Int
/-- right for d numbers, or none -/
def boxOk (b : BoxD) (d : Nat) : Prop := (rightB b.1 b.2 d = true) ∨ (b.1 = [] ∧ b.2 = [])
theorem boxOk_len {b : BoxD} {d : Nat} (h : boxOk b d) : b.1.length ≤ 8 ∧ b.2.length ≤ 8 ∧ b.1.length = b.2.length := by
  rcases h with h | ⟨h1, h2⟩
  · have := rightB_len h; omega
  · rw [h1, h2]; simp
theorem own_mono {w : World} {base base' : Nat} {R : Option Addr} {s : Nat} {l : List Int} (h : Own w base R s l) (hb : base' ≤ base) : Own w base' R s l := by
  refine ⟨h.1, h.2.imp id ?_⟩
  rintro ⟨g, cap, cur, hv, hg, r⟩
  exact ⟨g, cap, cur, hv, Nat.le_trans hb hg, r⟩
def hullB (a b : BoxD) : BoxD := if a.1 = [] then b else if b.1 = [] then a else (hullLo a.1 b.1, hullHi a.2 b.2)
set_option maxRecDepth 100000 in
set_option maxHeartbeats 2000000 in
theorem hull_left (L H L' H' : Option Addr) (lo hi lo' hi' : List Int) (dl sh dl' sh' : Nat) (w : World) (hL : Arr w w.heap.size L lo.length (i64s lo)) (hH : Arr w w.heap.size H hi.length (i64s hi))
    (hL' : Arr w w.heap.size L' lo'.length (i64s lo')) (hH' : Arr w w.heap.size H' hi'.length (i64s hi')) (hr : rightB lo hi lo.length = true) (hr' : rightB lo' hi' lo'.length = false) (h8 : lo.length ≤ 1000000 ∧ hi.length ≤ 1000000 ∧ lo'.length ≤ 1000000 ∧ hi'.length ≤ 1000000) :
    Calls Try.prog 106 #[.agg #[.slice L lo.length dl, .slice H hi.length sh], .agg #[.slice L' lo'.length dl', .slice H' hi'.length sh']] w fun e w' => ∃ R s R' s', e = .returned (.agg #[.slice R lo.length s, .slice R' hi.length s']) ∧ Below w.heap.size w w' ∧ Own w' w.heap.size R s lo ∧ Own w' w.heap.size R' s' hi := by
  have HtC0 := hideP (fun W h h' => copied_any L H lo hi dl sh W h h' (by omega) (by omega))
  clear h8
  have tM := fun W h h' => right_any L H lo hi dl sh lo.length W h h'
  have tM' := fun W h h' => right_any L' H' lo' hi' dl' sh' lo'.length W h h'
  rw [hr] at tM
  rw [hr'] at tM'
  obtain ⟨n, hn⟩ : ∃ n, n = lo.length := ⟨_, rfl⟩
  obtain ⟨m, hm⟩ : ∃ n, n = hi.length := ⟨_, rfl⟩
  obtain ⟨n', hn'⟩ : ∃ n, n = lo'.length := ⟨_, rfl⟩
  obtain ⟨m', hm'⟩ : ∃ n, n = hi'.length := ⟨_, rfl⟩
  have HN := hideP hn; have HM := hideP hm; have HN' := hideP hn'; have HM' := hideP hm'
  rw [← hn] at hL tM ⊢
  rw [← hm] at hH tM ⊢
  rw [← hn'] at hL' tM' ⊢
  rw [← hm'] at hH' tM' ⊢
  clear hr hr' hn hm hn' hm'
  have HhL := hideP hL; have HhH := hideP hH; have HhL' := hideP hL'; have HhH' := hideP hH'; have HtM := hideP tM; have HtM' := hideP tM'; clear hL hH hL' hH' tM tM'
  go_enter Try.func106, Try.ntmps106
  go_wp2_with fail
  obtain ⟨w1, hw1⟩ : ∃ w1, w1 = ((w.alloc (Obj.cells #[.slice L n dl, .slice H m sh] 41)).alloc (Obj.cells #[.slice L' n' dl', .slice H' m' sh'] 41)).alloc (Obj.cells #[.slice none 0 0, .slice none 0 0] 41) := ⟨_, rfl⟩
  have c1 := hideP (show Two w1 w.heap.size 41 (.slice L n dl) (.slice H m sh) by rw [hw1]; exact ((Two.new _ _ _ _).alloc _).alloc _)
  have c2 := hideP (show Two w1 (w.heap.size + 1) 41 (.slice L' n' dl') (.slice H' m' sh') by rw [hw1]; exact (Two.new' _ _ _ _ _ (by simp)).alloc _)
  have c3 := hideP (show Two w1 (w.heap.size + 1 + 1) 41 (.slice none 0 0) (.slice none 0 0) by rw [hw1]; exact Two.new' _ _ _ _ _ (by simp))
  have cb := hideP (show Below w.heap.size w w1 by rw [hw1]; exact ((below_new _ _).alloc (by simp) _).alloc (by simp; omega) _)
  rw [← hw1]
  clear hw1
  have kc10 := c1.out.c0; have kc11 := c1.out.c1
  have kc20 := c2.out.c0; have kc21 := c2.out.c1
  go_wp2_with fail
  refine wp_region_eager 10 [(true, 0), (true, 1), (true, 2), (true, 3), (true, 4), (true, 5), (true, 6), (true, 7), (true, 8), (true, 9)] (by kernel_rfl) (by kernel_rfl) ?_
  simp only [pick, List.map_cons, List.map_nil, nthO_zero, nthO_succ]
  repeat (first
    | (refine wpPlan_skipK (by rfl) (fun K hK => ?_); go_simp; refine hK _ ?_; clear hK K)
    | (refine wpPlan_valK (by rfl) (fun K hK => ?_); apply Exists.intro; refine ⟨fun W hW => ?_, ?_⟩; (focus (have hs0 := hW.cell kc10; have hs1 := hW.cell kc11; have hs2 := hW.cell kc20; have hs3 := hW.cell kc21; go_simp; (try rfl); done)); go_simp; refine hK _ ?_; clear hK K)
    | (refine wpPlan_callK (.bool true) 102 #[.agg #[.slice L n dl, .slice H m sh], .int .i64 n] (by rfl) ?_ (fun W hW => (HtM.out W (HhL.out.after (below_ext cb.out hW.drew_left)) (HhH.out.after (below_ext cb.out hW.drew_left))).mono fun e w' h => ⟨h.1, Ext.of_below h.2⟩) (fun K hK => ?_); (focus (intro W; go_simp; done)); go_simp; refine hK _ ?_; clear hK K)
    | (refine wpPlan_callK (.bool false) 102 #[.agg #[.slice L' n' dl', .slice H' m' sh'], .int .i64 n'] (by rfl) ?_ (fun W hW => (HtM'.out W (HhL'.out.after (below_ext cb.out hW.drew_left)) (HhH'.out.after (below_ext cb.out hW.drew_left))).mono fun e w' h => ⟨h.1, Ext.of_below h.2⟩) (fun K hK => ?_); (focus (intro W; go_simp; done)); go_simp; refine hK _ ?_; clear hK K))
  refine wpPlan_nil (fun w2 hW0 => ?_)
  simp only [List.drop_succ_cons, List.drop_zero, List.drop_nil]
  clear kc10 kc11 kc20 kc21
  replace c1 := hideP (c1.out.ext hW0.drew_left)
  replace c2 := hideP (c2.out.ext hW0.drew_left)
  replace c3 := hideP (c3.out.ext hW0.drew_left)
  replace cb := hideP (below_ext cb.out hW0.drew_left)
  clear hW0
  have kc10 := c1.out.c0; have kc11 := c1.out.c1
  have kc20 := c2.out.c0; have kc21 := c2.out.c1
  have HtC := HtC0.out
  rw [← HN.out, ← HM.out] at HtC
  (try rw [← HN.out, ← HM.out])
  replace HtC := hideP HtC
  clear HtC0
  have lt4 := hideP c3.out.lt
  go_wp2_with (go_at_call 182; refine (HtC.out w2 (HhL.out.after cb.out) (HhH.out.after cb.out)).mono ?_; rintro e w3 ⟨R, s, R', s', rfl, hb_, o1_, o2_, sp⟩; have O1 := hideP o1_; have O2 := hideP o2_; have d3 := hideP (c3.out.after hb_); have db := hideP (bstep cb.out hb_); clear hb_ o1_ o2_ sp kc10 kc11 kc20 kc21; have f0 := d3.out.fz 0; have f1 := d3.out.fz 1; have e0 := d3.out.c0; have e1 := d3.out.c1)
  refine ret_box rfl rfl (d3.out.set2 _ _) rfl ⟨R, s, R', s', rfl, (db.out.setCell (p := ⟨w.heap.size + 1 + 1, 0, none⟩) (by simp; omega) _).setCell (p := ⟨w.heap.size + 1 + 1, 1, none⟩) (by simp; omega) _, ?_, ?_⟩
  · exact own_mono (own_setCell (own_setCell O1.out (a := ⟨w.heap.size + 1 + 1, 0, none⟩) lt4.out (.slice R n s)) (a := ⟨w.heap.size + 1 + 1, 1, none⟩) lt4.out (.slice R' m s')) cb.out.size
  · exact own_mono (own_setCell (own_setCell O2.out (a := ⟨w.heap.size + 1 + 1, 0, none⟩) lt4.out (.slice R n s)) (a := ⟨w.heap.size + 1 + 1, 1, none⟩) lt4.out (.slice R' m s')) cb.out.size
set_option maxRecDepth 100000 in
set_option maxHeartbeats 2000000 in
theorem hull_right (L H L' H' : Option Addr) (lo hi lo' hi' : List Int) (dl sh dl' sh' : Nat) (w : World) (hL : Arr w w.heap.size L lo.length (i64s lo)) (hH : Arr w w.heap.size H hi.length (i64s hi))
    (hL' : Arr w w.heap.size L' lo'.length (i64s lo')) (hH' : Arr w w.heap.size H' hi'.length (i64s hi')) (hr : rightB lo hi lo.length = false) (hr' : rightB lo' hi' lo'.length = true) (h8 : lo.length ≤ 1000000 ∧ hi.length ≤ 1000000 ∧ lo'.length ≤ 1000000 ∧ hi'.length ≤ 1000000) :
    Calls Try.prog 106 #[.agg #[.slice L lo.length dl, .slice H hi.length sh], .agg #[.slice L' lo'.length dl', .slice H' hi'.length sh']] w fun e w' => ∃ R s R' s', e = .returned (.agg #[.slice R lo'.length s, .slice R' hi'.length s']) ∧ Below w.heap.size w w' ∧ Own w' w.heap.size R s lo' ∧ Own w' w.heap.size R' s' hi' := by
  have HtC0 := hideP (fun W h h' => copied_any L' H' lo' hi' dl' sh' W h h' (by omega) (by omega))
  clear h8
  have tM := fun W h h' => right_any L H lo hi dl sh lo.length W h h'
  have tM' := fun W h h' => right_any L' H' lo' hi' dl' sh' lo'.length W h h'
  rw [hr] at tM
  rw [hr'] at tM'
  obtain ⟨n, hn⟩ : ∃ n, n = lo.length := ⟨_, rfl⟩
  obtain ⟨m, hm⟩ : ∃ n, n = hi.length := ⟨_, rfl⟩
  obtain ⟨n', hn'⟩ : ∃ n, n = lo'.length := ⟨_, rfl⟩
  obtain ⟨m', hm'⟩ : ∃ n, n = hi'.length := ⟨_, rfl⟩
  have HN := hideP hn; have HM := hideP hm; have HN' := hideP hn'; have HM' := hideP hm'
  rw [← hn] at hL tM ⊢
  rw [← hm] at hH tM ⊢
  rw [← hn'] at hL' tM' ⊢
  rw [← hm'] at hH' tM' ⊢
  clear hr hr' hn hm hn' hm'
  have HhL := hideP hL; have HhH := hideP hH; have HhL' := hideP hL'; have HhH' := hideP hH'; have HtM := hideP tM; have HtM' := hideP tM'; clear hL hH hL' hH' tM tM'
  go_enter Try.func106, Try.ntmps106
  go_wp2_with fail
  obtain ⟨w1, hw1⟩ : ∃ w1, w1 = ((w.alloc (Obj.cells #[.slice L n dl, .slice H m sh] 41)).alloc (Obj.cells #[.slice L' n' dl', .slice H' m' sh'] 41)).alloc (Obj.cells #[.slice none 0 0, .slice none 0 0] 41) := ⟨_, rfl⟩
  have c1 := hideP (show Two w1 w.heap.size 41 (.slice L n dl) (.slice H m sh) by rw [hw1]; exact ((Two.new _ _ _ _).alloc _).alloc _)
  have c2 := hideP (show Two w1 (w.heap.size + 1) 41 (.slice L' n' dl') (.slice H' m' sh') by rw [hw1]; exact (Two.new' _ _ _ _ _ (by simp)).alloc _)
  have c3 := hideP (show Two w1 (w.heap.size + 1 + 1) 41 (.slice none 0 0) (.slice none 0 0) by rw [hw1]; exact Two.new' _ _ _ _ _ (by simp))
  have cb := hideP (show Below w.heap.size w w1 by rw [hw1]; exact ((below_new _ _).alloc (by simp) _).alloc (by simp; omega) _)
  rw [← hw1]
  clear hw1
  have kc10 := c1.out.c0; have kc11 := c1.out.c1
  have kc20 := c2.out.c0; have kc21 := c2.out.c1
  go_wp2_with fail
  refine wp_region_eager 10 [(true, 0), (true, 1), (true, 2), (true, 3), (true, 4), (true, 5), (true, 6), (true, 7), (true, 8), (true, 9)] (by kernel_rfl) (by kernel_rfl) ?_
  simp only [pick, List.map_cons, List.map_nil, nthO_zero, nthO_succ]
  repeat (first
    | (refine wpPlan_skipK (by rfl) (fun K hK => ?_); go_simp; refine hK _ ?_; clear hK K)
    | (refine wpPlan_valK (by rfl) (fun K hK => ?_); apply Exists.intro; refine ⟨fun W hW => ?_, ?_⟩; (focus (have hs0 := hW.cell kc10; have hs1 := hW.cell kc11; have hs2 := hW.cell kc20; have hs3 := hW.cell kc21; go_simp; (try rfl); done)); go_simp; refine hK _ ?_; clear hK K)
    | (refine wpPlan_callK (.bool false) 102 #[.agg #[.slice L n dl, .slice H m sh], .int .i64 n] (by rfl) ?_ (fun W hW => (HtM.out W (HhL.out.after (below_ext cb.out hW.drew_left)) (HhH.out.after (below_ext cb.out hW.drew_left))).mono fun e w' h => ⟨h.1, Ext.of_below h.2⟩) (fun K hK => ?_); (focus (intro W; go_simp; done)); go_simp; refine hK _ ?_; clear hK K)
    | (refine wpPlan_callK (.bool true) 102 #[.agg #[.slice L' n' dl', .slice H' m' sh'], .int .i64 n'] (by rfl) ?_ (fun W hW => (HtM'.out W (HhL'.out.after (below_ext cb.out hW.drew_left)) (HhH'.out.after (below_ext cb.out hW.drew_left))).mono fun e w' h => ⟨h.1, Ext.of_below h.2⟩) (fun K hK => ?_); (focus (intro W; go_simp; done)); go_simp; refine hK _ ?_; clear hK K))
  refine wpPlan_nil (fun w2 hW0 => ?_)
  simp only [List.drop_succ_cons, List.drop_zero, List.drop_nil]
  clear kc10 kc11 kc20 kc21
  replace c1 := hideP (c1.out.ext hW0.drew_left)
  replace c2 := hideP (c2.out.ext hW0.drew_left)
  replace c3 := hideP (c3.out.ext hW0.drew_left)
  replace cb := hideP (below_ext cb.out hW0.drew_left)
  clear hW0
  have kc10 := c1.out.c0; have kc11 := c1.out.c1
  have kc20 := c2.out.c0; have kc21 := c2.out.c1
  have HtC := HtC0.out
  rw [← HN'.out, ← HM'.out] at HtC
  (try rw [← HN'.out, ← HM'.out])
  replace HtC := hideP HtC
  clear HtC0
  have lt4 := hideP c3.out.lt
  go_wp2_with (go_at_call 182; refine (HtC.out w2 (HhL'.out.after cb.out) (HhH'.out.after cb.out)).mono ?_; rintro e w3 ⟨R, s, R', s', rfl, hb_, o1_, o2_, sp⟩; have O1 := hideP o1_; have O2 := hideP o2_; have d3 := hideP (c3.out.after hb_); have db := hideP (bstep cb.out hb_); clear hb_ o1_ o2_ sp kc10 kc11 kc20 kc21; have f0 := d3.out.fz 0; have f1 := d3.out.fz 1; have e0 := d3.out.c0; have e1 := d3.out.c1)
  refine ret_box rfl rfl (d3.out.set2 _ _) rfl ⟨R, s, R', s', rfl, (db.out.setCell (p := ⟨w.heap.size + 1 + 1, 0, none⟩) (by simp; omega) _).setCell (p := ⟨w.heap.size + 1 + 1, 1, none⟩) (by simp; omega) _, ?_, ?_⟩
  · exact own_mono (own_setCell (own_setCell O1.out (a := ⟨w.heap.size + 1 + 1, 0, none⟩) lt4.out (.slice R n' s)) (a := ⟨w.heap.size + 1 + 1, 1, none⟩) lt4.out (.slice R' m' s')) cb.out.size
  · exact own_mono (own_setCell (own_setCell O2.out (a := ⟨w.heap.size + 1 + 1, 0, none⟩) lt4.out (.slice R n' s)) (a := ⟨w.heap.size + 1 + 1, 1, none⟩) lt4.out (.slice R' m' s')) cb.out.size
set_option maxRecDepth 100000 in
set_option maxHeartbeats 2000000 in
theorem hull_no (L H L' H' : Option Addr) (lo hi lo' hi' : List Int) (dl sh dl' sh' : Nat) (w : World) (hL : Arr w w.heap.size L lo.length (i64s lo)) (hH : Arr w w.heap.size H hi.length (i64s hi))
    (hL' : Arr w w.heap.size L' lo'.length (i64s lo')) (hH' : Arr w w.heap.size H' hi'.length (i64s hi')) (hr : rightB lo hi lo.length = false) (hr' : rightB lo' hi' lo'.length = false) (h8 : lo.length ≤ 1000000 ∧ hi.length ≤ 1000000 ∧ lo'.length ≤ 1000000 ∧ hi'.length ≤ 1000000) :
    Calls Try.prog 106 #[.agg #[.slice L lo.length dl, .slice H hi.length sh], .agg #[.slice L' lo'.length dl', .slice H' hi'.length sh']] w fun e w' => e = .returned (.agg #[.slice none 0 0, .slice none 0 0]) ∧ Below w.heap.size w w' := by
  clear h8
  have tM := fun W h h' => right_any L H lo hi dl sh lo.length W h h'
  have tM' := fun W h h' => right_any L' H' lo' hi' dl' sh' lo'.length W h h'
  rw [hr] at tM
  rw [hr'] at tM'
  obtain ⟨n, hn⟩ : ∃ n, n = lo.length := ⟨_, rfl⟩
  obtain ⟨m, hm⟩ : ∃ n, n = hi.length := ⟨_, rfl⟩
  obtain ⟨n', hn'⟩ : ∃ n, n = lo'.length := ⟨_, rfl⟩
  obtain ⟨m', hm'⟩ : ∃ n, n = hi'.length := ⟨_, rfl⟩
  have HN := hideP hn; have HM := hideP hm; have HN' := hideP hn'; have HM' := hideP hm'
  rw [← hn] at hL tM ⊢
  rw [← hm] at hH tM ⊢
  rw [← hn'] at hL' tM' ⊢
  rw [← hm'] at hH' tM' ⊢
  clear hr hr' hn hm hn' hm'
  have HhL := hideP hL; have HhH := hideP hH; have HhL' := hideP hL'; have HhH' := hideP hH'; have HtM := hideP tM; have HtM' := hideP tM'; clear hL hH hL' hH' tM tM'
  go_enter Try.func106, Try.ntmps106
  go_wp2_with fail
  obtain ⟨w1, hw1⟩ : ∃ w1, w1 = ((w.alloc (Obj.cells #[.slice L n dl, .slice H m sh] 41)).alloc (Obj.cells #[.slice L' n' dl', .slice H' m' sh'] 41)).alloc (Obj.cells #[.slice none 0 0, .slice none 0 0] 41) := ⟨_, rfl⟩
  have c1 := hideP (show Two w1 w.heap.size 41 (.slice L n dl) (.slice H m sh) by rw [hw1]; exact ((Two.new _ _ _ _).alloc _).alloc _)
  have c2 := hideP (show Two w1 (w.heap.size + 1) 41 (.slice L' n' dl') (.slice H' m' sh') by rw [hw1]; exact (Two.new' _ _ _ _ _ (by simp)).alloc _)
  have c3 := hideP (show Two w1 (w.heap.size + 1 + 1) 41 (.slice none 0 0) (.slice none 0 0) by rw [hw1]; exact Two.new' _ _ _ _ _ (by simp))
  have cb := hideP (show Below w.heap.size w w1 by rw [hw1]; exact ((below_new _ _).alloc (by simp) _).alloc (by simp; omega) _)
  rw [← hw1]
  clear hw1
  have kc10 := c1.out.c0; have kc11 := c1.out.c1
  have kc20 := c2.out.c0; have kc21 := c2.out.c1
  go_wp2_with fail
  refine wp_region_eager 10 [(true, 0), (true, 1), (true, 2), (true, 3), (true, 4), (true, 5), (true, 6), (true, 7), (true, 8), (true, 9)] (by kernel_rfl) (by kernel_rfl) ?_
  simp only [pick, List.map_cons, List.map_nil, nthO_zero, nthO_succ]
  repeat (first
    | (refine wpPlan_skipK (by rfl) (fun K hK => ?_); go_simp; refine hK _ ?_; clear hK K)
    | (refine wpPlan_valK (by rfl) (fun K hK => ?_); apply Exists.intro; refine ⟨fun W hW => ?_, ?_⟩; (focus (have hs0 := hW.cell kc10; have hs1 := hW.cell kc11; have hs2 := hW.cell kc20; have hs3 := hW.cell kc21; go_simp; (try rfl); done)); go_simp; refine hK _ ?_; clear hK K)
    | (refine wpPlan_callK (.bool false) 102 #[.agg #[.slice L n dl, .slice H m sh], .int .i64 n] (by rfl) ?_ (fun W hW => (HtM.out W (HhL.out.after (below_ext cb.out hW.drew_left)) (HhH.out.after (below_ext cb.out hW.drew_left))).mono fun e w' h => ⟨h.1, Ext.of_below h.2⟩) (fun K hK => ?_); (focus (intro W; go_simp; done)); go_simp; refine hK _ ?_; clear hK K)
    | (refine wpPlan_callK (.bool false) 102 #[.agg #[.slice L' n' dl', .slice H' m' sh'], .int .i64 n'] (by rfl) ?_ (fun W hW => (HtM'.out W (HhL'.out.after (below_ext cb.out hW.drew_left)) (HhH'.out.after (below_ext cb.out hW.drew_left))).mono fun e w' h => ⟨h.1, Ext.of_below h.2⟩) (fun K hK => ?_); (focus (intro W; go_simp; done)); go_simp; refine hK _ ?_; clear hK K))
  refine wpPlan_nil (fun w2 hW0 => ?_)
  simp only [List.drop_succ_cons, List.drop_zero, List.drop_nil]
  clear kc10 kc11 kc20 kc21
  replace c1 := hideP (c1.out.ext hW0.drew_left)
  replace c2 := hideP (c2.out.ext hW0.drew_left)
  replace c3 := hideP (c3.out.ext hW0.drew_left)
  replace cb := hideP (below_ext cb.out hW0.drew_left)
  clear hW0
  have kc10 := c1.out.c0; have kc11 := c1.out.c1
  have kc20 := c2.out.c0; have kc21 := c2.out.c1
  have f0 := c3.out.fz 0
  have f1 := c3.out.fz 1
  have e0 := c3.out.c0
  have e1 := c3.out.c1
  go_wp2_with fail
  refine ret_box rfl rfl (c3.out.set2 _ _) rfl ⟨rfl, (cb.out.setCell (p := ⟨w.heap.size + 1 + 1, 0, none⟩) (by simp; omega) _).setCell (p := ⟨w.heap.size + 1 + 1, 1, none⟩) (by simp; omega) _⟩
theorem boxOk_right {b : BoxD} {d : Nat} (h : boxOk b d) : rightB b.1 b.2 b.1.length = !decide (b.1 = []) := by
  rcases h with h | ⟨h1, h2⟩
  · have hl := rightB_len h
    rw [hl.2.2.1, h]
    have : b.1 ≠ [] := fun e => by rw [e] at hl; simp at hl; omega
    simp [this]
  · rw [h1, h2]; decide
theorem hullLo_len (lo lo' : List Int) : (hullLo lo lo').length = lo.length := by simp [hullLo]
theorem hullHi_len (hi hi' : List Int) : (hullHi hi hi').length = hi.length := by simp [hullHi]
/-- the hull of two boxes of d numbers, one of them none or not -/
theorem hullg_any (a b : BoxD) (d : Nat) (ha : boxOk a d) (hb : boxOk b d) (L H L' H' : Option Addr) (dl sh dl' sh' : Nat) (w : World) (hL : Arr w w.heap.size L a.1.length (i64s a.1)) (hH : Arr w w.heap.size H a.2.length (i64s a.2))
    (hL' : Arr w w.heap.size L' b.1.length (i64s b.1)) (hH' : Arr w w.heap.size H' b.2.length (i64s b.2)) :
    Calls Try.prog 106 #[.agg #[.slice L a.1.length dl, .slice H a.2.length sh], .agg #[.slice L' b.1.length dl', .slice H' b.2.length sh']] w fun e w' => ∃ R s R' s', e = .returned (.agg #[.slice R (hullB a b).1.length s, .slice R' (hullB a b).2.length s']) ∧ Below w.heap.size w w' ∧ Own w' w.heap.size R s (hullB a b).1 ∧ Own w' w.heap.size R' s' (hullB a b).2 := by
  have r1 := boxOk_right ha
  have r2 := boxOk_right hb
  have l1 := boxOk_len ha
  have l2 := boxOk_len hb
  by_cases ea : a.1 = []
  · rw [show (!decide (a.1 = [])) = false by simp [ea]] at r1
    have hh : hullB a b = b := by unfold hullB; rw [if_pos ea]
    rw [hh]
    by_cases eb : b.1 = []
    · rw [show (!decide (b.1 = [])) = false by simp [eb]] at r2
      refine (hull_no L H L' H' a.1 a.2 b.1 b.2 dl sh dl' sh' w hL hH hL' hH' r1 r2 (by omega)).mono ?_
      rintro e w' ⟨rfl, hb_⟩
      have e2 : b.2 = [] := List.eq_nil_of_length_eq_zero (by rw [← l2.2.2, eb]; rfl)
      rw [eb, e2]
      exact ⟨none, 0, none, 0, rfl, hb_, World.ownsRow_nil _ _ _ _, World.ownsRow_nil _ _ _ _⟩
    · rw [show (!decide (b.1 = [])) = true by simp [eb]] at r2
      exact hull_right L H L' H' a.1 a.2 b.1 b.2 dl sh dl' sh' w hL hH hL' hH' r1 r2 (by omega)
  · rw [show (!decide (a.1 = [])) = true by simp [ea]] at r1
    by_cases eb : b.1 = []
    · rw [show (!decide (b.1 = [])) = false by simp [eb]] at r2
      have hh : hullB a b = a := by unfold hullB; rw [if_neg ea, if_pos eb]
      rw [hh]
      exact hull_left L H L' H' a.1 a.2 b.1 b.2 dl sh dl' sh' w hL hH hL' hH' r1 r2 (by omega)
    · rw [show (!decide (b.1 = [])) = true by simp [eb]] at r2
      have hh : hullB a b = (hullLo a.1 b.1, hullHi a.2 b.2) := by unfold hullB; rw [if_neg ea, if_neg eb]
      rw [hh]
      have hd : b.1.length = a.1.length := by
        rcases ha with h | ⟨h, _⟩
        · rcases hb with h' | ⟨h', _⟩
          · have := rightB_len h; have := rightB_len h'; omega
          · exact absurd h' eb
        · exact absurd h ea
      refine (hull_in L H L' H' a.1 a.2 b.1 b.2 dl sh dl' sh' w hL hH hL' hH' r1 r2 hd).mono ?_
      rintro e w' ⟨R, s, R', s', rfl, hb_, o1, o2, _⟩
      exact ⟨R, s, R', s', by dsimp only; rw [hullLo_len, hullHi_len, ← l1.2.2], hb_, o1, o2⟩
theorem hullB_ok {a b : BoxD} {d : Nat} (ha : boxOk a d) (hb : boxOk b d) : boxOk (hullB a b) d := by
  unfold hullB
  by_cases ea : a.1 = []
  · rw [if_pos ea]; exact hb
  · rw [if_neg ea]
    by_cases eb : b.1 = []
    · rw [if_pos eb]; exact ha
    · rw [if_neg eb]
      rcases ha with h | ⟨h, _⟩
      case inr => exact absurd h ea
      rcases hb with h' | ⟨h', _⟩
      case inr => exact absurd h' eb
      refine .inl ?_
      have l1 := rightB_len h
      have l2 := rightB_len h'
      unfold rightB
      have hle : leAll (hullLo a.1 b.1) (hullHi a.2 b.2) (hullLo a.1 b.1).length = true := by
        have h1 := l1.2.2.2.2
        unfold leAll at h1 ⊢
        rw [List.all_eq_true] at h1 ⊢
        intro i hi
        rw [List.mem_range, hullLo_len] at hi
        have h2 := h1 i (List.mem_range.2 hi)
        simp only [decide_eq_true_eq] at h2 ⊢
        have e1 : (hullLo a.1 b.1).getD i 0 = mn (a.1.getD i 0) (b.1.getD i 0) := by simp [hullLo, List.getD, List.getElem?_map, List.getElem?_range hi]
        have e2 : (hullHi a.2 b.2).getD i 0 = mx (a.2.getD i 0) (b.2.getD i 0) := by simp [hullHi, List.getD, List.getElem?_map, List.getElem?_range (show i < a.2.length by omega)]
        rw [e1, e2]
        unfold mn mx
        split <;> split <;> omega
      rw [hle, hullLo_len, hullHi_len]
      simp only [Bool.and_true, Bool.and_eq_true, decide_eq_true_eq]
      omega
theorem hullB_isI {a b : BoxD} (a1 : IsI a.1) (a2 : IsI a.2) (b1 : IsI b.1) (b2 : IsI b.2) : IsI (hullB a b).1 ∧ IsI (hullB a b).2 := by
  unfold hullB
  split
  · exact ⟨b1, b2⟩
  · split
    · exact ⟨a1, a2⟩
    · refine ⟨fun i => ?_, fun i => ?_⟩
      · by_cases hi : i < a.1.length
        · have e1 : (hullLo a.1 b.1).getD i 0 = mn (a.1.getD i 0) (b.1.getD i 0) := by simp [hullLo, List.getD, List.getElem?_map, List.getElem?_range hi]
          dsimp only
          rw [e1]; unfold mn; split
          · exact b1 i
          · exact a1 i
        · dsimp only; rw [getD_out _ _ _ (by rw [hullLo_len]; omega)]; omega
      · by_cases hi : i < a.2.length
        · have e1 : (hullHi a.2 b.2).getD i 0 = mx (a.2.getD i 0) (b.2.getD i 0) := by simp [hullHi, List.getD, List.getElem?_map, List.getElem?_range hi]
          dsimp only
          rw [e1]; unfold mx; split
          · exact b2 i
          · exact a2 i
        · dsimp only; rw [getD_out _ _ _ (by rw [hullHi_len]; omega)]; omega
end Go.Proofs.Ytgcbodpjidoanaa
