/- Contract of indentureref04's Hull. -/
import Derived.Test.YtgcbodpjidoanaaQ7
import Derived.Test.YtgcbodpjidoanaaQ9
import Derived.Test.YtgcbodpjidoanaaQ20
import Derived.Test.YtgcbodpjidoanaaQ23
import Derived.Test.YtgcbodpjidoanaaQ25
import Derived.Test.YtgcbodpjidoanaaQ44
set_option linter.unusedVariables false
set_option linter.unusedSimpArgs false
namespace Go.Proofs.Ytgcbodpjidoanaa
open Go.RowKit
theorem own_some {w : World} {base e n c : Nat} {A : Option Addr} {xs : List Value} (h : w.ownsRow base e 1 (.slice A (n + 1) c) (n + 1) xs) : ∃ g, A = some ⟨g, 0, none⟩ := by
  rcases h.2 with ⟨he, h0⟩ | ⟨r, cap, cur, hv, hb, _⟩
  · omega
  · injection hv with hA _ _
    exact ⟨r, hA⟩
theorem at_some {w : World} {v : Value} {g n c : Nat} (h : (Value.slice (some ⟨g, 0, none⟩) n c).ownBlock = v.ownBlock ∨ (Value.slice (some ⟨g, 0, none⟩) n c).ownBlock = some w.heap.size) : v.ownBlock = some g ∨ w.heap.size ≤ g := by
  rcases h with h | h
  · left; rw [← h]; rfl
  · right
    have : some g = some w.heap.size := h
    injection this with this
    omega
def hLo (lo lo' : List Int) (k : Nat) : List Int := (List.range k).map fun i => mn (lo.getD i 0) (lo'.getD i 0)
def hHi (hi hi' : List Int) (k : Nat) : List Int := (List.range k).map fun i => mx (hi.getD i 0) (hi'.getD i 0)
theorem hLo_len (lo lo' : List Int) (k : Nat) : (hLo lo lo' k).length = k := by simp [hLo]
theorem hHi_len (lo lo' : List Int) (k : Nat) : (hHi lo lo' k).length = k := by simp [hHi]
theorem hLo_succ (lo lo' : List Int) (k : Nat) : hLo lo lo' (k + 1) = hLo lo lo' k ++ [mn (lo.getD k 0) (lo'.getD k 0)] := by simp [hLo, List.range_succ]
theorem hHi_succ (lo lo' : List Int) (k : Nat) : hHi lo lo' (k + 1) = hHi lo lo' k ++ [mx (lo.getD k 0) (lo'.getD k 0)] := by simp [hHi, List.range_succ]
set_option maxRecDepth 100000 in
set_option maxHeartbeats 2000000 in
theorem rhull_left (L H L' H' : Option Addr) (lo hi lo' hi' : List Int) (dl sh dl' sh' : Nat) (w : World) (hL : Arr w w.heap.size L lo.length (i64s lo)) (hH : Arr w w.heap.size H hi.length (i64s hi))
    (hL' : Arr w w.heap.size L' lo'.length (i64s lo')) (hH' : Arr w w.heap.size H' hi'.length (i64s hi')) (hr : rightB lo hi lo.length = true) (hr' : rightB lo' hi' lo'.length = false) :
    Calls Try.prog 110 #[.agg #[.slice L lo.length dl, .slice H hi.length sh], .agg #[.slice L' lo'.length dl', .slice H' hi'.length sh']] w fun e w' => e = .returned (.agg #[.slice L lo.length dl, .slice H hi.length sh]) ∧ Below w.heap.size w w' := by
  have tM := fun W h h' => rbright_any L H lo hi dl sh lo.length W h h'
  have tM' := fun W h h' => rbright_any L' H' lo' hi' dl' sh' lo'.length W h h'
  rw [hr] at tM
  rw [hr'] at tM'
  obtain ⟨n, hn⟩ : ∃ n, n = lo.length := ⟨_, rfl⟩
  obtain ⟨m, hm⟩ : ∃ n, n = hi.length := ⟨_, rfl⟩
  obtain ⟨n', hn'⟩ : ∃ n, n = lo'.length := ⟨_, rfl⟩
  obtain ⟨m', hm'⟩ : ∃ n, n = hi'.length := ⟨_, rfl⟩
  rw [← hn] at hL tM ⊢
  rw [← hm] at hH tM ⊢
  rw [← hn'] at hL' tM' ⊢
  rw [← hm'] at hH' tM' ⊢
  clear hr hr' hn hm hn' hm'
  have HhL := hideP hL; have HhH := hideP hH; have HhL' := hideP hL'; have HhH' := hideP hH'; have HtM := hideP tM; have HtM' := hideP tM'; clear hL hH hL' hH' tM tM'
  go_enter Try.func110, Try.ntmps110
  go_upto_region 1 with fail
  obtain ⟨w1, hw1⟩ : ∃ w1, w1 = ((w.alloc (Obj.cells #[.slice L n dl, .slice H m sh] 41)).alloc (Obj.cells #[.slice L' n' dl', .slice H' m' sh'] 41)).alloc (Obj.cells #[.slice none 0 0, .slice none 0 0] 41) := ⟨_, rfl⟩
  have c1 := hideP (show Two w1 w.heap.size 41 (.slice L n dl) (.slice H m sh) by rw [hw1]; exact ((Two.new _ _ _ _).alloc _).alloc _)
  have c2 := hideP (show Two w1 (w.heap.size + 1) 41 (.slice L' n' dl') (.slice H' m' sh') by rw [hw1]; exact (Two.new' _ _ _ _ _ (by simp)).alloc _)
  have c3 := hideP (show Two w1 (w.heap.size + 1 + 1) 41 (.slice none 0 0) (.slice none 0 0) by rw [hw1]; exact Two.new' _ _ _ _ _ (by simp))
  have cb := hideP (show Below w.heap.size w w1 by rw [hw1]; exact ((below_new _ _).alloc (by simp) _).alloc (by simp; omega) _)
  rw [← hw1]
  clear hw1
  have kc10 := c1.out.c0; have kc11 := c1.out.c1
  have kc20 := c2.out.c0; have kc21 := c2.out.c1
  refine wp_region_eager 10 [(true, 0), (true, 1), (true, 2), (true, 3), (true, 4), (true, 5), (true, 6), (true, 7), (true, 8), (true, 9)] (by kernel_rfl) (by kernel_rfl) ?_
  simp only [pick, List.map_cons, List.map_nil, nthO_zero, nthO_succ]
  repeat (first
    | (refine wpPlan_skipK (by rfl) (fun K hK => ?_); go_simp; refine hK _ ?_; clear hK K)
    | (refine wpPlan_valK (by rfl) (fun K hK => ?_); apply Exists.intro; refine ⟨fun W hW => ?_, ?_⟩; (focus (have hs0 := hW.cell kc10; have hs1 := hW.cell kc11; have hs2 := hW.cell kc20; have hs3 := hW.cell kc21; go_simp; (try rfl); done)); go_simp; refine hK _ ?_; clear hK K)
    | (refine wpPlan_callK (.bool true) 59 #[.agg #[.slice L n dl, .slice H m sh], .int .i64 n] (by rfl) ?_ (fun W hW => (HtM.out W (HhL.out.after (below_ext cb.out hW.drew_left)) (HhH.out.after (below_ext cb.out hW.drew_left))).mono fun e w' h => ⟨h.1, Ext.of_below h.2⟩) (fun K hK => ?_); (focus (intro W; go_simp; done)); go_simp; refine hK _ ?_; clear hK K)
    | (refine wpPlan_callK (.bool false) 59 #[.agg #[.slice L' n' dl', .slice H' m' sh'], .int .i64 n'] (by rfl) ?_ (fun W hW => (HtM'.out W (HhL'.out.after (below_ext cb.out hW.drew_left)) (HhH'.out.after (below_ext cb.out hW.drew_left))).mono fun e w' h => ⟨h.1, Ext.of_below h.2⟩) (fun K hK => ?_); (focus (intro W; go_simp; done)); go_simp; refine hK _ ?_; clear hK K))
  refine wpPlan_nil (fun w2 hW0 => ?_)
  simp only [List.drop_succ_cons, List.drop_zero, List.drop_nil]
  clear kc10 kc11 kc20 kc21
  replace c1 := hideP (c1.out.ext hW0.drew_left)
  replace c2 := hideP (c2.out.ext hW0.drew_left)
  replace c3 := hideP (c3.out.ext hW0.drew_left)
  replace cb := hideP (below_ext cb.out hW0.drew_left)
  clear hW0
  have kc10 := c1.out.c0; have kc11 := c1.out.c1
  have kc20 := c2.out.c0; have kc21 := c2.out.c1
  have f0 := c3.out.fz 0
  have f1 := c3.out.fz 1
  have e0 := c3.out.c0
  have e1 := c3.out.c1
  go_wp2_with fail
  refine ret_box rfl rfl (c3.out.set2 _ _) rfl ⟨rfl, (cb.out.setCell (p := ⟨w.heap.size + 1 + 1, 0, none⟩) (by simp; omega) _).setCell (p := ⟨w.heap.size + 1 + 1, 1, none⟩) (by simp; omega) _⟩
set_option maxRecDepth 100000 in
set_option maxHeartbeats 2000000 in
theorem rhull_right (L H L' H' : Option Addr) (lo hi lo' hi' : List Int) (dl sh dl' sh' : Nat) (w : World) (hL : Arr w w.heap.size L lo.length (i64s lo)) (hH : Arr w w.heap.size H hi.length (i64s hi))
    (hL' : Arr w w.heap.size L' lo'.length (i64s lo')) (hH' : Arr w w.heap.size H' hi'.length (i64s hi')) (hr : rightB lo hi lo.length = false) (hr' : rightB lo' hi' lo'.length = true) :
    Calls Try.prog 110 #[.agg #[.slice L lo.length dl, .slice H hi.length sh], .agg #[.slice L' lo'.length dl', .slice H' hi'.length sh']] w fun e w' => e = .returned (.agg #[.slice L' lo'.length dl', .slice H' hi'.length sh']) ∧ Below w.heap.size w w' := by
  have tM := fun W h h' => rbright_any L H lo hi dl sh lo.length W h h'
  have tM' := fun W h h' => rbright_any L' H' lo' hi' dl' sh' lo'.length W h h'
  rw [hr] at tM
  rw [hr'] at tM'
  obtain ⟨n, hn⟩ : ∃ n, n = lo.length := ⟨_, rfl⟩
  obtain ⟨m, hm⟩ : ∃ n, n = hi.length := ⟨_, rfl⟩
  obtain ⟨n', hn'⟩ : ∃ n, n = lo'.length := ⟨_, rfl⟩
  obtain ⟨m', hm'⟩ : ∃ n, n = hi'.length := ⟨_, rfl⟩
  rw [← hn] at hL tM ⊢
  rw [← hm] at hH tM ⊢
  rw [← hn'] at hL' tM' ⊢
  rw [← hm'] at hH' tM' ⊢
  clear hr hr' hn hm hn' hm'
  have HhL := hideP hL; have HhH := hideP hH; have HhL' := hideP hL'; have HhH' := hideP hH'; have HtM := hideP tM; have HtM' := hideP tM'; clear hL hH hL' hH' tM tM'
  go_enter Try.func110, Try.ntmps110
  go_upto_region 1 with fail
  obtain ⟨w1, hw1⟩ : ∃ w1, w1 = ((w.alloc (Obj.cells #[.slice L n dl, .slice H m sh] 41)).alloc (Obj.cells #[.slice L' n' dl', .slice H' m' sh'] 41)).alloc (Obj.cells #[.slice none 0 0, .slice none 0 0] 41) := ⟨_, rfl⟩
  have c1 := hideP (show Two w1 w.heap.size 41 (.slice L n dl) (.slice H m sh) by rw [hw1]; exact ((Two.new _ _ _ _).alloc _).alloc _)
  have c2 := hideP (show Two w1 (w.heap.size + 1) 41 (.slice L' n' dl') (.slice H' m' sh') by rw [hw1]; exact (Two.new' _ _ _ _ _ (by simp)).alloc _)
  have c3 := hideP (show Two w1 (w.heap.size + 1 + 1) 41 (.slice none 0 0) (.slice none 0 0) by rw [hw1]; exact Two.new' _ _ _ _ _ (by simp))
  have cb := hideP (show Below w.heap.size w w1 by rw [hw1]; exact ((below_new _ _).alloc (by simp) _).alloc (by simp; omega) _)
  rw [← hw1]
  clear hw1
  have kc10 := c1.out.c0; have kc11 := c1.out.c1
  have kc20 := c2.out.c0; have kc21 := c2.out.c1
  refine wp_region_eager 10 [(true, 0), (true, 1), (true, 2), (true, 3), (true, 4), (true, 5), (true, 6), (true, 7), (true, 8), (true, 9)] (by kernel_rfl) (by kernel_rfl) ?_
  simp only [pick, List.map_cons, List.map_nil, nthO_zero, nthO_succ]
  repeat (first
    | (refine wpPlan_skipK (by rfl) (fun K hK => ?_); go_simp; refine hK _ ?_; clear hK K)
    | (refine wpPlan_valK (by rfl) (fun K hK => ?_); apply Exists.intro; refine ⟨fun W hW => ?_, ?_⟩; (focus (have hs0 := hW.cell kc10; have hs1 := hW.cell kc11; have hs2 := hW.cell kc20; have hs3 := hW.cell kc21; go_simp; (try rfl); done)); go_simp; refine hK _ ?_; clear hK K)
    | (refine wpPlan_callK (.bool false) 59 #[.agg #[.slice L n dl, .slice H m sh], .int .i64 n] (by rfl) ?_ (fun W hW => (HtM.out W (HhL.out.after (below_ext cb.out hW.drew_left)) (HhH.out.after (below_ext cb.out hW.drew_left))).mono fun e w' h => ⟨h.1, Ext.of_below h.2⟩) (fun K hK => ?_); (focus (intro W; go_simp; done)); go_simp; refine hK _ ?_; clear hK K)
    | (refine wpPlan_callK (.bool true) 59 #[.agg #[.slice L' n' dl', .slice H' m' sh'], .int .i64 n'] (by rfl) ?_ (fun W hW => (HtM'.out W (HhL'.out.after (below_ext cb.out hW.drew_left)) (HhH'.out.after (below_ext cb.out hW.drew_left))).mono fun e w' h => ⟨h.1, Ext.of_below h.2⟩) (fun K hK => ?_); (focus (intro W; go_simp; done)); go_simp; refine hK _ ?_; clear hK K))
  refine wpPlan_nil (fun w2 hW0 => ?_)
  simp only [List.drop_succ_cons, List.drop_zero, List.drop_nil]
  clear kc10 kc11 kc20 kc21
  replace c1 := hideP (c1.out.ext hW0.drew_left)
  replace c2 := hideP (c2.out.ext hW0.drew_left)
  replace c3 := hideP (c3.out.ext hW0.drew_left)
  replace cb := hideP (below_ext cb.out hW0.drew_left)
  clear hW0
  have kc10 := c1.out.c0; have kc11 := c1.out.c1
  have kc20 := c2.out.c0; have kc21 := c2.out.c1
  have f0 := c3.out.fz 0
  have f1 := c3.out.fz 1
  have e0 := c3.out.c0
  have e1 := c3.out.c1
  go_wp2_with fail
  refine ret_box rfl rfl (c3.out.set2 _ _) rfl ⟨rfl, (cb.out.setCell (p := ⟨w.heap.size + 1 + 1, 0, none⟩) (by simp; omega) _).setCell (p := ⟨w.heap.size + 1 + 1, 1, none⟩) (by simp; omega) _⟩
set_option maxRecDepth 100000 in
set_option maxHeartbeats 2000000 in
theorem rhull_no (L H L' H' : Option Addr) (lo hi lo' hi' : List Int) (dl sh dl' sh' : Nat) (w : World) (hL : Arr w w.heap.size L lo.length (i64s lo)) (hH : Arr w w.heap.size H hi.length (i64s hi))
    (hL' : Arr w w.heap.size L' lo'.length (i64s lo')) (hH' : Arr w w.heap.size H' hi'.length (i64s hi')) (hr : rightB lo hi lo.length = false) (hr' : rightB lo' hi' lo'.length = false) :
    Calls Try.prog 110 #[.agg #[.slice L lo.length dl, .slice H hi.length sh], .agg #[.slice L' lo'.length dl', .slice H' hi'.length sh']] w fun e w' => e = .returned (.agg #[.slice none 0 0, .slice none 0 0]) ∧ Below w.heap.size w w' := by
  have tM := fun W h h' => rbright_any L H lo hi dl sh lo.length W h h'
  have tM' := fun W h h' => rbright_any L' H' lo' hi' dl' sh' lo'.length W h h'
  rw [hr] at tM
  rw [hr'] at tM'
  obtain ⟨n, hn⟩ : ∃ n, n = lo.length := ⟨_, rfl⟩
  obtain ⟨m, hm⟩ : ∃ n, n = hi.length := ⟨_, rfl⟩
  obtain ⟨n', hn'⟩ : ∃ n, n = lo'.length := ⟨_, rfl⟩
  obtain ⟨m', hm'⟩ : ∃ n, n = hi'.length := ⟨_, rfl⟩
  rw [← hn] at hL tM ⊢
  rw [← hm] at hH tM ⊢
  rw [← hn'] at hL' tM' ⊢
  rw [← hm'] at hH' tM' ⊢
  clear hr hr' hn hm hn' hm'
  have HhL := hideP hL; have HhH := hideP hH; have HhL' := hideP hL'; have HhH' := hideP hH'; have HtM := hideP tM; have HtM' := hideP tM'; clear hL hH hL' hH' tM tM'
  go_enter Try.func110, Try.ntmps110
  go_upto_region 1 with fail
  obtain ⟨w1, hw1⟩ : ∃ w1, w1 = ((w.alloc (Obj.cells #[.slice L n dl, .slice H m sh] 41)).alloc (Obj.cells #[.slice L' n' dl', .slice H' m' sh'] 41)).alloc (Obj.cells #[.slice none 0 0, .slice none 0 0] 41) := ⟨_, rfl⟩
  have c1 := hideP (show Two w1 w.heap.size 41 (.slice L n dl) (.slice H m sh) by rw [hw1]; exact ((Two.new _ _ _ _).alloc _).alloc _)
  have c2 := hideP (show Two w1 (w.heap.size + 1) 41 (.slice L' n' dl') (.slice H' m' sh') by rw [hw1]; exact (Two.new' _ _ _ _ _ (by simp)).alloc _)
  have c3 := hideP (show Two w1 (w.heap.size + 1 + 1) 41 (.slice none 0 0) (.slice none 0 0) by rw [hw1]; exact Two.new' _ _ _ _ _ (by simp))
  have cb := hideP (show Below w.heap.size w w1 by rw [hw1]; exact ((below_new _ _).alloc (by simp) _).alloc (by simp; omega) _)
  rw [← hw1]
  clear hw1
  have kc10 := c1.out.c0; have kc11 := c1.out.c1
  have kc20 := c2.out.c0; have kc21 := c2.out.c1
  refine wp_region_eager 10 [(true, 0), (true, 1), (true, 2), (true, 3), (true, 4), (true, 5), (true, 6), (true, 7), (true, 8), (true, 9)] (by kernel_rfl) (by kernel_rfl) ?_
  simp only [pick, List.map_cons, List.map_nil, nthO_zero, nthO_succ]
  repeat (first
    | (refine wpPlan_skipK (by rfl) (fun K hK => ?_); go_simp; refine hK _ ?_; clear hK K)
    | (refine wpPlan_valK (by rfl) (fun K hK => ?_); apply Exists.intro; refine ⟨fun W hW => ?_, ?_⟩; (focus (have hs0 := hW.cell kc10; have hs1 := hW.cell kc11; have hs2 := hW.cell kc20; have hs3 := hW.cell kc21; go_simp; (try rfl); done)); go_simp; refine hK _ ?_; clear hK K)
    | (refine wpPlan_callK (.bool false) 59 #[.agg #[.slice L n dl, .slice H m sh], .int .i64 n] (by rfl) ?_ (fun W hW => (HtM.out W (HhL.out.after (below_ext cb.out hW.drew_left)) (HhH.out.after (below_ext cb.out hW.drew_left))).mono fun e w' h => ⟨h.1, Ext.of_below h.2⟩) (fun K hK => ?_); (focus (intro W; go_simp; done)); go_simp; refine hK _ ?_; clear hK K)
    | (refine wpPlan_callK (.bool false) 59 #[.agg #[.slice L' n' dl', .slice H' m' sh'], .int .i64 n'] (by rfl) ?_ (fun W hW => (HtM'.out W (HhL'.out.after (below_ext cb.out hW.drew_left)) (HhH'.out.after (below_ext cb.out hW.drew_left))).mono fun e w' h => ⟨h.1, Ext.of_below h.2⟩) (fun K hK => ?_); (focus (intro W; go_simp; done)); go_simp; refine hK _ ?_; clear hK K))
  refine wpPlan_nil (fun w2 hW0 => ?_)
  simp only [List.drop_succ_cons, List.drop_zero, List.drop_nil]
  clear kc10 kc11 kc20 kc21
  replace c1 := hideP (c1.out.ext hW0.drew_left)
  replace c2 := hideP (c2.out.ext hW0.drew_left)
  replace c3 := hideP (c3.out.ext hW0.drew_left)
  replace cb := hideP (below_ext cb.out hW0.drew_left)
  clear hW0
  have kc10 := c1.out.c0; have kc11 := c1.out.c1
  have kc20 := c2.out.c0; have kc21 := c2.out.c1
  have f0 := c3.out.fz 0
  have f1 := c3.out.fz 1
  have e0 := c3.out.c0
  have e1 := c3.out.c1
  go_wp2_with fail
  refine ret_box rfl rfl (c3.out.set2 _ _) rfl ⟨rfl, (cb.out.setCell (p := ⟨w.heap.size + 1 + 1, 0, none⟩) (by simp; omega) _).setCell (p := ⟨w.heap.size + 1 + 1, 1, none⟩) (by simp; omega) _⟩
set_option maxRecDepth 100000 in
set_option maxHeartbeats 4000000 in
theorem rhull_in (L H L' H' : Option Addr) (lo hi lo' hi' : List Int) (n dl sh dl' sh' : Nat) (w : World) (hL : Arr w w.heap.size L n (i64s lo)) (hH : Arr w w.heap.size H n (i64s hi))
    (hL' : Arr w w.heap.size L' n (i64s lo')) (hH' : Arr w w.heap.size H' n (i64s hi')) (e1 : lo.length = n) (e2 : hi.length = n) (e3 : lo'.length = n) (e4 : hi'.length = n) (hr : rightB lo hi n = true) (hr' : rightB lo' hi' n = true) :
    Calls Try.prog 110 #[.agg #[.slice L n dl, .slice H n sh], .agg #[.slice L' n dl', .slice H' n sh']] w fun e w' => ∃ R s R' s', e = .returned (.agg #[.slice R n s, .slice R' n s']) ∧ Below w.heap.size w w' ∧ Own w' w.heap.size R s (hLo lo lo' n) ∧ Own w' w.heap.size R' s' (hHi hi hi' n) := by
  obtain ⟨i0, hi0, hz0, hz1, hz2⟩ := info_parts info_i64
  have hf := rightB_len hr
  have tM := fun W h h' => rbright_any L H lo hi dl sh n W h h'
  have tM' := fun W h h' => rbright_any L' H' lo' hi' dl' sh' n W h h'
  rw [hr, e1, e2] at tM
  rw [hr', e3, e4] at tM'
  have h1 : 1 ≤ n := by omega
  have h8 : n ≤ 8 := by omega
  clear hf hr hr'
  have HhL := hideP hL; have HhH := hideP hH; have HhL' := hideP hL'; have HhH' := hideP hH'; have HtM := hideP tM; have HtM' := hideP tM'; have He1 := hideP e1; have He2 := hideP e2; have He3 := hideP e3; have He4 := hideP e4; clear hL hH hL' hH' tM tM' e1 e2 e3 e4
  go_enter Try.func110, Try.ntmps110
  go_upto_region 1 with fail
  obtain ⟨w1, hw1⟩ : ∃ w1, w1 = ((w.alloc (Obj.cells #[.slice L n dl, .slice H n sh] 41)).alloc (Obj.cells #[.slice L' n dl', .slice H' n sh'] 41)).alloc (Obj.cells #[.slice none 0 0, .slice none 0 0] 41) := ⟨_, rfl⟩
  have c1 := hideP (show Two w1 w.heap.size 41 (.slice L n dl) (.slice H n sh) by rw [hw1]; exact ((Two.new _ _ _ _).alloc _).alloc _)
  have c2 := hideP (show Two w1 (w.heap.size + 1) 41 (.slice L' n dl') (.slice H' n sh') by rw [hw1]; exact (Two.new' _ _ _ _ _ (by simp)).alloc _)
  have c3 := hideP (show Two w1 (w.heap.size + 1 + 1) 41 (.slice none 0 0) (.slice none 0 0) by rw [hw1]; exact Two.new' _ _ _ _ _ (by simp))
  have cb := hideP (show Below w.heap.size w w1 by rw [hw1]; exact ((below_new _ _).alloc (by simp) _).alloc (by simp; omega) _)
  rw [← hw1]
  clear hw1
  have kc10 := c1.out.c0; have kc11 := c1.out.c1
  have kc20 := c2.out.c0; have kc21 := c2.out.c1
  refine wp_region_eager 10 [(true, 0), (true, 1), (true, 2), (true, 3), (true, 4), (true, 5), (true, 6), (true, 7), (true, 8), (true, 9)] (by kernel_rfl) (by kernel_rfl) ?_
  simp only [pick, List.map_cons, List.map_nil, nthO_zero, nthO_succ]
  repeat (first
    | (refine wpPlan_skipK (by rfl) (fun K hK => ?_); go_simp; refine hK _ ?_; clear hK K)
    | (refine wpPlan_valK (by rfl) (fun K hK => ?_); apply Exists.intro; refine ⟨fun W hW => ?_, ?_⟩; (focus (have hs0 := hW.cell kc10; have hs1 := hW.cell kc11; have hs2 := hW.cell kc20; have hs3 := hW.cell kc21; go_simp; (try rfl); done)); go_simp; refine hK _ ?_; clear hK K)
    | (refine wpPlan_callK (.bool true) 59 #[.agg #[.slice L n dl, .slice H n sh], .int .i64 n] (by rfl) ?_ (fun W hW => (HtM.out W (HhL.out.after (below_ext cb.out hW.drew_left)) (HhH.out.after (below_ext cb.out hW.drew_left))).mono fun e w' h => ⟨h.1, Ext.of_below h.2⟩) (fun K hK => ?_); (focus (intro W; go_simp; done)); go_simp; refine hK _ ?_; clear hK K)
    | (refine wpPlan_callK (.bool true) 59 #[.agg #[.slice L' n dl', .slice H' n sh'], .int .i64 n] (by rfl) ?_ (fun W hW => (HtM'.out W (HhL'.out.after (below_ext cb.out hW.drew_left)) (HhH'.out.after (below_ext cb.out hW.drew_left))).mono fun e w' h => ⟨h.1, Ext.of_below h.2⟩) (fun K hK => ?_); (focus (intro W; go_simp; done)); go_simp; refine hK _ ?_; clear hK K))
  refine wpPlan_nil (fun w2 hW0 => ?_)
  simp only [List.drop_succ_cons, List.drop_zero, List.drop_nil]
  clear kc10 kc11 kc20 kc21
  replace c1 := hideP (c1.out.ext hW0.drew_left)
  replace c2 := hideP (c2.out.ext hW0.drew_left)
  replace c3 := hideP (c3.out.ext hW0.drew_left)
  replace cb := hideP (below_ext cb.out hW0.drew_left)
  clear hW0
  have kc10 := c1.out.c0; have kc11 := c1.out.c1
  have kc20 := c2.out.c0; have kc21 := c2.out.c1
  have lt3 := hideP c3.out.lt
  go_upto_region 9 with fail
  obtain ⟨w4, hw4⟩ : ∃ w4, w4 = w2.alloc (Obj.cells #[.slice none 0 0, .slice none 0 0] 41) := ⟨_, rfl⟩
  obtain ⟨g6, hg6⟩ : ∃ g, g = w2.heap.size := ⟨_, rfl⟩
  have hb4 : Below w2.heap.size w2 w4 := by rw [hw4]; exact below_new _ _
  have c4 := hideP (show Duo w4 (g6 + 1) g6 (hLo lo lo' 0) (hHi hi hi' 0) by rw [hw4, hg6]; exact Duo.nil (Two.new _ _ _ _) (by omega))
  have s4 := hideP (show g6 + 1 ≤ w4.heap.size by rw [hw4, hg6]; simp)
  have l6 := hideP (show w.heap.size + 1 + 1 < g6 by rw [hg6]; exact lt3.out)
  rw [← hw4, ← hg6]
  clear hw4 hg6 lt3
  clear kc10 kc11 kc20 kc21
  replace c1 := hideP (c1.out.after hb4)
  replace c2 := hideP (c2.out.after hb4)
  replace c3 := hideP (c3.out.after hb4)
  replace cb := hideP (bstep cb.out hb4)
  clear hb4
  go_wp2
  go_loopw [8] (fun v8 wr => ∃ k : Nat, k ≤ n ∧ v8 = .int .i64 k ∧ Hid (Duo wr (g6 + 1) g6 (hLo lo lo' k) (hHi hi hi' k) ∧ g6 + 1 ≤ wr.heap.size ∧ Two wr w.heap.size 41 (.slice L n dl) (.slice H n sh) ∧ Two wr (w.heap.size + 1) 41 (.slice L' n dl') (.slice H' n sh') ∧ Two wr (w.heap.size + 1 + 1) 41 (.slice none 0 0) (.slice none 0 0) ∧ Below w.heap.size w wr)) (fun v _ => n - (intOf v).toNat)
  case atStart => exact ⟨0, Nat.zero_le _, rfl, ⟨c4.out, s4.out, c1.out, c2.out, c3.out, cb.out⟩⟩
  case round =>
    obtain ⟨k, hkn, rfl, hI⟩ := hrel
    clear c1 c2 c3 c4 cb s4
    have cD := hideP hI.out.1
    have s4 := hideP hI.out.2.1
    have c1 := hideP hI.out.2.2.1
    have c2 := hideP hI.out.2.2.2.1
    have c3 := hideP hI.out.2.2.2.2.1
    have cb := hideP hI.out.2.2.2.2.2
    clear hI
    have kc10 := c1.out.c0; have kc11 := c1.out.c1
    have kc20 := c2.out.c0; have kc21 := c2.out.c1
    by_cases hlt : k < n
    · obtain ⟨x, hx⟩ : ∃ x, x = lo.getD k 0 := ⟨_, rfl⟩
      obtain ⟨y, hy⟩ : ∃ x, x = hi.getD k 0 := ⟨_, rfl⟩
      obtain ⟨x', hx'⟩ : ∃ x, x = lo'.getD k 0 := ⟨_, rfl⟩
      obtain ⟨y', hy'⟩ : ∃ x, x = hi'.getD k 0 := ⟨_, rfl⟩
      obtain ⟨ab, af, hAe, hAb, hAc⟩ := HhL.out (by omega)
      obtain ⟨bb, bf, hBe, hBb, hBc⟩ := HhH.out (by omega)
      obtain ⟨db, df, hDe, hDb, hDc⟩ := HhL'.out (by omega)
      obtain ⟨eb, ef, hEe, hEb, hEc⟩ := HhH'.out (by omega)
      have m1w : w.cell? ⟨ab, af + k, none⟩ = some (.int .i64 x) := by rw [hAc k hlt, hx]; rfl
      have m2w : w.cell? ⟨bb, bf + k, none⟩ = some (.int .i64 y) := by rw [hBc k hlt, hy]; rfl
      have m3w : w.cell? ⟨db, df + k, none⟩ = some (.int .i64 x') := by rw [hDc k hlt, hx']; rfl
      have m4w : w.cell? ⟨eb, ef + k, none⟩ = some (.int .i64 y') := by rw [hEc k hlt, hy']; rfl
      have m1 := (cb.out.cell (p := ⟨ab, af + k, none⟩) hAb).trans m1w
      have m3 := (cb.out.cell (p := ⟨db, df + k, none⟩) hDb).trans m3w
      have M2 := hideP (fun W (hW : Below w.heap.size w W) => (hW.cell (p := ⟨bb, bf + k, none⟩) hBb).trans m2w)
      have M4 := hideP (fun W (hW : Below w.heap.size w W) => (hW.cell (p := ⟨eb, ef + k, none⟩) hEb).trans m4w)
      clear m1w m2w m3w m4w
      have hst := hideP (show hLo lo lo' (k + 1) = hLo lo lo' k ++ [mn x x'] by rw [hLo_succ, hx, hx'])
      have hst' := hideP (show hHi hi hi' (k + 1) = hHi hi hi' k ++ [mx y y'] by rw [hHi_succ, hy, hy'])
      have sL := hideP hAe; have sH := hideP hBe; have sL' := hideP hDe; have sH' := hideP hEe
      subst hAe hBe hDe hEe
      obtain ⟨a, ha⟩ : ∃ m, m = mn x x' := ⟨_, rfl⟩
      obtain ⟨b, hb⟩ : ∃ m, m = mx y y' := ⟨_, rfl⟩
      have tm : (if x' < x then x' else x) = a := ha.symm
      have tm' : (if y < y' then y' else y) = b := hb.symm
      rw [← ha] at hst
      rw [← hb] at hst'
      clear hAc hBc hDc hEc hx hy hx' hy' hAb hBb hDb hEb sL sH sL' sH' ha hb
      have j0 : (0 : Int) ≤ (k : Int) := by omega
      have j1 : (k : Int) < (n : Int) := by omega
      obtain ⟨R, s, R', s', hDD⟩ := cD.out
      have hD := hideP hDD
      have t4 := hideP hD.out.1
      have o4 := hideP hD.out.2.1
      have cl := hLo_len lo lo' k
      have ch := hHi_len hi hi' k
      rw [cl] at t4
      rw [ch] at t4
      have HCL := hideP cl
      have HCH := hideP ch
      clear cD hDD cl ch
      have kt40 := t4.out.c0; have kt41 := t4.out.c1
      go_upto_region 12 with fail
      have n1 := c1.out
      refine wp_region_eager 14 [(true, 0), (true, 1), (true, 2), (true, 3), (true, 4), (true, 5), (true, 6), (true, 7), (true, 8), (true, 9), (true, 10), (true, 11), (true, 12), (false, 13)] (by kernel_rfl) (by kernel_rfl) ?_
      simp only [pick, List.map_cons, List.map_nil, nthO_zero, nthO_succ]
      iterate 13 (refine wpPlan_valK (by rfl) (fun K hK => ?_); apply Exists.intro; refine ⟨fun W hW => ?_, ?_⟩; (focus (have hs1 := hW.cell kc10; have hs2 := hW.cell kc20; have hs3 := hW.cell kt40; have hs4 := hW.cell m1; have hs5 := hW.cell m3; go_simp; (try rfl); done)); go_simp; refine hK _ ?_; clear hK K)
      refine wpPlan_buildK (by rfl) (fun W hW2 => ?_)
      refine ⟨.slice (some ⟨W.heap.size, 0, none⟩) 1 1, W.alloc (.cells #[.int .i64 (a)] 2), ⟨by go_simp, Ext.alloc _ _⟩, fun K hK => ?_⟩
      go_simp
      refine hK _ ?_
      clear hK K
      refine wpPlan_nil (fun W9 hW3 => ?_)
      simp only [List.drop_succ_cons, List.drop_zero, List.drop_nil]
      have hX : Ext wr W9 := (hW2.drew_left.trans (Ext.alloc _ _)).trans hW3
      have AX : Arr W9 (W9).heap.size (some ⟨W.heap.size, 0, none⟩) 1 (fun _ => .int .i64 (a)) := by
        refine Arr.ext (w := W.alloc (.cells #[.int .i64 (a)] 2)) (fun _ => ⟨W.heap.size, 0, rfl, by simp, fun i hi => ?_⟩) hW3
        obtain rfl : i = 0 := by omega
        exact (One.new W _ _).c0
      have HX := hideP hX; have HAX := hideP AX
      clear hW2 hW3 hX AX n1
      have hD9 := hideP (show DuoAt W9 (g6 + 1) g6 R s R' s' (hLo lo lo' k) (hHi hi hi' k) from ⟨hD.out.1.ext HX.out, hD.out.2.1.ext HX.out, hD.out.2.2.1.ext HX.out, hD.out.2.2.2.1, hD.out.2.2.2.2⟩)
      have t9 := hideP (t4.out.ext HX.out)
      have hr4 := hideP (show W9.ownsRow (g6 + 1) 2 1 (.slice R k s) k ((hLo lo lo' k).map (Value.int .i64)) by have := hD9.out.2.1; unfold Own at this; rw [HCL.out] at this; exact this)
      have s9 := hideP (Nat.le_trans s4.out HX.out.size)
      clear kt40 kt41 kc10 kc11 kc20 kc21
      clear m1 m3
      have kt90 := t9.out.c0; have kt91 := t9.out.c1
      have z0 := t9.out.fz 0
      go_upto_region 13 with (at_builtin; refine wpList_append_arr W9 rfl (.tmp 51) (.tmp 63) 39 rfl (g6 + 1) 2 i0 _ 8 Try.underlying39 hi0 hz0 hz1 hz2 rfl (.slice R k s) k _ rfl hr4.out W9.heap.size (some ⟨W.heap.size, 0, none⟩) 1 1 (fun _ => .int .i64 a) rfl HAX.out (fun _ => rfl) (by unfold maxLen; omega) (by omega) s9.out ?_; intro A3_ c3' w3' hown3 hg3 hat3; obtain ⟨g3, rfl⟩ := own_some hown3; have A1 := hideP hown3; have A2 := hideP hg3; have A3 := hideP (at_some hat3); clear hown3 hg3 hat3; have E3 := hideP (below_own hr4.out A2.out (Nat.le_refl _) s9.out); have ec := (t9.out.below E3.out (by omega)).c0; have z3 := (t9.out.below E3.out (by omega)).fz 0)
      have D5 := hideP (hD9.out.push0 s9.out HCL.out.symm A1.out A2.out A3.out)
      rw [← hst.out] at D5
      clear kt90 kt91 z0 ec z3
      have b5 := hideP (show Below g6 wr (w3'.setCell ⟨g6, 0, none⟩ (.slice (some ⟨g3, 0, none⟩) (k + 1) c3')) from (HX.out.below.mono (by have := s4.out; omega)).trans ((E3.out.mono (Nat.le_succ _)).setCell (p := ⟨g6, 0, none⟩) (Nat.le_refl _) _))
      obtain ⟨W5, hW5⟩ : ∃ W, W = w3'.setCell ⟨g6, 0, none⟩ (.slice (some ⟨g3, 0, none⟩) (k + 1) c3') := ⟨_, rfl⟩
      rw [← hW5] at D5 b5 ⊢
      clear hW5 hD hD9 t4 t9 o4 HCL HCH hr4 A1 A2 A3 E3 HX HAX s9
      replace c1 := hideP (c1.out.below b5.out (by have := l6.out; omega))
      replace c2 := hideP (c2.out.below b5.out (by have := l6.out; omega))
      replace c3 := hideP (c3.out.below b5.out (by have := l6.out; omega))
      replace cb := hideP (cb.out.trans (b5.out.mono (by have := l6.out; omega)))
      replace s4 := hideP (Nat.le_trans s4.out b5.out.size)
      clear b5 hst
      obtain ⟨R, s, R', s', hDD⟩ := D5.out
      have hD := hideP hDD
      have t4 := hideP hD.out.1
      have cl := hLo_len lo lo' (k + 1)
      have ch := hHi_len hi hi' k
      rw [cl] at t4
      rw [ch] at t4
      have HCL := hideP cl
      have HCH := hideP ch
      clear hDD cl ch D5
      have kc10 := c1.out.c0; have kc11 := c1.out.c1
      have kc20 := c2.out.c0; have kc21 := c2.out.c1
      have kt40 := t4.out.c0; have kt41 := t4.out.c1
      have m2 := M2.out W5 cb.out
      have m4 := M4.out W5 cb.out
      clear M2 M4
      go_wp2_with fail
      have n1 := c1.out
      refine wp_region_eager 14 [(true, 0), (true, 1), (true, 2), (true, 3), (true, 4), (true, 5), (true, 6), (true, 7), (true, 8), (true, 9), (true, 10), (true, 11), (true, 12), (false, 13)] (by kernel_rfl) (by kernel_rfl) ?_
      simp only [pick, List.map_cons, List.map_nil, nthO_zero, nthO_succ]
      iterate 13 (refine wpPlan_valK (by rfl) (fun K hK => ?_); apply Exists.intro; refine ⟨fun W hW => ?_, ?_⟩; (focus (have hs1 := hW.cell kc11; have hs2 := hW.cell kc21; have hs3 := hW.cell kt41; have hs4 := hW.cell m2; have hs5 := hW.cell m4; go_simp; (try rfl); done)); go_simp; refine hK _ ?_; clear hK K)
      refine wpPlan_buildK (by rfl) (fun W hW2 => ?_)
      refine ⟨.slice (some ⟨W.heap.size, 0, none⟩) 1 1, W.alloc (.cells #[.int .i64 (b)] 2), ⟨by go_simp, Ext.alloc _ _⟩, fun K hK => ?_⟩
      go_simp
      refine hK _ ?_
      clear hK K
      refine wpPlan_nil (fun W6 hW3 => ?_)
      simp only [List.drop_succ_cons, List.drop_zero, List.drop_nil]
      have hX : Ext W5 W6 := (hW2.drew_left.trans (Ext.alloc _ _)).trans hW3
      have AX : Arr W6 (W6).heap.size (some ⟨W.heap.size, 0, none⟩) 1 (fun _ => .int .i64 (b)) := by
        refine Arr.ext (w := W.alloc (.cells #[.int .i64 (b)] 2)) (fun _ => ⟨W.heap.size, 0, rfl, by simp, fun i hi => ?_⟩) hW3
        obtain rfl : i = 0 := by omega
        exact (One.new W _ _).c0
      have HX := hideP hX; have HAX := hideP AX
      clear hW2 hW3 hX AX n1
      have hD9 := hideP (show DuoAt W6 (g6 + 1) g6 R s R' s' (hLo lo lo' (k + 1)) (hHi hi hi' k) from ⟨hD.out.1.ext HX.out, hD.out.2.1.ext HX.out, hD.out.2.2.1.ext HX.out, hD.out.2.2.2.1, hD.out.2.2.2.2⟩)
      have t9 := hideP (t4.out.ext HX.out)
      have hr4 := hideP (show W6.ownsRow (g6 + 1) 2 1 (.slice R' k s') k ((hHi hi hi' k).map (Value.int .i64)) by have := hD9.out.2.2.1; unfold Own at this; rw [HCH.out] at this; exact this)
      have s9 := hideP (Nat.le_trans s4.out HX.out.size)
      clear kt40 kt41 kc10 kc11 kc20 kc21
      clear m2 m4
      have kt90 := t9.out.c0; have kt91 := t9.out.c1
      have z0 := t9.out.fz 1
      go_wp2_with (at_builtin; refine wpList_append_arr W6 rfl (.tmp 67) (.tmp 79) 39 rfl (g6 + 1) 2 i0 _ 8 Try.underlying39 hi0 hz0 hz1 hz2 rfl (.slice R' k s') k _ rfl hr4.out W6.heap.size (some ⟨W.heap.size, 0, none⟩) 1 1 (fun _ => .int .i64 b) rfl HAX.out (fun _ => rfl) (by unfold maxLen; omega) (by omega) s9.out ?_; intro A3_ c3' w3' hown3 hg3 hat3; obtain ⟨g3, rfl⟩ := own_some hown3; have A1 := hideP hown3; have A2 := hideP hg3; have A3 := hideP (at_some hat3); clear hown3 hg3 hat3; have E3 := hideP (below_own hr4.out A2.out (Nat.le_refl _) s9.out); have ec := (t9.out.below E3.out (by omega)).c1; have z3 := (t9.out.below E3.out (by omega)).fz 1)
      have D5 := hideP (hD9.out.push1 s9.out HCH.out.symm A1.out A2.out A3.out)
      rw [← hst'.out] at D5
      clear kt90 kt91 z0 ec z3
      have b5 := hideP (show Below g6 W5 (w3'.setCell ⟨g6, 1, none⟩ (.slice (some ⟨g3, 0, none⟩) (k + 1) c3')) from (HX.out.below.mono (by have := s4.out; omega)).trans ((E3.out.mono (Nat.le_succ _)).setCell (p := ⟨g6, 1, none⟩) (Nat.le_refl _) _))
      go_roundw
      case rel =>
        exact ⟨k + 1, by omega, by go_num, ⟨D5.out, Nat.le_trans s4.out b5.out.size, c1.out.below b5.out (by have := l6.out; omega), c2.out.below b5.out (by have := l6.out; omega), c3.out.below b5.out (by have := l6.out; omega), cb.out.trans (b5.out.mono (by have := l6.out; omega))⟩⟩
      case measure => simp [intOf]; omega
    · obtain rfl : k = n := by omega
      have i1 : ¬ ((k : Int) < (k : Int)) := by omega
      obtain ⟨R, s, R', s', hDD⟩ := cD.out
      have hD := hideP hDD
      have t4 := hideP hD.out.1
      have cl := hLo_len lo lo' k
      have ch := hHi_len hi hi' k
      rw [cl] at t4
      rw [ch] at t4
      have z0 := c3.out.fz 0
      have z1 := c3.out.fz 1
      clear hDD cl ch
      have kt40 := t4.out.c0; have kt41 := t4.out.c1
      have kc30 := c3.out.c0; have kc31 := c3.out.c1
      go_wp2_with fail
      refine ret_box rfl rfl (c3.out.set2 _ _) rfl ?_
      have hcs := cb.out.size
      have hl6 := l6.out
      exact ⟨R, s, R', s', rfl, (cb.out.setCell (p := ⟨w.heap.size + 1 + 1, 0, none⟩) (by simp; omega) _).setCell (p := ⟨w.heap.size + 1 + 1, 1, none⟩) (by simp; omega) _, own_mono (own_setCell (own_setCell hD.out.2.1 (by simp; omega) _) (by simp; omega) _) (by omega), own_mono (own_setCell (own_setCell hD.out.2.2.1 (by simp; omega) _) (by simp; omega) _) (by omega)⟩
/-- whatever the rows lie apart from, the hull's lie apart from too -/
theorem rhullg_any (a b : BoxD) (d : Nat) (ha : boxOk a d) (hb : boxOk b d) (S : Nat → Prop) (L H L' H' : Option Addr) (dl sh dl' sh' : Nat) (w : World) (hL : ArrN S w L a.1.length (i64s a.1)) (hH : ArrN S w H a.2.length (i64s a.2))
    (hL' : ArrN S w L' b.1.length (i64s b.1)) (hH' : ArrN S w H' b.2.length (i64s b.2)) :
    Calls Try.prog 110 #[.agg #[.slice L a.1.length dl, .slice H a.2.length sh], .agg #[.slice L' b.1.length dl', .slice H' b.2.length sh']] w fun e w' => ∃ R s R' s', e = .returned (.agg #[.slice R (hullB a b).1.length s, .slice R' (hullB a b).2.length s']) ∧ Below w.heap.size w w' ∧ ArrN (fun k => S k ∧ k < w.heap.size) w' R (hullB a b).1.length (i64s (hullB a b).1) ∧ ArrN (fun k => S k ∧ k < w.heap.size) w' R' (hullB a b).2.length (i64s (hullB a b).2) := by
  have r1 := boxOk_right ha
  have r2 := boxOk_right hb
  have l1 := boxOk_len ha
  have l2 := boxOk_len hb
  have mvN : ∀ {w'} {A : Option Addr} {n : Nat} {f : Nat → Value}, ArrN S w A n f → Below w.heap.size w w' → ArrN (fun k => S k ∧ k < w.heap.size) w' A n f := fun h hb => h.to (S := S) (But.of_below hb) fun k hk hn hs => hn hs.1
  by_cases ea : a.1 = []
  · rw [show (!decide (a.1 = [])) = false by simp [ea]] at r1
    have hh : hullB a b = b := by unfold hullB; rw [if_pos ea]
    rw [hh]
    by_cases eb : b.1 = []
    · rw [show (!decide (b.1 = [])) = false by simp [eb]] at r2
      refine (rhull_no L H L' H' a.1 a.2 b.1 b.2 dl sh dl' sh' w hL.arr hH.arr hL'.arr hH'.arr r1 r2).mono ?_
      rintro e w' ⟨rfl, hb_⟩
      have e2 : b.2 = [] := List.eq_nil_of_length_eq_zero (by rw [← l2.2.2, eb]; rfl)
      rw [eb, e2]
      exact ⟨none, 0, none, 0, rfl, hb_, fun h => absurd h (by simp), fun h => absurd h (by simp)⟩
    · rw [show (!decide (b.1 = [])) = true by simp [eb]] at r2
      refine (rhull_right L H L' H' a.1 a.2 b.1 b.2 dl sh dl' sh' w hL.arr hH.arr hL'.arr hH'.arr r1 r2).mono ?_
      rintro e w' ⟨rfl, hb_⟩
      exact ⟨_, _, _, _, rfl, hb_, mvN hL' hb_, mvN hH' hb_⟩
  · rw [show (!decide (a.1 = [])) = true by simp [ea]] at r1
    by_cases eb : b.1 = []
    · rw [show (!decide (b.1 = [])) = false by simp [eb]] at r2
      have hh : hullB a b = a := by unfold hullB; rw [if_neg ea, if_pos eb]
      rw [hh]
      refine (rhull_left L H L' H' a.1 a.2 b.1 b.2 dl sh dl' sh' w hL.arr hH.arr hL'.arr hH'.arr r1 r2).mono ?_
      rintro e w' ⟨rfl, hb_⟩
      exact ⟨_, _, _, _, rfl, hb_, mvN hL hb_, mvN hH hb_⟩
    · rw [show (!decide (b.1 = [])) = true by simp [eb]] at r2
      have hd : b.1.length = a.1.length := by
        rcases ha with h | ⟨h, _⟩
        · rcases hb with h' | ⟨h', _⟩
          · have := rightB_len h; have := rightB_len h'; omega
          · exact absurd h' eb
        · exact absurd h ea
      have hh : hullB a b = (hLo a.1 b.1 a.1.length, hHi a.2 b.2 a.1.length) := by
        unfold hullB; rw [if_neg ea, if_neg eb, l1.2.2]; unfold hullLo hullHi hLo hHi; rw [← l1.2.2]
      rw [hh]
      have e2 : a.2.length = a.1.length := l1.2.2.symm
      have e4 : b.2.length = a.1.length := by rw [← l2.2.2, hd]
      have := rhull_in L H L' H' a.1 a.2 b.1 b.2 a.1.length dl sh dl' sh' w hL.arr (by have := hH.arr; rwa [e2] at this) (by have := hL'.arr; rwa [hd] at this) (by have := hH'.arr; rwa [e4] at this) rfl e2 hd e4 r1 (by rw [← hd]; exact r2)
      rw [e2, hd, e4]
      refine this.mono ?_
      rintro e w' ⟨R, s, R', s', rfl, hb_, o1, o2⟩
      exact ⟨R, s, R', s', by dsimp only; rw [hLo_len, hHi_len], hb_, OwnI.arrN o1 (fun k hk => hk.2), OwnI.arrN o2 (fun k hk => hk.2)⟩
end Go.Proofs.Ytgcbodpjidoanaa
