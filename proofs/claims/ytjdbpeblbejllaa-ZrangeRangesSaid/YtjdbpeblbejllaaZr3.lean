/- Contracts of zrange's of and Split. -/
import Derived.Test.YtjdbpeblbejllaaZr2
import Derived.Test.YtjdbpeblbejllaaBox5
set_option linter.unusedVariables false
set_option linter.unusedSimpArgs false
namespace Go.Proofs.Ytjdbpeblbejllaa
open Go.RowKit
/-- the end of a function whose one result is a pair of corners in a variable -/
theorem ret_cor {fn : Func} {p : Tmp} {a : Act} {w : World} {R : Ending → World → Prop} (h : fn.results = #[.cell p 91]) {g : Nat} {x y : Value}
    (hp : a.tmps.getD p undef = .pointer (some ⟨g, 0, none⟩)) (hg : w.heap[g]? = some (.cells #[x, y] 91 (0, 0))) (hd : a.defers = []) (hR : R (.returned (.agg #[x, y])) w) : bodyPost Try.prog fn R .ret a w :=
  bodyPost_ret (results_cell_row h _ w g 91 #[x, y] (0, 0) _ hp hg Try.underlying91 rfl (by kernel_rfl)) hd hR
set_option maxRecDepth 100000 in
set_option maxHeartbeats 1000000 in
theorem of_any (L H : Option Addr) (lo hi : List Int) (dl sh : Nat) (w : World) (hL : Arr w w.heap.size L lo.length (i64s lo)) (hH : Arr w w.heap.size H hi.length (i64s hi)) (hn : lo.length ≤ 17592186043904) (hm : hi.length ≤ 17592186043904) :
    Calls Try.prog 54 #[.agg #[.slice L lo.length dl, .slice H hi.length sh]] w fun e w' => ∃ R s R' s', e = .returned (.agg #[.slice R lo.length s, .slice R' hi.length s']) ∧ Below w.heap.size w w' ∧ Own w' w.heap.size R s lo ∧ Own w' w.heap.size R' s' hi ∧ Sep (.slice R lo.length s) (.slice R' hi.length s') := by
  have t1 := fun W h => clone_any L lo dl W h hn
  have t2 := fun W h => clone_any H hi sh W h hm
  obtain ⟨n, hn'⟩ : ∃ n, n = lo.length := ⟨_, rfl⟩
  obtain ⟨m, hm'⟩ : ∃ n, n = hi.length := ⟨_, rfl⟩
  have HN := hideP hn'; have HM := hideP hm'
  rw [← hn'] at hn hL t1 ⊢
  rw [← hm'] at hm hH t2 ⊢
  clear hn' hm'
  have HhL := hideP hL; have HhH := hideP hH; have Ht1 := hideP t1; have Ht2 := hideP t2; clear hL hH t1 t2
  go_enter Try.func54, Try.ntmps54
  go_wp2
  obtain ⟨w1, hw1⟩ : ∃ w1, w1 = (w.alloc (Obj.cells #[.slice L n dl, .slice H m sh] 58)).alloc (Obj.cells #[.slice none 0 0, .slice none 0 0] 91) := ⟨_, rfl⟩
  have c1 := hideP (show Two w1 w.heap.size 58 (.slice L n dl) (.slice H m sh) by rw [hw1]; exact (Two.new _ _ _ _).alloc _)
  have c2 := hideP (show Two w1 (w.heap.size + 1) 91 (.slice none 0 0) (.slice none 0 0) by rw [hw1]; exact Two.new' _ _ _ _ _ (by simp))
  have cb := hideP (show Below w.heap.size w w1 by rw [hw1]; exact (below_new _ _).alloc (by simp) _)
  rw [← hw1]
  clear hw1
  have kc10 := c1.out.c0; have kc11 := c1.out.c1
  refine wp_region_fork 7 (.q 0 (.q 1 (.q 3 (.q 4 (.l 2 (.l 5 (.q 6 .nil))))))) (by kernel_rfl) (by kernel_rfl) ?_
  simp only [pickT, nthO_zero, nthO_succ]
  iterate 4 (refine wpT_valK (by rfl) (fun K hK => ?_); apply Exists.intro; refine ⟨fun W hW => ?_, ?_⟩; (focus (have hs0 := hW.cell kc10; have hs1 := hW.cell kc11; go_simp; (try rfl); done)); go_simp; refine hK _ ?_; clear hK K)
  refine wpT_loudK 70 #[.slice L n dl] (by rfl) (fun W => by go_simp) (fun W hW => (Ht1.out W (HhL.out.after (below_ext cb.out hW.drew_left))).mono ?_)
  rintro e w2 ⟨R, s, rfl, hb, hown⟩
  refine ⟨_, rfl, Ext.of_below hb, fun K hK => ?_⟩
  go_simp
  refine hK _ ?_
  clear hK K
  have c3 := hideP ((c2.out.ext hW.drew_left).after hb)
  have cb2 := hideP (bstep (below_ext cb.out hW.drew_left) hb)
  have o1 := hideP hown
  have s1 := hideP (c2.out.ext hW.drew_left).lt
  clear hb hown hW c1 c2 cb kc10 kc11 w1
  refine wpT_loudK 70 #[.slice H m sh] (by rfl) (fun W => by go_simp) (fun W2 hW => (Ht2.out W2 (HhH.out.after (below_ext cb2.out hW))).mono ?_)
  rintro e w3 ⟨R', s', rfl, hb, hown⟩
  refine ⟨_, rfl, Ext.of_below hb, fun K hK => ?_⟩
  go_simp
  refine hK _ ?_
  clear hK K
  have o2 := hideP hown
  have s2 := hideP (c3.out.ext hW).lt
  replace c3 := hideP ((c3.out.ext hW).after hb)
  replace cb2 := hideP (bstep (below_ext cb2.out hW) hb)
  have o1' := hideP (o1.out.ext hW)
  have sp := hideP (sep_fresh o1'.out o2.out)
  replace o1 := hideP (o1'.out.ext (Ext.of_below hb))
  clear hb hown hW o1'
  refine wpT_valK (by rfl) (fun K hK => ?_); apply Exists.intro; refine ⟨fun W hW => ?_, ?_⟩; (focus (go_simp; (try rfl); done)); go_simp; refine hK _ ?_; clear hK K
  refine wpT_nil (fun W3 hW => ?_)
  simp only [List.drop_succ_cons, List.drop_zero, List.drop_nil]
  replace o1 := hideP (o1.out.ext hW)
  replace o2 := hideP (o2.out.ext hW)
  replace c3 := hideP (c3.out.ext hW)
  replace cb2 := hideP (below_ext cb2.out hW)
  clear hW
  have f0 := c3.out.fz 0
  have f1 := c3.out.fz 1
  have kc30 := c3.out.c0; have kc31 := c3.out.c1
  go_wp2
  refine ret_cor rfl rfl (c3.out.set2 _ _) rfl ?_
  have h1 := s1.out
  have h2 := s2.out
  refine ⟨R, s, R', s', rfl, (cb2.out.setCell (p := ⟨w.heap.size + 1, 0, none⟩) (by simp) _).setCell (p := ⟨w.heap.size + 1, 1, none⟩) (by simp) _, ?_, ?_, ?_⟩
  · exact (own_setCell (own_setCell o1.out (by simp; omega) _) (by simp; omega) _).mono (by omega)
  · exact (own_setCell (own_setCell o2.out (by simp; omega) _) (by simp; omega) _).mono (by omega)
  · rw [HN.out, HM.out]; exact sp.out.symm
end Go.Proofs.Ytjdbpeblbejllaa
