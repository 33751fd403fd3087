/- Contract of zrange's Split (printed by wip/gen/zsplit.py). -/
import Derived.Test.YtjdbpeblbejllaaZr3
set_option linter.unusedVariables false
set_option linter.unusedSimpArgs false
namespace Go.Proofs.Ytjdbpeblbejllaa
open Go.RowKit
theorem size_cor : (Try.prog.info? 91).map (·.size) = some 2 := by kernel_rfl
theorem wpList_store_two {ops : Array Oper} {rest : List Oper} {o : Oper} {a : Act} {w : World} {Q : Exit → Act → World → Prop} (hgd : o.guard = none) (ty : TypeId) (x y : Operand) (ho : o.op = .store ty x y) (g : Nat) (v1 v2 : Value) (t : TypeId) (x0 y0 : Value)
    (hx : a.eval x = .pointer (some ⟨g, 0, none⟩)) (hy : a.eval y = .agg #[v1, v2]) (hg : Two w g t x0 y0) (hi : (Try.prog.info? ty).map (·.size) = some 2) (h1 : v1.oneCell' = true) (h2 : v2.oneCell' = true)
    (h : wpList Try.prog ops Q rest (a.put o.dst undef) ((w.setCell ⟨g, 0, none⟩ v1).setCell ⟨g, 1, none⟩ v2)) : wpList Try.prog ops Q (o :: rest) a w := by
  obtain ⟨i0, hi0, hz1⟩ := Option.map_eq_some_iff.1 hi
  have hst : (storeVar ty ⟨g, 0, none⟩ (.agg #[v1, v2])).run Try.prog w = .ok () ((w.setCell ⟨g, 0, none⟩ v1).setCell ⟨g, 1, none⟩ v2) := by
    have := run_storeCells_cells (P := Try.prog) g 0 [v1, v2] 0 w (fun j hj => by
      have hj2 : j < 2 := by simpa using hj
      rcases (show j = 0 ∨ j = 1 by omega) with rfl | rfl
      · simp [hg.c0]
      · simp [hg.c1]) (fun j hj => by simpa using hg.fz _) (fun v hv => by
      have : v = v1 ∨ v = v2 := by simpa using hv
      rcases this with rfl | rfl
      · exact h1
      · exact h2)
    simp only [Nat.add_zero, Nat.zero_add] at this
    simp [storeVar, sizeOf, typeInfo, hi0, hz1, Value.cells, this, World.setCells]
  refine wpList_plain hgd fun K hK => ?_
  unfold Oper.wp execOp
  simp only [ho, hx, hy, Instr.storeAt, Instr.sureAddr, Sem.run_bind, Sem.run_pure, Result.andThen_ok, hst]
  exact hK _ _ h
theorem exec_store_two {o : Oper} {a : Act} {w : World} (ty : TypeId) (x y : Operand) (ho : o.op = .store ty x y) (g : Nat) (v1 v2 : Value) (t : TypeId) (x0 y0 : Value)
    (hx : a.eval x = .pointer (some ⟨g, 0, none⟩)) (hy : a.eval y = .agg #[v1, v2]) (hg : Two w g t x0 y0) (hi : (Try.prog.info? ty).map (·.size) = some 2) (h1 : v1.oneCell' = true) (h2 : v2.oneCell' = true) :
    (execOp a.eval o).run Try.prog w = .ok .skip ((w.setCell ⟨g, 0, none⟩ v1).setCell ⟨g, 1, none⟩ v2) := by
  obtain ⟨i0, hi0, hz1⟩ := Option.map_eq_some_iff.1 hi
  have hst : (storeVar ty ⟨g, 0, none⟩ (.agg #[v1, v2])).run Try.prog w = .ok () ((w.setCell ⟨g, 0, none⟩ v1).setCell ⟨g, 1, none⟩ v2) := by
    have := run_storeCells_cells (P := Try.prog) g 0 [v1, v2] 0 w (fun j hj => by
      have hj2 : j < 2 := by simpa using hj
      rcases (show j = 0 ∨ j = 1 by omega) with rfl | rfl
      · simp [hg.c0]
      · simp [hg.c1]) (fun j hj => by simpa using hg.fz _) (fun v hv => by
      have : v = v1 ∨ v = v2 := by simpa using hv
      rcases this with rfl | rfl
      · exact h1
      · exact h2)
    simp only [Nat.add_zero, Nat.zero_add] at this
    simp [storeVar, sizeOf, typeInfo, hi0, hz1, Value.cells, this, World.setCells]
  unfold execOp
  simp only [ho, hx, hy, Instr.storeAt, Instr.sureAddr, Sem.run_bind, Sem.run_pure, Result.andThen_ok, hst]
theorem sep_ne {r q n m s u : Nat} (h : Sep (.slice (some ⟨r, 0, none⟩) n s) (.slice (some ⟨q, 0, none⟩) m u)) : r ≠ q := by
  rintro rfl
  rcases h with h | h
  · cases h
  · exact h rfl
/-- the end of a function whose results are two boxes in variables, and one word -/
theorem ret_box3 {fn : Func} {p q u : Tmp} {a : Act} {w : World} {R : Ending → World → Prop} (h : fn.results = #[.cell p 58, .cell q 58, .tmp u]) {g g' : Nat} {x y x' y' v : Value}
    (hp : a.tmps.getD p undef = .pointer (some ⟨g, 0, none⟩)) (hq : a.tmps.getD q undef = .pointer (some ⟨g', 0, none⟩)) (hu : a.tmps.getD u undef = v) (hg : Two w g 58 x y) (hg' : Two w g' 58 x' y') (hd : a.defers = []) (hR : R (.returned (.tuple #[.agg #[x, y], .agg #[x', y'], v])) w) : bodyPost Try.prog fn R .ret a w := by
  refine bodyPost_ret (v := .tuple #[.agg #[x, y], .agg #[x', y'], v]) ?_ hd hR
  have e1 := run_loadVar_row (P := Try.prog) w g 58 58 #[x, y] (0, 0) _ hg Try.underlying58 rfl (by kernel_rfl)
  have e2 := run_loadVar_row (P := Try.prog) w g' 58 58 #[x', y'] (0, 0) _ hg' Try.underlying58 rfl (by kernel_rfl)
  simp only [results, h]
  simp only [Array.getD_eq_getD_getElem?] at hp hq hu
  simp [Sem.run_bind, Result.andThen, hp, hq, hu, asAddr, e1, e2]
/-- what stands behind the copies -/
def Six (w0 wx : World) (n : Nat) (lo hi : List Int) (g8 g9 r1 q1 r2 q2 s1 u1 s2 u2 : Nat) : Prop :=
  (w0.heap.size ≤ g8 ∧ w0.heap.size ≤ g9 ∧ w0.heap.size ≤ r1 ∧ w0.heap.size ≤ q1 ∧ w0.heap.size ≤ r2 ∧ w0.heap.size ≤ q2 ∧ g8 ≠ g9 ∧ g8 ≠ r1 ∧ g8 ≠ q1 ∧ g8 ≠ r2 ∧ g8 ≠ q2 ∧ g9 ≠ r1 ∧ g9 ≠ q1 ∧ g9 ≠ r2 ∧ g9 ≠ q2 ∧ r1 ≠ q1 ∧ r1 ≠ r2 ∧ r1 ≠ q2 ∧ q1 ≠ r2 ∧ q1 ≠ q2 ∧ r2 ≠ q2) ∧
  Two wx g8 91 (.slice (some ⟨r1, 0, none⟩) n s1) (.slice (some ⟨q1, 0, none⟩) n u1) ∧ Two wx g9 91 (.slice (some ⟨r2, 0, none⟩) n s2) (.slice (some ⟨q2, 0, none⟩) n u2) ∧
  Own wx w0.heap.size (some ⟨r1, 0, none⟩) s1 lo ∧ Own wx w0.heap.size (some ⟨q1, 0, none⟩) u1 hi ∧ Own wx w0.heap.size (some ⟨r2, 0, none⟩) s2 lo ∧ Own wx w0.heap.size (some ⟨q2, 0, none⟩) u2 hi ∧ Below w0.heap.size w0 wx
def Apart (b g8 g9 r1 q1 r2 q2 : Nat) : Prop :=
  b ≤ g8 ∧ b ≤ g9 ∧ b ≤ r1 ∧ b ≤ q1 ∧ b ≤ r2 ∧ b ≤ q2 ∧ g8 ≠ g9 ∧ g8 ≠ r1 ∧ g8 ≠ q1 ∧ g8 ≠ r2 ∧ g8 ≠ q2 ∧ g9 ≠ r1 ∧ g9 ≠ q1 ∧ g9 ≠ r2 ∧ g9 ≠ q2 ∧ r1 ≠ q1 ∧ r1 ≠ r2 ∧ r1 ≠ q2 ∧ q1 ≠ r2 ∧ q1 ≠ q2 ∧ r2 ≠ q2
theorem six_t9 {W5 : World} {b g8 g9 r1 q1 r2 q2 : Nat} {x y u v : Value} (h : Two W5 g9 91 x y) (nn : Apart b g8 g9 r1 q1 r2 q2) : Two ((W5.setCell ⟨g8, 0, none⟩ u).setCell ⟨g8, 1, none⟩ v) g9 91 x y := by
  unfold Apart at nn
  exact (h.setOther (a := ⟨g8, 0, none⟩) (by simp; omega) u).setOther (a := ⟨g8, 1, none⟩) (by simp; omega) v
theorem own_two {W5 : World} {b g r s : Nat} {l : List Int} {u v : Value} (h : Own W5 b (some ⟨r, 0, none⟩) s l) (hne : r ≠ g) : Own ((W5.setCell ⟨g, 0, none⟩ u).setCell ⟨g, 1, none⟩ v) b (some ⟨r, 0, none⟩) s l :=
  (h.other (a := ⟨g, 0, none⟩) (by simp [Value.ownBlock]; exact hne) u).other (a := ⟨g, 1, none⟩) (by simp [Value.ownBlock]; exact hne) v
theorem size_box : (Try.prog.info? 58).map (·.size) = some 2 := by kernel_rfl
theorem own_out {W : World} {B r s g : Nat} {l : List Int} {u v u' v' : Value} (h : Own W B (some ⟨r, 0, none⟩) s l) (hr : B ≤ r) (hg : g + 1 + 1 < B) :
    Own ((((W.setCell ⟨g + 1, 0, none⟩ u).setCell ⟨g + 1, 1, none⟩ v).setCell ⟨g + 1 + 1, 0, none⟩ u').setCell ⟨g + 1 + 1, 1, none⟩ v') g (some ⟨r, 0, none⟩) s l :=
  (own_two (own_two h (by omega)) (by omega)).mono (by omega)
theorem six_end {wq W5 : World} {n : Nat} {lo hi : List Int} {g8 g9 r1 q1 r2 q2 s1 u1 s2 u2 : Nat} {x y x' y' : Value} (nn : Apart wq.heap.size g8 g9 r1 q1 r2 q2) (t8 : Two W5 g8 91 x y) (t9 : Two W5 g9 91 x' y')
    (o1 : Own W5 wq.heap.size (some ⟨r1, 0, none⟩) s1 lo) (p1 : Own W5 wq.heap.size (some ⟨q1, 0, none⟩) u1 hi) (o2 : Own W5 wq.heap.size (some ⟨r2, 0, none⟩) s2 lo) (p2 : Own W5 wq.heap.size (some ⟨q2, 0, none⟩) u2 hi) (x5 : Ext wq W5) :
    Six wq ((((W5.setCell ⟨g8, 0, none⟩ (.slice (some ⟨r1, 0, none⟩) n s1)).setCell ⟨g8, 1, none⟩ (.slice (some ⟨q1, 0, none⟩) n u1)).setCell ⟨g9, 0, none⟩ (.slice (some ⟨r2, 0, none⟩) n s2)).setCell ⟨g9, 1, none⟩ (.slice (some ⟨q2, 0, none⟩) n u2)) n lo hi g8 g9 r1 q1 r2 q2 s1 u1 s2 u2 := by
  have hn := nn
  unfold Apart at hn
  refine ⟨hn, ?_, (six_t9 t9 nn).set2 _ _, own_two (own_two o1 (by omega)) (by omega), own_two (own_two p1 (by omega)) (by omega), own_two (own_two o2 (by omega)) (by omega), own_two (own_two p2 (by omega)) (by omega), ?_⟩
  · exact ((t8.set2 _ _).setOther (a := ⟨g9, 0, none⟩) (by simp; omega) _).setOther (a := ⟨g9, 1, none⟩) (by simp; omega) _
  · exact (((x5.below.setCell (p := ⟨g8, 0, none⟩) (by simp; omega) _).setCell (p := ⟨g8, 1, none⟩) (by simp; omega) _).setCell (p := ⟨g9, 0, none⟩) (by simp; omega) _).setCell (p := ⟨g9, 1, none⟩) (by simp; omega) _
set_option maxRecDepth 100000 in
set_option maxHeartbeats 8000000 in
theorem split_in (L H : Option Addr) (lo hi : List Int) (dl sh : Nat) (w : World) (hL : Arr w w.heap.size L lo.length (i64s lo)) (hH : Arr w w.heap.size H hi.length (i64s hi)) (hp : IsI lo) (hq : IsI hi) (hR : rightB lo hi lo.length = true) (sd : Nat) (bt : Nat) (hu : uSt lo hi lo.length = (sd, (bt : Int))) (hsd : sd < lo.length) (hbt : bt ≤ 63) :
    Calls Try.prog 29 #[.agg #[.slice L lo.length dl, .slice H hi.length sh]] w fun e w' => ∃ r1 s1 q1 u1 r2 s2 q2 u2,
      e = .returned (.tuple #[.agg #[.slice (some ⟨r1, 0, none⟩) lo.length s1, .slice (some ⟨q1, 0, none⟩) lo.length u1], .agg #[.slice (some ⟨r2, 0, none⟩) lo.length s2, .slice (some ⟨q2, 0, none⟩) lo.length u2], .bool true]) ∧ Below w.heap.size w w' ∧
      Own w' w.heap.size (some ⟨r1, 0, none⟩) s1 lo ∧ Own w' w.heap.size (some ⟨q1, 0, none⟩) u1 (hi.set sd (toI (upN (pl (hi.getD sd 0)) bt))) ∧ Own w' w.heap.size (some ⟨r2, 0, none⟩) s2 (lo.set sd (toI (loN (pl (hi.getD sd 0)) bt))) ∧ Own w' w.heap.size (some ⟨q2, 0, none⟩) u2 hi := by
  have hf := rightB_len hR
  have tR := fun W h h' => right_any L H lo hi dl sh lo.length W h h'
  rw [hR] at tR
  have tU := fun W h h' => unlike_any L H lo hi dl sh W h h' (by omega) hp hq (by omega)
  rw [hu] at tU
  have tO := fun W h h' => of_any L H lo hi dl sh W h h' (by omega) (by omega)
  obtain ⟨n, hn⟩ : ∃ n, n = lo.length := ⟨_, rfl⟩
  have Hlol := hideP hn.symm
  have Hhil := hideP (show hi.length = n by omega)
  rw [← hn] at hL tR tU tO hsd ⊢
  rw [Hhil.out] at hH tR tU tO ⊢
  have h1 : 1 ≤ n := by omega
  have h8 : n ≤ 8 := by omega
  have hdec : decide ((0 : Int) ≤ (bt : Int)) = true := by simp
  rw [hdec] at tU
  clear hn hR hu hf hdec
  have HhL := hideP hL; have HhH := hideP hH; have HtR := hideP tR; have HtU := hideP tU; have HtO := hideP tO; have Hhp := hideP hp; have Hhq := hideP hq; clear hL hH tR tU tO hp hq
  obtain ⟨z, hz⟩ : ∃ z, z = hi.getD sd 0 := ⟨_, rfl⟩
  have hz1 := Hhq.out sd
  rw [← hz] at hz1 ⊢
  obtain ⟨U, hU⟩ : ∃ U, U = toI (upN (pl z) bt) := ⟨_, rfl⟩
  obtain ⟨V, hV⟩ : ∃ V, V = toI (loN (pl z) bt) := ⟨_, rfl⟩
  have cU := hideP (fun W => upper_any z bt W hz1.1 hz1.2 hbt)
  have cV := hideP (fun W => lower_any z bt W hz1.1 hz1.2 hbt)
  rw [← hU] at cU
  rw [← hV] at cV
  rw [← hU, ← hV]
  clear hU hV
  have Hz := hideP hz
  clear hz hz1
  go_enter Try.func29, Try.ntmps29
  go_upto_region 1 with fail
  obtain ⟨w1, hw1⟩ : ∃ w1, w1 = ((w.alloc (Obj.cells #[.slice L n dl, .slice H n sh] 58)).alloc (Obj.cells #[.slice none 0 0, .slice none 0 0] 58)).alloc (Obj.cells #[.slice none 0 0, .slice none 0 0] 58) := ⟨_, rfl⟩
  have c1 := hideP (show Two w1 w.heap.size 58 (.slice L n dl) (.slice H n sh) by rw [hw1]; exact ((Two.new _ _ _ _).alloc _).alloc _)
  have c2 := hideP (show Two w1 (w.heap.size + 1) 58 (.slice none 0 0) (.slice none 0 0) by rw [hw1]; exact (Two.new' _ _ _ _ _ (by simp)).alloc _)
  have c3 := hideP (show Two w1 (w.heap.size + 1 + 1) 58 (.slice none 0 0) (.slice none 0 0) by rw [hw1]; exact Two.new' _ _ _ _ _ (by simp))
  have cb := hideP (show Below w.heap.size w w1 by rw [hw1]; exact ((below_new _ _).alloc (by simp) _).alloc (by simp; omega) _)
  rw [← hw1]
  clear hw1
  have kc10 := c1.out.c0; have kc11 := c1.out.c1
  go_wp2_with fail
  refine (HtR.out w1 (HhL.out.after cb.out) (HhH.out.after cb.out)).mono ?_
  rintro e w2 ⟨rfl, hb⟩
  clear kc10 kc11
  replace c1 := hideP (c1.out.after hb)
  replace c2 := hideP (c2.out.after hb)
  replace c3 := hideP (c3.out.after hb)
  replace cb := hideP (bstep cb.out hb)
  clear hb
  have kc10 := c1.out.c0; have kc11 := c1.out.c1
  go_wp2_with fail
  refine (HtU.out w2 (HhL.out.after cb.out) (HhH.out.after cb.out)).mono ?_
  rintro e w3 ⟨rfl, hb⟩
  clear kc10 kc11
  replace hb := hb.below
  replace c1 := hideP (c1.out.after hb)
  replace c2 := hideP (c2.out.after hb)
  replace c3 := hideP (c3.out.after hb)
  replace cb := hideP (bstep cb.out hb)
  clear hb
  have kc10 := c1.out.c0; have kc11 := c1.out.c1
  go_upto_region 6 with fail
  obtain ⟨wq, rfl⟩ : ∃ wq, wq = w3 := ⟨_, rfl⟩
  have AL := hideP (HhL.out.after cb.out)
  have AH := hideP (HhH.out.after cb.out)
  go_cut [8, 9] (fun v8 v9 wx => ∃ g8 g9 r1 q1 r2 q2 s1 u1 s2 u2 : Nat, v8 = .pointer (some ⟨g8, 0, none⟩) ∧ v9 = .pointer (some ⟨g9, 0, none⟩) ∧ Hid (Six wq wx n lo hi g8 g9 r1 q1 r2 q2 s1 u1 s2 u2))
  case first =>
    refine wp_region_fork 6 (.q 0 (.q 2 (.alt (.l 1 (.alt (.l 3 (.alt (.l 4 (.l 5 .nil)) (.l 5 (.l 4 .nil)))) (.alt (.l 4 (.alt (.l 3 (.l 5 .nil)) (.l 5 (.l 3 .nil)))) (.l 5 (.alt (.l 3 (.l 4 .nil)) (.l 4 (.l 3 .nil))))))) (.alt (.l 4 (.alt (.l 1 (.alt (.l 3 (.l 5 .nil)) (.l 5 (.l 3 .nil)))) (.l 5 (.l 1 (.l 3 .nil))))) (.l 5 (.alt (.l 1 (.alt (.l 3 (.l 4 .nil)) (.l 4 (.l 3 .nil)))) (.l 4 (.l 1 (.l 3 .nil))))))))) (by kernel_rfl) (by kernel_rfl) ?_
    simp only [pickT, nthO_zero, nthO_succ]
    iterate 2 (refine wpT_valK (by rfl) (fun K hK => ?_); apply Exists.intro; refine ⟨fun W hW => ?_, ?_⟩; (focus (have hs0 := hW.cell kc10; have hs1 := hW.cell kc11; go_simp; (try rfl); done)); go_simp; refine hK _ ?_; clear hK K)
    clear kc10 kc11
    refine wpT_alt ?_ ?_
    · skip
      refine wpT_loudK 54 #[.agg #[.slice L n dl, .slice H n sh]] (by rfl) (fun W' => by go_simp) (fun V1 hV1 => (HtO.out V1 (AL.out.ext hV1.drew_left) (AH.out.ext hV1.drew_left)).mono ?_)
      rintro e W1 ⟨RR, s1, QQ, u1, rfl, hb_, ho_, hp_, hs_⟩
      obtain ⟨r1, rfl, ho1_, ho2_⟩ := ho_.at Hlol.out h1
      obtain ⟨q1, rfl, hp1_, hp2_⟩ := hp_.at Hhil.out h1
      have ne1 := hideP (show r1 ≠ q1 from sep_ne hs_)
      have lo1 := hideP (show V1.heap.size ≤ r1 ∧ V1.heap.size ≤ q1 ∧ r1 < W1.heap.size ∧ q1 < W1.heap.size from ⟨ho1_, hp1_, ho2_, hp2_⟩)
      have o1 := hideP (ho_.mono (show wq.heap.size ≤ V1.heap.size from (hV1.drew_left).size))
      have p1 := hideP (hp_.mono (show wq.heap.size ≤ V1.heap.size from (hV1.drew_left).size))
      have xW1 := hideP (hV1.drew_left.trans (Ext.of_below hb_))
      have z1 := hideP (show wq.heap.size ≤ V1.heap.size from hV1.size)
      refine ⟨_, rfl, Ext.of_below hb_, fun K hK => ?_⟩
      clear hV1 hb_ ho_ hp_ hs_ ho1_ ho2_ hp1_ hp2_
      go_simp
      refine hK _ ?_
      clear hK K
      refine wpT_alt ?_ ?_
      · skip
        refine wpT_loudK 54 #[.agg #[.slice L n dl, .slice H n sh]] (by rfl) (fun W' => by go_simp) (fun V3 hV3 => (HtO.out V3 (AL.out.ext (xW1.out.trans hV3)) (AH.out.ext (xW1.out.trans hV3))).mono ?_)
        rintro e W3 ⟨RR, s2, QQ, u2, rfl, hb_, ho_, hp_, hs_⟩
        obtain ⟨r2, rfl, ho1_, ho2_⟩ := ho_.at Hlol.out h1
        obtain ⟨q2, rfl, hp1_, hp2_⟩ := hp_.at Hhil.out h1
        have ne2 := hideP (show r2 ≠ q2 from sep_ne hs_)
        have lo2 := hideP (show V3.heap.size ≤ r2 ∧ V3.heap.size ≤ q2 ∧ r2 < W3.heap.size ∧ q2 < W3.heap.size from ⟨ho1_, hp1_, ho2_, hp2_⟩)
        have o2 := hideP (ho_.mono (show wq.heap.size ≤ V3.heap.size from ((xW1.out.trans hV3)).size))
        have p2 := hideP (hp_.mono (show wq.heap.size ≤ V3.heap.size from ((xW1.out.trans hV3)).size))
        have xW3 := hideP ((xW1.out.trans hV3).trans (Ext.of_below hb_))
        have z3 := hideP (show W1.heap.size ≤ V3.heap.size from hV3.size)
        replace o1 := hideP (o1.out.ext (hV3.trans (Ext.of_below hb_)))
        replace p1 := hideP (p1.out.ext (hV3.trans (Ext.of_below hb_)))
        refine ⟨_, rfl, Ext.of_below hb_, fun K hK => ?_⟩
        clear hV3 hb_ ho_ hp_ hs_ ho1_ ho2_ hp1_ hp2_
        go_simp
        refine hK _ ?_
        clear hK K
        refine wpT_alt ?_ ?_
        · skip
          refine wpT_buildK (by rfl) (fun V4 hV4 => ?_)
          refine ⟨.pointer (some ⟨V4.heap.size, 0, none⟩), V4.alloc (.cells #[.slice none 0 0, .slice none 0 0] 91), ⟨by go_simp, Ext.alloc _ _⟩, fun K hK => ?_⟩
          go_simp
          refine hK _ ?_
          clear hK K
          obtain ⟨W4, h_⟩ : ∃ W, W = V4.alloc (.cells #[.slice none 0 0, .slice none 0 0] 91) := ⟨_, rfl⟩
          obtain ⟨g8, g_⟩ : ∃ g, g = V4.heap.size := ⟨_, rfl⟩
          have e_ : Ext V4 W4 := by rw [h_]; exact Ext.alloc _ _
          have t8 := hideP (show Two W4 g8 91 (.slice none 0 0) (.slice none 0 0) by rw [h_, g_]; exact Two.new _ _ _ _)
          have lo8 := hideP (show V4.heap.size ≤ g8 ∧ g8 < W4.heap.size from ⟨Nat.le_of_eq g_.symm, t8.out.lt⟩)
          have xW4 := hideP ((xW3.out.trans hV4).trans e_)
          have z4 := hideP (show W3.heap.size ≤ V4.heap.size from hV4.size)
          replace o1 := hideP (o1.out.ext (hV4.trans e_))
          replace p1 := hideP (p1.out.ext (hV4.trans e_))
          replace o2 := hideP (o2.out.ext (hV4.trans e_))
          replace p2 := hideP (p2.out.ext (hV4.trans e_))
          rw [← h_, ← g_]
          clear h_ g_ e_ hV4
          refine wpT_buildK (by rfl) (fun V5 hV5 => ?_)
          refine ⟨.pointer (some ⟨V5.heap.size, 0, none⟩), V5.alloc (.cells #[.slice none 0 0, .slice none 0 0] 91), ⟨by go_simp, Ext.alloc _ _⟩, fun K hK => ?_⟩
          go_simp
          refine hK _ ?_
          clear hK K
          obtain ⟨W5, h_⟩ : ∃ W, W = V5.alloc (.cells #[.slice none 0 0, .slice none 0 0] 91) := ⟨_, rfl⟩
          obtain ⟨g9, g_⟩ : ∃ g, g = V5.heap.size := ⟨_, rfl⟩
          have e_ : Ext V5 W5 := by rw [h_]; exact Ext.alloc _ _
          have t9 := hideP (show Two W5 g9 91 (.slice none 0 0) (.slice none 0 0) by rw [h_, g_]; exact Two.new _ _ _ _)
          have lo9 := hideP (show V5.heap.size ≤ g9 ∧ g9 < W5.heap.size from ⟨Nat.le_of_eq g_.symm, t9.out.lt⟩)
          have xW5 := hideP ((xW4.out.trans hV5).trans e_)
          have z5 := hideP (show W4.heap.size ≤ V5.heap.size from hV5.size)
          replace o1 := hideP (o1.out.ext (hV5.trans e_))
          replace p1 := hideP (p1.out.ext (hV5.trans e_))
          replace o2 := hideP (o2.out.ext (hV5.trans e_))
          replace p2 := hideP (p2.out.ext (hV5.trans e_))
          replace t8 := hideP (t8.out.ext (hV5.trans e_))
          rw [← h_, ← g_]
          clear h_ g_ e_ hV5
          refine wpT_nil (fun W5 hW5 => ?_)
          simp only [List.drop_succ_cons, List.drop_zero, List.drop_nil]
          have x5 := hideP (xW5.out.trans hW5)
          replace o1 := hideP (o1.out.ext hW5)
          replace p1 := hideP (p1.out.ext hW5)
          replace o2 := hideP (o2.out.ext hW5)
          replace p2 := hideP (p2.out.ext hW5)
          replace t8 := hideP (t8.out.ext hW5)
          replace t9 := hideP (t9.out.ext hW5)
          have nn := hideP (show Apart wq.heap.size g8 g9 r1 q1 r2 q2 by
            have a1 := ne1.out; have a2 := ne2.out; have a3 := lo1.out; have a4 := lo2.out; have a5 := lo8.out; have a6 := lo9.out; have a7 := z1.out; have a8 := z3.out; have a9 := z4.out; have a10 := z5.out
            unfold Apart; omega)
          clear hW5 xW5 ne1 ne2 lo1 lo2 lo8 lo9 z1 z3 z4 z5
          refine wpList_store_two rfl 91 (.tmp 8) (.tmp 29) rfl g8 _ _ 91 _ _ rfl rfl t8.out size_cor rfl rfl ?_
          refine wpList_store_two rfl 91 (.tmp 9) (.tmp 31) rfl g9 _ _ 91 _ _ rfl rfl (six_t9 t9.out nn.out) size_cor rfl rfl ?_
          have six := hideP (six_end (n := n) nn.out t8.out t9.out o1.out p1.out o2.out p2.out x5.out)
          clear nn t8 t9 o1 p1 o2 p2 x5 Hlol Hhil HhL HhH HtR HtU HtO c1 c2 c3 cb AL AH h1 h8
          obtain ⟨W6, hW6⟩ : ∃ W, W = (((W5.setCell ⟨g8, 0, none⟩ (.slice (some ⟨r1, 0, none⟩) n s1)).setCell ⟨g8, 1, none⟩ (.slice (some ⟨q1, 0, none⟩) n u1)).setCell ⟨g9, 0, none⟩ (.slice (some ⟨r2, 0, none⟩) n s2)).setCell ⟨g9, 1, none⟩ (.slice (some ⟨q2, 0, none⟩) n u2) := ⟨_, rfl⟩
          rw [← hW6] at six ⊢
          clear hW6
          go_wp2
          go_meet
          exact ⟨_, _, _, _, _, _, _, _, _, _, rfl, rfl, six⟩
        · skip
          refine wpT_buildK (by rfl) (fun V5 hV5 => ?_)
          refine ⟨.pointer (some ⟨V5.heap.size, 0, none⟩), V5.alloc (.cells #[.slice none 0 0, .slice none 0 0] 91), ⟨by go_simp, Ext.alloc _ _⟩, fun K hK => ?_⟩
          go_simp
          refine hK _ ?_
          clear hK K
          obtain ⟨W5, h_⟩ : ∃ W, W = V5.alloc (.cells #[.slice none 0 0, .slice none 0 0] 91) := ⟨_, rfl⟩
          obtain ⟨g9, g_⟩ : ∃ g, g = V5.heap.size := ⟨_, rfl⟩
          have e_ : Ext V5 W5 := by rw [h_]; exact Ext.alloc _ _
          have t9 := hideP (show Two W5 g9 91 (.slice none 0 0) (.slice none 0 0) by rw [h_, g_]; exact Two.new _ _ _ _)
          have lo9 := hideP (show V5.heap.size ≤ g9 ∧ g9 < W5.heap.size from ⟨Nat.le_of_eq g_.symm, t9.out.lt⟩)
          have xW5 := hideP ((xW3.out.trans hV5).trans e_)
          have z5 := hideP (show W3.heap.size ≤ V5.heap.size from hV5.size)
          replace o1 := hideP (o1.out.ext (hV5.trans e_))
          replace p1 := hideP (p1.out.ext (hV5.trans e_))
          replace o2 := hideP (o2.out.ext (hV5.trans e_))
          replace p2 := hideP (p2.out.ext (hV5.trans e_))
          rw [← h_, ← g_]
          clear h_ g_ e_ hV5
          refine wpT_buildK (by rfl) (fun V4 hV4 => ?_)
          refine ⟨.pointer (some ⟨V4.heap.size, 0, none⟩), V4.alloc (.cells #[.slice none 0 0, .slice none 0 0] 91), ⟨by go_simp, Ext.alloc _ _⟩, fun K hK => ?_⟩
          go_simp
          refine hK _ ?_
          clear hK K
          obtain ⟨W4, h_⟩ : ∃ W, W = V4.alloc (.cells #[.slice none 0 0, .slice none 0 0] 91) := ⟨_, rfl⟩
          obtain ⟨g8, g_⟩ : ∃ g, g = V4.heap.size := ⟨_, rfl⟩
          have e_ : Ext V4 W4 := by rw [h_]; exact Ext.alloc _ _
          have t8 := hideP (show Two W4 g8 91 (.slice none 0 0) (.slice none 0 0) by rw [h_, g_]; exact Two.new _ _ _ _)
          have lo8 := hideP (show V4.heap.size ≤ g8 ∧ g8 < W4.heap.size from ⟨Nat.le_of_eq g_.symm, t8.out.lt⟩)
          have xW4 := hideP ((xW5.out.trans hV4).trans e_)
          have z4 := hideP (show W5.heap.size ≤ V4.heap.size from hV4.size)
          replace o1 := hideP (o1.out.ext (hV4.trans e_))
          replace p1 := hideP (p1.out.ext (hV4.trans e_))
          replace o2 := hideP (o2.out.ext (hV4.trans e_))
          replace p2 := hideP (p2.out.ext (hV4.trans e_))
          replace t9 := hideP (t9.out.ext (hV4.trans e_))
          rw [← h_, ← g_]
          clear h_ g_ e_ hV4
          refine wpT_nil (fun W5 hW5 => ?_)
          simp only [List.drop_succ_cons, List.drop_zero, List.drop_nil]
          have x5 := hideP (xW4.out.trans hW5)
          replace o1 := hideP (o1.out.ext hW5)
          replace p1 := hideP (p1.out.ext hW5)
          replace o2 := hideP (o2.out.ext hW5)
          replace p2 := hideP (p2.out.ext hW5)
          replace t8 := hideP (t8.out.ext hW5)
          replace t9 := hideP (t9.out.ext hW5)
          have nn := hideP (show Apart wq.heap.size g8 g9 r1 q1 r2 q2 by
            have a1 := ne1.out; have a2 := ne2.out; have a3 := lo1.out; have a4 := lo2.out; have a5 := lo8.out; have a6 := lo9.out; have a7 := z1.out; have a8 := z3.out; have a9 := z4.out; have a10 := z5.out
            unfold Apart; omega)
          clear hW5 xW4 ne1 ne2 lo1 lo2 lo8 lo9 z1 z3 z4 z5
          refine wpList_store_two rfl 91 (.tmp 8) (.tmp 29) rfl g8 _ _ 91 _ _ rfl rfl t8.out size_cor rfl rfl ?_
          refine wpList_store_two rfl 91 (.tmp 9) (.tmp 31) rfl g9 _ _ 91 _ _ rfl rfl (six_t9 t9.out nn.out) size_cor rfl rfl ?_
          have six := hideP (six_end (n := n) nn.out t8.out t9.out o1.out p1.out o2.out p2.out x5.out)
          clear nn t8 t9 o1 p1 o2 p2 x5 Hlol Hhil HhL HhH HtR HtU HtO c1 c2 c3 cb AL AH h1 h8
          obtain ⟨W6, hW6⟩ : ∃ W, W = (((W5.setCell ⟨g8, 0, none⟩ (.slice (some ⟨r1, 0, none⟩) n s1)).setCell ⟨g8, 1, none⟩ (.slice (some ⟨q1, 0, none⟩) n u1)).setCell ⟨g9, 0, none⟩ (.slice (some ⟨r2, 0, none⟩) n s2)).setCell ⟨g9, 1, none⟩ (.slice (some ⟨q2, 0, none⟩) n u2) := ⟨_, rfl⟩
          rw [← hW6] at six ⊢
          clear hW6
          go_wp2
          go_meet
          exact ⟨_, _, _, _, _, _, _, _, _, _, rfl, rfl, six⟩
      · skip
        refine wpT_alt ?_ ?_
        · skip
          refine wpT_buildK (by rfl) (fun V4 hV4 => ?_)
          refine ⟨.pointer (some ⟨V4.heap.size, 0, none⟩), V4.alloc (.cells #[.slice none 0 0, .slice none 0 0] 91), ⟨by go_simp, Ext.alloc _ _⟩, fun K hK => ?_⟩
          go_simp
          refine hK _ ?_
          clear hK K
          obtain ⟨W4, h_⟩ : ∃ W, W = V4.alloc (.cells #[.slice none 0 0, .slice none 0 0] 91) := ⟨_, rfl⟩
          obtain ⟨g8, g_⟩ : ∃ g, g = V4.heap.size := ⟨_, rfl⟩
          have e_ : Ext V4 W4 := by rw [h_]; exact Ext.alloc _ _
          have t8 := hideP (show Two W4 g8 91 (.slice none 0 0) (.slice none 0 0) by rw [h_, g_]; exact Two.new _ _ _ _)
          have lo8 := hideP (show V4.heap.size ≤ g8 ∧ g8 < W4.heap.size from ⟨Nat.le_of_eq g_.symm, t8.out.lt⟩)
          have xW4 := hideP ((xW1.out.trans hV4).trans e_)
          have z4 := hideP (show W1.heap.size ≤ V4.heap.size from hV4.size)
          replace o1 := hideP (o1.out.ext (hV4.trans e_))
          replace p1 := hideP (p1.out.ext (hV4.trans e_))
          rw [← h_, ← g_]
          clear h_ g_ e_ hV4
          refine wpT_alt ?_ ?_
          · skip
            refine wpT_loudK 54 #[.agg #[.slice L n dl, .slice H n sh]] (by rfl) (fun W' => by go_simp) (fun V3 hV3 => (HtO.out V3 (AL.out.ext (xW4.out.trans hV3)) (AH.out.ext (xW4.out.trans hV3))).mono ?_)
            rintro e W3 ⟨RR, s2, QQ, u2, rfl, hb_, ho_, hp_, hs_⟩
            obtain ⟨r2, rfl, ho1_, ho2_⟩ := ho_.at Hlol.out h1
            obtain ⟨q2, rfl, hp1_, hp2_⟩ := hp_.at Hhil.out h1
            have ne2 := hideP (show r2 ≠ q2 from sep_ne hs_)
            have lo2 := hideP (show V3.heap.size ≤ r2 ∧ V3.heap.size ≤ q2 ∧ r2 < W3.heap.size ∧ q2 < W3.heap.size from ⟨ho1_, hp1_, ho2_, hp2_⟩)
            have o2 := hideP (ho_.mono (show wq.heap.size ≤ V3.heap.size from ((xW4.out.trans hV3)).size))
            have p2 := hideP (hp_.mono (show wq.heap.size ≤ V3.heap.size from ((xW4.out.trans hV3)).size))
            have xW3 := hideP ((xW4.out.trans hV3).trans (Ext.of_below hb_))
            have z3 := hideP (show W4.heap.size ≤ V3.heap.size from hV3.size)
            replace o1 := hideP (o1.out.ext (hV3.trans (Ext.of_below hb_)))
            replace p1 := hideP (p1.out.ext (hV3.trans (Ext.of_below hb_)))
            replace t8 := hideP (t8.out.ext (hV3.trans (Ext.of_below hb_)))
            refine ⟨_, rfl, Ext.of_below hb_, fun K hK => ?_⟩
            clear hV3 hb_ ho_ hp_ hs_ ho1_ ho2_ hp1_ hp2_
            go_simp
            refine hK _ ?_
            clear hK K
            refine wpT_buildK (by rfl) (fun V5 hV5 => ?_)
            refine ⟨.pointer (some ⟨V5.heap.size, 0, none⟩), V5.alloc (.cells #[.slice none 0 0, .slice none 0 0] 91), ⟨by go_simp, Ext.alloc _ _⟩, fun K hK => ?_⟩
            go_simp
            refine hK _ ?_
            clear hK K
            obtain ⟨W5, h_⟩ : ∃ W, W = V5.alloc (.cells #[.slice none 0 0, .slice none 0 0] 91) := ⟨_, rfl⟩
            obtain ⟨g9, g_⟩ : ∃ g, g = V5.heap.size := ⟨_, rfl⟩
            have e_ : Ext V5 W5 := by rw [h_]; exact Ext.alloc _ _
            have t9 := hideP (show Two W5 g9 91 (.slice none 0 0) (.slice none 0 0) by rw [h_, g_]; exact Two.new _ _ _ _)
            have lo9 := hideP (show V5.heap.size ≤ g9 ∧ g9 < W5.heap.size from ⟨Nat.le_of_eq g_.symm, t9.out.lt⟩)
            have xW5 := hideP ((xW3.out.trans hV5).trans e_)
            have z5 := hideP (show W3.heap.size ≤ V5.heap.size from hV5.size)
            replace o1 := hideP (o1.out.ext (hV5.trans e_))
            replace p1 := hideP (p1.out.ext (hV5.trans e_))
            replace t8 := hideP (t8.out.ext (hV5.trans e_))
            replace o2 := hideP (o2.out.ext (hV5.trans e_))
            replace p2 := hideP (p2.out.ext (hV5.trans e_))
            rw [← h_, ← g_]
            clear h_ g_ e_ hV5
            refine wpT_nil (fun W5 hW5 => ?_)
            simp only [List.drop_succ_cons, List.drop_zero, List.drop_nil]
            have x5 := hideP (xW5.out.trans hW5)
            replace o1 := hideP (o1.out.ext hW5)
            replace p1 := hideP (p1.out.ext hW5)
            replace o2 := hideP (o2.out.ext hW5)
            replace p2 := hideP (p2.out.ext hW5)
            replace t8 := hideP (t8.out.ext hW5)
            replace t9 := hideP (t9.out.ext hW5)
            have nn := hideP (show Apart wq.heap.size g8 g9 r1 q1 r2 q2 by
              have a1 := ne1.out; have a2 := ne2.out; have a3 := lo1.out; have a4 := lo2.out; have a5 := lo8.out; have a6 := lo9.out; have a7 := z1.out; have a8 := z3.out; have a9 := z4.out; have a10 := z5.out
              unfold Apart; omega)
            clear hW5 xW5 ne1 ne2 lo1 lo2 lo8 lo9 z1 z3 z4 z5
            refine wpList_store_two rfl 91 (.tmp 8) (.tmp 29) rfl g8 _ _ 91 _ _ rfl rfl t8.out size_cor rfl rfl ?_
            refine wpList_store_two rfl 91 (.tmp 9) (.tmp 31) rfl g9 _ _ 91 _ _ rfl rfl (six_t9 t9.out nn.out) size_cor rfl rfl ?_
            have six := hideP (six_end (n := n) nn.out t8.out t9.out o1.out p1.out o2.out p2.out x5.out)
            clear nn t8 t9 o1 p1 o2 p2 x5 Hlol Hhil HhL HhH HtR HtU HtO c1 c2 c3 cb AL AH h1 h8
            obtain ⟨W6, hW6⟩ : ∃ W, W = (((W5.setCell ⟨g8, 0, none⟩ (.slice (some ⟨r1, 0, none⟩) n s1)).setCell ⟨g8, 1, none⟩ (.slice (some ⟨q1, 0, none⟩) n u1)).setCell ⟨g9, 0, none⟩ (.slice (some ⟨r2, 0, none⟩) n s2)).setCell ⟨g9, 1, none⟩ (.slice (some ⟨q2, 0, none⟩) n u2) := ⟨_, rfl⟩
            rw [← hW6] at six ⊢
            clear hW6
            go_wp2
            go_meet
            exact ⟨_, _, _, _, _, _, _, _, _, _, rfl, rfl, six⟩
          · skip
            refine wpT_buildK (by rfl) (fun V5 hV5 => ?_)
            refine ⟨.pointer (some ⟨V5.heap.size, 0, none⟩), V5.alloc (.cells #[.slice none 0 0, .slice none 0 0] 91), ⟨by go_simp, Ext.alloc _ _⟩, fun K hK => ?_⟩
            go_simp
            refine hK _ ?_
            clear hK K
            obtain ⟨W5, h_⟩ : ∃ W, W = V5.alloc (.cells #[.slice none 0 0, .slice none 0 0] 91) := ⟨_, rfl⟩
            obtain ⟨g9, g_⟩ : ∃ g, g = V5.heap.size := ⟨_, rfl⟩
            have e_ : Ext V5 W5 := by rw [h_]; exact Ext.alloc _ _
            have t9 := hideP (show Two W5 g9 91 (.slice none 0 0) (.slice none 0 0) by rw [h_, g_]; exact Two.new _ _ _ _)
            have lo9 := hideP (show V5.heap.size ≤ g9 ∧ g9 < W5.heap.size from ⟨Nat.le_of_eq g_.symm, t9.out.lt⟩)
            have xW5 := hideP ((xW4.out.trans hV5).trans e_)
            have z5 := hideP (show W4.heap.size ≤ V5.heap.size from hV5.size)
            replace o1 := hideP (o1.out.ext (hV5.trans e_))
            replace p1 := hideP (p1.out.ext (hV5.trans e_))
            replace t8 := hideP (t8.out.ext (hV5.trans e_))
            rw [← h_, ← g_]
            clear h_ g_ e_ hV5
            refine wpT_loudK 54 #[.agg #[.slice L n dl, .slice H n sh]] (by rfl) (fun W' => by go_simp) (fun V3 hV3 => (HtO.out V3 (AL.out.ext (xW5.out.trans hV3)) (AH.out.ext (xW5.out.trans hV3))).mono ?_)
            rintro e W3 ⟨RR, s2, QQ, u2, rfl, hb_, ho_, hp_, hs_⟩
            obtain ⟨r2, rfl, ho1_, ho2_⟩ := ho_.at Hlol.out h1
            obtain ⟨q2, rfl, hp1_, hp2_⟩ := hp_.at Hhil.out h1
            have ne2 := hideP (show r2 ≠ q2 from sep_ne hs_)
            have lo2 := hideP (show V3.heap.size ≤ r2 ∧ V3.heap.size ≤ q2 ∧ r2 < W3.heap.size ∧ q2 < W3.heap.size from ⟨ho1_, hp1_, ho2_, hp2_⟩)
            have o2 := hideP (ho_.mono (show wq.heap.size ≤ V3.heap.size from ((xW5.out.trans hV3)).size))
            have p2 := hideP (hp_.mono (show wq.heap.size ≤ V3.heap.size from ((xW5.out.trans hV3)).size))
            have xW3 := hideP ((xW5.out.trans hV3).trans (Ext.of_below hb_))
            have z3 := hideP (show W5.heap.size ≤ V3.heap.size from hV3.size)
            replace o1 := hideP (o1.out.ext (hV3.trans (Ext.of_below hb_)))
            replace p1 := hideP (p1.out.ext (hV3.trans (Ext.of_below hb_)))
            replace t8 := hideP (t8.out.ext (hV3.trans (Ext.of_below hb_)))
            replace t9 := hideP (t9.out.ext (hV3.trans (Ext.of_below hb_)))
            refine ⟨_, rfl, Ext.of_below hb_, fun K hK => ?_⟩
            clear hV3 hb_ ho_ hp_ hs_ ho1_ ho2_ hp1_ hp2_
            go_simp
            refine hK _ ?_
            clear hK K
            refine wpT_nil (fun W5 hW5 => ?_)
            simp only [List.drop_succ_cons, List.drop_zero, List.drop_nil]
            have x5 := hideP (xW3.out.trans hW5)
            replace o1 := hideP (o1.out.ext hW5)
            replace p1 := hideP (p1.out.ext hW5)
            replace o2 := hideP (o2.out.ext hW5)
            replace p2 := hideP (p2.out.ext hW5)
            replace t8 := hideP (t8.out.ext hW5)
            replace t9 := hideP (t9.out.ext hW5)
            have nn := hideP (show Apart wq.heap.size g8 g9 r1 q1 r2 q2 by
              have a1 := ne1.out; have a2 := ne2.out; have a3 := lo1.out; have a4 := lo2.out; have a5 := lo8.out; have a6 := lo9.out; have a7 := z1.out; have a8 := z3.out; have a9 := z4.out; have a10 := z5.out
              unfold Apart; omega)
            clear hW5 xW3 ne1 ne2 lo1 lo2 lo8 lo9 z1 z3 z4 z5
            refine wpList_store_two rfl 91 (.tmp 8) (.tmp 29) rfl g8 _ _ 91 _ _ rfl rfl t8.out size_cor rfl rfl ?_
            refine wpList_store_two rfl 91 (.tmp 9) (.tmp 31) rfl g9 _ _ 91 _ _ rfl rfl (six_t9 t9.out nn.out) size_cor rfl rfl ?_
            have six := hideP (six_end (n := n) nn.out t8.out t9.out o1.out p1.out o2.out p2.out x5.out)
            clear nn t8 t9 o1 p1 o2 p2 x5 Hlol Hhil HhL HhH HtR HtU HtO c1 c2 c3 cb AL AH h1 h8
            obtain ⟨W6, hW6⟩ : ∃ W, W = (((W5.setCell ⟨g8, 0, none⟩ (.slice (some ⟨r1, 0, none⟩) n s1)).setCell ⟨g8, 1, none⟩ (.slice (some ⟨q1, 0, none⟩) n u1)).setCell ⟨g9, 0, none⟩ (.slice (some ⟨r2, 0, none⟩) n s2)).setCell ⟨g9, 1, none⟩ (.slice (some ⟨q2, 0, none⟩) n u2) := ⟨_, rfl⟩
            rw [← hW6] at six ⊢
            clear hW6
            go_wp2
            go_meet
            exact ⟨_, _, _, _, _, _, _, _, _, _, rfl, rfl, six⟩
        · skip
          refine wpT_buildK (by rfl) (fun V5 hV5 => ?_)
          refine ⟨.pointer (some ⟨V5.heap.size, 0, none⟩), V5.alloc (.cells #[.slice none 0 0, .slice none 0 0] 91), ⟨by go_simp, Ext.alloc _ _⟩, fun K hK => ?_⟩
          go_simp
          refine hK _ ?_
          clear hK K
          obtain ⟨W5, h_⟩ : ∃ W, W = V5.alloc (.cells #[.slice none 0 0, .slice none 0 0] 91) := ⟨_, rfl⟩
          obtain ⟨g9, g_⟩ : ∃ g, g = V5.heap.size := ⟨_, rfl⟩
          have e_ : Ext V5 W5 := by rw [h_]; exact Ext.alloc _ _
          have t9 := hideP (show Two W5 g9 91 (.slice none 0 0) (.slice none 0 0) by rw [h_, g_]; exact Two.new _ _ _ _)
          have lo9 := hideP (show V5.heap.size ≤ g9 ∧ g9 < W5.heap.size from ⟨Nat.le_of_eq g_.symm, t9.out.lt⟩)
          have xW5 := hideP ((xW1.out.trans hV5).trans e_)
          have z5 := hideP (show W1.heap.size ≤ V5.heap.size from hV5.size)
          replace o1 := hideP (o1.out.ext (hV5.trans e_))
          replace p1 := hideP (p1.out.ext (hV5.trans e_))
          rw [← h_, ← g_]
          clear h_ g_ e_ hV5
          refine wpT_alt ?_ ?_
          · skip
            refine wpT_loudK 54 #[.agg #[.slice L n dl, .slice H n sh]] (by rfl) (fun W' => by go_simp) (fun V3 hV3 => (HtO.out V3 (AL.out.ext (xW5.out.trans hV3)) (AH.out.ext (xW5.out.trans hV3))).mono ?_)
            rintro e W3 ⟨RR, s2, QQ, u2, rfl, hb_, ho_, hp_, hs_⟩
            obtain ⟨r2, rfl, ho1_, ho2_⟩ := ho_.at Hlol.out h1
            obtain ⟨q2, rfl, hp1_, hp2_⟩ := hp_.at Hhil.out h1
            have ne2 := hideP (show r2 ≠ q2 from sep_ne hs_)
            have lo2 := hideP (show V3.heap.size ≤ r2 ∧ V3.heap.size ≤ q2 ∧ r2 < W3.heap.size ∧ q2 < W3.heap.size from ⟨ho1_, hp1_, ho2_, hp2_⟩)
            have o2 := hideP (ho_.mono (show wq.heap.size ≤ V3.heap.size from ((xW5.out.trans hV3)).size))
            have p2 := hideP (hp_.mono (show wq.heap.size ≤ V3.heap.size from ((xW5.out.trans hV3)).size))
            have xW3 := hideP ((xW5.out.trans hV3).trans (Ext.of_below hb_))
            have z3 := hideP (show W5.heap.size ≤ V3.heap.size from hV3.size)
            replace o1 := hideP (o1.out.ext (hV3.trans (Ext.of_below hb_)))
            replace p1 := hideP (p1.out.ext (hV3.trans (Ext.of_below hb_)))
            replace t9 := hideP (t9.out.ext (hV3.trans (Ext.of_below hb_)))
            refine ⟨_, rfl, Ext.of_below hb_, fun K hK => ?_⟩
            clear hV3 hb_ ho_ hp_ hs_ ho1_ ho2_ hp1_ hp2_
            go_simp
            refine hK _ ?_
            clear hK K
            refine wpT_buildK (by rfl) (fun V4 hV4 => ?_)
            refine ⟨.pointer (some ⟨V4.heap.size, 0, none⟩), V4.alloc (.cells #[.slice none 0 0, .slice none 0 0] 91), ⟨by go_simp, Ext.alloc _ _⟩, fun K hK => ?_⟩
            go_simp
            refine hK _ ?_
            clear hK K
            obtain ⟨W4, h_⟩ : ∃ W, W = V4.alloc (.cells #[.slice none 0 0, .slice none 0 0] 91) := ⟨_, rfl⟩
            obtain ⟨g8, g_⟩ : ∃ g, g = V4.heap.size := ⟨_, rfl⟩
            have e_ : Ext V4 W4 := by rw [h_]; exact Ext.alloc _ _
            have t8 := hideP (show Two W4 g8 91 (.slice none 0 0) (.slice none 0 0) by rw [h_, g_]; exact Two.new _ _ _ _)
            have lo8 := hideP (show V4.heap.size ≤ g8 ∧ g8 < W4.heap.size from ⟨Nat.le_of_eq g_.symm, t8.out.lt⟩)
            have xW4 := hideP ((xW3.out.trans hV4).trans e_)
            have z4 := hideP (show W3.heap.size ≤ V4.heap.size from hV4.size)
            replace o1 := hideP (o1.out.ext (hV4.trans e_))
            replace p1 := hideP (p1.out.ext (hV4.trans e_))
            replace t9 := hideP (t9.out.ext (hV4.trans e_))
            replace o2 := hideP (o2.out.ext (hV4.trans e_))
            replace p2 := hideP (p2.out.ext (hV4.trans e_))
            rw [← h_, ← g_]
            clear h_ g_ e_ hV4
            refine wpT_nil (fun W5 hW5 => ?_)
            simp only [List.drop_succ_cons, List.drop_zero, List.drop_nil]
            have x5 := hideP (xW4.out.trans hW5)
            replace o1 := hideP (o1.out.ext hW5)
            replace p1 := hideP (p1.out.ext hW5)
            replace o2 := hideP (o2.out.ext hW5)
            replace p2 := hideP (p2.out.ext hW5)
            replace t8 := hideP (t8.out.ext hW5)
            replace t9 := hideP (t9.out.ext hW5)
            have nn := hideP (show Apart wq.heap.size g8 g9 r1 q1 r2 q2 by
              have a1 := ne1.out; have a2 := ne2.out; have a3 := lo1.out; have a4 := lo2.out; have a5 := lo8.out; have a6 := lo9.out; have a7 := z1.out; have a8 := z3.out; have a9 := z4.out; have a10 := z5.out
              unfold Apart; omega)
            clear hW5 xW4 ne1 ne2 lo1 lo2 lo8 lo9 z1 z3 z4 z5
            refine wpList_store_two rfl 91 (.tmp 8) (.tmp 29) rfl g8 _ _ 91 _ _ rfl rfl t8.out size_cor rfl rfl ?_
            refine wpList_store_two rfl 91 (.tmp 9) (.tmp 31) rfl g9 _ _ 91 _ _ rfl rfl (six_t9 t9.out nn.out) size_cor rfl rfl ?_
            have six := hideP (six_end (n := n) nn.out t8.out t9.out o1.out p1.out o2.out p2.out x5.out)
            clear nn t8 t9 o1 p1 o2 p2 x5 Hlol Hhil HhL HhH HtR HtU HtO c1 c2 c3 cb AL AH h1 h8
            obtain ⟨W6, hW6⟩ : ∃ W, W = (((W5.setCell ⟨g8, 0, none⟩ (.slice (some ⟨r1, 0, none⟩) n s1)).setCell ⟨g8, 1, none⟩ (.slice (some ⟨q1, 0, none⟩) n u1)).setCell ⟨g9, 0, none⟩ (.slice (some ⟨r2, 0, none⟩) n s2)).setCell ⟨g9, 1, none⟩ (.slice (some ⟨q2, 0, none⟩) n u2) := ⟨_, rfl⟩
            rw [← hW6] at six ⊢
            clear hW6
            go_wp2
            go_meet
            exact ⟨_, _, _, _, _, _, _, _, _, _, rfl, rfl, six⟩
          · skip
            refine wpT_buildK (by rfl) (fun V4 hV4 => ?_)
            refine ⟨.pointer (some ⟨V4.heap.size, 0, none⟩), V4.alloc (.cells #[.slice none 0 0, .slice none 0 0] 91), ⟨by go_simp, Ext.alloc _ _⟩, fun K hK => ?_⟩
            go_simp
            refine hK _ ?_
            clear hK K
            obtain ⟨W4, h_⟩ : ∃ W, W = V4.alloc (.cells #[.slice none 0 0, .slice none 0 0] 91) := ⟨_, rfl⟩
            obtain ⟨g8, g_⟩ : ∃ g, g = V4.heap.size := ⟨_, rfl⟩
            have e_ : Ext V4 W4 := by rw [h_]; exact Ext.alloc _ _
            have t8 := hideP (show Two W4 g8 91 (.slice none 0 0) (.slice none 0 0) by rw [h_, g_]; exact Two.new _ _ _ _)
            have lo8 := hideP (show V4.heap.size ≤ g8 ∧ g8 < W4.heap.size from ⟨Nat.le_of_eq g_.symm, t8.out.lt⟩)
            have xW4 := hideP ((xW5.out.trans hV4).trans e_)
            have z4 := hideP (show W5.heap.size ≤ V4.heap.size from hV4.size)
            replace o1 := hideP (o1.out.ext (hV4.trans e_))
            replace p1 := hideP (p1.out.ext (hV4.trans e_))
            replace t9 := hideP (t9.out.ext (hV4.trans e_))
            rw [← h_, ← g_]
            clear h_ g_ e_ hV4
            refine wpT_loudK 54 #[.agg #[.slice L n dl, .slice H n sh]] (by rfl) (fun W' => by go_simp) (fun V3 hV3 => (HtO.out V3 (AL.out.ext (xW4.out.trans hV3)) (AH.out.ext (xW4.out.trans hV3))).mono ?_)
            rintro e W3 ⟨RR, s2, QQ, u2, rfl, hb_, ho_, hp_, hs_⟩
            obtain ⟨r2, rfl, ho1_, ho2_⟩ := ho_.at Hlol.out h1
            obtain ⟨q2, rfl, hp1_, hp2_⟩ := hp_.at Hhil.out h1
            have ne2 := hideP (show r2 ≠ q2 from sep_ne hs_)
            have lo2 := hideP (show V3.heap.size ≤ r2 ∧ V3.heap.size ≤ q2 ∧ r2 < W3.heap.size ∧ q2 < W3.heap.size from ⟨ho1_, hp1_, ho2_, hp2_⟩)
            have o2 := hideP (ho_.mono (show wq.heap.size ≤ V3.heap.size from ((xW4.out.trans hV3)).size))
            have p2 := hideP (hp_.mono (show wq.heap.size ≤ V3.heap.size from ((xW4.out.trans hV3)).size))
            have xW3 := hideP ((xW4.out.trans hV3).trans (Ext.of_below hb_))
            have z3 := hideP (show W4.heap.size ≤ V3.heap.size from hV3.size)
            replace o1 := hideP (o1.out.ext (hV3.trans (Ext.of_below hb_)))
            replace p1 := hideP (p1.out.ext (hV3.trans (Ext.of_below hb_)))
            replace t9 := hideP (t9.out.ext (hV3.trans (Ext.of_below hb_)))
            replace t8 := hideP (t8.out.ext (hV3.trans (Ext.of_below hb_)))
            refine ⟨_, rfl, Ext.of_below hb_, fun K hK => ?_⟩
            clear hV3 hb_ ho_ hp_ hs_ ho1_ ho2_ hp1_ hp2_
            go_simp
            refine hK _ ?_
            clear hK K
            refine wpT_nil (fun W5 hW5 => ?_)
            simp only [List.drop_succ_cons, List.drop_zero, List.drop_nil]
            have x5 := hideP (xW3.out.trans hW5)
            replace o1 := hideP (o1.out.ext hW5)
            replace p1 := hideP (p1.out.ext hW5)
            replace o2 := hideP (o2.out.ext hW5)
            replace p2 := hideP (p2.out.ext hW5)
            replace t8 := hideP (t8.out.ext hW5)
            replace t9 := hideP (t9.out.ext hW5)
            have nn := hideP (show Apart wq.heap.size g8 g9 r1 q1 r2 q2 by
              have a1 := ne1.out; have a2 := ne2.out; have a3 := lo1.out; have a4 := lo2.out; have a5 := lo8.out; have a6 := lo9.out; have a7 := z1.out; have a8 := z3.out; have a9 := z4.out; have a10 := z5.out
              unfold Apart; omega)
            clear hW5 xW3 ne1 ne2 lo1 lo2 lo8 lo9 z1 z3 z4 z5
            refine wpList_store_two rfl 91 (.tmp 8) (.tmp 29) rfl g8 _ _ 91 _ _ rfl rfl t8.out size_cor rfl rfl ?_
            refine wpList_store_two rfl 91 (.tmp 9) (.tmp 31) rfl g9 _ _ 91 _ _ rfl rfl (six_t9 t9.out nn.out) size_cor rfl rfl ?_
            have six := hideP (six_end (n := n) nn.out t8.out t9.out o1.out p1.out o2.out p2.out x5.out)
            clear nn t8 t9 o1 p1 o2 p2 x5 Hlol Hhil HhL HhH HtR HtU HtO c1 c2 c3 cb AL AH h1 h8
            obtain ⟨W6, hW6⟩ : ∃ W, W = (((W5.setCell ⟨g8, 0, none⟩ (.slice (some ⟨r1, 0, none⟩) n s1)).setCell ⟨g8, 1, none⟩ (.slice (some ⟨q1, 0, none⟩) n u1)).setCell ⟨g9, 0, none⟩ (.slice (some ⟨r2, 0, none⟩) n s2)).setCell ⟨g9, 1, none⟩ (.slice (some ⟨q2, 0, none⟩) n u2) := ⟨_, rfl⟩
            rw [← hW6] at six ⊢
            clear hW6
            go_wp2
            go_meet
            exact ⟨_, _, _, _, _, _, _, _, _, _, rfl, rfl, six⟩
    · skip
      refine wpT_alt ?_ ?_
      · skip
        refine wpT_buildK (by rfl) (fun V4 hV4 => ?_)
        refine ⟨.pointer (some ⟨V4.heap.size, 0, none⟩), V4.alloc (.cells #[.slice none 0 0, .slice none 0 0] 91), ⟨by go_simp, Ext.alloc _ _⟩, fun K hK => ?_⟩
        go_simp
        refine hK _ ?_
        clear hK K
        obtain ⟨W4, h_⟩ : ∃ W, W = V4.alloc (.cells #[.slice none 0 0, .slice none 0 0] 91) := ⟨_, rfl⟩
        obtain ⟨g8, g_⟩ : ∃ g, g = V4.heap.size := ⟨_, rfl⟩
        have e_ : Ext V4 W4 := by rw [h_]; exact Ext.alloc _ _
        have t8 := hideP (show Two W4 g8 91 (.slice none 0 0) (.slice none 0 0) by rw [h_, g_]; exact Two.new _ _ _ _)
        have lo8 := hideP (show V4.heap.size ≤ g8 ∧ g8 < W4.heap.size from ⟨Nat.le_of_eq g_.symm, t8.out.lt⟩)
        have xW4 := hideP (hV4.drew_left.trans e_)
        have z4 := hideP (show wq.heap.size ≤ V4.heap.size from hV4.size)
        rw [← h_, ← g_]
        clear h_ g_ e_ hV4
        refine wpT_alt ?_ ?_
        · skip
          refine wpT_loudK 54 #[.agg #[.slice L n dl, .slice H n sh]] (by rfl) (fun W' => by go_simp) (fun V1 hV1 => (HtO.out V1 (AL.out.ext (xW4.out.trans hV1)) (AH.out.ext (xW4.out.trans hV1))).mono ?_)
          rintro e W1 ⟨RR, s1, QQ, u1, rfl, hb_, ho_, hp_, hs_⟩
          obtain ⟨r1, rfl, ho1_, ho2_⟩ := ho_.at Hlol.out h1
          obtain ⟨q1, rfl, hp1_, hp2_⟩ := hp_.at Hhil.out h1
          have ne1 := hideP (show r1 ≠ q1 from sep_ne hs_)
          have lo1 := hideP (show V1.heap.size ≤ r1 ∧ V1.heap.size ≤ q1 ∧ r1 < W1.heap.size ∧ q1 < W1.heap.size from ⟨ho1_, hp1_, ho2_, hp2_⟩)
          have o1 := hideP (ho_.mono (show wq.heap.size ≤ V1.heap.size from ((xW4.out.trans hV1)).size))
          have p1 := hideP (hp_.mono (show wq.heap.size ≤ V1.heap.size from ((xW4.out.trans hV1)).size))
          have xW1 := hideP ((xW4.out.trans hV1).trans (Ext.of_below hb_))
          have z1 := hideP (show W4.heap.size ≤ V1.heap.size from hV1.size)
          replace t8 := hideP (t8.out.ext (hV1.trans (Ext.of_below hb_)))
          refine ⟨_, rfl, Ext.of_below hb_, fun K hK => ?_⟩
          clear hV1 hb_ ho_ hp_ hs_ ho1_ ho2_ hp1_ hp2_
          go_simp
          refine hK _ ?_
          clear hK K
          refine wpT_alt ?_ ?_
          · skip
            refine wpT_loudK 54 #[.agg #[.slice L n dl, .slice H n sh]] (by rfl) (fun W' => by go_simp) (fun V3 hV3 => (HtO.out V3 (AL.out.ext (xW1.out.trans hV3)) (AH.out.ext (xW1.out.trans hV3))).mono ?_)
            rintro e W3 ⟨RR, s2, QQ, u2, rfl, hb_, ho_, hp_, hs_⟩
            obtain ⟨r2, rfl, ho1_, ho2_⟩ := ho_.at Hlol.out h1
            obtain ⟨q2, rfl, hp1_, hp2_⟩ := hp_.at Hhil.out h1
            have ne2 := hideP (show r2 ≠ q2 from sep_ne hs_)
            have lo2 := hideP (show V3.heap.size ≤ r2 ∧ V3.heap.size ≤ q2 ∧ r2 < W3.heap.size ∧ q2 < W3.heap.size from ⟨ho1_, hp1_, ho2_, hp2_⟩)
            have o2 := hideP (ho_.mono (show wq.heap.size ≤ V3.heap.size from ((xW1.out.trans hV3)).size))
            have p2 := hideP (hp_.mono (show wq.heap.size ≤ V3.heap.size from ((xW1.out.trans hV3)).size))
            have xW3 := hideP ((xW1.out.trans hV3).trans (Ext.of_below hb_))
            have z3 := hideP (show W1.heap.size ≤ V3.heap.size from hV3.size)
            replace t8 := hideP (t8.out.ext (hV3.trans (Ext.of_below hb_)))
            replace o1 := hideP (o1.out.ext (hV3.trans (Ext.of_below hb_)))
            replace p1 := hideP (p1.out.ext (hV3.trans (Ext.of_below hb_)))
            refine ⟨_, rfl, Ext.of_below hb_, fun K hK => ?_⟩
            clear hV3 hb_ ho_ hp_ hs_ ho1_ ho2_ hp1_ hp2_
            go_simp
            refine hK _ ?_
            clear hK K
            refine wpT_buildK (by rfl) (fun V5 hV5 => ?_)
            refine ⟨.pointer (some ⟨V5.heap.size, 0, none⟩), V5.alloc (.cells #[.slice none 0 0, .slice none 0 0] 91), ⟨by go_simp, Ext.alloc _ _⟩, fun K hK => ?_⟩
            go_simp
            refine hK _ ?_
            clear hK K
            obtain ⟨W5, h_⟩ : ∃ W, W = V5.alloc (.cells #[.slice none 0 0, .slice none 0 0] 91) := ⟨_, rfl⟩
            obtain ⟨g9, g_⟩ : ∃ g, g = V5.heap.size := ⟨_, rfl⟩
            have e_ : Ext V5 W5 := by rw [h_]; exact Ext.alloc _ _
            have t9 := hideP (show Two W5 g9 91 (.slice none 0 0) (.slice none 0 0) by rw [h_, g_]; exact Two.new _ _ _ _)
            have lo9 := hideP (show V5.heap.size ≤ g9 ∧ g9 < W5.heap.size from ⟨Nat.le_of_eq g_.symm, t9.out.lt⟩)
            have xW5 := hideP ((xW3.out.trans hV5).trans e_)
            have z5 := hideP (show W3.heap.size ≤ V5.heap.size from hV5.size)
            replace t8 := hideP (t8.out.ext (hV5.trans e_))
            replace o1 := hideP (o1.out.ext (hV5.trans e_))
            replace p1 := hideP (p1.out.ext (hV5.trans e_))
            replace o2 := hideP (o2.out.ext (hV5.trans e_))
            replace p2 := hideP (p2.out.ext (hV5.trans e_))
            rw [← h_, ← g_]
            clear h_ g_ e_ hV5
            refine wpT_nil (fun W5 hW5 => ?_)
            simp only [List.drop_succ_cons, List.drop_zero, List.drop_nil]
            have x5 := hideP (xW5.out.trans hW5)
            replace o1 := hideP (o1.out.ext hW5)
            replace p1 := hideP (p1.out.ext hW5)
            replace o2 := hideP (o2.out.ext hW5)
            replace p2 := hideP (p2.out.ext hW5)
            replace t8 := hideP (t8.out.ext hW5)
            replace t9 := hideP (t9.out.ext hW5)
            have nn := hideP (show Apart wq.heap.size g8 g9 r1 q1 r2 q2 by
              have a1 := ne1.out; have a2 := ne2.out; have a3 := lo1.out; have a4 := lo2.out; have a5 := lo8.out; have a6 := lo9.out; have a7 := z1.out; have a8 := z3.out; have a9 := z4.out; have a10 := z5.out
              unfold Apart; omega)
            clear hW5 xW5 ne1 ne2 lo1 lo2 lo8 lo9 z1 z3 z4 z5
            refine wpList_store_two rfl 91 (.tmp 8) (.tmp 29) rfl g8 _ _ 91 _ _ rfl rfl t8.out size_cor rfl rfl ?_
            refine wpList_store_two rfl 91 (.tmp 9) (.tmp 31) rfl g9 _ _ 91 _ _ rfl rfl (six_t9 t9.out nn.out) size_cor rfl rfl ?_
            have six := hideP (six_end (n := n) nn.out t8.out t9.out o1.out p1.out o2.out p2.out x5.out)
            clear nn t8 t9 o1 p1 o2 p2 x5 Hlol Hhil HhL HhH HtR HtU HtO c1 c2 c3 cb AL AH h1 h8
            obtain ⟨W6, hW6⟩ : ∃ W, W = (((W5.setCell ⟨g8, 0, none⟩ (.slice (some ⟨r1, 0, none⟩) n s1)).setCell ⟨g8, 1, none⟩ (.slice (some ⟨q1, 0, none⟩) n u1)).setCell ⟨g9, 0, none⟩ (.slice (some ⟨r2, 0, none⟩) n s2)).setCell ⟨g9, 1, none⟩ (.slice (some ⟨q2, 0, none⟩) n u2) := ⟨_, rfl⟩
            rw [← hW6] at six ⊢
            clear hW6
            go_wp2
            go_meet
            exact ⟨_, _, _, _, _, _, _, _, _, _, rfl, rfl, six⟩
          · skip
            refine wpT_buildK (by rfl) (fun V5 hV5 => ?_)
            refine ⟨.pointer (some ⟨V5.heap.size, 0, none⟩), V5.alloc (.cells #[.slice none 0 0, .slice none 0 0] 91), ⟨by go_simp, Ext.alloc _ _⟩, fun K hK => ?_⟩
            go_simp
            refine hK _ ?_
            clear hK K
            obtain ⟨W5, h_⟩ : ∃ W, W = V5.alloc (.cells #[.slice none 0 0, .slice none 0 0] 91) := ⟨_, rfl⟩
            obtain ⟨g9, g_⟩ : ∃ g, g = V5.heap.size := ⟨_, rfl⟩
            have e_ : Ext V5 W5 := by rw [h_]; exact Ext.alloc _ _
            have t9 := hideP (show Two W5 g9 91 (.slice none 0 0) (.slice none 0 0) by rw [h_, g_]; exact Two.new _ _ _ _)
            have lo9 := hideP (show V5.heap.size ≤ g9 ∧ g9 < W5.heap.size from ⟨Nat.le_of_eq g_.symm, t9.out.lt⟩)
            have xW5 := hideP ((xW1.out.trans hV5).trans e_)
            have z5 := hideP (show W1.heap.size ≤ V5.heap.size from hV5.size)
            replace t8 := hideP (t8.out.ext (hV5.trans e_))
            replace o1 := hideP (o1.out.ext (hV5.trans e_))
            replace p1 := hideP (p1.out.ext (hV5.trans e_))
            rw [← h_, ← g_]
            clear h_ g_ e_ hV5
            refine wpT_loudK 54 #[.agg #[.slice L n dl, .slice H n sh]] (by rfl) (fun W' => by go_simp) (fun V3 hV3 => (HtO.out V3 (AL.out.ext (xW5.out.trans hV3)) (AH.out.ext (xW5.out.trans hV3))).mono ?_)
            rintro e W3 ⟨RR, s2, QQ, u2, rfl, hb_, ho_, hp_, hs_⟩
            obtain ⟨r2, rfl, ho1_, ho2_⟩ := ho_.at Hlol.out h1
            obtain ⟨q2, rfl, hp1_, hp2_⟩ := hp_.at Hhil.out h1
            have ne2 := hideP (show r2 ≠ q2 from sep_ne hs_)
            have lo2 := hideP (show V3.heap.size ≤ r2 ∧ V3.heap.size ≤ q2 ∧ r2 < W3.heap.size ∧ q2 < W3.heap.size from ⟨ho1_, hp1_, ho2_, hp2_⟩)
            have o2 := hideP (ho_.mono (show wq.heap.size ≤ V3.heap.size from ((xW5.out.trans hV3)).size))
            have p2 := hideP (hp_.mono (show wq.heap.size ≤ V3.heap.size from ((xW5.out.trans hV3)).size))
            have xW3 := hideP ((xW5.out.trans hV3).trans (Ext.of_below hb_))
            have z3 := hideP (show W5.heap.size ≤ V3.heap.size from hV3.size)
            replace t8 := hideP (t8.out.ext (hV3.trans (Ext.of_below hb_)))
            replace o1 := hideP (o1.out.ext (hV3.trans (Ext.of_below hb_)))
            replace p1 := hideP (p1.out.ext (hV3.trans (Ext.of_below hb_)))
            replace t9 := hideP (t9.out.ext (hV3.trans (Ext.of_below hb_)))
            refine ⟨_, rfl, Ext.of_below hb_, fun K hK => ?_⟩
            clear hV3 hb_ ho_ hp_ hs_ ho1_ ho2_ hp1_ hp2_
            go_simp
            refine hK _ ?_
            clear hK K
            refine wpT_nil (fun W5 hW5 => ?_)
            simp only [List.drop_succ_cons, List.drop_zero, List.drop_nil]
            have x5 := hideP (xW3.out.trans hW5)
            replace o1 := hideP (o1.out.ext hW5)
            replace p1 := hideP (p1.out.ext hW5)
            replace o2 := hideP (o2.out.ext hW5)
            replace p2 := hideP (p2.out.ext hW5)
            replace t8 := hideP (t8.out.ext hW5)
            replace t9 := hideP (t9.out.ext hW5)
            have nn := hideP (show Apart wq.heap.size g8 g9 r1 q1 r2 q2 by
              have a1 := ne1.out; have a2 := ne2.out; have a3 := lo1.out; have a4 := lo2.out; have a5 := lo8.out; have a6 := lo9.out; have a7 := z1.out; have a8 := z3.out; have a9 := z4.out; have a10 := z5.out
              unfold Apart; omega)
            clear hW5 xW3 ne1 ne2 lo1 lo2 lo8 lo9 z1 z3 z4 z5
            refine wpList_store_two rfl 91 (.tmp 8) (.tmp 29) rfl g8 _ _ 91 _ _ rfl rfl t8.out size_cor rfl rfl ?_
            refine wpList_store_two rfl 91 (.tmp 9) (.tmp 31) rfl g9 _ _ 91 _ _ rfl rfl (six_t9 t9.out nn.out) size_cor rfl rfl ?_
            have six := hideP (six_end (n := n) nn.out t8.out t9.out o1.out p1.out o2.out p2.out x5.out)
            clear nn t8 t9 o1 p1 o2 p2 x5 Hlol Hhil HhL HhH HtR HtU HtO c1 c2 c3 cb AL AH h1 h8
            obtain ⟨W6, hW6⟩ : ∃ W, W = (((W5.setCell ⟨g8, 0, none⟩ (.slice (some ⟨r1, 0, none⟩) n s1)).setCell ⟨g8, 1, none⟩ (.slice (some ⟨q1, 0, none⟩) n u1)).setCell ⟨g9, 0, none⟩ (.slice (some ⟨r2, 0, none⟩) n s2)).setCell ⟨g9, 1, none⟩ (.slice (some ⟨q2, 0, none⟩) n u2) := ⟨_, rfl⟩
            rw [← hW6] at six ⊢
            clear hW6
            go_wp2
            go_meet
            exact ⟨_, _, _, _, _, _, _, _, _, _, rfl, rfl, six⟩
        · skip
          refine wpT_buildK (by rfl) (fun V5 hV5 => ?_)
          refine ⟨.pointer (some ⟨V5.heap.size, 0, none⟩), V5.alloc (.cells #[.slice none 0 0, .slice none 0 0] 91), ⟨by go_simp, Ext.alloc _ _⟩, fun K hK => ?_⟩
          go_simp
          refine hK _ ?_
          clear hK K
          obtain ⟨W5, h_⟩ : ∃ W, W = V5.alloc (.cells #[.slice none 0 0, .slice none 0 0] 91) := ⟨_, rfl⟩
          obtain ⟨g9, g_⟩ : ∃ g, g = V5.heap.size := ⟨_, rfl⟩
          have e_ : Ext V5 W5 := by rw [h_]; exact Ext.alloc _ _
          have t9 := hideP (show Two W5 g9 91 (.slice none 0 0) (.slice none 0 0) by rw [h_, g_]; exact Two.new _ _ _ _)
          have lo9 := hideP (show V5.heap.size ≤ g9 ∧ g9 < W5.heap.size from ⟨Nat.le_of_eq g_.symm, t9.out.lt⟩)
          have xW5 := hideP ((xW4.out.trans hV5).trans e_)
          have z5 := hideP (show W4.heap.size ≤ V5.heap.size from hV5.size)
          replace t8 := hideP (t8.out.ext (hV5.trans e_))
          rw [← h_, ← g_]
          clear h_ g_ e_ hV5
          refine wpT_loudK 54 #[.agg #[.slice L n dl, .slice H n sh]] (by rfl) (fun W' => by go_simp) (fun V1 hV1 => (HtO.out V1 (AL.out.ext (xW5.out.trans hV1)) (AH.out.ext (xW5.out.trans hV1))).mono ?_)
          rintro e W1 ⟨RR, s1, QQ, u1, rfl, hb_, ho_, hp_, hs_⟩
          obtain ⟨r1, rfl, ho1_, ho2_⟩ := ho_.at Hlol.out h1
          obtain ⟨q1, rfl, hp1_, hp2_⟩ := hp_.at Hhil.out h1
          have ne1 := hideP (show r1 ≠ q1 from sep_ne hs_)
          have lo1 := hideP (show V1.heap.size ≤ r1 ∧ V1.heap.size ≤ q1 ∧ r1 < W1.heap.size ∧ q1 < W1.heap.size from ⟨ho1_, hp1_, ho2_, hp2_⟩)
          have o1 := hideP (ho_.mono (show wq.heap.size ≤ V1.heap.size from ((xW5.out.trans hV1)).size))
          have p1 := hideP (hp_.mono (show wq.heap.size ≤ V1.heap.size from ((xW5.out.trans hV1)).size))
          have xW1 := hideP ((xW5.out.trans hV1).trans (Ext.of_below hb_))
          have z1 := hideP (show W5.heap.size ≤ V1.heap.size from hV1.size)
          replace t8 := hideP (t8.out.ext (hV1.trans (Ext.of_below hb_)))
          replace t9 := hideP (t9.out.ext (hV1.trans (Ext.of_below hb_)))
          refine ⟨_, rfl, Ext.of_below hb_, fun K hK => ?_⟩
          clear hV1 hb_ ho_ hp_ hs_ ho1_ ho2_ hp1_ hp2_
          go_simp
          refine hK _ ?_
          clear hK K
          refine wpT_loudK 54 #[.agg #[.slice L n dl, .slice H n sh]] (by rfl) (fun W' => by go_simp) (fun V3 hV3 => (HtO.out V3 (AL.out.ext (xW1.out.trans hV3)) (AH.out.ext (xW1.out.trans hV3))).mono ?_)
          rintro e W3 ⟨RR, s2, QQ, u2, rfl, hb_, ho_, hp_, hs_⟩
          obtain ⟨r2, rfl, ho1_, ho2_⟩ := ho_.at Hlol.out h1
          obtain ⟨q2, rfl, hp1_, hp2_⟩ := hp_.at Hhil.out h1
          have ne2 := hideP (show r2 ≠ q2 from sep_ne hs_)
          have lo2 := hideP (show V3.heap.size ≤ r2 ∧ V3.heap.size ≤ q2 ∧ r2 < W3.heap.size ∧ q2 < W3.heap.size from ⟨ho1_, hp1_, ho2_, hp2_⟩)
          have o2 := hideP (ho_.mono (show wq.heap.size ≤ V3.heap.size from ((xW1.out.trans hV3)).size))
          have p2 := hideP (hp_.mono (show wq.heap.size ≤ V3.heap.size from ((xW1.out.trans hV3)).size))
          have xW3 := hideP ((xW1.out.trans hV3).trans (Ext.of_below hb_))
          have z3 := hideP (show W1.heap.size ≤ V3.heap.size from hV3.size)
          replace t8 := hideP (t8.out.ext (hV3.trans (Ext.of_below hb_)))
          replace t9 := hideP (t9.out.ext (hV3.trans (Ext.of_below hb_)))
          replace o1 := hideP (o1.out.ext (hV3.trans (Ext.of_below hb_)))
          replace p1 := hideP (p1.out.ext (hV3.trans (Ext.of_below hb_)))
          refine ⟨_, rfl, Ext.of_below hb_, fun K hK => ?_⟩
          clear hV3 hb_ ho_ hp_ hs_ ho1_ ho2_ hp1_ hp2_
          go_simp
          refine hK _ ?_
          clear hK K
          refine wpT_nil (fun W5 hW5 => ?_)
          simp only [List.drop_succ_cons, List.drop_zero, List.drop_nil]
          have x5 := hideP (xW3.out.trans hW5)
          replace o1 := hideP (o1.out.ext hW5)
          replace p1 := hideP (p1.out.ext hW5)
          replace o2 := hideP (o2.out.ext hW5)
          replace p2 := hideP (p2.out.ext hW5)
          replace t8 := hideP (t8.out.ext hW5)
          replace t9 := hideP (t9.out.ext hW5)
          have nn := hideP (show Apart wq.heap.size g8 g9 r1 q1 r2 q2 by
            have a1 := ne1.out; have a2 := ne2.out; have a3 := lo1.out; have a4 := lo2.out; have a5 := lo8.out; have a6 := lo9.out; have a7 := z1.out; have a8 := z3.out; have a9 := z4.out; have a10 := z5.out
            unfold Apart; omega)
          clear hW5 xW3 ne1 ne2 lo1 lo2 lo8 lo9 z1 z3 z4 z5
          refine wpList_store_two rfl 91 (.tmp 8) (.tmp 29) rfl g8 _ _ 91 _ _ rfl rfl t8.out size_cor rfl rfl ?_
          refine wpList_store_two rfl 91 (.tmp 9) (.tmp 31) rfl g9 _ _ 91 _ _ rfl rfl (six_t9 t9.out nn.out) size_cor rfl rfl ?_
          have six := hideP (six_end (n := n) nn.out t8.out t9.out o1.out p1.out o2.out p2.out x5.out)
          clear nn t8 t9 o1 p1 o2 p2 x5 Hlol Hhil HhL HhH HtR HtU HtO c1 c2 c3 cb AL AH h1 h8
          obtain ⟨W6, hW6⟩ : ∃ W, W = (((W5.setCell ⟨g8, 0, none⟩ (.slice (some ⟨r1, 0, none⟩) n s1)).setCell ⟨g8, 1, none⟩ (.slice (some ⟨q1, 0, none⟩) n u1)).setCell ⟨g9, 0, none⟩ (.slice (some ⟨r2, 0, none⟩) n s2)).setCell ⟨g9, 1, none⟩ (.slice (some ⟨q2, 0, none⟩) n u2) := ⟨_, rfl⟩
          rw [← hW6] at six ⊢
          clear hW6
          go_wp2
          go_meet
          exact ⟨_, _, _, _, _, _, _, _, _, _, rfl, rfl, six⟩
      · skip
        refine wpT_buildK (by rfl) (fun V5 hV5 => ?_)
        refine ⟨.pointer (some ⟨V5.heap.size, 0, none⟩), V5.alloc (.cells #[.slice none 0 0, .slice none 0 0] 91), ⟨by go_simp, Ext.alloc _ _⟩, fun K hK => ?_⟩
        go_simp
        refine hK _ ?_
        clear hK K
        obtain ⟨W5, h_⟩ : ∃ W, W = V5.alloc (.cells #[.slice none 0 0, .slice none 0 0] 91) := ⟨_, rfl⟩
        obtain ⟨g9, g_⟩ : ∃ g, g = V5.heap.size := ⟨_, rfl⟩
        have e_ : Ext V5 W5 := by rw [h_]; exact Ext.alloc _ _
        have t9 := hideP (show Two W5 g9 91 (.slice none 0 0) (.slice none 0 0) by rw [h_, g_]; exact Two.new _ _ _ _)
        have lo9 := hideP (show V5.heap.size ≤ g9 ∧ g9 < W5.heap.size from ⟨Nat.le_of_eq g_.symm, t9.out.lt⟩)
        have xW5 := hideP (hV5.drew_left.trans e_)
        have z5 := hideP (show wq.heap.size ≤ V5.heap.size from hV5.size)
        rw [← h_, ← g_]
        clear h_ g_ e_ hV5
        refine wpT_alt ?_ ?_
        · skip
          refine wpT_loudK 54 #[.agg #[.slice L n dl, .slice H n sh]] (by rfl) (fun W' => by go_simp) (fun V1 hV1 => (HtO.out V1 (AL.out.ext (xW5.out.trans hV1)) (AH.out.ext (xW5.out.trans hV1))).mono ?_)
          rintro e W1 ⟨RR, s1, QQ, u1, rfl, hb_, ho_, hp_, hs_⟩
          obtain ⟨r1, rfl, ho1_, ho2_⟩ := ho_.at Hlol.out h1
          obtain ⟨q1, rfl, hp1_, hp2_⟩ := hp_.at Hhil.out h1
          have ne1 := hideP (show r1 ≠ q1 from sep_ne hs_)
          have lo1 := hideP (show V1.heap.size ≤ r1 ∧ V1.heap.size ≤ q1 ∧ r1 < W1.heap.size ∧ q1 < W1.heap.size from ⟨ho1_, hp1_, ho2_, hp2_⟩)
          have o1 := hideP (ho_.mono (show wq.heap.size ≤ V1.heap.size from ((xW5.out.trans hV1)).size))
          have p1 := hideP (hp_.mono (show wq.heap.size ≤ V1.heap.size from ((xW5.out.trans hV1)).size))
          have xW1 := hideP ((xW5.out.trans hV1).trans (Ext.of_below hb_))
          have z1 := hideP (show W5.heap.size ≤ V1.heap.size from hV1.size)
          replace t9 := hideP (t9.out.ext (hV1.trans (Ext.of_below hb_)))
          refine ⟨_, rfl, Ext.of_below hb_, fun K hK => ?_⟩
          clear hV1 hb_ ho_ hp_ hs_ ho1_ ho2_ hp1_ hp2_
          go_simp
          refine hK _ ?_
          clear hK K
          refine wpT_alt ?_ ?_
          · skip
            refine wpT_loudK 54 #[.agg #[.slice L n dl, .slice H n sh]] (by rfl) (fun W' => by go_simp) (fun V3 hV3 => (HtO.out V3 (AL.out.ext (xW1.out.trans hV3)) (AH.out.ext (xW1.out.trans hV3))).mono ?_)
            rintro e W3 ⟨RR, s2, QQ, u2, rfl, hb_, ho_, hp_, hs_⟩
            obtain ⟨r2, rfl, ho1_, ho2_⟩ := ho_.at Hlol.out h1
            obtain ⟨q2, rfl, hp1_, hp2_⟩ := hp_.at Hhil.out h1
            have ne2 := hideP (show r2 ≠ q2 from sep_ne hs_)
            have lo2 := hideP (show V3.heap.size ≤ r2 ∧ V3.heap.size ≤ q2 ∧ r2 < W3.heap.size ∧ q2 < W3.heap.size from ⟨ho1_, hp1_, ho2_, hp2_⟩)
            have o2 := hideP (ho_.mono (show wq.heap.size ≤ V3.heap.size from ((xW1.out.trans hV3)).size))
            have p2 := hideP (hp_.mono (show wq.heap.size ≤ V3.heap.size from ((xW1.out.trans hV3)).size))
            have xW3 := hideP ((xW1.out.trans hV3).trans (Ext.of_below hb_))
            have z3 := hideP (show W1.heap.size ≤ V3.heap.size from hV3.size)
            replace t9 := hideP (t9.out.ext (hV3.trans (Ext.of_below hb_)))
            replace o1 := hideP (o1.out.ext (hV3.trans (Ext.of_below hb_)))
            replace p1 := hideP (p1.out.ext (hV3.trans (Ext.of_below hb_)))
            refine ⟨_, rfl, Ext.of_below hb_, fun K hK => ?_⟩
            clear hV3 hb_ ho_ hp_ hs_ ho1_ ho2_ hp1_ hp2_
            go_simp
            refine hK _ ?_
            clear hK K
            refine wpT_buildK (by rfl) (fun V4 hV4 => ?_)
            refine ⟨.pointer (some ⟨V4.heap.size, 0, none⟩), V4.alloc (.cells #[.slice none 0 0, .slice none 0 0] 91), ⟨by go_simp, Ext.alloc _ _⟩, fun K hK => ?_⟩
            go_simp
            refine hK _ ?_
            clear hK K
            obtain ⟨W4, h_⟩ : ∃ W, W = V4.alloc (.cells #[.slice none 0 0, .slice none 0 0] 91) := ⟨_, rfl⟩
            obtain ⟨g8, g_⟩ : ∃ g, g = V4.heap.size := ⟨_, rfl⟩
            have e_ : Ext V4 W4 := by rw [h_]; exact Ext.alloc _ _
            have t8 := hideP (show Two W4 g8 91 (.slice none 0 0) (.slice none 0 0) by rw [h_, g_]; exact Two.new _ _ _ _)
            have lo8 := hideP (show V4.heap.size ≤ g8 ∧ g8 < W4.heap.size from ⟨Nat.le_of_eq g_.symm, t8.out.lt⟩)
            have xW4 := hideP ((xW3.out.trans hV4).trans e_)
            have z4 := hideP (show W3.heap.size ≤ V4.heap.size from hV4.size)
            replace t9 := hideP (t9.out.ext (hV4.trans e_))
            replace o1 := hideP (o1.out.ext (hV4.trans e_))
            replace p1 := hideP (p1.out.ext (hV4.trans e_))
            replace o2 := hideP (o2.out.ext (hV4.trans e_))
            replace p2 := hideP (p2.out.ext (hV4.trans e_))
            rw [← h_, ← g_]
            clear h_ g_ e_ hV4
            refine wpT_nil (fun W5 hW5 => ?_)
            simp only [List.drop_succ_cons, List.drop_zero, List.drop_nil]
            have x5 := hideP (xW4.out.trans hW5)
            replace o1 := hideP (o1.out.ext hW5)
            replace p1 := hideP (p1.out.ext hW5)
            replace o2 := hideP (o2.out.ext hW5)
            replace p2 := hideP (p2.out.ext hW5)
            replace t8 := hideP (t8.out.ext hW5)
            replace t9 := hideP (t9.out.ext hW5)
            have nn := hideP (show Apart wq.heap.size g8 g9 r1 q1 r2 q2 by
              have a1 := ne1.out; have a2 := ne2.out; have a3 := lo1.out; have a4 := lo2.out; have a5 := lo8.out; have a6 := lo9.out; have a7 := z1.out; have a8 := z3.out; have a9 := z4.out; have a10 := z5.out
              unfold Apart; omega)
            clear hW5 xW4 ne1 ne2 lo1 lo2 lo8 lo9 z1 z3 z4 z5
            refine wpList_store_two rfl 91 (.tmp 8) (.tmp 29) rfl g8 _ _ 91 _ _ rfl rfl t8.out size_cor rfl rfl ?_
            refine wpList_store_two rfl 91 (.tmp 9) (.tmp 31) rfl g9 _ _ 91 _ _ rfl rfl (six_t9 t9.out nn.out) size_cor rfl rfl ?_
            have six := hideP (six_end (n := n) nn.out t8.out t9.out o1.out p1.out o2.out p2.out x5.out)
            clear nn t8 t9 o1 p1 o2 p2 x5 Hlol Hhil HhL HhH HtR HtU HtO c1 c2 c3 cb AL AH h1 h8
            obtain ⟨W6, hW6⟩ : ∃ W, W = (((W5.setCell ⟨g8, 0, none⟩ (.slice (some ⟨r1, 0, none⟩) n s1)).setCell ⟨g8, 1, none⟩ (.slice (some ⟨q1, 0, none⟩) n u1)).setCell ⟨g9, 0, none⟩ (.slice (some ⟨r2, 0, none⟩) n s2)).setCell ⟨g9, 1, none⟩ (.slice (some ⟨q2, 0, none⟩) n u2) := ⟨_, rfl⟩
            rw [← hW6] at six ⊢
            clear hW6
            go_wp2
            go_meet
            exact ⟨_, _, _, _, _, _, _, _, _, _, rfl, rfl, six⟩
          · skip
            refine wpT_buildK (by rfl) (fun V4 hV4 => ?_)
            refine ⟨.pointer (some ⟨V4.heap.size, 0, none⟩), V4.alloc (.cells #[.slice none 0 0, .slice none 0 0] 91), ⟨by go_simp, Ext.alloc _ _⟩, fun K hK => ?_⟩
            go_simp
            refine hK _ ?_
            clear hK K
            obtain ⟨W4, h_⟩ : ∃ W, W = V4.alloc (.cells #[.slice none 0 0, .slice none 0 0] 91) := ⟨_, rfl⟩
            obtain ⟨g8, g_⟩ : ∃ g, g = V4.heap.size := ⟨_, rfl⟩
            have e_ : Ext V4 W4 := by rw [h_]; exact Ext.alloc _ _
            have t8 := hideP (show Two W4 g8 91 (.slice none 0 0) (.slice none 0 0) by rw [h_, g_]; exact Two.new _ _ _ _)
            have lo8 := hideP (show V4.heap.size ≤ g8 ∧ g8 < W4.heap.size from ⟨Nat.le_of_eq g_.symm, t8.out.lt⟩)
            have xW4 := hideP ((xW1.out.trans hV4).trans e_)
            have z4 := hideP (show W1.heap.size ≤ V4.heap.size from hV4.size)
            replace t9 := hideP (t9.out.ext (hV4.trans e_))
            replace o1 := hideP (o1.out.ext (hV4.trans e_))
            replace p1 := hideP (p1.out.ext (hV4.trans e_))
            rw [← h_, ← g_]
            clear h_ g_ e_ hV4
            refine wpT_loudK 54 #[.agg #[.slice L n dl, .slice H n sh]] (by rfl) (fun W' => by go_simp) (fun V3 hV3 => (HtO.out V3 (AL.out.ext (xW4.out.trans hV3)) (AH.out.ext (xW4.out.trans hV3))).mono ?_)
            rintro e W3 ⟨RR, s2, QQ, u2, rfl, hb_, ho_, hp_, hs_⟩
            obtain ⟨r2, rfl, ho1_, ho2_⟩ := ho_.at Hlol.out h1
            obtain ⟨q2, rfl, hp1_, hp2_⟩ := hp_.at Hhil.out h1
            have ne2 := hideP (show r2 ≠ q2 from sep_ne hs_)
            have lo2 := hideP (show V3.heap.size ≤ r2 ∧ V3.heap.size ≤ q2 ∧ r2 < W3.heap.size ∧ q2 < W3.heap.size from ⟨ho1_, hp1_, ho2_, hp2_⟩)
            have o2 := hideP (ho_.mono (show wq.heap.size ≤ V3.heap.size from ((xW4.out.trans hV3)).size))
            have p2 := hideP (hp_.mono (show wq.heap.size ≤ V3.heap.size from ((xW4.out.trans hV3)).size))
            have xW3 := hideP ((xW4.out.trans hV3).trans (Ext.of_below hb_))
            have z3 := hideP (show W4.heap.size ≤ V3.heap.size from hV3.size)
            replace t9 := hideP (t9.out.ext (hV3.trans (Ext.of_below hb_)))
            replace o1 := hideP (o1.out.ext (hV3.trans (Ext.of_below hb_)))
            replace p1 := hideP (p1.out.ext (hV3.trans (Ext.of_below hb_)))
            replace t8 := hideP (t8.out.ext (hV3.trans (Ext.of_below hb_)))
            refine ⟨_, rfl, Ext.of_below hb_, fun K hK => ?_⟩
            clear hV3 hb_ ho_ hp_ hs_ ho1_ ho2_ hp1_ hp2_
            go_simp
            refine hK _ ?_
            clear hK K
            refine wpT_nil (fun W5 hW5 => ?_)
            simp only [List.drop_succ_cons, List.drop_zero, List.drop_nil]
            have x5 := hideP (xW3.out.trans hW5)
            replace o1 := hideP (o1.out.ext hW5)
            replace p1 := hideP (p1.out.ext hW5)
            replace o2 := hideP (o2.out.ext hW5)
            replace p2 := hideP (p2.out.ext hW5)
            replace t8 := hideP (t8.out.ext hW5)
            replace t9 := hideP (t9.out.ext hW5)
            have nn := hideP (show Apart wq.heap.size g8 g9 r1 q1 r2 q2 by
              have a1 := ne1.out; have a2 := ne2.out; have a3 := lo1.out; have a4 := lo2.out; have a5 := lo8.out; have a6 := lo9.out; have a7 := z1.out; have a8 := z3.out; have a9 := z4.out; have a10 := z5.out
              unfold Apart; omega)
            clear hW5 xW3 ne1 ne2 lo1 lo2 lo8 lo9 z1 z3 z4 z5
            refine wpList_store_two rfl 91 (.tmp 8) (.tmp 29) rfl g8 _ _ 91 _ _ rfl rfl t8.out size_cor rfl rfl ?_
            refine wpList_store_two rfl 91 (.tmp 9) (.tmp 31) rfl g9 _ _ 91 _ _ rfl rfl (six_t9 t9.out nn.out) size_cor rfl rfl ?_
            have six := hideP (six_end (n := n) nn.out t8.out t9.out o1.out p1.out o2.out p2.out x5.out)
            clear nn t8 t9 o1 p1 o2 p2 x5 Hlol Hhil HhL HhH HtR HtU HtO c1 c2 c3 cb AL AH h1 h8
            obtain ⟨W6, hW6⟩ : ∃ W, W = (((W5.setCell ⟨g8, 0, none⟩ (.slice (some ⟨r1, 0, none⟩) n s1)).setCell ⟨g8, 1, none⟩ (.slice (some ⟨q1, 0, none⟩) n u1)).setCell ⟨g9, 0, none⟩ (.slice (some ⟨r2, 0, none⟩) n s2)).setCell ⟨g9, 1, none⟩ (.slice (some ⟨q2, 0, none⟩) n u2) := ⟨_, rfl⟩
            rw [← hW6] at six ⊢
            clear hW6
            go_wp2
            go_meet
            exact ⟨_, _, _, _, _, _, _, _, _, _, rfl, rfl, six⟩
        · skip
          refine wpT_buildK (by rfl) (fun V4 hV4 => ?_)
          refine ⟨.pointer (some ⟨V4.heap.size, 0, none⟩), V4.alloc (.cells #[.slice none 0 0, .slice none 0 0] 91), ⟨by go_simp, Ext.alloc _ _⟩, fun K hK => ?_⟩
          go_simp
          refine hK _ ?_
          clear hK K
          obtain ⟨W4, h_⟩ : ∃ W, W = V4.alloc (.cells #[.slice none 0 0, .slice none 0 0] 91) := ⟨_, rfl⟩
          obtain ⟨g8, g_⟩ : ∃ g, g = V4.heap.size := ⟨_, rfl⟩
          have e_ : Ext V4 W4 := by rw [h_]; exact Ext.alloc _ _
          have t8 := hideP (show Two W4 g8 91 (.slice none 0 0) (.slice none 0 0) by rw [h_, g_]; exact Two.new _ _ _ _)
          have lo8 := hideP (show V4.heap.size ≤ g8 ∧ g8 < W4.heap.size from ⟨Nat.le_of_eq g_.symm, t8.out.lt⟩)
          have xW4 := hideP ((xW5.out.trans hV4).trans e_)
          have z4 := hideP (show W5.heap.size ≤ V4.heap.size from hV4.size)
          replace t9 := hideP (t9.out.ext (hV4.trans e_))
          rw [← h_, ← g_]
          clear h_ g_ e_ hV4
          refine wpT_loudK 54 #[.agg #[.slice L n dl, .slice H n sh]] (by rfl) (fun W' => by go_simp) (fun V1 hV1 => (HtO.out V1 (AL.out.ext (xW4.out.trans hV1)) (AH.out.ext (xW4.out.trans hV1))).mono ?_)
          rintro e W1 ⟨RR, s1, QQ, u1, rfl, hb_, ho_, hp_, hs_⟩
          obtain ⟨r1, rfl, ho1_, ho2_⟩ := ho_.at Hlol.out h1
          obtain ⟨q1, rfl, hp1_, hp2_⟩ := hp_.at Hhil.out h1
          have ne1 := hideP (show r1 ≠ q1 from sep_ne hs_)
          have lo1 := hideP (show V1.heap.size ≤ r1 ∧ V1.heap.size ≤ q1 ∧ r1 < W1.heap.size ∧ q1 < W1.heap.size from ⟨ho1_, hp1_, ho2_, hp2_⟩)
          have o1 := hideP (ho_.mono (show wq.heap.size ≤ V1.heap.size from ((xW4.out.trans hV1)).size))
          have p1 := hideP (hp_.mono (show wq.heap.size ≤ V1.heap.size from ((xW4.out.trans hV1)).size))
          have xW1 := hideP ((xW4.out.trans hV1).trans (Ext.of_below hb_))
          have z1 := hideP (show W4.heap.size ≤ V1.heap.size from hV1.size)
          replace t9 := hideP (t9.out.ext (hV1.trans (Ext.of_below hb_)))
          replace t8 := hideP (t8.out.ext (hV1.trans (Ext.of_below hb_)))
          refine ⟨_, rfl, Ext.of_below hb_, fun K hK => ?_⟩
          clear hV1 hb_ ho_ hp_ hs_ ho1_ ho2_ hp1_ hp2_
          go_simp
          refine hK _ ?_
          clear hK K
          refine wpT_loudK 54 #[.agg #[.slice L n dl, .slice H n sh]] (by rfl) (fun W' => by go_simp) (fun V3 hV3 => (HtO.out V3 (AL.out.ext (xW1.out.trans hV3)) (AH.out.ext (xW1.out.trans hV3))).mono ?_)
          rintro e W3 ⟨RR, s2, QQ, u2, rfl, hb_, ho_, hp_, hs_⟩
          obtain ⟨r2, rfl, ho1_, ho2_⟩ := ho_.at Hlol.out h1
          obtain ⟨q2, rfl, hp1_, hp2_⟩ := hp_.at Hhil.out h1
          have ne2 := hideP (show r2 ≠ q2 from sep_ne hs_)
          have lo2 := hideP (show V3.heap.size ≤ r2 ∧ V3.heap.size ≤ q2 ∧ r2 < W3.heap.size ∧ q2 < W3.heap.size from ⟨ho1_, hp1_, ho2_, hp2_⟩)
          have o2 := hideP (ho_.mono (show wq.heap.size ≤ V3.heap.size from ((xW1.out.trans hV3)).size))
          have p2 := hideP (hp_.mono (show wq.heap.size ≤ V3.heap.size from ((xW1.out.trans hV3)).size))
          have xW3 := hideP ((xW1.out.trans hV3).trans (Ext.of_below hb_))
          have z3 := hideP (show W1.heap.size ≤ V3.heap.size from hV3.size)
          replace t9 := hideP (t9.out.ext (hV3.trans (Ext.of_below hb_)))
          replace t8 := hideP (t8.out.ext (hV3.trans (Ext.of_below hb_)))
          replace o1 := hideP (o1.out.ext (hV3.trans (Ext.of_below hb_)))
          replace p1 := hideP (p1.out.ext (hV3.trans (Ext.of_below hb_)))
          refine ⟨_, rfl, Ext.of_below hb_, fun K hK => ?_⟩
          clear hV3 hb_ ho_ hp_ hs_ ho1_ ho2_ hp1_ hp2_
          go_simp
          refine hK _ ?_
          clear hK K
          refine wpT_nil (fun W5 hW5 => ?_)
          simp only [List.drop_succ_cons, List.drop_zero, List.drop_nil]
          have x5 := hideP (xW3.out.trans hW5)
          replace o1 := hideP (o1.out.ext hW5)
          replace p1 := hideP (p1.out.ext hW5)
          replace o2 := hideP (o2.out.ext hW5)
          replace p2 := hideP (p2.out.ext hW5)
          replace t8 := hideP (t8.out.ext hW5)
          replace t9 := hideP (t9.out.ext hW5)
          have nn := hideP (show Apart wq.heap.size g8 g9 r1 q1 r2 q2 by
            have a1 := ne1.out; have a2 := ne2.out; have a3 := lo1.out; have a4 := lo2.out; have a5 := lo8.out; have a6 := lo9.out; have a7 := z1.out; have a8 := z3.out; have a9 := z4.out; have a10 := z5.out
            unfold Apart; omega)
          clear hW5 xW3 ne1 ne2 lo1 lo2 lo8 lo9 z1 z3 z4 z5
          refine wpList_store_two rfl 91 (.tmp 8) (.tmp 29) rfl g8 _ _ 91 _ _ rfl rfl t8.out size_cor rfl rfl ?_
          refine wpList_store_two rfl 91 (.tmp 9) (.tmp 31) rfl g9 _ _ 91 _ _ rfl rfl (six_t9 t9.out nn.out) size_cor rfl rfl ?_
          have six := hideP (six_end (n := n) nn.out t8.out t9.out o1.out p1.out o2.out p2.out x5.out)
          clear nn t8 t9 o1 p1 o2 p2 x5 Hlol Hhil HhL HhH HtR HtU HtO c1 c2 c3 cb AL AH h1 h8
          obtain ⟨W6, hW6⟩ : ∃ W, W = (((W5.setCell ⟨g8, 0, none⟩ (.slice (some ⟨r1, 0, none⟩) n s1)).setCell ⟨g8, 1, none⟩ (.slice (some ⟨q1, 0, none⟩) n u1)).setCell ⟨g9, 0, none⟩ (.slice (some ⟨r2, 0, none⟩) n s2)).setCell ⟨g9, 1, none⟩ (.slice (some ⟨q2, 0, none⟩) n u2) := ⟨_, rfl⟩
          rw [← hW6] at six ⊢
          clear hW6
          go_wp2
          go_meet
          exact ⟨_, _, _, _, _, _, _, _, _, _, rfl, rfl, six⟩
  case rest =>
    obtain ⟨g8, g9, r1, q1, r2, q2, s1, u1, s2, u2, rfl, rfl, hS⟩ := hcut
    obtain ⟨hb, hf, hHe, hHb, hHc⟩ := HhH.out (by omega)
    have nn := hideP hS.out.1
    have t8 := hideP hS.out.2.1
    have t9 := hideP hS.out.2.2.1
    have o1 := hideP hS.out.2.2.2.1
    have p1 := hideP hS.out.2.2.2.2.1
    have o2 := hideP hS.out.2.2.2.2.2.1
    have p2 := hideP hS.out.2.2.2.2.2.2.1
    have bS := hideP hS.out.2.2.2.2.2.2.2
    have wlt := hideP (show w.heap.size + 1 + 1 < wq.heap.size from c3.out.lt)
    have hbl := hideP hHb
    have cz := hideP (show wc.cell? ⟨hb, hf + sd, none⟩ = some (.int .i64 z) by
      rw [Hz.out]
      exact (World.cell?_of_block (w := wq) (bS.out.block hb (by have := wlt.out; omega))).trans ((World.cell?_of_block (w := w) (cb.out.block hb hHb)).trans (hHc sd hsd)))
    subst hHe
    replace c1 := hideP (c1.out.after bS.out)
    replace c2 := hideP (c2.out.after bS.out)
    replace c3 := hideP (c3.out.after bS.out)
    replace cb := hideP (cb.out.trans (bS.out.mono cb.out.size))
    clear hS bS hHc hHb kc10 kc11
    have m0 := t8.out.c1
    have m1 := c1.out.c1
    have m2 := cz.out
    go_upto_region 7 with fail
    refine wp_region_eager 10 [(true, 0), (true, 1), (true, 2), (true, 3), (true, 4), (true, 5), (true, 6), (true, 7), (true, 8), (true, 9)] (by kernel_rfl) (by kernel_rfl) ?_
    simp only [pick, List.map_cons, List.map_nil, nthO_zero, nthO_succ]
    repeat (first
      | (refine wpPlan_skipK (by rfl) (fun K hK => ?_); go_simp; refine hK _ ?_; clear hK K)
      | (refine wpPlan_valK (by rfl) (fun K hK => ?_); apply Exists.intro; refine ⟨fun W hW => ?_, ?_⟩; (focus (have hs0 := hW.cell m0; have hs1 := hW.cell m1; have hs2 := hW.cell m2; go_simp; (try rfl); done)); go_simp; refine hK _ ?_; clear hK K)
      | (refine wpPlan_callK (.int .i64 U) 55 #[.int .i64 z, .int .i64 (bt : Int)] (by rfl) ?_ (fun W hW => (cU.out W).mono fun e w2 h => ⟨h.1, h.2 ▸ Ext.refl _⟩) (fun K hK => ?_); (focus (intro W; go_simp; done)); go_simp; refine hK _ ?_; clear hK K))
    refine wpPlan_nil (fun W7 hW0 => ?_)
    simp only [List.drop_succ_cons, List.drop_zero, List.drop_nil]
    have e7 := hideP hW0.drew_left
    replace t8 := hideP (t8.out.ext e7.out)
    replace t9 := hideP (t9.out.ext e7.out)
    replace c1 := hideP (c1.out.ext e7.out)
    replace c2 := hideP (c2.out.ext e7.out)
    replace c3 := hideP (c3.out.ext e7.out)
    replace o1 := hideP (o1.out.ext e7.out)
    replace p1 := hideP (p1.out.ext e7.out)
    replace o2 := hideP (o2.out.ext e7.out)
    replace p2 := hideP (p2.out.ext e7.out)
    replace cb := hideP (below_ext cb.out e7.out)
    replace cz := hideP (e7.out.cell cz.out)
    clear hW0 e7 m0 m1 m2
    have s1_ := p1.out.cell sd (by rw [Hhil.out]; exact hsd)
    have s2_ := p1.out.fz sd
    go_upto_region 8 with fail
    clear s1_ s2_
    replace t8 := hideP (t8.out.setOther (a := ⟨q1, sd, none⟩) (by have := nn.out; simp; omega) (.int .i64 U))
    replace t9 := hideP (t9.out.setOther (a := ⟨q1, sd, none⟩) (by have := nn.out; simp; omega) (.int .i64 U))
    replace c1 := hideP (c1.out.setOther (a := ⟨q1, sd, none⟩) (by have := nn.out; have := wlt.out; simp; omega) (.int .i64 U))
    replace c2 := hideP (c2.out.setOther (a := ⟨q1, sd, none⟩) (by have := nn.out; have := wlt.out; simp; omega) (.int .i64 U))
    replace c3 := hideP (c3.out.setOther (a := ⟨q1, sd, none⟩) (by have := nn.out; have := wlt.out; simp; omega) (.int .i64 U))
    replace o1 := hideP (o1.out.other (a := ⟨q1, sd, none⟩) (by have := nn.out; simp [Value.ownBlock]; omega) (.int .i64 U))
    replace p1 := hideP (p1.out.store sd U)
    replace o2 := hideP (o2.out.other (a := ⟨q1, sd, none⟩) (by have := nn.out; simp [Value.ownBlock]; omega) (.int .i64 U))
    replace p2 := hideP (p2.out.other (a := ⟨q1, sd, none⟩) (by have := nn.out; simp [Value.ownBlock]; omega) (.int .i64 U))
    replace cb := hideP (cb.out.setCell (p := ⟨q1, sd, none⟩) (by have := nn.out; have := wlt.out; simp; omega) (.int .i64 U))
    replace cz := hideP (show (W7.setCell ⟨q1, sd, none⟩ (.int .i64 U)).cell? ⟨hb, hf + sd, none⟩ = some (.int .i64 z) from (World.cell?_of_block (w := W7) (Below.heap_setCell _ _ _ _ (by have := nn.out; have := wlt.out; have := hbl.out; simp; omega))).trans cz.out)
    obtain ⟨W8, hW8⟩ : ∃ W, W = W7.setCell ⟨q1, sd, none⟩ (.int .i64 U) := ⟨_, rfl⟩
    rw [← hW8] at t8 t9 c1 c2 c3 o1 p1 o2 p2 cb cz
    try simp only [Act.put]
    rw [← hW8]
    clear hW8
    have m0 := t9.out.c0
    have m1 := c1.out.c1
    have m2 := cz.out
    refine wp_region_eager 10 [(true, 0), (true, 1), (true, 2), (true, 3), (true, 4), (true, 5), (true, 6), (true, 7), (true, 8), (true, 9)] (by kernel_rfl) (by kernel_rfl) ?_
    simp only [pick, List.map_cons, List.map_nil, nthO_zero, nthO_succ]
    repeat (first
      | (refine wpPlan_skipK (by rfl) (fun K hK => ?_); go_simp; refine hK _ ?_; clear hK K)
      | (refine wpPlan_valK (by rfl) (fun K hK => ?_); apply Exists.intro; refine ⟨fun W hW => ?_, ?_⟩; (focus (have hs0 := hW.cell m0; have hs1 := hW.cell m1; have hs2 := hW.cell m2; go_simp; (try rfl); done)); go_simp; refine hK _ ?_; clear hK K)
      | (refine wpPlan_callK (.int .i64 V) 56 #[.int .i64 z, .int .i64 (bt : Int)] (by rfl) ?_ (fun W hW => (cV.out W).mono fun e w2 h => ⟨h.1, h.2⟩) (fun K hK => ?_); (focus (intro W; go_simp; done)); go_simp; refine hK _ ?_; clear hK K))
    refine wpPlan_nil (fun W9 hW0 => ?_)
    simp only [List.drop_succ_cons, List.drop_zero, List.drop_nil]
    have e7 := hideP hW0.drew_left
    replace t8 := hideP (t8.out.ext e7.out)
    replace t9 := hideP (t9.out.ext e7.out)
    replace c2 := hideP (c2.out.ext e7.out)
    replace c3 := hideP (c3.out.ext e7.out)
    replace o1 := hideP (o1.out.ext e7.out)
    replace p1 := hideP (p1.out.ext e7.out)
    replace o2 := hideP (o2.out.ext e7.out)
    replace p2 := hideP (p2.out.ext e7.out)
    replace cb := hideP (below_ext cb.out e7.out)
    clear hW0 e7 m0 m1 m2 cz c1
    have s1_ := o2.out.cell sd (by rw [Hlol.out]; exact hsd)
    have s2_ := o2.out.fz sd
    go_upto_region 9 with fail
    clear s1_ s2_
    replace t8 := hideP (t8.out.setOther (a := ⟨r2, sd, none⟩) (by have := nn.out; simp; omega) (.int .i64 V))
    replace t9 := hideP (t9.out.setOther (a := ⟨r2, sd, none⟩) (by have := nn.out; simp; omega) (.int .i64 V))
    replace c2 := hideP (c2.out.setOther (a := ⟨r2, sd, none⟩) (by have := nn.out; have := wlt.out; simp; omega) (.int .i64 V))
    replace c3 := hideP (c3.out.setOther (a := ⟨r2, sd, none⟩) (by have := nn.out; have := wlt.out; simp; omega) (.int .i64 V))
    replace o1 := hideP (o1.out.other (a := ⟨r2, sd, none⟩) (by have := nn.out; simp [Value.ownBlock]; omega) (.int .i64 V))
    replace p1 := hideP (p1.out.other (a := ⟨r2, sd, none⟩) (by have := nn.out; simp [Value.ownBlock]; omega) (.int .i64 V))
    replace p2 := hideP (p2.out.other (a := ⟨r2, sd, none⟩) (by have := nn.out; simp [Value.ownBlock]; omega) (.int .i64 V))
    replace o2 := hideP (o2.out.store sd V)
    replace cb := hideP (cb.out.setCell (p := ⟨r2, sd, none⟩) (by have := nn.out; have := wlt.out; simp; omega) (.int .i64 V))
    obtain ⟨W10, hW10⟩ : ∃ W, W = W9.setCell ⟨r2, sd, none⟩ (.int .i64 V) := ⟨_, rfl⟩
    rw [← hW10] at t8 t9 c2 c3 o1 p1 o2 p2 cb
    try simp only [Act.put]
    rw [← hW10]
    clear hW10
    have m0 := t8.out.c0
    have m1 := t8.out.c1
    have m2 := t9.out.c0
    have m3 := t9.out.c1
    have lw := wlt.out
    have na := nn.out
    refine wp_region_mut (S := fun k => k = w.heap.size + 1 ∨ k = w.heap.size + 1 + 1) 13 (.q 0 (.q 1 (.q 2 (.q 3 (.q 4 (.q 5 (.q 6 (.q 7 (.q 8 (.q 9 (.l 10 (.l 11 (.q 12 .nil))))))))))))) (by kernel_rfl) (by kernel_rfl) ?_
    simp only [pickT, nthO_zero, nthO_succ]
    have b8 := hideP (show ¬ (g8 = w.heap.size + 1 ∨ g8 = w.heap.size + 1 + 1) by omega)
    have b9 := hideP (show ¬ (g9 = w.heap.size + 1 ∨ g9 = w.heap.size + 1 + 1) by omega)
    clear lw na
    iterate 10 (refine wpM_valK (by rfl) (fun K hK => ?_); apply Exists.intro; refine ⟨fun W hW => ?_, ?_⟩; (focus (have hs0 := hW.cell m0 b8.out; have hs1 := hW.cell m1 b8.out; have hs2 := hW.cell m2 b9.out; have hs3 := hW.cell m3 b9.out; go_simp; (try rfl); done)); go_simp; refine hK _ ?_; clear hK K)
    refine wpM_storeK (by rfl) (fun W hW => ⟨_, ⟨exec_store_two 58 (.tmp 2) (.tmp 58) rfl (w.heap.size + 1) _ _ 58 _ _ rfl rfl (c2.out.ext hW.drew_left) size_box rfl rfl, (But.set _ _ _ (.inl rfl)).trans (But.set _ _ _ (.inl rfl))⟩, fun K hK => ?_⟩)
    go_simp
    refine hK _ ?_
    clear hK K
    have e7 := hideP hW.drew_left
    replace c2 := hideP ((c2.out.ext e7.out).set2 (.slice (some ⟨r1, 0, none⟩) n s1) (.slice (some ⟨q1, 0, none⟩) n u1))
    replace c3 := hideP (((c3.out.ext e7.out).setOther (a := ⟨w.heap.size + 1, 0, none⟩) (by simp) (.slice (some ⟨r1, 0, none⟩) n s1)).setOther (a := ⟨w.heap.size + 1, 1, none⟩) (by simp) (.slice (some ⟨q1, 0, none⟩) n u1))
    replace o1 := hideP (own_two (u := .slice (some ⟨r1, 0, none⟩) n s1) (v := .slice (some ⟨q1, 0, none⟩) n u1) (o1.out.ext e7.out) (show r1 ≠ w.heap.size + 1 by have := nn.out; have := wlt.out; omega))
    replace p1 := hideP (own_two (u := .slice (some ⟨r1, 0, none⟩) n s1) (v := .slice (some ⟨q1, 0, none⟩) n u1) (p1.out.ext e7.out) (show q1 ≠ w.heap.size + 1 by have := nn.out; have := wlt.out; omega))
    replace o2 := hideP (own_two (u := .slice (some ⟨r1, 0, none⟩) n s1) (v := .slice (some ⟨q1, 0, none⟩) n u1) (o2.out.ext e7.out) (show r2 ≠ w.heap.size + 1 by have := nn.out; have := wlt.out; omega))
    replace p2 := hideP (own_two (u := .slice (some ⟨r1, 0, none⟩) n s1) (v := .slice (some ⟨q1, 0, none⟩) n u1) (p2.out.ext e7.out) (show q2 ≠ w.heap.size + 1 by have := nn.out; have := wlt.out; omega))
    replace cb := hideP (((below_ext cb.out e7.out).setCell (p := ⟨w.heap.size + 1, 0, none⟩) (by simp) (.slice (some ⟨r1, 0, none⟩) n s1)).setCell (p := ⟨w.heap.size + 1, 1, none⟩) (by simp) (.slice (some ⟨q1, 0, none⟩) n u1))
    obtain ⟨W11, hW11⟩ : ∃ V, V = (W.setCell ⟨w.heap.size + 1, 0, none⟩ (.slice (some ⟨r1, 0, none⟩) n s1)).setCell ⟨w.heap.size + 1, 1, none⟩ (.slice (some ⟨q1, 0, none⟩) n u1) := ⟨_, rfl⟩
    rw [← hW11] at c2 c3 o1 p1 o2 p2 cb ⊢
    clear hW11 e7 hW m0 m1 m2 m3 t8 t9
    refine wpM_storeK (by rfl) (fun W hW => ⟨_, ⟨exec_store_two 58 (.tmp 3) (.tmp 63) rfl (w.heap.size + 1 + 1) _ _ 58 _ _ rfl rfl (c3.out.ext hW) size_box rfl rfl, (But.set _ _ _ (.inr rfl)).trans (But.set _ _ _ (.inr rfl))⟩, fun K hK => ?_⟩)
    go_simp
    refine hK _ ?_
    clear hK K
    have e7 := hideP hW
    replace c3 := hideP ((c3.out.ext e7.out).set2 (.slice (some ⟨r2, 0, none⟩) n s2) (.slice (some ⟨q2, 0, none⟩) n u2))
    replace c2 := hideP (((c2.out.ext e7.out).setOther (a := ⟨w.heap.size + 1 + 1, 0, none⟩) (by simp) (.slice (some ⟨r2, 0, none⟩) n s2)).setOther (a := ⟨w.heap.size + 1 + 1, 1, none⟩) (by simp) (.slice (some ⟨q2, 0, none⟩) n u2))
    replace o1 := hideP (own_two (u := .slice (some ⟨r2, 0, none⟩) n s2) (v := .slice (some ⟨q2, 0, none⟩) n u2) (o1.out.ext e7.out) (show r1 ≠ w.heap.size + 1 + 1 by have := nn.out; have := wlt.out; omega))
    replace p1 := hideP (own_two (u := .slice (some ⟨r2, 0, none⟩) n s2) (v := .slice (some ⟨q2, 0, none⟩) n u2) (p1.out.ext e7.out) (show q1 ≠ w.heap.size + 1 + 1 by have := nn.out; have := wlt.out; omega))
    replace o2 := hideP (own_two (u := .slice (some ⟨r2, 0, none⟩) n s2) (v := .slice (some ⟨q2, 0, none⟩) n u2) (o2.out.ext e7.out) (show r2 ≠ w.heap.size + 1 + 1 by have := nn.out; have := wlt.out; omega))
    replace p2 := hideP (own_two (u := .slice (some ⟨r2, 0, none⟩) n s2) (v := .slice (some ⟨q2, 0, none⟩) n u2) (p2.out.ext e7.out) (show q2 ≠ w.heap.size + 1 + 1 by have := nn.out; have := wlt.out; omega))
    replace cb := hideP (((below_ext cb.out e7.out).setCell (p := ⟨w.heap.size + 1 + 1, 0, none⟩) (by simp; omega) (.slice (some ⟨r2, 0, none⟩) n s2)).setCell (p := ⟨w.heap.size + 1 + 1, 1, none⟩) (by simp; omega) (.slice (some ⟨q2, 0, none⟩) n u2))
    obtain ⟨W12, hW12⟩ : ∃ V, V = (W.setCell ⟨w.heap.size + 1 + 1, 0, none⟩ (.slice (some ⟨r2, 0, none⟩) n s2)).setCell ⟨w.heap.size + 1 + 1, 1, none⟩ (.slice (some ⟨q2, 0, none⟩) n u2) := ⟨_, rfl⟩
    rw [← hW12] at c2 c3 o1 p1 o2 p2 cb ⊢
    clear hW12 e7 hW
    refine wpM_valK (by rfl) (fun K hK => ?_); apply Exists.intro; refine ⟨fun W hW => ?_, ?_⟩; (focus (go_simp; (try rfl); done)); go_simp; refine hK _ ?_; clear hK K
    refine wpM_nil (fun W13 hW13 => ?_)
    simp only [List.drop_succ_cons, List.drop_zero, List.drop_nil]
    have e7 := hideP hW13
    clear hW13
    go_wp2
    have hl := wlt.out
    have na := nn.out
    exact ret_box3 rfl rfl rfl rfl (c2.out.ext e7.out) (c3.out.ext e7.out) rfl ⟨r1, s1, q1, u1, r2, s2, q2, u2, rfl, below_ext cb.out e7.out, (o1.out.ext e7.out).mono (by omega), (p1.out.ext e7.out).mono (by omega), (o2.out.ext e7.out).mono (by omega), (p2.out.ext e7.out).mono (by omega)⟩
end Go.Proofs.Ytjdbpeblbejllaa
