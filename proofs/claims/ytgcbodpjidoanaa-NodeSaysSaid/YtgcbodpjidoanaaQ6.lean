/- Contracts of package box: Cut. Contracts of package box: Hull. Contracts: math/bits.Mul64, Mul; slices.Repeat of a row of one number, at most 8 times. Contracts of package box: Of, Whole. -/
import Derived.Deep.AppendLies
import Derived.Laws.CopyOwn
import Derived.Laws.MakeOwn
import Derived.Lib.Mul64
import Derived.Laws.Bits64b
import Derived.Shelf.Bits.Mul64
import Derived.Test.YtgcbodpjidoanaaQ4
import Derived.Test.YtgcbodpjidoanaaQ5
set_option linter.unusedVariables false
set_option linter.unusedSimpArgs false
namespace Go.Proofs.Ytgcbodpjidoanaa
open Go.RowKit

theorem Own.at {w : World} {base : Nat} {R : Option Addr} {s n : Nat} {l : List Int} (h : Own w base R s l) (hn : l.length = n) (h0 : 0 < n) : ∃ g, R = some ⟨g, 0, none⟩ ∧ base ≤ g ∧ g < w.heap.size := by
  obtain ⟨g, cap, hv, hb, hl⟩ := World.ownsRow.form h (by omega)
  injection hv with h1
  exact ⟨g, h1, hb, hl⟩
theorem Own.store {w : World} {base g : Nat} {s : Nat} {l : List Int} (h : Own w base (some ⟨g, 0, none⟩) s l) (k : Nat) (z : Int) : Own (w.setCell ⟨g, k, none⟩ (.int .i64 z)) base (some ⟨g, 0, none⟩) s (l.set k z) := by
  have := (World.ownsRow.stored h k (.int .i64 z)).1
  unfold Own
  rw [List.length_set, List.map_set]
  exact this
theorem Own.other {w : World} {base : Nat} {R : Option Addr} {s : Nat} {l : List Int} {a : Addr} (h : Own w base R s l) (ha : (Value.slice R l.length s).ownBlock ≠ some a.block) (v : Value) : Own (w.setCell a v) base R s l := by
  refine ⟨h.1, h.2.imp id ?_⟩
  rintro ⟨g, cap, cur, hv, hg, hh, r⟩
  refine ⟨g, cap, cur, hv, hg, (Below.heap_setCell _ _ _ _ ?_).trans hh, r⟩
  rw [hv] at ha
  intro e
  apply ha
  rw [← e]
  rfl
theorem Own.fz {w : World} {base g : Nat} {s : Nat} {l : List Int} (h : Own w base (some ⟨g, 0, none⟩) s l) (j : Nat) : w.frozen? ⟨g, j, none⟩ = false := World.ownsRow.frozenAt h j

theorem Own.cell {w : World} {base g : Nat} {s : Nat} {l : List Int} (h : Own w base (some ⟨g, 0, none⟩) s l) (j : Nat) (hj : j < l.length) : w.cell? ⟨g, j, none⟩ = some (.int .i64 (l.getD j 0)) := by
  rw [World.ownsRow.cellAt h j (by omega)]
  simp [List.getD, List.getElem?_map, List.getElem?_eq_getElem hj]
def mx (a b : Int) : Int := if a < b then b else a
def mn (a b : Int) : Int := if b < a then b else a
/-- the first k numbers are those of f -/
def upTo (l : List Int) (f : Nat → Int) (k : Nat) : Prop := ∀ i, i < k → l.getD i 0 = f i
theorem upTo_set {l : List Int} {f : Nat → Int} {k : Nat} (h : upTo l f k) (hk : k < l.length) : upTo (l.set k (f k)) f (k + 1) := fun i hi => by
  unfold List.getD
  rw [List.getElem?_set]
  by_cases e : k = i
  · subst e; simp [hk]
  · simp [e]
    have := h i (by omega)
    unfold List.getD at this
    exact this
theorem upTo_all {l : List Int} {f : Nat → Int} {n : Nat} (h : upTo l f n) (hl : l.length = n) : l = (List.range n).map f := by
  refine List.ext_getElem? fun i => ?_
  rcases Nat.lt_or_ge i n with hi | hi
  · have := h i hi
    simp only [List.getElem?_map, List.getElem?_range hi, Option.map_some]
    unfold List.getD at this
    rw [List.getElem?_eq_getElem (by omega)] at this ⊢
    simpa using this
  · simp [hl, hi]

/-- the sides of the box of both -/
def cutLo (lo lo' : List Int) : List Int := (List.range lo.length).map fun i => mx (lo.getD i 0) (lo'.getD i 0)
def cutHi (hi hi' : List Int) : List Int := (List.range hi.length).map fun i => mn (hi.getD i 0) (hi'.getD i 0)
end Go.Proofs.Ytgcbodpjidoanaa
namespace Go.Proofs.Ytgcbodpjidoanaa
open Go.RowKit

/-- the sides of the least box that holds both -/
def hullLo (lo lo' : List Int) : List Int := (List.range lo.length).map fun i => mn (lo.getD i 0) (lo'.getD i 0)
def hullHi (hi hi' : List Int) : List Int := (List.range hi.length).map fun i => mx (hi.getD i 0) (hi'.getD i 0)
set_option maxRecDepth 100000 in
set_option maxHeartbeats 4000000 in
theorem hull_in (L H L' H' : Option Addr) (lo hi lo' hi' : List Int) (dl sh dl' sh' : Nat) (w : World) (hL : Arr w w.heap.size L lo.length (i64s lo)) (hH : Arr w w.heap.size H hi.length (i64s hi))
    (hL' : Arr w w.heap.size L' lo'.length (i64s lo')) (hH' : Arr w w.heap.size H' hi'.length (i64s hi')) (hr : rightB lo hi lo.length = true) (hr' : rightB lo' hi' lo'.length = true) (hll : lo'.length = lo.length) :
    Calls Try.prog 106 #[.agg #[.slice L lo.length dl, .slice H hi.length sh], .agg #[.slice L' lo'.length dl', .slice H' hi'.length sh']] w fun e w' => ∃ R s R' s', e = .returned (.agg #[.slice R lo.length s, .slice R' lo.length s']) ∧ Below w.heap.size w w' ∧ Own w' w.heap.size R s (hullLo lo lo') ∧ Own w' w.heap.size R' s' (hullHi hi hi') ∧ Sep (.slice R lo.length s) (.slice R' lo.length s') := by
  have hfacts : lo.length ≤ 8 ∧ 1 ≤ lo.length ∧ hi.length = lo.length ∧ lo'.length = lo.length ∧ hi'.length = lo.length := by
    have h1 := rightB_len hr
    have h2 := rightB_len hr'
    omega
  obtain ⟨h8, h1, e1, e2, e3⟩ := hfacts
  have tM := fun W h h' => right_any L H lo hi dl sh lo.length W h h'
  have tM' := fun W h h' => right_any L' H' lo' hi' dl' sh' lo'.length W h h'
  have tC := fun W h h' => copied_any L H lo hi dl sh W h h' (by omega) (by omega)
  rw [hr] at tM
  rw [hr'] at tM'
  obtain ⟨n, hn⟩ : ∃ n, n = lo.length := ⟨_, rfl⟩
  have hlo : hullLo lo lo' = (List.range n).map fun i => mn (lo.getD i 0) (lo'.getD i 0) := by rw [hn]; rfl
  have hhi : hullHi hi hi' = (List.range n).map fun i => mx (hi.getD i 0) (hi'.getD i 0) := by rw [hn, ← e1]; rfl
  rw [← hn] at h8 h1 e1 e2 e3 hL tM tC ⊢
  rw [e1] at hH tM tC ⊢
  rw [e2] at hL' tM' ⊢
  rw [e3] at hH' tM' ⊢
  have hn' := hn.symm
  have Hhn' := hideP hn'; have He1 := hideP e1; have Hhlo := hideP hlo; have Hhhi := hideP hhi; clear hn' e1 hlo hhi
  clear hr hr' hll hn e2 e3
  have HhL := hideP hL; have HhH := hideP hH; have HhL' := hideP hL'; have HhH' := hideP hH'; have HtM := hideP tM; have HtM' := hideP tM'; have HtC := hideP tC; clear hL hH hL' hH' tM tM' tC
  go_enter Try.func106, Try.ntmps106
  go_wp2_with fail
  obtain ⟨w1, hw1⟩ : ∃ w1, w1 = ((w.alloc (Obj.cells #[.slice L n dl, .slice H n sh] 41)).alloc (Obj.cells #[.slice L' n dl', .slice H' n sh'] 41)).alloc (Obj.cells #[.slice none 0 0, .slice none 0 0] 41) := ⟨_, rfl⟩
  have c1 := hideP (show Two w1 w.heap.size 41 (.slice L n dl) (.slice H n sh) by rw [hw1]; exact ((Two.new _ _ _ _).alloc _).alloc _)
  have c2 := hideP (show Two w1 (w.heap.size + 1) 41 (.slice L' n dl') (.slice H' n sh') by rw [hw1]; exact (Two.new' _ _ _ _ _ (by simp)).alloc _)
  have c3 := hideP (show Two w1 (w.heap.size + 1 + 1) 41 (.slice none 0 0) (.slice none 0 0) by rw [hw1]; exact Two.new' _ _ _ _ _ (by simp))
  have cb := hideP (show Below w.heap.size w w1 by rw [hw1]; exact ((below_new _ _).alloc (by simp) _).alloc (by simp; omega) _)
  rw [← hw1]
  clear hw1
  have kc10 := c1.out.c0; have kc11 := c1.out.c1
  have kc20 := c2.out.c0; have kc21 := c2.out.c1
  go_wp2_with fail
  refine wp_region_eager 10 [(true, 0), (true, 1), (true, 2), (true, 3), (true, 4), (true, 5), (true, 6), (true, 7), (true, 8), (true, 9)] (by kernel_rfl) (by kernel_rfl) ?_
  simp only [pick, List.map_cons, List.map_nil, nthO_zero, nthO_succ]
  repeat (first
    | (refine wpPlan_skipK (by rfl) (fun K hK => ?_); go_simp; refine hK _ ?_; clear hK K)
    | (refine wpPlan_valK (by rfl) (fun K hK => ?_); apply Exists.intro; refine ⟨fun W hW => ?_, ?_⟩; (focus (have hs0 := hW.cell kc10; have hs1 := hW.cell kc11; have hs2 := hW.cell kc20; have hs3 := hW.cell kc21; go_simp; (try rfl); done)); go_simp; refine hK _ ?_; clear hK K)
    | (refine wpPlan_callK (.bool true) 102 #[.agg #[.slice L n dl, .slice H n sh], .int .i64 n] (by rfl) ?_ (fun W hW => (HtM.out W (HhL.out.after (below_ext cb.out hW.drew_left)) (HhH.out.after (below_ext cb.out hW.drew_left))).mono fun e w' h => ⟨h.1, Ext.of_below h.2⟩) (fun K hK => ?_); (focus (intro W; go_simp; done)); go_simp; refine hK _ ?_; clear hK K)
    | (refine wpPlan_callK (.bool true) 102 #[.agg #[.slice L' n dl', .slice H' n sh'], .int .i64 n] (by rfl) ?_ (fun W hW => (HtM'.out W (HhL'.out.after (below_ext cb.out hW.drew_left)) (HhH'.out.after (below_ext cb.out hW.drew_left))).mono fun e w' h => ⟨h.1, Ext.of_below h.2⟩) (fun K hK => ?_); (focus (intro W; go_simp; done)); go_simp; refine hK _ ?_; clear hK K))
  refine wpPlan_nil (fun w2 hW0 => ?_)
  simp only [List.drop_succ_cons, List.drop_zero, List.drop_nil]
  clear kc10 kc11 kc20 kc21
  replace c1 := hideP (c1.out.ext hW0.drew_left)
  replace c2 := hideP (c2.out.ext hW0.drew_left)
  replace c3 := hideP (c3.out.ext hW0.drew_left)
  replace cb := hideP (below_ext cb.out hW0.drew_left)
  clear hW0
  have kc10 := c1.out.c0; have kc11 := c1.out.c1
  have kc20 := c2.out.c0; have kc21 := c2.out.c1
  go_wp2_with fail
  refine (HtC.out w2 (HhL.out.after cb.out) (HhH.out.after cb.out)).mono ?_
  rintro e w3 ⟨R, s, R', s', rfl, hb, o1, o2, sp⟩
  clear kc10 kc11 kc20 kc21
  have b2 := hideP c3.out.lt
  obtain ⟨B, hB⟩ : ∃ B, B = w2.heap.size := ⟨_, rfl⟩
  rw [← hB] at o1 o2 b2
  replace c1 := hideP (c1.out.after hb)
  replace c2 := hideP (c2.out.after hb)
  replace c3 := hideP (c3.out.after hb)
  replace cb := hideP (bstep cb.out hb)
  clear hb
  obtain ⟨gR, rfl, r1, r2⟩ := o1.at Hhn'.out h1
  obtain ⟨gR', rfl, r3, r4⟩ := o2.at He1.out h1
  have r5 : gR' ≠ gR := fun e => by
    subst e
    rcases sp with h | h
    · cases h
    · exact h rfl
  have Ho1 := hideP o1; have Ho2 := hideP o2; clear o1 o2
  clear sp hB
  go_wp2_with fail
  obtain ⟨v3, hv_⟩ : ∃ v, v = w3.alloc (Obj.cells #[.slice (some ⟨gR, 0, none⟩) n s, .slice (some ⟨gR', 0, none⟩) n s'] 41) := ⟨_, rfl⟩
  obtain ⟨g6, hg_⟩ : ∃ g, g = w3.heap.size := ⟨_, rfl⟩
  have hb_ : Below w3.heap.size w3 v3 := by rw [hv_]; exact below_new _ _
  have c6 := hideP (show Two v3 g6 41 (.slice (some ⟨gR, 0, none⟩) n s) (.slice (some ⟨gR', 0, none⟩) n s') by rw [hv_, hg_]; exact Two.new _ _ _ _)
  have Gc6 := hideP (show w3.heap.size ≤ g6 from Nat.le_of_eq hg_.symm)
  replace c1 := hideP (c1.out.after hb_)
  replace c2 := hideP (c2.out.after hb_)
  replace c3 := hideP (c3.out.after hb_)
  replace cb := hideP (bstep cb.out hb_)
  rw [← hv_, ← hg_]
  replace Ho1 := hideP (Ho1.out.ext (Ext.of_below hb_))
  replace Ho2 := hideP (Ho2.out.ext (Ext.of_below hb_))
  clear hv_ hg_ hb_
  have lt6 := hideP (show gR < g6 ∧ gR' < g6 ∧ w.heap.size + 1 + 1 < gR ∧ w.heap.size + 1 + 1 < gR' by have := b2.out; have := Gc6.out; omega)
  clear r1 r2 r3 r4
  have R5 := hideP r5
  clear r5
  go_loopw [53] (fun v18 wr => ∃ (k : Nat) (l1 l2 : List Int), k ≤ n ∧ v18 = .int .i64 k ∧ Hid (l1.length = n ∧ l2.length = n ∧ upTo l1 (fun i => mn (lo.getD i 0) (lo'.getD i 0)) k ∧ upTo l2 (fun i => mx (hi.getD i 0) (hi'.getD i 0)) k ∧
    Own wr B (some ⟨gR, 0, none⟩) s l1 ∧ Own wr B (some ⟨gR', 0, none⟩) s' l2) ∧ Hid (Two wr w.heap.size 41 (.slice L n dl) (.slice H n sh) ∧ Two wr (w.heap.size + 1) 41 (.slice L' n dl') (.slice H' n sh') ∧ Two wr (w.heap.size + 1 + 1) 41 (.slice none 0 0) (.slice none 0 0) ∧
    Two wr g6 41 (.slice (some ⟨gR, 0, none⟩) n s) (.slice (some ⟨gR', 0, none⟩) n s') ∧ Below w.heap.size w wr)) (fun v18 _ => n - (intOf v18).toNat)
  case atStart => exact ⟨0, lo, hi, by omega, rfl, ⟨Hhn'.out, He1.out, fun i hi => by omega, fun i hi => by omega, Ho1.out, Ho2.out⟩, c1.out, c2.out, c3.out, c6.out, cb.out⟩
  case round =>
    obtain ⟨k, l1, l2, hk, rfl, hV, hW⟩ := hrel
    clear c1 c2 c3 c6 cb Ho1 Ho2
    by_cases hlt : k < n
    · have t' : decide ((k : Int) < n) = true := by simp; omega
      obtain ⟨b, off, rfl, hb, hc⟩ := (HhL.out.below hW.out.2.2.2.2) (by omega)
      obtain ⟨b', off', rfl, hb', hc'⟩ := (HhH.out.below hW.out.2.2.2.2) (by omega)
      obtain ⟨b1, off1, rfl, hb1, hc1⟩ := (HhL'.out.below hW.out.2.2.2.2) (by omega)
      obtain ⟨b2', off2, rfl, hb2, hc2⟩ := (HhH'.out.below hW.out.2.2.2.2) (by omega)
      have k1 := hc k hlt
      have k2 := hc' k hlt
      have k3 := hc1 k hlt
      have k4 := hc2 k hlt
      unfold i64s at k1 k2 k3 k4
      obtain ⟨x, ex⟩ : ∃ x, x = lo.getD k 0 := ⟨_, rfl⟩
      obtain ⟨y, ey⟩ : ∃ y, y = hi.getD k 0 := ⟨_, rfl⟩
      obtain ⟨u, eu⟩ : ∃ y, y = lo'.getD k 0 := ⟨_, rfl⟩
      obtain ⟨v, ev⟩ : ∃ y, y = hi'.getD k 0 := ⟨_, rfl⟩
      rw [← ex] at k1
      rw [← ey] at k2
      rw [← eu] at k3
      rw [← ev] at k4
      obtain ⟨m, hm⟩ : ∃ m, m = mn x u := ⟨_, rfl⟩
      obtain ⟨m', hm'⟩ : ∃ m, m = mx y v := ⟨_, rfl⟩
      have tm : (if u < x then u else x) = m := hm.symm
      have tm' : (if y < v then v else y) = m' := hm'.symm
      rw [ex, eu] at hm
      rw [ey, ev] at hm'
      have Hhm := hideP hm; have Hhm' := hideP hm'; have Hhb := hideP hb; have Hhb' := hideP hb'; have Hhb1 := hideP hb1; have Hhb2 := hideP hb2; clear hm hm' hb hb' hb1 hb2
      clear ex ey eu ev hc hc' hc1 hc2
      have q10 := hW.out.1.c0
      have q11 := hW.out.1.c1
      have q20 := hW.out.2.1.c0
      have q21 := hW.out.2.1.c1
      have q60 := hW.out.2.2.2.1.c0
      have q61 := hW.out.2.2.2.1.c1
      have lt := lt6.out
      have nb : ∀ j, j < w.heap.size → ¬ (j = gR ∨ j = gR') := fun j hj => by omega
      have nA : ¬ (w.heap.size = gR ∨ w.heap.size = gR') := by omega
      have nB : ¬ (w.heap.size + 1 = gR ∨ w.heap.size + 1 = gR') := by omega
      have n6 : ¬ (g6 = gR ∨ g6 = gR') := by omega
      have hW0_ := hW
      have NB := hideP nb
      have N3 := hideP (And.intro nA (And.intro nB n6))
      clear lt nb nA nB n6
      go_wp2
      refine wp_region_mut (S := fun k => k = gR ∨ k = gR') 32 (.q 0 (.q 1 (.q 2 (.q 3 (.q 4 (.q 5 (.q 6 (.q 7 (.q 8 (.q 9 (.q 10 (.q 11 (.q 12 (.q 13 (.q 14 (.q 15 (.q 16 (.q 17 (.q 18 (.q 19 (.q 20 (.q 21 (.q 22 (.q 23 (.q 24 (.q 25 (.q 26 (.q 27 (.q 28 (.l 29 (.q 30 (.l 31 .nil)))))))))))))))))))))))))))))))) (by kernel_rfl) (by kernel_rfl) ?_
      simp only [pickT, nthO_zero, nthO_succ]
      iterate 29 (refine wpM_valK (by rfl) (fun K hK => ?_); apply Exists.intro; refine ⟨fun W hW => ?_, ?_⟩; (focus (have hs1 := hW.cell k1 (NB.out _ Hhb.out); have hs2 := hW.cell k2 (NB.out _ Hhb'.out); have hs3 := hW.cell k3 (NB.out _ Hhb1.out); have hs4 := hW.cell k4 (NB.out _ Hhb2.out); have hs5 := hW.cell q10 N3.out.1; have hs6 := hW.cell q11 N3.out.1; have hs7 := hW.cell q20 N3.out.2.1; have hs8 := hW.cell q21 N3.out.2.1; have hs9 := hW.cell q60 N3.out.2.2; have hs10 := hW.cell q61 N3.out.2.2; go_simp; (try rfl); done)); go_simp; refine hK _ ?_; clear hK K)
      refine wpM_storeK (by rfl) (fun W hW => ⟨W.setCell ⟨gR, k, none⟩ (.int .i64 m), ⟨?_, But.set _ _ _ (.inl rfl)⟩, fun K hK => ?_⟩)
      · have o1 := hV.out.2.2.2.2.1.ext hW.drew_left
        have hs1 := o1.cell k (by rw [hV.out.1]; exact hlt)
        have hs2 := o1.fz k
        clear o1
        go_simp
      go_simp
      refine hK _ ?_
      clear hK K
      have lt := lt6.out
      have o1 := hideP ((hV.out.2.2.2.2.1.ext hW.drew_left).store k m)
      have o2 := hideP ((hV.out.2.2.2.2.2.ext hW.drew_left).other (a := ⟨gR, k, none⟩) (by simp [Value.ownBlock]; exact R5.out) (.int .i64 m))
      have c1 := hideP ((hW0_.out.1.ext hW.drew_left).setOther (a := ⟨gR, k, none⟩) (by simp; omega) (.int .i64 m))
      have c2 := hideP ((hW0_.out.2.1.ext hW.drew_left).setOther (a := ⟨gR, k, none⟩) (by simp; omega) (.int .i64 m))
      have c3 := hideP ((hW0_.out.2.2.1.ext hW.drew_left).setOther (a := ⟨gR, k, none⟩) (by simp; omega) (.int .i64 m))
      have c6 := hideP ((hW0_.out.2.2.2.1.ext hW.drew_left).setOther (a := ⟨gR, k, none⟩) (by simp; omega) (.int .i64 m))
      have cb := hideP ((below_ext hW0_.out.2.2.2.2 hW.drew_left).setCell (p := ⟨gR, k, none⟩) (by simp; omega) (.int .i64 m))
      obtain ⟨w4, hw4⟩ : ∃ v, v = W.setCell ⟨gR, k, none⟩ (.int .i64 m) := ⟨_, rfl⟩
      rw [← hw4] at o1 o2 c1 c2 c3 c6 cb ⊢
      have V := hideP (And.intro hV.out.1 (And.intro hV.out.2.1 (And.intro hV.out.2.2.1 hV.out.2.2.2.1)))
      clear hw4 hW W hV hW0_ q10 q11 q20 q21 q60 q61 k1 k2 k3 k4 lt
      refine wpM_valK (by rfl) (fun K hK => ?_); apply Exists.intro; refine ⟨fun W hW => ?_, ?_⟩; (focus (go_simp; (try rfl); done)); go_simp; refine hK _ ?_; clear hK K
      refine wpM_storeK (by rfl) (fun W hW => ⟨W.setCell ⟨gR', k, none⟩ (.int .i64 m'), ⟨?_, But.set _ _ _ (.inr rfl)⟩, fun K hK => ?_⟩)
      · have o1 := o2.out.ext hW
        have hs1 := o1.cell k (by rw [V.out.2.1]; exact hlt)
        have hs2 := o1.fz k
        clear o1
        go_simp
      go_simp
      refine hK _ ?_
      clear hK K
      refine wpM_nil (fun W2 hW2 => ?_)
      simp only [List.drop_succ_cons, List.drop_zero, List.drop_nil]
      have lt := lt6.out
      replace o1 := hideP (((o1.out.ext hW).other (a := ⟨gR', k, none⟩) (by simp [Value.ownBlock]; exact Ne.symm R5.out) (.int .i64 m')).ext hW2)
      replace o2 := hideP (((o2.out.ext hW).store k m').ext hW2)
      replace c1 := hideP (((c1.out.ext hW).setOther (a := ⟨gR', k, none⟩) (by simp; omega) (.int .i64 m')).ext hW2)
      replace c2 := hideP (((c2.out.ext hW).setOther (a := ⟨gR', k, none⟩) (by simp; omega) (.int .i64 m')).ext hW2)
      replace c3 := hideP (((c3.out.ext hW).setOther (a := ⟨gR', k, none⟩) (by simp; omega) (.int .i64 m')).ext hW2)
      replace c6 := hideP (((c6.out.ext hW).setOther (a := ⟨gR', k, none⟩) (by simp; omega) (.int .i64 m')).ext hW2)
      replace cb := hideP (below_ext ((below_ext cb.out hW).setCell (p := ⟨gR', k, none⟩) (by simp; omega) (.int .i64 m')) hW2)
      clear hW hW2 lt
      go_wp2
      go_roundw
      case rel =>
        refine ⟨k + 1, l1.set k m, l2.set k m', by omega, by go_num, ⟨by rw [List.length_set]; exact V.out.1, by rw [List.length_set]; exact V.out.2.1, ?_, ?_, o1.out, o2.out⟩, c1.out, c2.out, c3.out, c6.out, cb.out⟩
        · rw [Hhm.out]; exact upTo_set V.out.2.2.1 (by rw [V.out.1]; exact hlt)
        · rw [Hhm'.out]; exact upTo_set V.out.2.2.2 (by rw [V.out.2.1]; exact hlt)
      case measure => simp [intOf]; omega
    · have t' : decide ((k : Int) < n) = false := by simp; omega
      obtain rfl : k = n := by omega
      have e1 := upTo_all hV.out.2.2.1 hV.out.1
      have e2 := upTo_all hV.out.2.2.2.1 hV.out.2.1
      rw [← Hhlo.out] at e1
      rw [← Hhhi.out] at e2
      have o1 := hideP hV.out.2.2.2.2.1
      have o2 := hideP hV.out.2.2.2.2.2
      rw [e1] at o1
      rw [e2] at o2
      have c3 := hideP hW.out.2.2.1
      have c6 := hideP hW.out.2.2.2.1
      have cb := hideP hW.out.2.2.2.2
      have lt := hideP lt6.out
      clear hV hW e1 e2 lt6
      have f0 := c3.out.fz 0
      have f1 := c3.out.fz 1
      have kc30 := c3.out.c0; have kc31 := c3.out.c1
      have kc60 := c6.out.c0; have kc61 := c6.out.c1
      go_wp2
      refine ret_box rfl rfl (c3.out.set2 _ _) rfl ?_
      have h2 := b2.out
      have h3 := lt.out
      refine ⟨some ⟨gR, 0, none⟩, s, some ⟨gR', 0, none⟩, s', rfl, (cb.out.setCell (p := ⟨w.heap.size + 1 + 1, 0, none⟩) (by simp; omega) _).setCell (p := ⟨w.heap.size + 1 + 1, 1, none⟩) (by simp; omega) _, ?_, ?_, ?_⟩
      · exact (own_setCell (own_setCell o1.out (by simp; omega) _) (by simp; omega) _).mono (by omega)
      · exact (own_setCell (own_setCell o2.out (by simp; omega) _) (by simp; omega) _).mono (by omega)
      · exact .inr (by simp [Value.ownBlock]; exact Ne.symm R5.out)
end Go.Proofs.Ytgcbodpjidoanaa
namespace Go.Proofs.Ytgcbodpjidoanaa
open Go.RowKit
/-- the first k cells of a row are all m -/
def lead (cur : List Value) (n k : Nat) (m : Int) : Prop := cur.length = n ∧ ∀ i, i < k → cur[i]? = some (.int .i64 m)
end Go.Proofs.Ytgcbodpjidoanaa
namespace Go.Proofs.Ytgcbodpjidoanaa
open Go.RowKit
set_option maxRecDepth 100000 in
set_option maxHeartbeats 1000000 in
theorem of_in (P : Option Addr) (p : List Int) (c : Nat) (w : World) (hP : Arr w w.heap.size P p.length (i64s p)) (h1 : 1 ≤ p.length) (h8 : p.length ≤ 8) :
    Calls Try.prog 107 #[.slice P p.length c] w fun e w' => ∃ R s R' s', e = .returned (.agg #[.slice R p.length s, .slice R' p.length s']) ∧ Below w.heap.size w w' ∧ Arr w' w'.heap.size R p.length (i64s p) ∧ Arr w' w'.heap.size R' p.length (i64s p) := by
  have t1 := fun W h => clone_any P p c W h (by omega)
  obtain ⟨n, hn⟩ : ∃ n, n = p.length := ⟨_, rfl⟩
  have HN := hideP hn
  rw [← hn] at h1 h8 hP t1 ⊢
  have j1 : decide ((n : Int) < 1) = false := by simp; omega
  have j2 : decide ((8 : Int) < (n : Int)) = false := by simp; omega
  clear hn
  have Ht1 := hideP t1; have HhP := hideP hP; clear t1 hP
  go_enter Try.func107, Try.ntmps107
  go_wp2_with fail
  obtain ⟨w1, hw1⟩ : ∃ w1, w1 = w.alloc (Obj.cells #[.slice none 0 0, .slice none 0 0] 41) := ⟨_, rfl⟩
  have c2 := hideP (show Two w1 w.heap.size 41 (.slice none 0 0) (.slice none 0 0) by rw [hw1]; exact Two.new _ _ _ _)
  have cb := hideP (show Below w.heap.size w w1 by rw [hw1]; exact below_new _ _)
  rw [← hw1]
  clear hw1
  have Ht2 := Ht1
  have lt1 := hideP c2.out.lt
  refine (Ht1.out w1 (HhP.out.after cb.out)).mono ?_
  rintro e w2 ⟨R, s, rfl, hb, o1⟩
  replace c2 := hideP (c2.out.after hb)
  replace cb := hideP (bstep cb.out hb)
  clear hb
  have lt2 := hideP c2.out.lt
  go_wp2_with fail
  refine (Ht2.out w2 (HhP.out.after cb.out)).mono ?_
  rintro e w3 ⟨R', s', rfl, hb, o2⟩
  replace o1 := hideP (o1.ext (Ext.of_below hb))
  replace o2 := hideP o2
  replace c2 := hideP (c2.out.after hb)
  replace cb := hideP (bstep cb.out hb)
  clear hb
  have f0 := c2.out.fz 0
  have f1 := c2.out.fz 1
  have kc20 := c2.out.c0; have kc21 := c2.out.c1
  go_wp2
  refine ret_box rfl rfl (c2.out.set2 _ _) rfl ?_
  replace o1 := own_setCell (own_setCell o1.out (a := ⟨w.heap.size, 0, none⟩) lt1.out (.slice R n s)) (a := ⟨w.heap.size, 1, none⟩) lt1.out (.slice R' n s')
  replace o2 := own_setCell (own_setCell o2.out (a := ⟨w.heap.size, 0, none⟩) lt2.out (.slice R n s)) (a := ⟨w.heap.size, 1, none⟩) lt2.out (.slice R' n s')
  refine ⟨R, s, R', s', rfl, (cb.out.setCell (p := ⟨w.heap.size, 0, none⟩) (Nat.le_refl _) _).setCell (p := ⟨w.heap.size, 1, none⟩) (Nat.le_refl _) _, ?_, ?_⟩
  · have := o1.arr; rwa [← HN.out] at this
  · have := o2.arr; rwa [← HN.out] at this
end Go.Proofs.Ytgcbodpjidoanaa
