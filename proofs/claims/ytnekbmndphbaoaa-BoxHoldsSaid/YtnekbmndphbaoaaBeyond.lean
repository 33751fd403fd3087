/- Contracts of package box: Beyond. -/
import Derived.Test.YtnekbmndphbaoaaLeast
import Derived.Test.YtnekbmndphbaoaaAhead
set_option linter.unusedVariables false
set_option linter.unusedSimpArgs false
namespace Go.Proofs.Ytnekbmndphbaoaa
open Go.RowKit
/-- a box's least key, 0 if there is none -/
def leastD (K col : Int) (at_ lo hi : List Int) : Nat := if leastB K col at_.length lo hi = true then leastN K col at_ lo hi else 0
theorem leastB_len {K col : Int} {m : Nat} {lo hi : List Int} (h : leastB K col m lo hi = true) : 1 ≤ lo.length ∧ lo.length ≤ 8 ∧ hi.length = lo.length := by
  unfold leastB at h
  simp only [Bool.and_eq_true] at h
  have := rightB_len h.1
  omega
theorem leastN_lt (K col : Int) (at_ lo hi : List Int) (ha : IsI at_) (il : IsI lo) (ih : IsI hi) (hn : lo.length ≤ 8) : leastN K col at_ lo hi < 147573952589676412928 := by
  have h1 := il col.toNat
  have h2 := ih col.toNat
  have h3 := dbox_lt at_ (lo.drop 1) (hi.drop 1) (lo.length - 1) ha il.drop ih.drop (by omega)
  unfold leastN
  split
  · omega
  · split
    · exact h3
    · omega
theorem leastD_lt (K col : Int) (at_ lo hi : List Int) (ha : IsI at_) (il : IsI lo) (ih : IsI hi) : leastD K col at_ lo hi < 340282366920938463463374607431768211456 := by
  unfold leastD
  split
  · rename_i h
    exact Nat.lt_trans (leastN_lt K col at_ lo hi ha il ih (leastB_len h).2.1) (by decide)
  · decide
/-- is a box beyond a row? -/
def beyondB (K col : Int) (at_ lo hi p : List Int) : Bool :=
  leastB K col at_.length lo hi && ordB K col at_.length p.length && decide (p.length = lo.length) && aheadB (keyN K col at_ p) (leastN K col at_ lo hi) (p.getD 0 0) (lo.getD 0 0)
theorem least_any (K col : Int) (A L H : Option Addr) (at_ lo hi : List Int) (ca dl sh : Nat) (ia : IsI at_) (il : IsI lo) (ih : IsI hi) (hm : lo.length ≤ 17592186043904) (hd : lo.length ≤ dl) (hs : hi.length ≤ sh) :
    ∃ (er id : Int), ((er = 0 ∧ leastB K col at_.length lo hi = true ∧ id = lo.getD 0 0) ∨ (er = 1 ∧ leastB K col at_.length lo hi = false ∧ id = 0)) ∧ ∀ w, Arr w w.heap.size A at_.length (i64s at_) → Arr w w.heap.size L lo.length (i64s lo) → Arr w w.heap.size H hi.length (i64s hi) →
      Calls Try.prog 36 #[.agg #[.int .u8 K, .int .i64 col, .slice A at_.length ca], .agg #[.slice L lo.length dl, .slice H hi.length sh]] w fun e w' => e = .returned (.tuple #[dv (leastD K col at_ lo hi), .int .i64 id, .int .i64 er]) ∧ Below w.heap.size w w' := by
  by_cases h : leastB K col at_.length lo hi = true
  · refine ⟨0, lo.getD 0 0, .inl ⟨rfl, h, rfl⟩, fun w hA hL hH => ?_⟩
    have := least_in K col A L H at_ lo hi ca dl sh w hA hL hH ia il ih hd hs h
    unfold leastD
    rw [if_pos h]
    exact this
  · have h' : leastB K col at_.length lo hi = false := by simpa using h
    refine ⟨1, 0, .inr ⟨rfl, h', rfl⟩, fun w hA hL hH => ?_⟩
    have := least_no K col A L H at_ lo hi ca dl sh w hL hH hm h'
    unfold leastD
    rw [if_neg h]
    exact this
set_option maxRecDepth 100000 in
set_option maxHeartbeats 4000000 in
theorem beyond_any (K col : Int) (A L H P : Option Addr) (at_ lo hi p : List Int) (ca dl sh c : Nat) (w : World) (hA : Arr w w.heap.size A at_.length (i64s at_)) (hL : Arr w w.heap.size L lo.length (i64s lo)) (hH : Arr w w.heap.size H hi.length (i64s hi)) (hP : Arr w w.heap.size P p.length (i64s p))
    (ha : IsI at_) (il : IsI lo) (ih : IsI hi) (hp : IsI p) (hn : p.length ≤ 17592186043904) (hm : lo.length ≤ 17592186043904) (hc : p.length ≤ c) (hdl : lo.length ≤ dl) (hsh : hi.length ≤ sh) :
    Calls Try.prog 38 #[.agg #[.int .u8 K, .int .i64 col, .slice A at_.length ca], .agg #[.slice L lo.length dl, .slice H hi.length sh], .slice P p.length c] w fun e w' => e = .returned (.bool (beyondB K col at_ lo hi p)) ∧ Below w.heap.size w w' := by
  obtain ⟨e1, id, hE1, t1⟩ := least_any K col A L H at_ lo hi ca dl sh ha il ih hm hdl hsh
  obtain ⟨e2, hE2, t2⟩ := key_any K col A at_ ca ha P p c hp hn hc
  have t3 := fun W => ahead_any (keyD K col at_ p) (leastD K col at_ lo hi) (p.getD 0 0) id W (keyD_lt K col at_ p hp ha) (leastD_lt K col at_ lo hi ha il ih)
  obtain ⟨z, hz⟩ : ∃ z, z = aheadB (keyD K col at_ p) (leastD K col at_ lo hi) (p.getD 0 0) id := ⟨_, rfl⟩
  rw [← hz] at t3
  obtain ⟨r, hr⟩ : ∃ r, r = beyondB K col at_ lo hi p := ⟨_, rfl⟩
  rw [← hr]
  have hcase : (e1 = 1 ∧ r = false) ∨ (e1 = 0 ∧ e2 = 1 ∧ r = false) ∨ (e1 = 0 ∧ e2 = 0 ∧ p.length ≠ lo.length ∧ r = false) ∨ (e1 = 0 ∧ e2 = 0 ∧ p.length = lo.length ∧ 1 ≤ p.length ∧ r = z) := by
    rw [hr, hz]
    unfold beyondB keyD leastD
    rcases hE1 with ⟨h1, h2, h5⟩ | ⟨h1, h2, h5⟩ <;> rcases hE2 with ⟨h3, h4⟩ | ⟨h3, h4⟩
    · by_cases hl : p.length = lo.length
      · right; right; right
        exact ⟨h1, h3, hl, ordB_len h4, by rw [if_pos h2, if_pos h4, h2, h4, h5]; simp [hl]⟩
      · right; right; left
        exact ⟨h1, h3, hl, by simp [hl]⟩
    · right; left; exact ⟨h1, h3, by simp [h4]⟩
    · left; exact ⟨h1, by simp [h2]⟩
    · left; exact ⟨h1, by simp [h2]⟩
  unfold dv dvp at t1 t2 t3
  obtain ⟨h1, g1⟩ : ∃ h, h = leastD K col at_ lo hi / 18446744073709551616 := ⟨_, rfl⟩
  obtain ⟨l1, g2⟩ : ∃ l, l = leastD K col at_ lo hi % 18446744073709551616 := ⟨_, rfl⟩
  obtain ⟨h2, g3⟩ : ∃ h, h = keyD K col at_ p / 18446744073709551616 := ⟨_, rfl⟩
  obtain ⟨l2, g4⟩ : ∃ l, l = keyD K col at_ p % 18446744073709551616 := ⟨_, rfl⟩
  rw [← g1, ← g2] at t1 t3
  rw [← g3, ← g4] at t2 t3
  obtain ⟨m, hm'⟩ : ∃ m, m = at_.length := ⟨_, rfl⟩
  rw [← hm'] at t1 t2 hA ⊢
  obtain ⟨x, hx⟩ : ∃ x, x = p.getD 0 0 := ⟨_, rfl⟩
  rw [← hx] at t3
  obtain ⟨np, hnp⟩ : ∃ n, n = p.length := ⟨_, rfl⟩
  obtain ⟨nq, hnq⟩ : ∃ n, n = lo.length := ⟨_, rfl⟩
  obtain ⟨nh, hnh⟩ : ∃ n, n = hi.length := ⟨_, rfl⟩
  rw [← hnp] at hcase t2 hP ⊢
  rw [← hnq] at hcase t1 hL ⊢
  rw [← hnh] at t1 hH ⊢
  clear hr hz g1 g2 g3 g4 hE1 hE2 hm' hn hm hc hdl hsh ha il ih hp hnp hnq hnh
  have Ht1 := hideP t1; have Ht2 := hideP t2; have Ht3 := hideP t3; have HhA := hideP hA; have HhL := hideP hL; have HhH := hideP hH; have HhP := hideP hP; have Hhx := hideP hx; clear t1 t2 t3 hA hL hH hP hx
  rcases hcase with ⟨rfl, rfl⟩ | ⟨rfl, rfl, rfl⟩ | ⟨rfl, rfl, hne, rfl⟩ | ⟨rfl, rfl, heq, hpos, rfl⟩
  case' inr.inr.inl => have tl : ((np : Int) == nq) = false := by simp; omega
  case' inr.inr.inl => clear hne
  case' inr.inr.inr =>
    obtain rfl := heq
    have j0 : (0 : Int) < np := by omega
    have jn : 0 < np := by omega
    obtain ⟨b, off, rfl, hb, hcl⟩ := HhP.out (by omega)
    have u1 := hcl 0 (by omega)
    rw [Nat.add_zero] at u1
    unfold i64s at u1
    rw [← Hhx.out] at u1
    have Hu1 := hideP u1; have Hhb := hideP hb; clear u1 hb
    clear hcl hpos
  · skip
    go_enter Try.func38, Try.ntmps38
    go_wp2_with fail
    obtain ⟨w1, hw1⟩ : ∃ w1, w1 = (w.alloc (Obj.cells #[.int .u8 K, .int .i64 col, .slice A m ca] 50)).alloc (Obj.cells #[.slice L np dl, .slice H nh sh] 25) := ⟨_, rfl⟩
    have c1 := hideP (show Three w1 w.heap.size 50 (.int .u8 K) (.int .i64 col) (.slice A m ca) by rw [hw1]; exact (Three.new _ _ _ _ _).alloc _)
    have c2 := hideP (show Two w1 (w.heap.size + 1) 25 (.slice L np dl) (.slice H nh sh) by rw [hw1]; exact Two.new' _ _ _ _ _ (by simp))
    have cb := hideP (show Below w.heap.size w w1 by rw [hw1]; exact (below_new _ _).alloc (by simp) _)
    rw [← hw1]
    clear hw1
    refine (Ht1.out w1 (HhA.out.after cb.out) (HhL.out.after cb.out) (HhH.out.after cb.out)).mono ?_
    rintro e w2 ⟨rfl, hb_⟩
    replace c1 := hideP (c1.out.after hb_)
    replace c2 := hideP (c2.out.after hb_)
    replace cb := hideP (bstep cb.out hb_)
    clear hb_
    have q0 := (c1.out.alloc (Obj.cells #[.int .u64 h1, .int .u64 l1] 29)).c0
    have q1 := (c1.out.alloc (Obj.cells #[.int .u64 h1, .int .u64 l1] 29)).c1
    have q2 := (c1.out.alloc (Obj.cells #[.int .u64 h1, .int .u64 l1] 29)).c2
    go_wp2_with fail
    clear q0 q1 q2
    obtain ⟨v2, hv_⟩ : ∃ v, v = w2.alloc (Obj.cells #[.int .u64 h1, .int .u64 l1] 29) := ⟨_, rfl⟩
    obtain ⟨g2, hg_⟩ : ∃ g, g = w2.heap.size := ⟨_, rfl⟩
    have hb_ : Below w2.heap.size w2 v2 := by rw [hv_]; exact below_new _ _
    have x2 := hideP (show Two v2 g2 29 (.int .u64 h1) (.int .u64 l1) by rw [hv_, hg_]; exact Two.new _ _ _ _)
    have Gx2 := hideP (show w2.heap.size ≤ g2 from Nat.le_of_eq hg_.symm)
    replace c1 := hideP (c1.out.after hb_)
    replace c2 := hideP (c2.out.after hb_)
    replace cb := hideP (bstep cb.out hb_)
    rw [← hv_, ← hg_]
    clear hv_ hg_ hb_
    refine (Ht2.out v2 (HhA.out.after cb.out) (HhP.out.after cb.out)).mono ?_
    rintro e w3 ⟨rfl, hb_⟩
    replace c2 := hideP (c2.out.after hb_)
    replace x2 := hideP (x2.out.after hb_)
    replace cb := hideP (bstep cb.out hb_)
    clear hb_
    go_wp2
    obtain ⟨v3, hv_⟩ : ∃ v, v = w3.alloc (Obj.cells #[.int .u64 h2, .int .u64 l2] 29) := ⟨_, rfl⟩
    obtain ⟨g3, hg_⟩ : ∃ g, g = w3.heap.size := ⟨_, rfl⟩
    have hb_ : Below w3.heap.size w3 v3 := by rw [hv_]; exact below_new _ _
    have x3 := hideP (show Two v3 g3 29 (.int .u64 h2) (.int .u64 l2) by rw [hv_, hg_]; exact Two.new _ _ _ _)
    have Gx3 := hideP (show w3.heap.size ≤ g3 from Nat.le_of_eq hg_.symm)
    replace c2 := hideP (c2.out.after hb_)
    replace x2 := hideP (x2.out.after hb_)
    replace cb := hideP (bstep cb.out hb_)
    rw [← hv_, ← hg_]
    clear hv_ hg_ hb_
    have kc20 := c2.out.c0; have kc21 := c2.out.c1
    have kx20 := x2.out.c0; have kx21 := x2.out.c1
    have kx30 := x3.out.c0; have kx31 := x3.out.c1
    have v1 := cell_below cb.out Hhb.out Hu1.out
    refine wp_region_eager 24 [(true, 0), (true, 1), (true, 2), (true, 3), (true, 4), (true, 5), (true, 6), (true, 7), (true, 8), (true, 9), (true, 10), (true, 11), (true, 12), (true, 13), (true, 14), (true, 15), (true, 16), (true, 17), (true, 18), (true, 19), (true, 20), (true, 21), (true, 22), (true, 23)] (by kernel_rfl) (by kernel_rfl) ?_
    simp only [pick, List.map_cons, List.map_nil, nthO_zero, nthO_succ]
    repeat (first
      | (refine wpPlan_skipK (by rfl) (fun K hK => ?_); go_simp; refine hK _ ?_; clear hK K)
      | (refine wpPlan_valK (by rfl) (fun K hK => ?_); apply Exists.intro; refine ⟨fun W hW => ?_, ?_⟩; (focus (have hs0 := hW.cell kc20; have hs1 := hW.cell kc21; have hs2 := hW.cell kx20; have hs3 := hW.cell kx21; have hs4 := hW.cell kx30; have hs5 := hW.cell kx31; have hs6 := hW.cell v1; go_simp; (try rfl); done)); go_simp; refine hK _ ?_; clear hK K)
      | (refine wpPlan_callK (.bool r) 59 #[.agg #[.int .u64 h2, .int .u64 l2], .int .i64 x, .agg #[.int .u64 h1, .int .u64 l1], .int .i64 id] (by rfl) ?_ (fun W hW => (Ht3.out W).mono fun e w' h => ⟨h.1, Ext.of_below h.2⟩) (fun K hK => ?_); (focus (intro W; go_simp; done)); go_simp; refine hK _ ?_; clear hK K))
    refine wpPlan_nil (fun w4 hW0 => ?_)
    simp only [List.drop_succ_cons, List.drop_zero, List.drop_nil]
    replace cb := hideP (below_ext cb.out hW0.drew_left)
    clear hW0
    go_wp2
    go_ret
    exact ⟨rfl, cb.out⟩
  all_goals
    go_enter Try.func38, Try.ntmps38
    go_wp2_with fail
    obtain ⟨w1, hw1⟩ : ∃ w1, w1 = (w.alloc (Obj.cells #[.int .u8 K, .int .i64 col, .slice A m ca] 50)).alloc (Obj.cells #[.slice L nq dl, .slice H nh sh] 25) := ⟨_, rfl⟩
    have c1 := hideP (show Three w1 w.heap.size 50 (.int .u8 K) (.int .i64 col) (.slice A m ca) by rw [hw1]; exact (Three.new _ _ _ _ _).alloc _)
    have c2 := hideP (show Two w1 (w.heap.size + 1) 25 (.slice L nq dl) (.slice H nh sh) by rw [hw1]; exact Two.new' _ _ _ _ _ (by simp))
    have cb := hideP (show Below w.heap.size w w1 by rw [hw1]; exact (below_new _ _).alloc (by simp) _)
    rw [← hw1]
    clear hw1
    refine (Ht1.out w1 (HhA.out.after cb.out) (HhL.out.after cb.out) (HhH.out.after cb.out)).mono ?_
    rintro e w2 ⟨rfl, hb_⟩
    replace c1 := hideP (c1.out.after hb_)
    replace c2 := hideP (c2.out.after hb_)
    replace cb := hideP (bstep cb.out hb_)
    clear hb_
    have q0 := (c1.out.alloc (Obj.cells #[.int .u64 h1, .int .u64 l1] 29)).c0
    have q1 := (c1.out.alloc (Obj.cells #[.int .u64 h1, .int .u64 l1] 29)).c1
    have q2 := (c1.out.alloc (Obj.cells #[.int .u64 h1, .int .u64 l1] 29)).c2
    go_wp2_with fail
    clear q0 q1 q2
    obtain ⟨v2, hv_⟩ : ∃ v, v = w2.alloc (Obj.cells #[.int .u64 h1, .int .u64 l1] 29) := ⟨_, rfl⟩
    obtain ⟨g2, hg_⟩ : ∃ g, g = w2.heap.size := ⟨_, rfl⟩
    have hb_ : Below w2.heap.size w2 v2 := by rw [hv_]; exact below_new _ _
    have x2 := hideP (show Two v2 g2 29 (.int .u64 h1) (.int .u64 l1) by rw [hv_, hg_]; exact Two.new _ _ _ _)
    have Gx2 := hideP (show w2.heap.size ≤ g2 from Nat.le_of_eq hg_.symm)
    replace c1 := hideP (c1.out.after hb_)
    replace c2 := hideP (c2.out.after hb_)
    replace cb := hideP (bstep cb.out hb_)
    rw [← hv_, ← hg_]
    clear hv_ hg_ hb_
    refine (Ht2.out v2 (HhA.out.after cb.out) (HhP.out.after cb.out)).mono ?_
    rintro e w3 ⟨rfl, hb_⟩
    replace c2 := hideP (c2.out.after hb_)
    replace x2 := hideP (x2.out.after hb_)
    replace cb := hideP (bstep cb.out hb_)
    clear hb_
    go_wp2
    obtain ⟨v3, hv_⟩ : ∃ v, v = w3.alloc (Obj.cells #[.int .u64 h2, .int .u64 l2] 29) := ⟨_, rfl⟩
    obtain ⟨g3, hg_⟩ : ∃ g, g = w3.heap.size := ⟨_, rfl⟩
    have hb_ : Below w3.heap.size w3 v3 := by rw [hv_]; exact below_new _ _
    have x3 := hideP (show Two v3 g3 29 (.int .u64 h2) (.int .u64 l2) by rw [hv_, hg_]; exact Two.new _ _ _ _)
    have Gx3 := hideP (show w3.heap.size ≤ g3 from Nat.le_of_eq hg_.symm)
    replace c2 := hideP (c2.out.after hb_)
    replace x2 := hideP (x2.out.after hb_)
    replace cb := hideP (bstep cb.out hb_)
    rw [← hv_, ← hg_]
    clear hv_ hg_ hb_
    have kc20 := c2.out.c0; have kc21 := c2.out.c1
    have kx20 := x2.out.c0; have kx21 := x2.out.c1
    have kx30 := x3.out.c0; have kx31 := x3.out.c1
    refine wp_region_eager 24 [(true, 0), (true, 1), (true, 2), (true, 3), (true, 4), (true, 5), (true, 6), (true, 7), (true, 8), (true, 9), (true, 10), (true, 11), (true, 12), (true, 13), (true, 14), (true, 15), (true, 16), (true, 17), (true, 18), (true, 19), (true, 20), (true, 21), (true, 22), (true, 23)] (by kernel_rfl) (by kernel_rfl) ?_
    simp only [pick, List.map_cons, List.map_nil, nthO_zero, nthO_succ]
    repeat (first
      | (refine wpPlan_skipK (by rfl) (fun K hK => ?_); go_simp; refine hK _ ?_; clear hK K)
      | (refine wpPlan_valK (by rfl) (fun K hK => ?_); apply Exists.intro; refine ⟨fun W hW => ?_, ?_⟩; (focus (have hs0 := hW.cell kc20; have hs1 := hW.cell kc21; have hs2 := hW.cell kx20; have hs3 := hW.cell kx21; have hs4 := hW.cell kx30; have hs5 := hW.cell kx31; go_simp; (try rfl); done)); go_simp; refine hK _ ?_; clear hK K))
    refine wpPlan_nil (fun w4 hW0 => ?_)
    simp only [List.drop_succ_cons, List.drop_zero, List.drop_nil]
    replace cb := hideP (below_ext cb.out hW0.drew_left)
    clear hW0
    go_wp2
    go_ret
    exact ⟨rfl, cb.out⟩
end Go.Proofs.Ytnekbmndphbaoaa
