/- Contracts of package box: Holds, Has. -/
import Derived.Test.YtnekbmndphbaoaaBox3
import Derived.Test.YtnekbmndphbaoaaRef04b
set_option linter.unusedVariables false
set_option linter.unusedSimpArgs false
namespace Go.Proofs.Ytnekbmndphbaoaa
open Go.RowKit
def holdsB (alo ahi blo bhi : List Int) : Bool := bothB alo ahi blo bhi && (List.range alo.length).all fun i => decide (alo.getD i 0 ≤ blo.getD i 0) && decide (bhi.getD i 0 ≤ ahi.getD i 0)
theorem holds1 (i : Nat) (g g' : Nat) (L H L' H' : Option Addr) (lo hi lo' hi' : List Int) (n dl sh dl' sh' : Nat) (w : World) (h1 : w.cell? ⟨g, 0, none⟩ = some (.slice L n dl)) (h2 : w.cell? ⟨g, 1, none⟩ = some (.slice H n sh))
    (h1' : w.cell? ⟨g', 0, none⟩ = some (.slice L' n dl')) (h2' : w.cell? ⟨g', 1, none⟩ = some (.slice H' n sh'))
    (hL : Arr w w.heap.size L n (i64s lo)) (hH : Arr w w.heap.size H n (i64s hi)) (hL' : Arr w w.heap.size L' n (i64s lo')) (hH' : Arr w w.heap.size H' n (i64s hi')) (hi0 : i < n) :
    Calls Try.prog 64 (#[.int .i64 i] ++ #[.pointer (some ⟨g, 0, none⟩), .pointer (some ⟨g', 0, none⟩)]) w fun e w' => e = .returned (.bool (decide (lo.getD i 0 ≤ lo'.getD i 0) && decide (hi'.getD i 0 ≤ hi.getD i 0))) ∧ ∃ nq, w.drewN nq = w' := by
  obtain ⟨b, off, rfl, hb, hc⟩ := hL (by omega)
  obtain ⟨b', off', rfl, hb', hc'⟩ := hH (by omega)
  obtain ⟨b1, off1, rfl, hb1, hc1⟩ := hL' (by omega)
  obtain ⟨b2, off2, rfl, hb2, hc2⟩ := hH' (by omega)
  have k1 := hc i hi0
  have k2 := hc' i hi0
  have k3 := hc1 i hi0
  have k4 := hc2 i hi0
  unfold i64s at k1 k2 k3 k4
  obtain ⟨x, ex⟩ : ∃ x, x = lo.getD i 0 := ⟨_, rfl⟩
  obtain ⟨y, ey⟩ : ∃ y, y = lo'.getD i 0 := ⟨_, rfl⟩
  obtain ⟨u, eu⟩ : ∃ x, x = hi'.getD i 0 := ⟨_, rfl⟩
  obtain ⟨v, ev⟩ : ∃ y, y = hi.getD i 0 := ⟨_, rfl⟩
  rw [← ex] at k1 ⊢
  rw [← ev] at k2 ⊢
  rw [← ey] at k3 ⊢
  rw [← eu] at k4 ⊢
  have i0 : (0 : Int) ≤ (i : Int) := by omega
  have i1 : (i : Int) < (n : Int) := by omega
  clear hc hc' hc1 hc2 hL hH hL' hH' ex ey eu ev
  by_cases hxy : x ≤ y
  · have t : decide (x ≤ y) = true := by simp [hxy]
    rw [t]
    clear hxy
    go_enter Try.func64, Try.ntmps64
    go_wp2
    go_quiet (fail)
    go_wp2
    go_ret
    exact ⟨by simp, ⟨_, rfl⟩⟩
  · have t : decide (x ≤ y) = false := by simp; omega
    rw [t]
    clear hxy
    go_enter Try.func64, Try.ntmps64
    go_wp2
    go_quiet (fail)
    go_wp2
    go_ret
    exact ⟨by simp, ⟨_, rfl⟩⟩

set_option maxHeartbeats 1000000 in
theorem holds_any (L H L' H' : Option Addr) (lo hi lo' hi' : List Int) (dl sh dl' sh' : Nat) (w : World) (hL : Arr w w.heap.size L lo.length (i64s lo)) (hH : Arr w w.heap.size H hi.length (i64s hi))
    (hL' : Arr w w.heap.size L' lo'.length (i64s lo')) (hH' : Arr w w.heap.size H' hi'.length (i64s hi')) :
    Calls Try.prog 41 #[.agg #[.slice L lo.length dl, .slice H hi.length sh], .agg #[.slice L' lo'.length dl', .slice H' hi'.length sh']] w fun e w' => e = .returned (.bool (holdsB lo hi lo' hi')) ∧ Below w.heap.size w w' := by
  have t1 := fun W h h' h'' h3 => both_any L H L' H' lo hi lo' hi' dl sh dl' sh' W h h' h'' h3
  have hfacts : bothB lo hi lo' hi' = true → lo.length ≤ 8 ∧ hi.length = lo.length ∧ lo'.length = lo.length ∧ hi'.length = lo.length := fun h => by
    unfold bothB at h
    simp only [Bool.and_eq_true] at h
    have h1 := rightB_len h.1
    have h2 := rightB_len h.2
    omega
  obtain ⟨p, hp⟩ : ∃ p, p = bothB lo hi lo' hi' := ⟨_, rfl⟩
  have hb := hideP (show holdsB lo hi lo' hi' = (p && (List.range lo.length).all fun i => decide (lo.getD i 0 ≤ lo'.getD i 0) && decide (hi'.getD i 0 ≤ hi.getD i 0)) by unfold holdsB; rw [hp])
  rw [← hp] at t1 hfacts
  clear hp
  have HF := hideP hfacts
  clear hfacts
  have Ht1 := hideP t1; have HhL := hideP hL; have HhH := hideP hH; have HhL' := hideP hL'; have HhH' := hideP hH'; clear t1 hL hH hL' hH'
  go_enter Try.func41, Try.ntmps41
  go_wp2_with fail
  obtain ⟨w1, hw1⟩ : ∃ w1, w1 = (w.alloc (Obj.cells #[.slice L lo.length dl, .slice H hi.length sh] 25)).alloc (Obj.cells #[.slice L' lo'.length dl', .slice H' hi'.length sh'] 25) := ⟨_, rfl⟩
  have c1 := hideP (show Two w1 w.heap.size 25 (.slice L lo.length dl) (.slice H hi.length sh) by rw [hw1]; exact (Two.new _ _ _ _).alloc _)
  have c2 := hideP (show Two w1 (w.heap.size + 1) 25 (.slice L' lo'.length dl') (.slice H' hi'.length sh') by rw [hw1]; exact Two.new' _ _ _ _ _ (by simp))
  have cb := hideP (show Below w.heap.size w w1 by rw [hw1]; exact (below_new _ _).alloc (by simp) _)
  rw [← hw1]
  clear hw1
  refine (Ht1.out w1 (HhL.out.after cb.out) (HhH.out.after cb.out) (HhL'.out.after cb.out) (HhH'.out.after cb.out)).mono ?_
  rintro e w2 ⟨rfl, hb'⟩
  replace c1 := hideP (c1.out.after hb')
  replace c2 := hideP (c2.out.after hb')
  replace cb := hideP (bstep cb.out hb')
  clear hb'
  cases p
  · go_wp2
    go_ret
    exact ⟨by rw [hb.out]; rfl, cb.out⟩
  · obtain ⟨h8, e1, e2, e3⟩ := HF.out rfl
    obtain ⟨n, hn⟩ : ∃ n, n = lo.length := ⟨_, rfl⟩
    rw [← hn] at h8 e1 e2 e3 hb HhL c1
    rw [e1] at HhH c1
    rw [e2] at HhL' c2
    rw [e3] at HhH' c2
    rw [e1, e2, e3, ← hn]
    clear e1 e2 e3 hn HF
    have kc10 := c1.out.c0; have kc11 := c1.out.c1
    have kc20 := c2.out.c0; have kc21 := c2.out.c1
    go_wp2_with fail
    refine (all_any n _ 64 #[.pointer (some ⟨w.heap.size, 0, none⟩), .pointer (some ⟨w.heap.size + 1, 0, none⟩)] rfl (fun i => decide (lo.getD i 0 ≤ lo'.getD i 0) && decide (hi'.getD i 0 ≤ hi.getD i 0)) w2 (by omega) (run_enter Try.func64 rfl rfl) (fun i W hi hW => ?_)).mono ?_
    · exact holds1 i _ _ L H L' H' _ _ _ _ n dl sh dl' sh' W (c1.out.after hW).c0 (c1.out.after hW).c1 (c2.out.after hW).c0 (c2.out.after hW).c1 ((HhL.out.after cb.out).after hW) ((HhH.out.after cb.out).after hW) ((HhL'.out.after cb.out).after hW) ((HhH'.out.after cb.out).after hW) hi
    rintro e w3 ⟨rfl, hb'⟩
    clear kc10 kc11 kc20 kc21
    replace cb := hideP (bstep cb.out hb')
    clear hb'
    go_wp2
    go_ret
    exact ⟨by rw [hb.out]; rfl, cb.out⟩
theorem has1 (i : Nat) (g g' : Nat) (L H P : Option Addr) (lo hi p : List Int) (n dl sh c : Nat) (w : World) (h1 : w.cell? ⟨g, 0, none⟩ = some (.slice L n dl)) (h2 : w.cell? ⟨g, 1, none⟩ = some (.slice H n sh))
    (h3 : w.cell? ⟨g', 0, none⟩ = some (.slice P n c))
    (hL : Arr w w.heap.size L n (i64s lo)) (hH : Arr w w.heap.size H n (i64s hi)) (hP : Arr w w.heap.size P n (i64s p)) (hi0 : i < n) :
    Calls Try.prog 66 (#[.int .i64 i] ++ #[.pointer (some ⟨g, 0, none⟩), .pointer (some ⟨g', 0, none⟩)]) w fun e w' => e = .returned (.bool (decide (lo.getD i 0 ≤ p.getD i 0) && decide (p.getD i 0 ≤ hi.getD i 0))) ∧ ∃ nq, w.drewN nq = w' := by
  obtain ⟨b, off, rfl, hb, hc⟩ := hL (by omega)
  obtain ⟨b', off', rfl, hb', hc'⟩ := hH (by omega)
  obtain ⟨b1, off1, rfl, hb1, hc1⟩ := hP (by omega)
  have k1 := hc i hi0
  have k2 := hc' i hi0
  have k3 := hc1 i hi0
  unfold i64s at k1 k2 k3
  obtain ⟨x, ex⟩ : ∃ x, x = lo.getD i 0 := ⟨_, rfl⟩
  obtain ⟨y, ey⟩ : ∃ y, y = p.getD i 0 := ⟨_, rfl⟩
  obtain ⟨v, ev⟩ : ∃ y, y = hi.getD i 0 := ⟨_, rfl⟩
  rw [← ex] at k1 ⊢
  rw [← ev] at k2 ⊢
  rw [← ey] at k3 ⊢
  have i0 : (0 : Int) ≤ (i : Int) := by omega
  have i1 : (i : Int) < (n : Int) := by omega
  clear hc hc' hc1 hL hH hP ex ey ev
  by_cases hxy : x ≤ y
  · have t : decide (x ≤ y) = true := by simp [hxy]
    rw [t]
    clear hxy
    go_enter Try.func66, Try.ntmps66
    go_wp2
    go_quiet (fail)
    go_wp2
    go_ret
    exact ⟨by simp, ⟨_, rfl⟩⟩
  · have t : decide (x ≤ y) = false := by simp; omega
    rw [t]
    clear hxy
    go_enter Try.func66, Try.ntmps66
    go_wp2
    go_quiet (fail)
    go_wp2
    go_ret
    exact ⟨by simp, ⟨_, rfl⟩⟩
set_option maxHeartbeats 1000000 in
theorem has_any (L H P : Option Addr) (lo hi p : List Int) (dl sh c : Nat) (w : World) (hL : Arr w w.heap.size L lo.length (i64s lo)) (hH : Arr w w.heap.size H hi.length (i64s hi)) (hP : Arr w w.heap.size P p.length (i64s p)) :
    Calls Try.prog 43 #[.agg #[.slice L lo.length dl, .slice H hi.length sh], .slice P p.length c] w fun e w' => e = .returned (.bool (hasB lo hi p)) ∧ Below w.heap.size w w' := by
  have t1 := fun W h h' => right_any L H lo hi dl sh p.length W h h'
  obtain ⟨o, ho⟩ : ∃ o, o = rightB lo hi p.length := ⟨_, rfl⟩
  have hb := hideP (show hasB lo hi p = (o && (List.range p.length).all fun i => decide (lo.getD i 0 ≤ p.getD i 0) && decide (p.getD i 0 ≤ hi.getD i 0)) by unfold hasB; rw [ho])
  have hfacts : o = true → p.length ≤ 8 ∧ lo.length = p.length ∧ hi.length = p.length := fun h => by
    rw [ho] at h; have := rightB_len h; omega
  rw [← ho] at t1
  have HF := hideP hfacts
  clear ho hfacts
  have Ht1 := hideP t1; have HhL := hideP hL; have HhH := hideP hH; have HhP := hideP hP; clear t1 hL hH hP
  go_enter Try.func43, Try.ntmps43
  go_wp2_with fail
  obtain ⟨w1, hw1⟩ : ∃ w1, w1 = (w.alloc (Obj.cells #[.slice L lo.length dl, .slice H hi.length sh] 25)).alloc (Obj.cells #[.slice P p.length c] 23) := ⟨_, rfl⟩
  have c1 := hideP (show Two w1 w.heap.size 25 (.slice L lo.length dl) (.slice H hi.length sh) by rw [hw1]; exact (Two.new _ _ _ _).alloc _)
  have c2 := hideP (show One w1 (w.heap.size + 1) 23 (.slice P p.length c) by rw [hw1]; exact One.new' _ _ _ _ (by simp))
  have cb := hideP (show Below w.heap.size w w1 by rw [hw1]; exact (below_new _ _).alloc (by simp) _)
  rw [← hw1]
  clear hw1
  refine (Ht1.out w1 (HhL.out.after cb.out) (HhH.out.after cb.out)).mono ?_
  rintro e w2 ⟨rfl, hb'⟩
  replace c1 := hideP (c1.out.after hb')
  replace c2 := hideP (c2.out.after hb')
  replace cb := hideP (bstep cb.out hb')
  clear hb'
  cases o
  · go_wp2
    go_ret
    exact ⟨by rw [hb.out]; rfl, cb.out⟩
  · obtain ⟨h8, e1, e2⟩ := HF.out rfl
    obtain ⟨n, hn⟩ : ∃ n, n = p.length := ⟨_, rfl⟩
    rw [← hn] at h8 e1 e2 hb HhP c2 ⊢
    rw [e1] at HhL c1
    rw [e2] at HhH c1
    rw [e1, e2]
    clear e1 e2 hn HF
    have kc20 := c2.out.c0
    go_wp2_with fail
    refine (all_any n _ 66 #[.pointer (some ⟨w.heap.size, 0, none⟩), .pointer (some ⟨w.heap.size + 1, 0, none⟩)] rfl (fun i => decide (lo.getD i 0 ≤ p.getD i 0) && decide (p.getD i 0 ≤ hi.getD i 0)) w2 (by omega) (run_enter Try.func66 rfl rfl) (fun i W hi hW => ?_)).mono ?_
    · exact has1 i _ _ L H P _ _ _ n dl sh c W (c1.out.after hW).c0 (c1.out.after hW).c1 (c2.out.after hW).c0 ((HhL.out.after cb.out).after hW) ((HhH.out.after cb.out).after hW) ((HhP.out.after cb.out).after hW) hi
    rintro e w3 ⟨rfl, hb'⟩
    clear kc20
    replace cb := hideP (bstep cb.out hb')
    clear hb'
    go_wp2
    go_ret
    exact ⟨by rw [hb.out]; rfl, cb.out⟩
end Go.Proofs.Ytnekbmndphbaoaa
