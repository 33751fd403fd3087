/- The walk of BoxLeast, where there is no least key. -/
import Derived.Test.YtnekbmndphbaoaaLaw04
import Derived.Test.YtnekbmndphbaoaaLeastLaw
set_option linter.unusedVariables false
set_option linter.unusedSimpArgs false
namespace Go.Proofs.Ytnekbmndphbaoaa
open Go.RowKit
set_option maxRecDepth 100000 in
set_option maxHeartbeats 8000000 in
theorem boxLeast_no (K col : Int) (A L H P : Option Addr) (at_ lo hi p : List Int) (ca dl sh c : Nat) (vq : Value) (w : World)
    (hA : Arr w w.heap.size A at_.length (i64s at_)) (ha : IsI at_) (hL : Arr w w.heap.size L lo.length (i64s lo)) (il : IsI lo) (hH : Arr w w.heap.size H hi.length (i64s hi)) (ih : IsI hi) (hm : lo.length ≤ 17592186043904) (hdl : lo.length ≤ dl) (hsh : hi.length ≤ sh)
    (hP : Arr w w.heap.size P p.length (i64s p)) (hp : IsI p) (hn : p.length ≤ 17592186043904) (hc : p.length ≤ c) (hB : leastB K col at_.length lo hi = false) :
    Calls Try.prog 10 #[.agg #[.int .u8 K, .int .i64 col, .slice A at_.length ca], .agg #[.slice L lo.length dl, .slice H hi.length sh], .slice P p.length c, vq] w fun e w' => e = .returned (.bool true) ∧ Below w.heap.size w w' := by
  have t1 := fun W h h' => least_no K col A L H at_ lo hi ca dl sh W h h' hm hB
  have t2 := fun W h h' => rright_any L H lo hi dl sh lo.length W h h'
  have t3 := fun W => rord_any K col A at_.length ca lo.length W (by unfold I64; omega)
  have t4 := fun W h h' h'' h3 => beyond_any K col A L H P at_ lo hi p ca dl sh c W h h' h'' h3 ha il ih hp hn hm hc hdl hsh
  have hbe : beyondB K col at_ lo hi p = false := by unfold beyondB; rw [hB]; simp
  rw [hbe] at t4
  obtain ⟨o, ho⟩ : ∃ o, o = rightB lo hi lo.length := ⟨_, rfl⟩
  obtain ⟨q, hq⟩ : ∃ o, o = ordB K col at_.length lo.length := ⟨_, rfl⟩
  have hcase : o = false ∨ (o = true ∧ q = false) := by
    unfold leastB at hB; rw [← ho, ← hq] at hB
    cases o
    · exact .inl rfl
    · right; exact ⟨rfl, by simpa using hB⟩
  rw [← ho] at t2
  rw [← hq] at t3
  have e0 : dv 0 = .agg #[.int .u64 0, .int .u64 0] := rfl
  rw [e0] at t1
  clear ho hq hB hbe e0 hm hn hc hdl hsh ha il ih hp
  have Ht1 := hideP t1; have Ht2 := hideP t2; have Ht3 := hideP t3; have Ht4 := hideP t4; have HhA := hideP hA; have HhL := hideP hL; have HhH := hideP hH; have HhP := hideP hP; clear t1 t2 t3 t4 hA hL hH hP
  have q' : q = false ∨ q = true := by cases q <;> simp
  rcases hcase with rfl | ⟨rfl, rfl⟩
  all_goals
    go_enter Try.func10, Try.ntmps10
    go_wp2_with fail
    obtain ⟨w1, hw1⟩ : ∃ w1, w1 = (w.alloc (Obj.cells #[.int .u8 K, .int .i64 col, .slice A at_.length ca] 50)).alloc (Obj.cells #[.slice L lo.length dl, .slice H hi.length sh] 25) := ⟨_, rfl⟩
    have c1 := hideP (show Three w1 w.heap.size 50 (.int .u8 K) (.int .i64 col) (.slice A at_.length ca) by rw [hw1]; exact (Three.new _ _ _ _ _).alloc _)
    have c2 := hideP (show Two w1 (w.heap.size + 1) 25 (.slice L lo.length dl) (.slice H hi.length sh) by rw [hw1]; exact Two.new' _ _ _ _ _ (by simp))
    have cb := hideP (show Below w.heap.size w w1 by rw [hw1]; exact (below_new _ _).alloc (by simp) _)
    rw [← hw1]
    clear hw1
    refine (alive04 w1).mono ?_
    rintro e w2 ⟨rfl, hb_⟩
    replace c1 := hideP (c1.out.after hb_)
    replace c2 := hideP (c2.out.after hb_)
    replace cb := hideP (bstep cb.out hb_)
    clear hb_
    have q0 := c1.out.c0
    have q1 := c1.out.c1
    have q2 := c1.out.c2
    have kc20 := c2.out.c0; have kc21 := c2.out.c1
    go_wp2_with fail
    clear q0 q1 q2
    clear kc20 kc21
    refine (Ht1.out w2 (HhL.out.after cb.out) (HhH.out.after cb.out)).mono ?_
    rintro e w3 ⟨rfl, hb_⟩
    replace c1 := hideP (c1.out.after hb_)
    replace c2 := hideP (c2.out.after hb_)
    replace cb := hideP (bstep cb.out hb_)
    clear hb_
    have p0 := (c2.out.alloc (Obj.cells #[.int .u64 0, .int .u64 0] 29)).c0
    have p1 := (c2.out.alloc (Obj.cells #[.int .u64 0, .int .u64 0] 29)).c1
    go_wp2_with fail
    clear p0 p1
    obtain ⟨v3, hv_⟩ : ∃ v, v = w3.alloc (Obj.cells #[.int .u64 0, .int .u64 0] 29) := ⟨_, rfl⟩
    obtain ⟨g9, hg_⟩ : ∃ g, g = w3.heap.size := ⟨_, rfl⟩
    have hb_ : Below w3.heap.size w3 v3 := by rw [hv_]; exact below_new _ _
    have x9 := hideP (show Two v3 g9 29 (.int .u64 0) (.int .u64 0) by rw [hv_, hg_]; exact Two.new _ _ _ _)
    have Gx9 := hideP (show w3.heap.size ≤ g9 from Nat.le_of_eq hg_.symm)
    replace c1 := hideP (c1.out.after hb_)
    replace c2 := hideP (c2.out.after hb_)
    replace cb := hideP (bstep cb.out hb_)
    rw [← hv_, ← hg_]
    clear hv_ hg_ hb_
    refine (Ht2.out v3 (HhL.out.after cb.out) (HhH.out.after cb.out)).mono ?_
    rintro e w4 ⟨rfl, hb_⟩
    replace c1 := hideP (c1.out.after hb_)
    replace c2 := hideP (c2.out.after hb_)
    replace x9 := hideP (x9.out.after hb_)
    replace cb := hideP (bstep cb.out hb_)
    clear hb_
    have q0 := c1.out.c0
    have q1 := c1.out.c1
    have q2 := c1.out.c2
    have kc20 := c2.out.c0; have kc21 := c2.out.c1
    have kx90 := x9.out.c0; have kx91 := x9.out.c1
    go_wp2_with fail
    clear q0 q1 q2
    clear kc20 kc21 kx90 kx91
  · skip
    refine (Ht4.out w4 (HhA.out.after cb.out) (HhL.out.after cb.out) (HhH.out.after cb.out) (HhP.out.after cb.out)).mono ?_
    rintro e w6 ⟨rfl, hb_⟩
    replace cb := hideP (bstep cb.out hb_)
    clear hb_
    go_wp2
    go_ret
    exact ⟨rfl, cb.out⟩
  · refine (Ht3.out w4).mono ?_
    rintro e w5 ⟨rfl, hb_⟩
    replace c1 := hideP (c1.out.after hb_)
    replace c2 := hideP (c2.out.after hb_)
    replace x9 := hideP (x9.out.after hb_)
    replace cb := hideP (bstep cb.out hb_)
    clear hb_
    have q0 := c1.out.c0
    have q1 := c1.out.c1
    have q2 := c1.out.c2
    have kc20 := c2.out.c0; have kc21 := c2.out.c1
    have kx90 := x9.out.c0; have kx91 := x9.out.c1
    go_wp2_with fail
    clear q0 q1 q2
    clear kc20 kc21 kx90 kx91
    refine (Ht4.out w5 (HhA.out.after cb.out) (HhL.out.after cb.out) (HhH.out.after cb.out) (HhP.out.after cb.out)).mono ?_
    rintro e w6 ⟨rfl, hb_⟩
    replace cb := hideP (bstep cb.out hb_)
    clear hb_
    go_wp2
    go_ret
    exact ⟨rfl, cb.out⟩
end Go.Proofs.Ytnekbmndphbaoaa
