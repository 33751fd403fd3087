/- The walk of BoxLeast, where there is a least key . -/
import Derived.Test.YtnekbmndphbaoaaL04c
import Derived.Deep.DeepCutAuto
import Derived.Deep.CutBlock
set_option linter.unusedVariables false
set_option linter.unusedSimpArgs false
namespace Go.Proofs.Ytnekbmndphbaoaa
open Go.RowKit
theorem Own.cap {w : World} {base : Nat} {R : Option Addr} {s : Nat} {l : List Int} (h : Own w base R s l) : l.length ≤ s ∨ l = [] := by
  rcases h.2 with ⟨hv, h0⟩ | ⟨g, cap, cur, hv, hg, hh, hnc, r⟩
  · right; exact List.length_eq_zero_iff.1 h0
  · left
    injection hv with _ _ h3
    omega
theorem tcase (K col : Int) (at_ lo hi p : List Int) (e2 be s : Bool) (h1 k1 h2 k2 : Nat) (z x : Int) (hB : leastB K col at_.length lo hi = true) (hE2 : (e2 = true ∧ ordB K col at_.length p.length = true) ∨ (e2 = false ∧ ordB K col at_.length p.length = false))
    (g1 : h1 = leastN K col at_ lo hi / 18446744073709551616) (g2 : k1 = leastN K col at_ lo hi % 18446744073709551616) (g3 : h2 = keyD K col at_ p / 18446744073709551616) (g4 : k2 = keyD K col at_ p % 18446744073709551616)
    (ez : z = lo.getD 0 0) (ex : x = p.getD 0 0) (hs : s = decide (keyD K col at_ p < leastN K col at_ lo hi)) (hbe : be = beyondB K col at_ lo hi p) :
    ∃ y : Bool, ((e2 = true → p.length = lo.length → be = y) ∧ (e2 = false → be = false) ∧ (¬ p.length = lo.length → be = false)) ∧ ((s = true ∧ y = true) ∨ (s = false ∧ ¬ h1 = h2 ∧ y = false) ∨ (s = false ∧ h1 = h2 ∧ ¬ k1 = k2 ∧ y = false) ∨ (s = false ∧ h1 = h2 ∧ k1 = k2 ∧ y = decide (x < z))) := by
  obtain ⟨y, hy⟩ : ∃ y, y = aheadB (keyD K col at_ p) (leastN K col at_ lo hi) x z := ⟨_, rfl⟩
  refine ⟨y, ⟨fun h hl => ?_, fun h => ?_, fun hl => ?_⟩, ?_⟩
  · rcases hE2 with ⟨_, h'⟩ | ⟨h', _⟩
    · rw [hbe, hy, ex, ez]
      unfold beyondB keyD
      rw [hB, h', if_pos rfl]
      simp [hl]
    · rw [h] at h'; cases h'
  · rcases hE2 with ⟨h', _⟩ | ⟨_, h'⟩
    · rw [h] at h'; cases h'
    · rw [hbe]; unfold beyondB; rw [h']; simp
  · rw [hbe]; unfold beyondB; simp [hl]
  · have := zcase _ _ h2 k2 h1 k1 x z y s g3 g4 g1 g2 hy hs
    by_cases hd : keyD K col at_ p < leastN K col at_ lo hi
    · left
      refine ⟨by rw [hs]; simp [hd], ?_⟩
      rw [hy]; unfold aheadB; simp [hd]
    · have hs' : s = false := by rw [hs]; simp [hd]
      right
      rcases this with ⟨a, b, c⟩ | ⟨a, b, c⟩ | ⟨a, c⟩
      · exact .inr (.inr ⟨hs', a.symm, b.symm, c⟩)
      · exact .inr (.inl ⟨hs', a.symm, Ne.symm b, by rw [c, hs']⟩)
      · exact .inl ⟨hs', Ne.symm a, by rw [c, hs']⟩
theorem lcase (n m : Nat) (e2 be ah : Bool) (h1 : e2 = true → m = n → be = ah) (h2 : e2 = false → be = false) (h3 : ¬ m = n → be = false) :
    (e2 = false ∧ be = false) ∨ (e2 = true ∧ ((m : Int) == (n : Int)) = false ∧ be = false) ∨ (e2 = true ∧ ((m : Int) == (n : Int)) = true ∧ be = false ∧ ah = false) ∨ (e2 = true ∧ ((m : Int) == (n : Int)) = true ∧ be = true ∧ ah = true) := by
  cases e2
  · left; exact ⟨rfl, h2 rfl⟩
  · right
    by_cases h : m = n
    · right
      have := h1 rfl h
      subst this
      have e : ((m : Int) == (n : Int)) = true := by rw [h]; simp
      cases be
      · left; exact ⟨rfl, e, rfl, rfl⟩
      · right; exact ⟨rfl, e, rfl, rfl⟩
    · left
      exact ⟨rfl, by rw [beq_eq_false_iff_ne]; omega, h3 h⟩
theorem leastq (K col : Int) (at_ lo hi p q : List Int) (be : Bool) (hB : leastB K col at_.length lo hi = true) (hbe : be = beyondB K col at_ lo hi p) (hq : hasB lo hi q = true) : decide (keyD K col at_ q < leastN K col at_ lo hi) = false ∧ (be = true → aheadO K col at_ p q = true) := by
  refine ⟨?_, fun h => beyond_ahead K col at_ lo hi p q (by rw [← hbe]; exact h) hq⟩
  have h1 := least_le K col at_ lo hi q hB hq
  obtain ⟨e1, _⟩ := hasB_of hq
  have h2 : ordB K col at_.length q.length = true := by rw [← e1]; unfold leastB at hB; simp at hB; exact hB.2
  unfold keyD
  rw [if_pos h2]
  simp; exact h1

set_option maxRecDepth 100000 in
set_option maxHeartbeats 8000000 in
theorem boxLeast_in01 (K col : Int) (A L H P Q : Option Addr) (at_ lo hi p q : List Int) (ca dl sh c c' : Nat) (w : World)
    (hA : Arr w w.heap.size A at_.length (i64s at_)) (ha : IsI at_) (hL : Arr w w.heap.size L lo.length (i64s lo)) (il : IsI lo) (hH : Arr w w.heap.size H hi.length (i64s hi)) (ih : IsI hi) (hm : lo.length ≤ 17592186043904) (hdl : lo.length ≤ dl) (hsh : hi.length ≤ sh)
    (hP : Arr w w.heap.size P p.length (i64s p)) (hp : IsI p) (hn : p.length ≤ 17592186043904) (hc : p.length ≤ c) (hQ : Arr w w.heap.size Q q.length (i64s q)) (hq : IsI q) (hnq : q.length ≤ 17592186043904) (hcq : q.length ≤ c') (hB : leastB K col at_.length lo hi = true) (hk2 : (K == 2) = false) (hk3 : (K == 3) = false) :
    Calls Try.prog 10 #[.agg #[.int .u8 K, .int .i64 col, .slice A at_.length ca], .agg #[.slice L lo.length dl, .slice H hi.length sh], .slice P p.length c, .slice Q q.length c'] w fun e w' => e = .returned (.bool true) ∧ Below w.heap.size w w' := by
  have hB1 : rightB lo hi lo.length = true := by unfold leastB at hB; simp at hB; exact hB.1
  have hB2 : ordB K col at_.length lo.length = true := by unfold leastB at hB; simp at hB; exact hB.2
  have n2 : ¬ K = 2 := by simpa using hk2
  have n3 : ¬ K = 3 := by simpa using hk3
  obtain ⟨near, hnd⟩ : ∃ near, near = lo := ⟨_, rfl⟩
  have hnl : near.length = lo.length := by rw [hnd]
  have inr : IsI near := by rw [hnd]; exact il
  have hnf : ∀ i, i < lo.length → near.getD i 0 = nearF K col at_ lo hi i := fun i _ => by rw [hnd]; unfold nearF; rw [if_neg n2, if_neg n3]
  clear n2 n3
  obtain ⟨l1, l8, hhl⟩ := leastB_len hB
  have t1 := fun W h h' h'' => least_in K col A L H at_ lo hi ca dl sh W h h' h'' ha il ih hdl hsh hB
  have t2 := fun W h h' => rright_any L H lo hi dl sh lo.length W h h'
  have t3 := fun W => rord_any K col A at_.length ca lo.length W (by unfold I64; omega)
  have t4 := fun W h h' h'' h3 => beyond_any K col A L H P at_ lo hi p ca dl sh c W h h' h'' h3 ha il ih hp hn hm hc hdl hsh
  have t5 := fun W A3 cp h h' (h4 : lo.length ≤ cp) => rkey_in K col A A3 at_ near ca cp W h h' inr ha (by rw [hnl]; exact h4) (by rw [hnl]; exact hB2)
  rw [near_key K col at_ lo hi near hB hnl hnf, hnl] at t5
  obtain ⟨e2, hE2, t6⟩ := rkey_any K col A at_ ca ha P p c hp hn hc
  obtain ⟨e3, hE3, t9⟩ := rkey_any K col A at_ ca ha Q q c' hq hnq hcq
  have t8 := fun W h h' h'' => rhas_any L H Q lo hi q dl sh c' W h h' h'' hnq
  have t11 := fun W h h' h'' => aheadO_any K col A P Q at_ p q ca c c' W h h' h'' ha hp hq hn hnq hc hcq
  rw [hB1] at t2
  rw [hB2] at t3
  rw [hhl] at hH t1 t2 t4 t8 hsh ⊢
  obtain ⟨n, hn'⟩ : ∃ n, n = lo.length := ⟨_, rfl⟩
  have HN := hideP hn'
  rw [← hn'] at hL hH t1 t2 t3 t4 t5 t8 l1 l8 ⊢
  obtain ⟨b, off, rfl, hb, hcl⟩ := hL (by omega)
  have u0 := hcl 0 (by omega)
  rw [Nat.add_zero] at u0
  unfold i64s at u0
  obtain ⟨z, ez⟩ : ∃ z, z = lo.getD 0 0 := ⟨_, rfl⟩
  rw [← ez] at t1 u0
  unfold dv dvp at t1 t5 t6
  obtain ⟨h1, g1⟩ : ∃ h, h = leastN K col at_ lo hi / 18446744073709551616 := ⟨_, rfl⟩
  obtain ⟨k1, g2⟩ : ∃ l, l = leastN K col at_ lo hi % 18446744073709551616 := ⟨_, rfl⟩
  rw [← g1, ← g2] at t1 t5
  obtain ⟨h2, g3⟩ : ∃ h, h = keyD K col at_ p / 18446744073709551616 := ⟨_, rfl⟩
  obtain ⟨k2, g4⟩ : ∃ l, l = keyD K col at_ p % 18446744073709551616 := ⟨_, rfl⟩
  rw [← g3, ← g4] at t6
  have t7 := fun W => rless_any (keyD K col at_ p) (leastN K col at_ lo hi) W (keyD_lt K col at_ p hp ha) (Nat.lt_trans (leastN_lt K col at_ lo hi ha il ih (by rw [← HN.out]; exact l8)) (by decide))
  have t10 := fun W => rless_any (keyD K col at_ q) (leastN K col at_ lo hi) W (keyD_lt K col at_ q hq ha) (Nat.lt_trans (leastN_lt K col at_ lo hi ha il ih (by rw [← HN.out]; exact l8)) (by decide))
  unfold dv dvp at t7 t9 t10
  rw [← g1, ← g2] at t7 t10
  rw [← g3, ← g4] at t7
  obtain ⟨h3, g5⟩ : ∃ h, h = keyD K col at_ q / 18446744073709551616 := ⟨_, rfl⟩
  obtain ⟨k3, g6⟩ : ∃ l, l = keyD K col at_ q % 18446744073709551616 := ⟨_, rfl⟩
  rw [← g5, ← g6] at t9 t10
  obtain ⟨s, hs⟩ : ∃ s, s = decide (keyD K col at_ p < leastN K col at_ lo hi) := ⟨_, rfl⟩
  rw [← hs] at t7
  obtain ⟨be, hbe⟩ : ∃ be, be = beyondB K col at_ lo hi p := ⟨_, rfl⟩
  obtain ⟨x, ex⟩ : ∃ x, x = p.getD 0 0 := ⟨_, rfl⟩
  obtain ⟨yy, hy1, hy2⟩ := tcase K col at_ lo hi p e2 be s h1 k1 h2 k2 z x hB hE2 g1 g2 g3 g4 ez ex hs hbe
  have hlq := leastq K col at_ lo hi p q be hB hbe
  rw [← HN.out] at hy1
  rw [← hbe] at t4
  have tz : (z != z) = false := by simp
  have j2 : (0 : Int) < n := by omega
  have jn : 0 < n := by omega
  obtain ⟨i0, hi0, hz0, hz1, hz2⟩ := info_parts info_i64
  have HNL := hideP (hnl.trans hn'.symm)
  have HND := hideP hnd
  clear hn' hcl hnl hnf inr hnd
  have Ht5 := hideP t5; have Ht6 := hideP t6; have Hg3 := hideP g3; have Hg4 := hideP g4; have Hhbe := hideP hbe; have HhE2 := hideP hE2; have Ht7 := hideP t7; have Ht8 := hideP t8; have Ht9 := hideP t9; have Ht10 := hideP t10; have Ht11 := hideP t11; have Hg5 := hideP g5; have Hg6 := hideP g6; have Hhs := hideP hs; have Hex := hideP ex; have Hhlq := hideP hlq; have HhE3 := hideP hE3; clear t5 t6 g3 g4 hbe hE2 t7 t8 t9 t10 t11 g5 g6 hs ex hlq hE3
  have Hy1 := hideP hy1
  clear hy1
  have Ht1 := hideP t1; have Ht2 := hideP t2; have Ht3 := hideP t3; have Ht4 := hideP t4; have HhA := hideP hA; have HhL := hideP hL; have HhH := hideP hH; have HhP := hideP hP; have HhQ := hideP hQ; have Hhb := hideP hb; have Hu0 := hideP u0; have Hez := hideP ez; have Hg1 := hideP g1; have Hg2 := hideP g2; clear t1 t2 t3 t4 hA hL hH hP hQ hb u0 ez g1 g2
  go_enter Try.func10, Try.ntmps10
  go_wp2_with fail
  obtain ⟨w1, hw1⟩ : ∃ w1, w1 = (w.alloc (Obj.cells #[.int .u8 K, .int .i64 col, .slice A at_.length ca] 50)).alloc (Obj.cells #[.slice (some ⟨b, off, none⟩) n dl, .slice H n sh] 25) := ⟨_, rfl⟩
  have c1 := hideP (show Three w1 w.heap.size 50 (.int .u8 K) (.int .i64 col) (.slice A at_.length ca) by rw [hw1]; exact (Three.new _ _ _ _ _).alloc _)
  have c2 := hideP (show Two w1 (w.heap.size + 1) 25 (.slice (some ⟨b, off, none⟩) n dl) (.slice H n sh) by rw [hw1]; exact Two.new' _ _ _ _ _ (by simp))
  have cb := hideP (show Below w.heap.size w w1 by rw [hw1]; exact (below_new _ _).alloc (by simp) _)
  rw [← hw1]
  clear hw1
  refine (alive04 w1).mono ?_
  rintro e w2 ⟨rfl, hb_⟩
  replace c1 := hideP (c1.out.after hb_)
  replace c2 := hideP (c2.out.after hb_)
  replace cb := hideP (bstep cb.out hb_)
  clear hb_
  have q0 := c1.out.c0
  have q1 := c1.out.c1
  have q2 := c1.out.c2
  have kc20 := c2.out.c0; have kc21 := c2.out.c1
  go_wp2_with fail
  clear q0 q1 q2
  clear kc20 kc21
  refine (Ht1.out w2 (HhA.out.after cb.out) (HhL.out.after cb.out) (HhH.out.after cb.out)).mono ?_
  rintro e w3 ⟨rfl, hb_⟩
  replace c1 := hideP (c1.out.after hb_)
  replace c2 := hideP (c2.out.after hb_)
  replace cb := hideP (bstep cb.out hb_)
  clear hb_
  have p0 := (c2.out.alloc (Obj.cells #[.int .u64 h1, .int .u64 k1] 29)).c0
  have p1 := (c2.out.alloc (Obj.cells #[.int .u64 h1, .int .u64 k1] 29)).c1
  go_wp2_with fail
  clear p0 p1
  obtain ⟨v3, hv_⟩ : ∃ v, v = w3.alloc (Obj.cells #[.int .u64 h1, .int .u64 k1] 29) := ⟨_, rfl⟩
  obtain ⟨g9, hg_⟩ : ∃ g, g = w3.heap.size := ⟨_, rfl⟩
  have hb_ : Below w3.heap.size w3 v3 := by rw [hv_]; exact below_new _ _
  have x9 := hideP (show Two v3 g9 29 (.int .u64 h1) (.int .u64 k1) by rw [hv_, hg_]; exact Two.new _ _ _ _)
  have Gx9 := hideP (show w3.heap.size ≤ g9 from Nat.le_of_eq hg_.symm)
  replace c1 := hideP (c1.out.after hb_)
  replace c2 := hideP (c2.out.after hb_)
  replace cb := hideP (bstep cb.out hb_)
  rw [← hv_, ← hg_]
  clear hv_ hg_ hb_
  refine (Ht2.out v3 (HhL.out.after cb.out) (HhH.out.after cb.out)).mono ?_
  rintro e w4 ⟨rfl, hb_⟩
  replace c1 := hideP (c1.out.after hb_)
  replace c2 := hideP (c2.out.after hb_)
  replace x9 := hideP (x9.out.after hb_)
  replace cb := hideP (bstep cb.out hb_)
  clear hb_
  have q0 := c1.out.c0
  have q1 := c1.out.c1
  have q2 := c1.out.c2
  have kc20 := c2.out.c0; have kc21 := c2.out.c1
  have kx90 := x9.out.c0; have kx91 := x9.out.c1
  go_wp2_with fail
  clear q0 q1 q2
  clear kc20 kc21 kx90 kx91
  refine (Ht3.out w4).mono ?_
  rintro e w5 ⟨rfl, hb_⟩
  replace c1 := hideP (c1.out.after hb_)
  replace c2 := hideP (c2.out.after hb_)
  replace x9 := hideP (x9.out.after hb_)
  replace cb := hideP (bstep cb.out hb_)
  clear hb_
  have kc20 := c2.out.c0; have kc21 := c2.out.c1
  have kx90 := x9.out.c0; have kx91 := x9.out.c1
  have z0 := cell_below cb.out Hhb.out Hu0.out
  have p0 := (c2.out.alloc (Obj.cells #[] 2)).c0
  have hown := World.ownsRow_lit (base := w5.heap.size) (e := 2) (size := 1) w5 #[] 0 (Nat.le_refl _) (Nat.zero_le _) rfl
  have aA := (HhL.out.after cb.out).after (below_new w5 (Obj.cells #[] 2))
  have b1 : w5.heap.size ≤ (w5.alloc (Obj.cells #[] 2)).heap.size := by simp
  go_wp2_with (at_builtin; refine wpList_append_arr (w5.alloc (Obj.cells #[] 2)) rfl (.tmp 73) (.tmp 75) 23 rfl w5.heap.size 2 i0 _ 8 Try.underlying23 hi0 hz0 hz1 hz2 rfl (.slice (some ⟨w5.heap.size, 0, none⟩) 0 0) 0 _ rfl hown _ (some ⟨b, off, none⟩) n dl (i64s lo) rfl aA (fun _ => rfl) (by unfold maxLen; omega) (by omega) b1 ?_; intro A3 cp w6 hown3 hg3 hat3; have hb6 : Below w5.heap.size w5 w6 := (below_new _ _).trans (below_own hown hg3 (Nat.le_refl _) b1); have q0 := (c1.out.after hb6).c0; have q1 := (c1.out.after hb6).c1; have q2 := (c1.out.after hb6).c2)
  have o6 : Own w6 w5.heap.size A3 cp lo := by
    unfold Own
    rw [← map_i64s, ← HN.out]
    simpa using hown3
  have hcap : n ≤ cp := by
    rcases o6.cap with h | h
    · rw [HN.out]; exact h
    · rw [HN.out, h]; exact Nat.zero_le _
  have LT := hideP (show w.heap.size < w5.heap.size ∧ w.heap.size + 1 < w5.heap.size ∧ g9 < w5.heap.size from ⟨c1.out.lt, c2.out.lt, x9.out.lt⟩)
  obtain ⟨B, hB_⟩ : ∃ B, B = w5.heap.size := ⟨_, rfl⟩
  rw [← hB_] at o6 LT
  have Ho6 := hideP o6; have Hhcap := hideP hcap; clear o6 hcap
  clear hB_
  replace c1 := hideP (c1.out.after hb6)
  replace c2 := hideP (c2.out.after hb6)
  replace x9 := hideP (x9.out.after hb6)
  replace cb := hideP (bstep cb.out hb6)
  clear hb6
  clear hown3 hg3 hat3 hown aA b1 kc20 kc21 kx90 kx91 z0 p0
  have a6 : Arr w6 w6.heap.size A3 n (i64s near) := by have := Ho6.out.arr; rw [← HN.out] at this; rw [HND.out]; exact this
  have Ha6 := hideP a6; clear a6
  refine wp_loop_once ?_
  go_wp2_with fail
  refine (Ht5.out w6 A3 cp (HhA.out.after cb.out) Ha6.out Hhcap.out).mono ?_
  rintro e w7 ⟨rfl, hb_⟩
  replace c1 := hideP (c1.out.after hb_)
  replace c2 := hideP (c2.out.after hb_)
  replace x9 := hideP (x9.out.after hb_)
  replace cb := hideP (bstep cb.out hb_)
  clear hb_
  have x9' := x9.out.alloc (Obj.cells #[.int .u64 h1, .int .u64 k1] 29)
  have c1' := c1.out.alloc (Obj.cells #[.int .u64 h1, .int .u64 k1] 29)
  have c2' := c2.out.alloc (Obj.cells #[.int .u64 h1, .int .u64 k1] 29)
  clear q0 q1 q2
  have q0 := c1'.c0; have q1 := c1'.c1; have q2 := c1'.c2
  have p0 := c2'.c0; have p1 := c2'.c1
  have y0 := x9'.c0; have y1 := x9'.c1
  clear x9' c1' c2'
  go_wp2_with fail
  clear q0 q1 q2 p0 p1 y0 y1
  obtain ⟨v7, hv_⟩ : ∃ v, v = w7.alloc (Obj.cells #[.int .u64 h1, .int .u64 k1] 29) := ⟨_, rfl⟩
  obtain ⟨g14, hg_⟩ : ∃ g, g = w7.heap.size := ⟨_, rfl⟩
  have hb_ : Below w7.heap.size w7 v7 := by rw [hv_]; exact below_new _ _
  have x14 := hideP (show Two v7 g14 29 (.int .u64 h1) (.int .u64 k1) by rw [hv_, hg_]; exact Two.new _ _ _ _)
  have Gx14 := hideP (show w7.heap.size ≤ g14 from Nat.le_of_eq hg_.symm)
  replace c1 := hideP (c1.out.after hb_)
  replace c2 := hideP (c2.out.after hb_)
  replace x9 := hideP (x9.out.after hb_)
  replace cb := hideP (bstep cb.out hb_)
  rw [← hv_, ← hg_]
  clear hv_ hg_ hb_
  refine (Ht4.out v7 (HhA.out.after cb.out) (HhL.out.after cb.out) (HhH.out.after cb.out) (HhP.out.after cb.out)).mono ?_
  rintro e w8 ⟨rfl, hb_⟩
  replace c1 := hideP (c1.out.after hb_)
  replace c2 := hideP (c2.out.after hb_)
  replace x9 := hideP (x9.out.after hb_)
  replace cb := hideP (bstep cb.out hb_)
  clear hb_
  clear x14
  have q0 := c1.out.c0
  have q1 := c1.out.c1
  have q2 := c1.out.c2
  go_wp2_with fail
  clear q0 q1 q2
  refine (Ht6.out w8 (HhA.out.after cb.out) (HhP.out.after cb.out)).mono ?_
  rintro e w9 ⟨rfl, hb_⟩
  replace c1 := hideP (c1.out.after hb_)
  replace c2 := hideP (c2.out.after hb_)
  replace x9 := hideP (x9.out.after hb_)
  replace cb := hideP (bstep cb.out hb_)
  clear hb_
  have y0 := (x9.out.alloc (Obj.cells #[.int .u64 h2, .int .u64 k2] 29)).c0
  have y1 := (x9.out.alloc (Obj.cells #[.int .u64 h2, .int .u64 k2] 29)).c1
  go_upto_region 20 with fail
  clear y0 y1
  obtain ⟨v9, hv_⟩ : ∃ v, v = w9.alloc (Obj.cells #[.int .u64 h2, .int .u64 k2] 29) := ⟨_, rfl⟩
  obtain ⟨g17, hg_⟩ : ∃ g, g = w9.heap.size := ⟨_, rfl⟩
  have hb_ : Below w9.heap.size w9 v9 := by rw [hv_]; exact below_new _ _
  have x17 := hideP (show Two v9 g17 29 (.int .u64 h2) (.int .u64 k2) by rw [hv_, hg_]; exact Two.new _ _ _ _)
  have Gx17 := hideP (show w9.heap.size ≤ g17 from Nat.le_of_eq hg_.symm)
  replace c1 := hideP (c1.out.after hb_)
  replace c2 := hideP (c2.out.after hb_)
  replace x9 := hideP (x9.out.after hb_)
  replace cb := hideP (bstep cb.out hb_)
  rw [← hv_, ← hg_]
  clear hv_ hg_ hb_
  go_cut [19] (fun s19 wx => ∃ ah : Bool, s19 = .bool ah ∧ Hid ((e2 = true → p.length = n → be = ah) ∧ (e2 = false → be = false) ∧ (¬ p.length = n → be = false)) ∧ Hid (Three wx w.heap.size 50 (.int .u8 K) (.int .i64 col) (.slice A at_.length ca) ∧ Two wx (w.heap.size + 1) 25 (.slice (some ⟨b, off, none⟩) n dl) (.slice H n sh) ∧ Two wx g9 29 (.int .u64 h1) (.int .u64 k1) ∧ Below w.heap.size w wx))
  case first =>
    rcases hy2 with ⟨rfl, rfl⟩ | ⟨rfl, hne, rfl⟩ | ⟨rfl, rfl, hne, rfl⟩ | ⟨rfl, rfl, rfl, rfl⟩
    case' inr.inr.inr =>
      rcases Nat.eq_zero_or_pos p.length with h0 | h0
      case' inl => have j0 : decide ((0 : Int) < (p.length : Int)) = false := by simp [h0]
      case' inl => have j1 : ¬ (0 < p.length) := by omega
      case' inl => have P0 := hideP h0
      case' inl => clear h0
      case' inr =>
        obtain ⟨b', off', rfl, hb', hcl'⟩ := HhP.out h0
        have u1 := hcl' 0 h0
        rw [Nat.add_zero] at u1
        unfold i64s at u1
        rw [← Hex.out] at u1
        have j1 : (0 : Int) < (p.length : Int) := by omega
        have Hu1 := hideP u1; have Hhb' := hideP hb'; clear u1 hb'
        clear hcl'
    all_goals
      have kx90 := x9.out.c0; have kx91 := x9.out.c1
      have kx170 := x17.out.c0; have kx171 := x17.out.c1
      go_wp2_with fail
      refine (Ht7.out _).mono ?_
      rintro e w10 ⟨rfl, hb_⟩
      clear kx90 kx91 kx170 kx171
      replace c1 := hideP (c1.out.after hb_)
      replace c2 := hideP (c2.out.after hb_)
      replace x9 := hideP (x9.out.after hb_)
      replace x17 := hideP (x17.out.after hb_)
      replace cb := hideP (bstep cb.out hb_)
      clear hb_
      have kx90 := x9.out.c0; have kx91 := x9.out.c1
      have kx170 := x17.out.c0; have kx171 := x17.out.c1
      (try have u1 := cell_below cb.out Hhb'.out Hu1.out)
      go_wp2_with fail
      go_meet
      first
        | exact ⟨_, rfl, Hy1.out, c1.out, c2.out, x9.out, cb.out⟩
        | exact ⟨_, rfl, ⟨fun _ h => by have := P0.out; omega, Hy1.out.2⟩, c1.out, c2.out, x9.out, cb.out⟩
  case rest =>
    obtain ⟨ah, rfl, hF, hW⟩ := hcut
    clear c1 c2 x9 x17 cb Gx9 Gx14 Gx17 Ha6 Hhcap hy2 Ho6
    have c1 := hideP hW.out.1
    have c2 := hideP hW.out.2.1
    have x9 := hideP hW.out.2.2.1
    have cb := hideP hW.out.2.2.2
    clear hW
    obtain ⟨hqq, hq'⟩ : ∃ h, h = hasB lo hi q := ⟨_, rfl⟩
    rw [← hq'] at Ht8 Hhlq
    have HQ := hideP hq'
    clear hq'
    rcases lcase n p.length e2 be ah hF.out.1 hF.out.2.1 hF.out.2.2 with ⟨rfl, rfl⟩ | ⟨rfl, tl, rfl⟩ | ⟨rfl, tl, rfl, rfl⟩ | ⟨rfl, tl, rfl, rfl⟩
    all_goals
      clear hF Hy1
      have kc20 := c2.out.c0; have kc21 := c2.out.c1
      go_wp2_with fail
      refine (Ht8.out wc (HhL.out.after cb.out) (HhH.out.after cb.out) (HhQ.out.after cb.out)).mono ?_
      rintro e w11 ⟨rfl, hb_⟩
      clear kc20 kc21
      replace c1 := hideP (c1.out.after hb_)
      replace c2 := hideP (c2.out.after hb_)
      replace x9 := hideP (x9.out.after hb_)
      replace cb := hideP (bstep cb.out hb_)
      clear hb_
      cases hqq
      · go_wp2
        go_ret
        exact ⟨rfl, cb.out⟩
      have hl := Hhlq.out rfl
      have hl1 := hl.1
      have HL2 := hideP hl.2
      rw [hl1] at Ht10
      clear hl hl1
      have q0 := c1.out.c0
      have q1 := c1.out.c1
      have q2 := c1.out.c2
      go_wp2_with fail
      clear q0 q1 q2
      refine (Ht9.out w11 (HhA.out.after cb.out) (HhQ.out.after cb.out)).mono ?_
      rintro e w12 ⟨rfl, hb_⟩
      replace c1 := hideP (c1.out.after hb_)
      replace c2 := hideP (c2.out.after hb_)
      replace x9 := hideP (x9.out.after hb_)
      replace cb := hideP (bstep cb.out hb_)
      clear hb_
      have y9 := x9.out.alloc (Obj.cells #[.int .u64 h3, .int .u64 k3] 29)
      have y0 := y9.c0
      have y1 := y9.c1
      clear y9
      go_wp2_with fail
      clear y0 y1
      obtain ⟨v12, hv_⟩ : ∃ v, v = w12.alloc (Obj.cells #[.int .u64 h3, .int .u64 k3] 29) := ⟨_, rfl⟩
      obtain ⟨g20, hg_⟩ : ∃ g, g = w12.heap.size := ⟨_, rfl⟩
      have hb_ : Below w12.heap.size w12 v12 := by rw [hv_]; exact below_new _ _
      have x20 := hideP (show Two v12 g20 29 (.int .u64 h3) (.int .u64 k3) by rw [hv_, hg_]; exact Two.new _ _ _ _)
      have Gx20 := hideP (show w12.heap.size ≤ g20 from Nat.le_of_eq hg_.symm)
      replace c1 := hideP (c1.out.after hb_)
      replace c2 := hideP (c2.out.after hb_)
      replace x9 := hideP (x9.out.after hb_)
      replace cb := hideP (bstep cb.out hb_)
      rw [← hv_, ← hg_]
      clear hv_ hg_ hb_
      refine (Ht10.out _).mono ?_
      rintro e w13 ⟨rfl, hb_⟩
      replace c1 := hideP (c1.out.after hb_)
      replace c2 := hideP (c2.out.after hb_)
      replace x9 := hideP (x9.out.after hb_)
      replace cb := hideP (bstep cb.out hb_)
      clear hb_
      have q0 := c1.out.c0
      have q1 := c1.out.c1
      have q2 := c1.out.c2
      go_wp2_with fail
    rotate_left 3
    refine (Ht11.out w13 (HhA.out.after cb.out) (HhP.out.after cb.out) (HhQ.out.after cb.out)).mono ?_
    rintro e w14 ⟨rfl, hb_⟩
    replace cb := hideP (bstep cb.out hb_)
    clear hb_
    rw [HL2.out (by simp)]
    go_wp2_with fail
    all_goals
      go_ret
      exact ⟨rfl, cb.out⟩
end Go.Proofs.Ytnekbmndphbaoaa
