/- The walk of BoxHolds. -/
import Derived.Test.YtnekbmndphbaoaaLaw04
import Derived.Test.YtnekbmndphbaoaaWhole
import Derived.Test.YtnekbmndphbaoaaHoldsLaw
import Derived.Deep.DeepCutAuto
set_option linter.unusedVariables false
set_option linter.unusedSimpArgs false
namespace Go.Proofs.Ytnekbmndphbaoaa
open Go.RowKit
set_option maxRecDepth 100000 in
set_option maxHeartbeats 8000000 in
theorem walk_BoxHolds (L : Option Addr) (lo : List Int) (dl : Nat) (H : Option Addr) (hi : List Int) (sh : Nat) (L' : Option Addr) (lo' : List Int) (dl' : Nat) (H' : Option Addr) (hi' : List Int) (sh' : Nat) (d : Int) (w : World)
    (hL : Arr w w.heap.size L lo.length (i64s lo)) (il : IsI lo) (hH : Arr w w.heap.size H hi.length (i64s hi)) (ih : IsI hi) (hm : lo.length ≤ 17592186043904) (hm' : hi.length ≤ 17592186043904) (hdl : lo.length ≤ dl) (hsh : hi.length ≤ sh)
    (hL' : Arr w w.heap.size L' lo'.length (i64s lo')) (il' : IsI lo') (hH' : Arr w w.heap.size H' hi'.length (i64s hi')) (ih' : IsI hi') (hn : lo'.length ≤ 17592186043904) (hn' : hi'.length ≤ 17592186043904) (hdl' : lo'.length ≤ dl') (hsh' : hi'.length ≤ sh') (hd : -9223372036854775808 ≤ d ∧ d ≤ 9223372036854775807) :
    Calls Try.prog 11 #[.agg #[.slice L lo.length dl, .slice H hi.length sh], .agg #[.slice L' lo'.length dl', .slice H' hi'.length sh'], .int .i64 d] w fun e w' => e = .returned (.bool true) ∧ Below w.heap.size w w' := by
  have t1 := fun W h h' => rright_any L H lo hi dl sh lo.length W h h'
  have t2 := fun W h h' => rright_any L' H' lo' hi' dl' sh' lo.length W h h'
  have t3 := fun W h h' h'' => rhas_any L H L' lo hi lo' dl sh dl' W h h' h'' hn
  have t4 := fun W h h' h'' => rhas_any L H H' lo hi hi' dl sh sh' W h h' h'' hn'
  have t5 := fun W h h' h'' h3 => holds_any L H L' H' lo hi lo' hi' dl sh dl' sh' W h h' h'' h3
  have t6 := fun W h h' => rright_any L' H' lo' hi' dl' sh' d W h h'
  have t8 := fun W h => of_any L' lo' dl' W h
  rw [holds_want] at t5
  obtain ⟨want, hw⟩ : ∃ x, x = wantB lo hi lo' hi' := ⟨_, rfl⟩
  rw [← hw] at t5
  unfold wantB at hw
  obtain ⟨r1, e1⟩ : ∃ x, x = rightB lo hi lo.length := ⟨_, rfl⟩
  obtain ⟨r2, e2⟩ : ∃ x, x = rightB lo' hi' lo.length := ⟨_, rfl⟩
  obtain ⟨r3, e3⟩ : ∃ x, x = hasB lo hi lo' := ⟨_, rfl⟩
  obtain ⟨r4, e4⟩ : ∃ x, x = hasB lo hi hi' := ⟨_, rfl⟩
  obtain ⟨r6, e6⟩ : ∃ x, x = rightB lo' hi' d := ⟨_, rfl⟩
  rw [← e1] at t1
  rw [← e2] at t2
  rw [← e3] at t3
  rw [← e4] at t4
  rw [← e6] at t6
  rw [← e1, ← e2, ← e3, ← e4] at hw
  clear e1 e2 e3 e4 hd
  have Ht1 := hideP t1; have Ht2 := hideP t2; have Ht3 := hideP t3; have Ht4 := hideP t4; have Ht5 := hideP t5; have Ht6 := hideP t6; have Ht8 := hideP t8; have He6 := hideP e6; have Hhw := hideP hw; have HhL := hideP hL; have HhH := hideP hH; have HhL' := hideP hL'; have HhH' := hideP hH'; clear t1 t2 t3 t4 t5 t6 t8 e6 hw hL hH hL' hH'
  go_enter Try.func11, Try.ntmps11
  go_wp2_with fail
  obtain ⟨w1, hw1⟩ : ∃ w1, w1 = (w.alloc (Obj.cells #[.slice L lo.length dl, .slice H hi.length sh] 25)).alloc (Obj.cells #[.slice L' lo'.length dl', .slice H' hi'.length sh'] 25) := ⟨_, rfl⟩
  have c1 := hideP (show Two w1 w.heap.size 25 (.slice L lo.length dl) (.slice H hi.length sh) by rw [hw1]; exact (Two.new _ _ _ _).alloc _)
  have c2 := hideP (show Two w1 (w.heap.size + 1) 25 (.slice L' lo'.length dl') (.slice H' hi'.length sh') by rw [hw1]; exact Two.new' _ _ _ _ _ (by simp))
  have cb := hideP (show Below w.heap.size w w1 by rw [hw1]; exact (below_new _ _).alloc (by simp) _)
  rw [← hw1]
  clear hw1
  refine (alive04 w1).mono ?_
  rintro e w2 ⟨rfl, hb_⟩
  replace c1 := hideP (c1.out.after hb_)
  replace c2 := hideP (c2.out.after hb_)
  replace cb := hideP (bstep cb.out hb_)
  clear hb_
  go_upto_region 3 with fail
  go_cut [7] (fun s7 wx => s7 = .bool want ∧ Hid (Two wx w.heap.size 25 (.slice L lo.length dl) (.slice H hi.length sh) ∧ Two wx (w.heap.size + 1) 25 (.slice L' lo'.length dl') (.slice H' hi'.length sh') ∧ Below w.heap.size w wx))
  case first =>
    have kc10 := c1.out.c0; have kc11 := c1.out.c1
    have kc20 := c2.out.c0; have kc21 := c2.out.c1
    go_wp2_with fail
    refine (Ht1.out w2 (HhL.out.after cb.out) (HhH.out.after cb.out)).mono ?_
    rintro e w3 ⟨rfl, hb_⟩
    clear kc10 kc11 kc20 kc21
    replace c1 := hideP (c1.out.after hb_)
    replace c2 := hideP (c2.out.after hb_)
    replace cb := hideP (bstep cb.out hb_)
    clear hb_
    have hw := Hhw.out
    cases r1
    · obtain rfl : want = false := by rw [hw]; rfl
      clear hw
      go_wp2_with fail
      go_meet
      exact ⟨rfl, c1.out, c2.out, cb.out⟩
    clear hw
    have kc10 := c1.out.c0; have kc11 := c1.out.c1
    have kc20 := c2.out.c0; have kc21 := c2.out.c1
    go_wp2_with fail
    refine (Ht2.out w3 (HhL'.out.after cb.out) (HhH'.out.after cb.out)).mono ?_
    rintro e w4 ⟨rfl, hb_⟩
    clear kc10 kc11 kc20 kc21
    replace c1 := hideP (c1.out.after hb_)
    replace c2 := hideP (c2.out.after hb_)
    replace cb := hideP (bstep cb.out hb_)
    clear hb_
    have hw := Hhw.out
    cases r2
    · obtain rfl : want = false := by rw [hw]; rfl
      clear hw
      go_wp2_with fail
      go_meet
      exact ⟨rfl, c1.out, c2.out, cb.out⟩
    clear hw
    have kc10 := c1.out.c0; have kc11 := c1.out.c1
    have kc20 := c2.out.c0; have kc21 := c2.out.c1
    go_wp2_with fail
    refine (Ht3.out w4 (HhL.out.after cb.out) (HhH.out.after cb.out) (HhL'.out.after cb.out)).mono ?_
    rintro e w5 ⟨rfl, hb_⟩
    clear kc10 kc11 kc20 kc21
    replace c1 := hideP (c1.out.after hb_)
    replace c2 := hideP (c2.out.after hb_)
    replace cb := hideP (bstep cb.out hb_)
    clear hb_
    have hw := Hhw.out
    cases r3
    · obtain rfl : want = false := by rw [hw]; rfl
      clear hw
      go_wp2_with fail
      go_meet
      exact ⟨rfl, c1.out, c2.out, cb.out⟩
    clear hw
    have kc10 := c1.out.c0; have kc11 := c1.out.c1
    have kc20 := c2.out.c0; have kc21 := c2.out.c1
    go_wp2_with fail
    refine (Ht4.out w5 (HhL.out.after cb.out) (HhH.out.after cb.out) (HhH'.out.after cb.out)).mono ?_
    rintro e w6 ⟨rfl, hb_⟩
    clear kc10 kc11 kc20 kc21
    replace c1 := hideP (c1.out.after hb_)
    replace c2 := hideP (c2.out.after hb_)
    replace cb := hideP (bstep cb.out hb_)
    clear hb_
    obtain rfl : want = r4 := Hhw.out
    go_wp2_with fail
    go_meet
    exact ⟨rfl, c1.out, c2.out, cb.out⟩
  case rest =>
    obtain ⟨rfl, hW⟩ := hcut
    clear c1 c2 cb
    have c1 := hideP hW.out.1
    have c2 := hideP hW.out.2.1
    have cb := hideP hW.out.2.2
    have tw : (want == want) = true := by simp
    clear hW
    by_cases hd1 : 1 ≤ d ∧ d ≤ 8
    · obtain ⟨n, rfl⟩ : ∃ n : Nat, d = n := ⟨d.toNat, by omega⟩
      have j1 : decide ((n : Int) < 1) = false := by simp; omega
      have j2 : decide ((8 : Int) < (n : Int)) = false := by simp; omega
      have t7 := fun W => whole_in n W (by omega) (by omega)
      have n1 : 1 ≤ n := by omega
      have n8 : n ≤ 8 := by omega
      have Ht7 := hideP t7; clear t7
      clear hd1
      go_wp2_with fail
      refine (Ht7.out wc).mono ?_
      rintro e w7 ⟨R, s, R', s', rfl, hb_, o1, o2⟩
      replace c1 := hideP (c1.out.after hb_)
      replace c2 := hideP (c2.out.after hb_)
      replace cb := hideP (bstep cb.out hb_)
      clear hb_
      replace o1 := hideP o1
      replace o2 := hideP o2
      have x8 := Two.new w7 25 (.slice R n s) (.slice R' n s')
      have b2 := c2.out.alloc (Obj.cells #[.slice R n s, .slice R' n s'] 25)
      have y2 := b2.c0
      have y3 := b2.c1
      clear b2 x8
      go_wp2_with fail
      clear y2 y3
      obtain ⟨w8, hv_⟩ : ∃ v, v = w7.alloc (Obj.cells #[.slice R n s, .slice R' n s'] 25) := ⟨_, rfl⟩
      obtain ⟨g8, hg_⟩ : ∃ g, g = w7.heap.size := ⟨_, rfl⟩
      have hb_ : Below w7.heap.size w7 w8 := by rw [hv_]; exact below_new _ _
      have z8 := hideP (show Two w8 g8 25 (.slice R n s) (.slice R' n s') by rw [hv_, hg_]; exact Two.new _ _ _ _)
      have Gz8 := hideP (show w7.heap.size ≤ g8 from Nat.le_of_eq hg_.symm)
      replace c1 := hideP (c1.out.after hb_)
      replace c2 := hideP (c2.out.after hb_)
      replace o1 := hideP (o1.out.after hb_)
      replace o2 := hideP (o2.out.after hb_)
      replace cb := hideP (bstep cb.out hb_)
      rw [← hv_, ← hg_]
      clear hv_ hg_ hb_
      refine (Ht8.out w8 (HhL'.out.after cb.out)).mono ?_
      rintro e w9 ⟨X, q, X', q', m, rfl, hb_, hX⟩
      replace hX := hideP hX
      replace c1 := hideP (c1.out.after hb_)
      replace c2 := hideP (c2.out.after hb_)
      replace z8 := hideP (z8.out.after hb_)
      replace o1 := hideP (o1.out.after hb_)
      replace o2 := hideP (o2.out.after hb_)
      replace cb := hideP (bstep cb.out hb_)
      clear hb_
      have t12 := fun W h h' => rright_any R R' (List.replicate n (-9223372036854775808)) (List.replicate n 9223372036854775807) s s' n W h h'
      rw [right_whole n n1 n8, List.length_replicate, List.length_replicate] at t12
      have Ht12 := hideP t12; clear t12
      cases r6
      · clear hX
        have b1 := c1.out.alloc (Obj.cells #[.slice X m q, .slice X' m q'] 25)
        have b2 := c2.out.alloc (Obj.cells #[.slice X m q, .slice X' m q'] 25)
        have y0 := b1.c0
        have y1 := b1.c1
        have y2 := b2.c0
        have y3 := b2.c1
        clear b1 b2
        go_wp2_with fail
        clear y0 y1 y2 y3
        obtain ⟨v9, hv_⟩ : ∃ v, v = w9.alloc (Obj.cells #[.slice X m q, .slice X' m q'] 25) := ⟨_, rfl⟩
        obtain ⟨g9, hg_⟩ : ∃ g, g = w9.heap.size := ⟨_, rfl⟩
        have hb_ : Below w9.heap.size w9 v9 := by rw [hv_]; exact below_new _ _
        have z9 := hideP (show Two v9 g9 25 (.slice X m q) (.slice X' m q') by rw [hv_, hg_]; exact Two.new _ _ _ _)
        have Gz9 := hideP (show w9.heap.size ≤ g9 from Nat.le_of_eq hg_.symm)
        replace c1 := hideP (c1.out.after hb_)
        replace c2 := hideP (c2.out.after hb_)
        replace z8 := hideP (z8.out.after hb_)
        replace o1 := hideP (o1.out.after hb_)
        replace o2 := hideP (o2.out.after hb_)
        replace cb := hideP (bstep cb.out hb_)
        rw [← hv_, ← hg_]
        clear hv_ hg_ hb_
        refine (Ht5.out v9 (HhL.out.after cb.out) (HhH.out.after cb.out) (HhL'.out.after cb.out) (HhH'.out.after cb.out)).mono ?_
        rintro e w10 ⟨rfl, hb_⟩
        replace c1 := hideP (c1.out.after hb_)
        replace c2 := hideP (c2.out.after hb_)
        replace z8 := hideP (z8.out.after hb_)
        replace z9 := hideP (z9.out.after hb_)
        replace o1 := hideP (o1.out.after hb_)
        replace o2 := hideP (o2.out.after hb_)
        replace cb := hideP (bstep cb.out hb_)
        clear hb_
        have kc20 := c2.out.c0; have kc21 := c2.out.c1
        go_wp2_with fail
        clear kc20 kc21
        refine (Ht6.out w10 (HhL'.out.after cb.out) (HhH'.out.after cb.out)).mono ?_
        rintro e w11 ⟨rfl, hb_⟩
        replace c1 := hideP (c1.out.after hb_)
        replace c2 := hideP (c2.out.after hb_)
        replace z8 := hideP (z8.out.after hb_)
        replace z9 := hideP (z9.out.after hb_)
        replace o1 := hideP (o1.out.after hb_)
        replace o2 := hideP (o2.out.after hb_)
        replace cb := hideP (bstep cb.out hb_)
        clear hb_
        have kz80 := z8.out.c0; have kz81 := z8.out.c1
        go_wp2_with fail
        clear kz80 kz81
        refine (Ht12.out w11 o1.out o2.out).mono ?_
        rintro e w12 ⟨rfl, hb_⟩
        replace cb := hideP (bstep cb.out hb_)
        clear hb_
        go_wp2_with fail
        go_ret
        exact ⟨rfl, cb.out⟩
      · have hR := He6.out.symm
        have hlen := rightB_len hR
        have ho := has_one lo' hi' n hR
        have t9 := fun W h h' h'' h3 => holds_any R R' L' H' (List.replicate n (-9223372036854775808)) (List.replicate n 9223372036854775807) lo' hi' s s' dl' sh' W h h' h'' h3
        rw [holds_whole n lo' hi' il' ih' hR, List.length_replicate, List.length_replicate] at t9
        have t10 := fun W h h' h'' => has_any X X' L' lo' lo' lo' q q' dl' W h h' h''
        have t11 := fun W h h' h'' h3 => holds_any L' H' X X' lo' hi' lo' lo' dl' sh' q q' W h h' h'' h3
        rw [ho.1] at t10
        rw [ho.2] at t11
        obtain ⟨hm_, x1, x2⟩ := hX.out (by omega) (by omega)
        subst hm_
        replace x1 := hideP x1
        replace x2 := hideP x2
        have Ht9 := hideP t9; have Ht10 := hideP t10; have Ht11 := hideP t11; clear t9 t10 t11
        clear hX hR hlen ho
        have b1 := c1.out.alloc (Obj.cells #[.slice X lo'.length q, .slice X' lo'.length q'] 25)
        have b2 := c2.out.alloc (Obj.cells #[.slice X lo'.length q, .slice X' lo'.length q'] 25)
        have y0 := b1.c0
        have y1 := b1.c1
        have y2 := b2.c0
        have y3 := b2.c1
        clear b1 b2
        go_wp2_with fail
        clear y0 y1 y2 y3
        obtain ⟨v9, hv_⟩ : ∃ v, v = w9.alloc (Obj.cells #[.slice X lo'.length q, .slice X' lo'.length q'] 25) := ⟨_, rfl⟩
        obtain ⟨g9, hg_⟩ : ∃ g, g = w9.heap.size := ⟨_, rfl⟩
        have hb_ : Below w9.heap.size w9 v9 := by rw [hv_]; exact below_new _ _
        have z9 := hideP (show Two v9 g9 25 (.slice X lo'.length q) (.slice X' lo'.length q') by rw [hv_, hg_]; exact Two.new _ _ _ _)
        have Gz9 := hideP (show w9.heap.size ≤ g9 from Nat.le_of_eq hg_.symm)
        replace c1 := hideP (c1.out.after hb_)
        replace c2 := hideP (c2.out.after hb_)
        replace z8 := hideP (z8.out.after hb_)
        replace o1 := hideP (o1.out.after hb_)
        replace o2 := hideP (o2.out.after hb_)
        replace x1 := hideP (x1.out.after hb_)
        replace x2 := hideP (x2.out.after hb_)
        replace cb := hideP (bstep cb.out hb_)
        rw [← hv_, ← hg_]
        clear hv_ hg_ hb_
        refine (Ht5.out v9 (HhL.out.after cb.out) (HhH.out.after cb.out) (HhL'.out.after cb.out) (HhH'.out.after cb.out)).mono ?_
        rintro e w10 ⟨rfl, hb_⟩
        replace c1 := hideP (c1.out.after hb_)
        replace c2 := hideP (c2.out.after hb_)
        replace z8 := hideP (z8.out.after hb_)
        replace z9 := hideP (z9.out.after hb_)
        replace o1 := hideP (o1.out.after hb_)
        replace o2 := hideP (o2.out.after hb_)
        replace x1 := hideP (x1.out.after hb_)
        replace x2 := hideP (x2.out.after hb_)
        replace cb := hideP (bstep cb.out hb_)
        clear hb_
        have kc20 := c2.out.c0; have kc21 := c2.out.c1
        go_wp2_with fail
        clear kc20 kc21
        refine (Ht6.out w10 (HhL'.out.after cb.out) (HhH'.out.after cb.out)).mono ?_
        rintro e w11 ⟨rfl, hb_⟩
        replace c1 := hideP (c1.out.after hb_)
        replace c2 := hideP (c2.out.after hb_)
        replace z8 := hideP (z8.out.after hb_)
        replace z9 := hideP (z9.out.after hb_)
        replace o1 := hideP (o1.out.after hb_)
        replace o2 := hideP (o2.out.after hb_)
        replace x1 := hideP (x1.out.after hb_)
        replace x2 := hideP (x2.out.after hb_)
        replace cb := hideP (bstep cb.out hb_)
        clear hb_
        have kz80 := z8.out.c0; have kz81 := z8.out.c1
        have kc20 := c2.out.c0; have kc21 := c2.out.c1
        go_wp2_with fail
        clear kz80 kz81 kc20 kc21
        refine (Ht9.out w11 o1.out o2.out (HhL'.out.after cb.out) (HhH'.out.after cb.out)).mono ?_
        rintro e w12 ⟨rfl, hb_⟩
        replace c1 := hideP (c1.out.after hb_)
        replace c2 := hideP (c2.out.after hb_)
        replace z8 := hideP (z8.out.after hb_)
        replace z9 := hideP (z9.out.after hb_)
        replace o1 := hideP (o1.out.after hb_)
        replace o2 := hideP (o2.out.after hb_)
        replace x1 := hideP (x1.out.after hb_)
        replace x2 := hideP (x2.out.after hb_)
        replace cb := hideP (bstep cb.out hb_)
        clear hb_
        have kz90 := z9.out.c0; have kz91 := z9.out.c1
        have kc20 := c2.out.c0; have kc21 := c2.out.c1
        go_wp2_with fail
        clear kz90 kz91 kc20 kc21
        refine (Ht10.out w12 x1.out x2.out (HhL'.out.after cb.out)).mono ?_
        rintro e w13 ⟨rfl, hb_⟩
        replace c1 := hideP (c1.out.after hb_)
        replace c2 := hideP (c2.out.after hb_)
        replace z8 := hideP (z8.out.after hb_)
        replace z9 := hideP (z9.out.after hb_)
        replace o1 := hideP (o1.out.after hb_)
        replace o2 := hideP (o2.out.after hb_)
        replace x1 := hideP (x1.out.after hb_)
        replace x2 := hideP (x2.out.after hb_)
        replace cb := hideP (bstep cb.out hb_)
        clear hb_
        have kz90 := z9.out.c0; have kz91 := z9.out.c1
        have kc20 := c2.out.c0; have kc21 := c2.out.c1
        go_wp2_with fail
        clear kz90 kz91 kc20 kc21
        refine (Ht11.out w13 (HhL'.out.after cb.out) (HhH'.out.after cb.out) x1.out x2.out).mono ?_
        rintro e w14 ⟨rfl, hb_⟩
        replace c1 := hideP (c1.out.after hb_)
        replace c2 := hideP (c2.out.after hb_)
        replace z8 := hideP (z8.out.after hb_)
        replace z9 := hideP (z9.out.after hb_)
        replace o1 := hideP (o1.out.after hb_)
        replace o2 := hideP (o2.out.after hb_)
        replace x1 := hideP (x1.out.after hb_)
        replace x2 := hideP (x2.out.after hb_)
        replace cb := hideP (bstep cb.out hb_)
        clear hb_
        have kz80 := z8.out.c0; have kz81 := z8.out.c1
        go_wp2_with fail
        clear kz80 kz81
        refine (Ht12.out w14 o1.out o2.out).mono ?_
        rintro e w15 ⟨rfl, hb_⟩
        replace cb := hideP (bstep cb.out hb_)
        clear hb_
        go_wp2_with fail
        go_ret
        exact ⟨rfl, cb.out⟩
    · have t7 := fun W => whole_no d W (by omega)
      have Ht7 := hideP t7; clear t7
      have j : decide (d < 1) = true ∨ (decide (d < 1) = false ∧ decide (8 < d) = true) := by
        by_cases h : d < 1
        · left; simp [h]
        · right; simp; omega
      clear hd1
      go_wp2_with fail
      refine (Ht7.out wc).mono ?_
      rintro e w7 ⟨rfl, hb_⟩
      replace c1 := hideP (c1.out.after hb_)
      replace c2 := hideP (c2.out.after hb_)
      replace cb := hideP (bstep cb.out hb_)
      clear hb_
      have x8 := hideP (Two.new w7 25 (.slice none 0 0) (.slice none 0 0))
      rcases j with j1 | ⟨j1, j2⟩
      all_goals
        have b1 := c1.out.alloc (Obj.cells #[.slice none 0 0, .slice none 0 0] 25)
        have b2 := c2.out.alloc (Obj.cells #[.slice none 0 0, .slice none 0 0] 25)
        have y0 := b1.c0
        have y1 := b1.c1
        have y2 := b2.c0
        have y3 := b2.c1
        clear b1 b2
        go_wp2_with fail
        clear y0 y1 y2 y3
        obtain ⟨w8, hv_⟩ : ∃ v, v = w7.alloc (Obj.cells #[.slice none 0 0, .slice none 0 0] 25) := ⟨_, rfl⟩
        obtain ⟨g8, hg_⟩ : ∃ g, g = w7.heap.size := ⟨_, rfl⟩
        have hb_ : Below w7.heap.size w7 w8 := by rw [hv_]; exact below_new _ _
        have z8 := hideP (show Two w8 g8 25 (.slice none 0 0) (.slice none 0 0) by rw [hv_, hg_]; exact Two.new _ _ _ _)
        have Gz8 := hideP (show w7.heap.size ≤ g8 from Nat.le_of_eq hg_.symm)
        replace c1 := hideP (c1.out.after hb_)
        replace c2 := hideP (c2.out.after hb_)
        replace cb := hideP (bstep cb.out hb_)
        rw [← hv_, ← hg_]
        clear hv_ hg_ hb_
        refine (Ht5.out w8 (HhL.out.after cb.out) (HhH.out.after cb.out) (HhL'.out.after cb.out) (HhH'.out.after cb.out)).mono ?_
        rintro e w9 ⟨rfl, hb_⟩
        replace c1 := hideP (c1.out.after hb_)
        replace c2 := hideP (c2.out.after hb_)
        replace z8 := hideP (z8.out.after hb_)
        replace cb := hideP (bstep cb.out hb_)
        clear hb_
        have kz80 := z8.out.c0; have kz81 := z8.out.c1
        go_wp2_with fail
        go_ret
        exact ⟨rfl, cb.out⟩
end Go.Proofs.Ytnekbmndphbaoaa
