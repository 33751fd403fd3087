/- ZrangeBetween. -/
import Derived.Test.YtjdbpeblbejllaaZp4
set_option linter.unusedVariables false
set_option linter.unusedSimpArgs false
namespace Go.Proofs.Ytjdbpeblbejllaa
open Go.RowKit
theorem less_at (A B : Option Addr) (a b : List Nat) (n c d : Nat) (w : World) (v : Bool) (hA : Arr w w.heap.size A n (u8s a)) (hB : Arr w w.heap.size B n (u8s b)) (ha : IsB a) (hb : IsB b) (hal : a.length = n) (hbl : b.length = n) (hn : n ≤ 140737488351232) (hv : lexLt a b = v) :
    Calls Try.prog 35 #[.slice A n c, .slice B n d] w fun e w' => e = .returned (.bool v) ∧ w = w' := by
  have h := less_any A B a b c d w (by rw [hal]; exact hA) (by rw [hbl]; exact hB) ha hb (by omega) (by omega)
  unfold lessB at h
  rw [if_pos (by omega), hv, hal, hbl] at h
  exact h
set_option maxRecDepth 100000 in
set_option maxHeartbeats 8000000 in
theorem walk_ZrangeBetween (A : Option Addr) (p : List Int) (ca : Nat) (Q : Option Addr) (q : List Int) (cq : Nat) (L : Option Addr) (lo : List Int) (dl : Nat) (H : Option Addr) (hi : List Int) (sh : Nat) (w : World)
    (hA : Arr w w.heap.size A p.length (i64s p)) (ip : IsI p) (hpn : p.length ≤ 17592186043904) (hQ : Arr w w.heap.size Q q.length (i64s q)) (iq : IsI q) (hqn : q.length ≤ 17592186043904) (hL : Arr w w.heap.size L lo.length (i64s lo)) (il : IsI lo) (hH : Arr w w.heap.size H hi.length (i64s hi)) (ih : IsI hi) :
    Calls Try.prog 9 #[.slice A p.length ca, .slice Q q.length cq, .agg #[.slice L lo.length dl, .slice H hi.length sh]] w fun e w' => e = .returned (.bool true) ∧ Below w.heap.size w w' := by
  have ha' := fun W => alive06 W
  have tR := fun W h h' => rright_any L H lo hi dl sh (lo.length : Int) W h h'
  have tH := fun W h h' h3 => rhas_any L H Q lo hi q dl sh cq W h h' h3 hqn
  by_cases hR : rightB lo hi lo.length = true
  case neg =>
    have hR' : rightB lo hi lo.length = false := by simpa using hR
    rw [hR'] at tR
    obtain ⟨n, hn⟩ : ∃ q, q = lo.length := ⟨_, rfl⟩
    obtain ⟨m, hm⟩ : ∃ q, q = hi.length := ⟨_, rfl⟩
    rw [← hn] at hL tR ⊢
    rw [← hm] at hH tR ⊢
    clear hn hm hR hR' tH ip iq il ih hpn hqn hA hQ
    have HhL := hideP hL; have HhH := hideP hH; have HtR := hideP tR; have Hha' := hideP ha'; clear hL hH tR ha'
    go_enter Try.func9, Try.ntmps9
    go_upto_region 1 with fail
    obtain ⟨w1, hw1⟩ : ∃ w1, w1 = w.alloc (Obj.cells #[.slice L n dl, .slice H m sh] 58) := ⟨_, rfl⟩
    have c1 := hideP (show Two w1 w.heap.size 58 (.slice L n dl) (.slice H m sh) by rw [hw1]; exact Two.new _ _ _ _)
    have cb := hideP (show Below w.heap.size w w1 by rw [hw1]; exact below_new _ _)
    rw [← hw1]
    clear hw1
    go_wp2_with fail
    refine (Hha'.out w1).mono ?_
    rintro e w2 ⟨rfl, hb⟩
    replace c1 := hideP (c1.out.after hb)
    replace cb := hideP (bstep cb.out hb)
    clear hb
    have kc10 := c1.out.c0; have kc11 := c1.out.c1
    go_wp2_with fail
    refine (HtR.out w2 (HhL.out.after cb.out) (HhH.out.after cb.out)).mono ?_
    rintro e w3 ⟨rfl, hb⟩
    clear kc10 kc11
    replace c1 := hideP (c1.out.after hb)
    replace cb := hideP (bstep cb.out hb)
    clear hb
    go_wp2
    go_ret
    exact ⟨rfl, cb.out⟩
  case pos =>
  rw [hR] at tR
  have hf := rightB_len hR
  have bx := Bx.of hR il ih
  by_cases hpl : p.length = lo.length
  case neg =>
    obtain ⟨n, hn⟩ : ∃ q, q = lo.length := ⟨_, rfl⟩
    obtain ⟨m, hm⟩ : ∃ q, q = hi.length := ⟨_, rfl⟩
    obtain ⟨k, hk⟩ : ∃ q, q = p.length := ⟨_, rfl⟩
    rw [← hn] at hL tR hpl ⊢
    rw [← hm] at hH tR ⊢
    rw [← hk] at hpl ⊢
    have hne : ((k : Int) != (n : Int)) = true := by simp; omega
    clear hn hm hk hR hf tH ip iq il ih hpn hqn hA hQ hpl bx
    have HhL := hideP hL; have HhH := hideP hH; have HtR := hideP tR; have Hha' := hideP ha'; clear hL hH tR ha'
    go_enter Try.func9, Try.ntmps9
    go_upto_region 1 with fail
    obtain ⟨w1, hw1⟩ : ∃ w1, w1 = w.alloc (Obj.cells #[.slice L n dl, .slice H m sh] 58) := ⟨_, rfl⟩
    have c1 := hideP (show Two w1 w.heap.size 58 (.slice L n dl) (.slice H m sh) by rw [hw1]; exact Two.new _ _ _ _)
    have cb := hideP (show Below w.heap.size w w1 by rw [hw1]; exact below_new _ _)
    rw [← hw1]
    clear hw1
    go_wp2_with fail
    refine (Hha'.out w1).mono ?_
    rintro e w2 ⟨rfl, hb⟩
    replace c1 := hideP (c1.out.after hb)
    replace cb := hideP (bstep cb.out hb)
    clear hb
    have kc10 := c1.out.c0; have kc11 := c1.out.c1
    go_wp2_with fail
    refine (HtR.out w2 (HhL.out.after cb.out) (HhH.out.after cb.out)).mono ?_
    rintro e w3 ⟨rfl, hb⟩
    clear kc10 kc11
    replace c1 := hideP (c1.out.after hb)
    replace cb := hideP (bstep cb.out hb)
    clear hb
    go_wp2
    go_ret
    exact ⟨rfl, cb.out⟩
  case pos =>
  obtain ⟨n, hn⟩ : ∃ q, q = lo.length := ⟨_, rfl⟩
  have hhl : hi.length = n := by omega
  rw [← hn] at hpl
  have hne : ((p.length : Int) != (n : Int)) = false := by simp; omega
  by_cases hH2 : hasB lo hi q = true
  case neg =>
    have hH' : hasB lo hi q = false := by simpa using hH2
    rw [hH'] at tH
    rw [← hn] at hL tR tH ⊢
    rw [hhl] at hH tR tH ⊢
    rw [hpl] at hne ⊢
    clear hn hhl hR hf ip iq il ih hpn hqn hA hpl hH2 hH' bx
    have HhL := hideP hL; have HhH := hideP hH; have HtR := hideP tR; have HtH := hideP tH; have HhQ := hideP hQ; have Hha' := hideP ha'; clear hL hH tR tH hQ ha'
    go_enter Try.func9, Try.ntmps9
    go_upto_region 1 with fail
    obtain ⟨w1, hw1⟩ : ∃ w1, w1 = w.alloc (Obj.cells #[.slice L n dl, .slice H n sh] 58) := ⟨_, rfl⟩
    have c1 := hideP (show Two w1 w.heap.size 58 (.slice L n dl) (.slice H n sh) by rw [hw1]; exact Two.new _ _ _ _)
    have cb := hideP (show Below w.heap.size w w1 by rw [hw1]; exact below_new _ _)
    rw [← hw1]
    clear hw1
    go_wp2_with fail
    refine (Hha'.out w1).mono ?_
    rintro e w2 ⟨rfl, hb⟩
    replace c1 := hideP (c1.out.after hb)
    replace cb := hideP (bstep cb.out hb)
    clear hb
    have kc10 := c1.out.c0; have kc11 := c1.out.c1
    go_wp2_with fail
    refine (HtR.out w2 (HhL.out.after cb.out) (HhH.out.after cb.out)).mono ?_
    rintro e w3 ⟨rfl, hb⟩
    clear kc10 kc11
    replace c1 := hideP (c1.out.after hb)
    replace cb := hideP (bstep cb.out hb)
    clear hb
    have kc10 := c1.out.c0; have kc11 := c1.out.c1
    go_wp2_with fail
    refine (HtH.out w3 (HhL.out.after cb.out) (HhH.out.after cb.out) (HhQ.out.after cb.out)).mono ?_
    rintro e w4 ⟨rfl, hb⟩
    clear kc10 kc11
    replace c1 := hideP (c1.out.after hb)
    replace cb := hideP (bstep cb.out hb)
    clear hb
    go_wp2
    go_ret
    exact ⟨rfl, cb.out⟩
  case pos =>
  rw [hH2] at tH
  have hql : q.length = n := by
    have h := hH2
    unfold hasB at h
    simp only [Bool.and_eq_true] at h
    have := rightB_len h.1
    omega
  have tC1 := fun W h => rcode_any A p ca W h ip (by omega)
  have tC2 := fun W h => rcode_any Q q cq W h iq (by omega)
  have hz : zok (code p) lo hi = true := by unfold zok; rw [hR, code_len]; simp; omega
  have tS := fun (X : Option Addr) (cx : Nat) W h h' h3 => skip_any X L H (code p) lo hi cx dl sh W h (code_lt p) h' h3 il ih (by omega)
  have tB := fun (X : Option Addr) (cx : Nat) W h h' h3 => back_any X L H (code p) lo hi cx dl sh W h (code_lt p) h' h3 il ih (by omega)
  have e1 : findV false (code p) lo hi = findAll false (code p) lo hi n := by unfold findV; rw [if_pos hz, ← hn]
  have e2 : findV true (code p) lo hi = findAll true (code p) lo hi n := by unfold findV; rw [if_pos hz, ← hn]
  rw [e1] at tS
  rw [e2] at tB
  have tP := fun (x : List Nat) (hx : IsB x) (hxl : x.length = 8 * n) (X : Option Addr) (cx : Nat) W (h : Arr W W.heap.size X x.length (u8s x)) => rpoint_any X x cx n W h hx (by omega) hxl
  have tH2 := fun (x : List Nat) (X : Option Addr) (cx : Nat) W h h' (h3 : Arr W W.heap.size X (ptL x n).length (i64s (ptL x n))) => rhas_any L H X lo hi (ptL x n) dl sh cx W h h' h3 (by rw [ptL_len]; omega)
  rw [← hn] at hL tR tH tS tB tH2 bx ⊢
  rw [hhl] at hH tR tH tS tB tH2 ⊢
  rw [hpl] at hA tC1 hne ⊢
  rw [hql] at hQ tH tC2 ⊢
  rw [code_len, hpl] at tS tB
  simp only [ptL_len] at tH2
  have hpc : (code p).length = 8 * n := by rw [code_len, hpl]
  have hqc : (code q).length = 8 * n := by rw [code_len, hql]
  have hcp := code_lt p
  have hcq := code_lt q
  have bw1 := fun h => between_skip bx ip iq hpl hql hH2 h
  have bw2 := fun h => between_back bx ip iq hpl hql hH2 h
  have hn8 : n ≤ 8 := by omega
  obtain ⟨c, hc⟩ : ∃ c, c = code p := ⟨_, rfl⟩
  obtain ⟨ee, he⟩ : ∃ c, c = code q := ⟨_, rfl⟩
  rw [← hc] at tC1 tS tB hpc hcp bw1 bw2
  rw [← he] at tC2 hqc hcq bw1 bw2
  clear hc he hz e1 e2 hn hhl hR hf hpl hql hH2 ip iq il ih hpn hqn
  have hn8' := hideP (show 8 * n ≤ 140737488351232 by omega)
  have HhA := hideP hA; have HhQ := hideP hQ; have HhL := hideP hL; have HhH := hideP hH; have HtR := hideP tR; have HtH := hideP tH; have HtC1 := hideP tC1; have HtC2 := hideP tC2; have HtS := hideP tS; have HtB := hideP tB; have HtP := hideP tP; have HtH2 := hideP tH2; have Hhpc := hideP hpc; have Hhqc := hideP hqc; have Hhcp := hideP hcp; have Hhcq := hideP hcq; have Hbw1 := hideP bw1; have Hbw2 := hideP bw2; have Hbx := hideP bx; have Hha' := hideP ha'; have Hhn8 := hideP hn8; clear hA hQ hL hH tR tH tC1 tC2 tS tB tP tH2 hpc hqc hcp hcq bw1 bw2 bx ha' hn8
  go_enter Try.func9, Try.ntmps9
  go_upto_region 1 with fail
  obtain ⟨w1, hw1⟩ : ∃ w1, w1 = w.alloc (Obj.cells #[.slice L n dl, .slice H n sh] 58) := ⟨_, rfl⟩
  have c1 := hideP (show Two w1 w.heap.size 58 (.slice L n dl) (.slice H n sh) by rw [hw1]; exact Two.new _ _ _ _)
  have cb := hideP (show Below w.heap.size w w1 by rw [hw1]; exact below_new _ _)
  rw [← hw1]
  clear hw1
  go_wp2_with fail
  refine (Hha'.out w1).mono ?_
  rintro e w2 ⟨rfl, hb⟩
  replace c1 := hideP (c1.out.after hb)
  replace cb := hideP (bstep cb.out hb)
  clear hb
  have kc10 := c1.out.c0; have kc11 := c1.out.c1
  go_wp2_with fail
  refine (HtR.out w2 (HhL.out.after cb.out) (HhH.out.after cb.out)).mono ?_
  rintro e w3 ⟨rfl, hb⟩
  clear kc10 kc11
  replace c1 := hideP (c1.out.after hb)
  replace cb := hideP (bstep cb.out hb)
  clear hb
  have kc10 := c1.out.c0; have kc11 := c1.out.c1
  go_wp2_with fail
  refine (HtH.out w3 (HhL.out.after cb.out) (HhH.out.after cb.out) (HhQ.out.after cb.out)).mono ?_
  rintro e w4 ⟨rfl, hb⟩
  clear kc10 kc11
  replace c1 := hideP (c1.out.after hb)
  replace cb := hideP (bstep cb.out hb)
  clear hb
  go_wp2_with fail
  refine (HtC1.out w4 (HhA.out.after cb.out)).mono ?_
  rintro e w5 ⟨RC, dC, rfl, aC, hb⟩
  have HaC := hideP aC; clear aC
  replace c1 := hideP (c1.out.after hb)
  replace cb := hideP (bstep cb.out hb)
  clear hb
  go_wp2_with fail
  refine (HtC2.out w5 (HhQ.out.after cb.out)).mono ?_
  rintro e w6 ⟨RE, dE, rfl, aE, hb⟩
  have HaE := hideP aE; clear aE
  replace c1 := hideP (c1.out.after hb)
  replace HaC := hideP (HaC.out.after hb)
  replace cb := hideP (bstep cb.out hb)
  clear hb
  have kc10 := c1.out.c0; have kc11 := c1.out.c1
  go_wp2_with fail
  refine (HtS.out RC dC w6 HaC.out (HhL.out.after cb.out) (HhH.out.after cb.out)).mono ?_
  intro e w7 hT1
  clear kc10 kc11
  by_cases hlx : lexLt ee c = true
  · obtain ⟨x, hx1, hx2, hx3, hx4, hx5, hx6⟩ := Hbw2.out hlx
    obtain ⟨R1, m1, d1, rfl, l1, a1, hb⟩ := hT1.val
    obtain ⟨b1, hb1⟩ : ∃ b, b = (findAll false c lo hi n).isSome := ⟨_, rfl⟩
    rw [← hb1]
    clear hT1 l1 a1 hb1
    replace c1 := hideP (c1.out.after hb)
    replace HaC := hideP (HaC.out.after hb)
    replace HaE := hideP (HaE.out.after hb)
    replace cb := hideP (bstep cb.out hb)
    clear hb
    have kc10 := c1.out.c0; have kc11 := c1.out.c1
    go_wp2_with fail
    refine (HtB.out RC dC w7 HaC.out (HhL.out.after cb.out) (HhH.out.after cb.out)).mono ?_
    intro e w8 hT2
    rw [hx1] at hT2
    obtain ⟨R2, d2, rfl, l2, a2, hb⟩ := hT2
    clear kc10 kc11
    have Ha2 := hideP a2; have Hl2 := hideP l2; clear a2 l2
    replace c1 := hideP (c1.out.after hb)
    replace HaC := hideP (HaC.out.after hb)
    replace HaE := hideP (HaE.out.after hb)
    replace cb := hideP (bstep cb.out hb)
    clear hb
    have tP := hideP (HtP.out x hx3 hx2)
    have tH2 := hideP (HtH2.out x)
    rw [hx6] at tH2
    rw [hx2] at tP
    have k1 := hideP (fun W h h' => less_at R2 RE x ee (8 * n) d2 dE W false h h' hx3 Hhcq.out hx2 Hhqc.out hn8'.out hx4)
    have k2 := hideP (fun W h h' => less_at RC R2 c x (8 * n) dC d2 W false h h' Hhcp.out hx3 Hhpc.out hx2 hn8'.out hx5)
    have k3 := hideP (fun W h h' => less_at RE RC ee c (8 * n) dE dC W true h h' Hhcq.out Hhcp.out Hhqc.out Hhpc.out hn8'.out hlx)
    clear hlx hx1 hx2 hx3 hx4 hx5 hx6
    go_wp2_with fail
    refine (k3.out w8 HaE.out HaC.out).mono ?_
    rintro e w9 ⟨rfl, rfl⟩
    have kc10 := c1.out.c0; have kc11 := c1.out.c1
    go_upto_region 10 with fail
    refine wp_region_fork 21 (.q 0 (.q 1 (.q 2 (.q 3 (.q 4 (.q 5 (.q 6 (.q 7 (.q 8 (.q 9 (.q 10 (.q 11 (.q 12 (.q 13 (.q 14 (.q 15 (.q 16 (.l 17 (.q 18 (.q 19 (.q 20 .nil))))))))))))))))))))) (by kernel_rfl) (by kernel_rfl) ?_
    simp only [pickT, nthO_zero, nthO_succ]
    iterate 4 (refine wpT_valK (by rfl) (fun K hK => ?_); apply Exists.intro; refine ⟨fun W hW => ?_, ?_⟩; (focus (go_simp; (try rfl); done)); go_simp; refine hK _ ?_; clear hK K)
    refine wpT_callK (.bool false) 35 #[.slice R2 (8 * n) d2, .slice RE (8 * n) dE] (by rfl) (fun W => by go_simp) (fun W hW => (k1.out W (Ha2.out.ext hW.drew_left) (HaE.out.ext hW.drew_left)).mono fun e w2 h => ⟨h.1, h.2 ▸ Ext.refl _⟩) (fun K hK => ?_)
    go_simp
    refine hK _ ?_
    clear hK K
    iterate 5 (refine wpT_valK (by rfl) (fun K hK => ?_); apply Exists.intro; refine ⟨fun W hW => ?_, ?_⟩; (focus (go_simp; (try rfl); done)); go_simp; refine hK _ ?_; clear hK K)
    refine wpT_callK (.bool false) 35 #[.slice RC (8 * n) dC, .slice R2 (8 * n) d2] (by rfl) (fun W => by go_simp) (fun W hW => (k2.out W (HaC.out.ext hW.drew_left) (Ha2.out.ext hW.drew_left)).mono fun e w2 h => ⟨h.1, h.2 ▸ Ext.refl _⟩) (fun K hK => ?_)
    go_simp
    refine hK _ ?_
    clear hK K
    iterate 6 (refine wpT_valK (by rfl) (fun K hK => ?_); apply Exists.intro; refine ⟨fun W hW => ?_, ?_⟩; (focus (have hs0 := hW.cell kc10; have hs1 := hW.cell kc11; go_simp; (try rfl); done)); go_simp; refine hK _ ?_; clear hK K)
    refine wpT_loudK 38 #[.slice R2 (8 * n) d2, .int .i64 n] (by rfl) (fun W => by go_simp) (fun W hW => (tP.out R2 d2 W (Ha2.out.ext hW.drew_left)).mono ?_)
    rintro e wp ⟨RP, sp, rfl, hown, hb_⟩
    refine ⟨_, rfl, Ext.of_below hb_, fun K hK => ?_⟩
    go_simp
    refine hK _ ?_
    clear hK K
    have xP := hideP (hW.drew_left.trans (Ext.of_below hb_))
    have AP := hideP (show Arr wp wp.heap.size RP n (i64s (ptL x n)) from Arr.of_own hown fun i hi => ptVals_get x n i hi)
    clear hown hW hb_
    refine wpT_callK (.bool true) 34 #[.agg #[.slice L n dl, .slice H n sh], .slice RP n sp] (by rfl) (fun W => by go_simp) (fun W hW => (tH2.out RP sp W (HhL.out.after (below_ext cb.out (xP.out.trans hW))) (HhH.out.after (below_ext cb.out (xP.out.trans hW))) (AP.out.ext hW)).mono fun e w2 ⟨h1, h2⟩ => ⟨h1, Ext.of_below h2⟩) (fun K hK => ?_)
    go_simp
    refine hK _ ?_
    clear hK K
    iterate 2 (refine wpT_valK (by rfl) (fun K hK => ?_); apply Exists.intro; refine ⟨fun W hW => ?_, ?_⟩; (focus (go_simp; (try rfl); done)); go_simp; refine hK _ ?_; clear hK K)
    refine wpT_nil (fun W9 hW => ?_)
    try simp only [List.drop_succ_cons, List.drop_zero, List.drop_nil]
    have x9 := hideP (xP.out.trans hW)
    clear hW xP
    go_wp2
    go_ret
    exact ⟨rfl, below_ext cb.out x9.out⟩
  · have hlx' : lexLt ee c = false := by simpa using hlx
    obtain ⟨x, hx1, hx2, hx3, hx4, hx5, hx6⟩ := Hbw1.out hlx'
    rw [hx1] at hT1
    obtain ⟨R1, d1, rfl, l1, a1, hb⟩ := hT1
    have Ha1 := hideP a1; have Hl1 := hideP l1; clear a1 l1
    replace c1 := hideP (c1.out.after hb)
    replace HaC := hideP (HaC.out.after hb)
    replace HaE := hideP (HaE.out.after hb)
    replace cb := hideP (bstep cb.out hb)
    clear hb
    have kc10 := c1.out.c0; have kc11 := c1.out.c1
    go_wp2_with fail
    refine (HtB.out RC dC w7 HaC.out (HhL.out.after cb.out) (HhH.out.after cb.out)).mono ?_
    intro e w8 hT2
    obtain ⟨R2, m2, d2, rfl, l2, a2, hb⟩ := hT2.val
    obtain ⟨b1, hb1⟩ : ∃ b, b = (findAll true c lo hi n).isSome := ⟨_, rfl⟩
    rw [← hb1]
    clear hT2 l2 a2 hb1
    clear kc10 kc11
    replace c1 := hideP (c1.out.after hb)
    replace HaC := hideP (HaC.out.after hb)
    replace HaE := hideP (HaE.out.after hb)
    replace Ha1 := hideP (Ha1.out.after hb)
    replace cb := hideP (bstep cb.out hb)
    clear hb
    have tP := hideP (HtP.out x hx3 hx2)
    have tH2 := hideP (HtH2.out x)
    rw [hx6] at tH2
    rw [hx2] at tP
    have k1 := hideP (fun W h h' => less_at RE R1 ee x (8 * n) dE d1 W false h h' Hhcq.out hx3 Hhqc.out hx2 hn8'.out hx4)
    have k2 := hideP (fun W h h' => less_at R1 RC x c (8 * n) d1 dC W false h h' hx3 Hhcp.out hx2 Hhpc.out hn8'.out hx5)
    have k3 := hideP (fun W h h' => less_at RE RC ee c (8 * n) dE dC W false h h' Hhcq.out Hhcp.out Hhqc.out Hhpc.out hn8'.out hlx')
    clear hlx hlx' hx1 hx2 hx3 hx4 hx5 hx6
    go_wp2_with fail
    refine (k3.out w8 HaE.out HaC.out).mono ?_
    rintro e w9 ⟨rfl, rfl⟩
    have kc10 := c1.out.c0; have kc11 := c1.out.c1
    go_upto_region 11 with fail
    refine wp_region_fork 21 (.q 0 (.q 1 (.q 2 (.q 3 (.q 4 (.q 5 (.q 6 (.q 7 (.q 8 (.q 9 (.q 10 (.q 11 (.q 12 (.q 13 (.q 14 (.q 15 (.q 16 (.l 17 (.q 18 (.q 19 (.q 20 .nil))))))))))))))))))))) (by kernel_rfl) (by kernel_rfl) ?_
    simp only [pickT, nthO_zero, nthO_succ]
    iterate 4 (refine wpT_valK (by rfl) (fun K hK => ?_); apply Exists.intro; refine ⟨fun W hW => ?_, ?_⟩; (focus (go_simp; (try rfl); done)); go_simp; refine hK _ ?_; clear hK K)
    refine wpT_callK (.bool false) 35 #[.slice RE (8 * n) dE, .slice R1 (8 * n) d1] (by rfl) (fun W => by go_simp) (fun W hW => (k1.out W (HaE.out.ext hW.drew_left) (Ha1.out.ext hW.drew_left)).mono fun e w2 h => ⟨h.1, h.2 ▸ Ext.refl _⟩) (fun K hK => ?_)
    go_simp
    refine hK _ ?_
    clear hK K
    iterate 5 (refine wpT_valK (by rfl) (fun K hK => ?_); apply Exists.intro; refine ⟨fun W hW => ?_, ?_⟩; (focus (go_simp; (try rfl); done)); go_simp; refine hK _ ?_; clear hK K)
    refine wpT_callK (.bool false) 35 #[.slice R1 (8 * n) d1, .slice RC (8 * n) dC] (by rfl) (fun W => by go_simp) (fun W hW => (k2.out W (Ha1.out.ext hW.drew_left) (HaC.out.ext hW.drew_left)).mono fun e w2 h => ⟨h.1, h.2 ▸ Ext.refl _⟩) (fun K hK => ?_)
    go_simp
    refine hK _ ?_
    clear hK K
    iterate 6 (refine wpT_valK (by rfl) (fun K hK => ?_); apply Exists.intro; refine ⟨fun W hW => ?_, ?_⟩; (focus (have hs0 := hW.cell kc10; have hs1 := hW.cell kc11; go_simp; (try rfl); done)); go_simp; refine hK _ ?_; clear hK K)
    refine wpT_loudK 38 #[.slice R1 (8 * n) d1, .int .i64 n] (by rfl) (fun W => by go_simp) (fun W hW => (tP.out R1 d1 W (Ha1.out.ext hW.drew_left)).mono ?_)
    rintro e wp ⟨RP, sp, rfl, hown, hb_⟩
    refine ⟨_, rfl, Ext.of_below hb_, fun K hK => ?_⟩
    go_simp
    refine hK _ ?_
    clear hK K
    have xP := hideP (hW.drew_left.trans (Ext.of_below hb_))
    have AP := hideP (show Arr wp wp.heap.size RP n (i64s (ptL x n)) from Arr.of_own hown fun i hi => ptVals_get x n i hi)
    clear hown hW hb_
    refine wpT_callK (.bool true) 34 #[.agg #[.slice L n dl, .slice H n sh], .slice RP n sp] (by rfl) (fun W => by go_simp) (fun W hW => (tH2.out RP sp W (HhL.out.after (below_ext cb.out (xP.out.trans hW))) (HhH.out.after (below_ext cb.out (xP.out.trans hW))) (AP.out.ext hW)).mono fun e w2 ⟨h1, h2⟩ => ⟨h1, Ext.of_below h2⟩) (fun K hK => ?_)
    go_simp
    refine hK _ ?_
    clear hK K
    iterate 2 (refine wpT_valK (by rfl) (fun K hK => ?_); apply Exists.intro; refine ⟨fun W hW => ?_, ?_⟩; (focus (go_simp; (try rfl); done)); go_simp; refine hK _ ?_; clear hK K)
    refine wpT_nil (fun W9 hW => ?_)
    try simp only [List.drop_succ_cons, List.drop_zero, List.drop_nil]
    have x9 := hideP (xP.out.trans hW)
    clear hW xP
    go_wp2
    go_ret
    exact ⟨rfl, below_ext cb.out x9.out⟩
end Go.Proofs.Ytjdbpeblbejllaa
