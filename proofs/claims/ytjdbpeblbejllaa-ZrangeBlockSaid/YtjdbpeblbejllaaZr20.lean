/- ZrangeBlock. -/
import Derived.Test.YtjdbpeblbejllaaZr18
set_option linter.unusedVariables false
set_option linter.unusedSimpArgs false
namespace Go.Proofs.Ytjdbpeblbejllaa
open Go.RowKit
theorem less_at' (A B : Option Addr) (a b : List Nat) (n c d : Nat) (w : World) (v : Bool) (hA : Arr w w.heap.size A n (u8s a)) (hB : Arr w w.heap.size B n (u8s b)) (ha : IsB a) (hb : IsB b) (hal : a.length = n) (hbl : b.length = n) (hn : n ≤ 140737488351232) (hv : lexLt a b = v) :
    Calls Try.prog 35 #[.slice A n c, .slice B n d] w fun e w' => e = .returned (.bool v) ∧ w = w' := by
  have h := less_any A B a b c d w (by rw [hal]; exact hA) (by rw [hbl]; exact hB) ha hb (by omega) (by omega)
  unfold lessB at h
  rw [if_pos (by omega), hv, hal, hbl] at h
  exact h
set_option maxRecDepth 100000 in
set_option maxHeartbeats 8000000 in
theorem walk_ZrangeBlock (L : Option Addr) (lo : List Int) (dl : Nat) (H : Option Addr) (hi : List Int) (sh : Nat) (A : Option Addr) (c : List Nat) (ca : Nat) (w : World)
    (hL : Arr w w.heap.size L lo.length (i64s lo)) (il : IsI lo) (hH : Arr w w.heap.size H hi.length (i64s hi)) (ih : IsI hi) (nl : lo.length ≤ 17592186043904) (nh : hi.length ≤ 17592186043904) (cl : lo.length ≤ dl) (ch : hi.length ≤ sh)
    (hA : Arr w w.heap.size A c.length (u8s c)) (ic : IsB c) (hcn : c.length ≤ 140737488351232) :
    Calls Try.prog 7 #[.agg #[.slice L lo.length dl, .slice H hi.length sh], .slice A c.length ca] w fun e w' => e = .returned (.bool true) ∧ Below w.heap.size w w' := by
  have ha' := fun W => alive06 W
  have tB := fun W h h' => block_any L H lo hi dl sh W h h' il ih
  have tR := fun W h h' => rright_any L H lo hi dl sh (lo.length : Int) W h h'
  by_cases hz : zok c lo hi = true
  case neg =>
    have hbk : 0 < lo.length ∨ blockP lo hi = false := by
      rcases Nat.eq_zero_or_pos lo.length with h | h
      · refine .inr ?_
        unfold blockP rightB
        simp [h]
      · exact .inl h
    obtain ⟨bk, hbk'⟩ : ∃ z, z = blockP lo hi := ⟨_, rfl⟩
    obtain ⟨rr, hrr⟩ : ∃ z, z = rightB lo hi lo.length := ⟨_, rfl⟩
    rw [← hbk'] at tB hbk
    rw [← hrr] at tR
    have ez : rr = false ∨ ¬ c.length = 8 * lo.length := by
      rw [hrr]
      unfold zok at hz
      simp only [Bool.and_eq_true, decide_eq_true_eq, not_and] at hz
      by_cases h : rightB lo hi lo.length = true
      · exact .inr (hz h)
      · exact .inl (by simpa using h)
    have k8 : IntKind.i64.wrap (8 * (lo.length : Int)) = 8 * (lo.length : Int) := IntWalk.i64_in _ (by omega)
    obtain ⟨n, hn⟩ : ∃ q, q = lo.length := ⟨_, rfl⟩
    obtain ⟨m, hm⟩ : ∃ q, q = hi.length := ⟨_, rfl⟩
    obtain ⟨k, hk⟩ : ∃ q, q = c.length := ⟨_, rfl⟩
    rw [← hn] at hL tR tB hbk ez k8 nl ⊢
    rw [← hm] at hH tR tB ⊢
    rw [← hk] at ez ⊢
    clear hn hm hk hrr hbk' hz il ih ic hA nh cl ch hcn
    have HhL := hideP hL; have HhH := hideP hH; have HtR := hideP tR; have HtB := hideP tB; have Hha' := hideP ha'; clear hL hH tR tB ha'
    go_enter Try.func7, Try.ntmps7
    go_upto_region 1 with fail
    obtain ⟨w1, hw1⟩ : ∃ w1, w1 = w.alloc (Obj.cells #[.slice L n dl, .slice H m sh] 58) := ⟨_, rfl⟩
    have c1 := hideP (show Two w1 w.heap.size 58 (.slice L n dl) (.slice H m sh) by rw [hw1]; exact Two.new _ _ _ _)
    have cb := hideP (show Below w.heap.size w w1 by rw [hw1]; exact below_new _ _)
    rw [← hw1]
    clear hw1
    go_wp2_with fail
    refine (Hha'.out w1).mono ?_
    rintro e w2 ⟨rfl, hb⟩
    replace c1 := hideP (c1.out.after hb)
    replace cb := hideP (bstep cb.out hb)
    clear hb
    have kc10 := c1.out.c0; have kc11 := c1.out.c1
    go_wp2_with fail
    refine (HtR.out w2 (HhL.out.after cb.out) (HhH.out.after cb.out)).mono ?_
    rintro e w3 ⟨rfl, hb⟩
    clear kc10 kc11
    replace c1 := hideP (c1.out.after hb)
    replace cb := hideP (bstep cb.out hb)
    clear hb
    have kc10 := c1.out.c0; have kc11 := c1.out.c1
    have hbad : rr = false ∨ (rr = true ∧ ((k : Int) != 8 * (n : Int)) = true) := by
      rcases ez with h | h
      · exact .inl h
      · cases rr
        · exact .inl rfl
        · exact .inr ⟨rfl, by simp; omega⟩
    clear ez
    by_cases hn0 : 0 < n
    · have hp0 : decide (0 < n) = true := by simp; omega
      clear hbk hn0
      rcases hbad with rfl | ⟨rfl, hne⟩
      all_goals
        go_wp2
        go_ret
        exact ⟨rfl, cb.out⟩
    · have hp0 : decide (0 < n) = false := by simp; omega
      have hbk2 := hbk.resolve_left hn0
      subst hbk2
      clear hbk
      rcases hbad with rfl | ⟨rfl, hne⟩
      all_goals
        go_wp2_with fail
        refine (HtB.out w3 (HhL.out.after cb.out) (HhH.out.after cb.out)).mono ?_
        rintro e w4 ⟨rfl, hb⟩
        clear kc10 kc11
        replace c1 := hideP (c1.out.after hb)
        replace cb := hideP (bstep cb.out hb)
        clear hb
        go_wp2
        go_ret
        exact ⟨rfl, cb.out⟩
  case pos =>
  have h2 := hz
  unfold zok at h2
  simp only [Bool.and_eq_true, decide_eq_true_eq] at h2
  obtain ⟨hR, hcl⟩ := h2
  have bx := Bx.of hR il ih
  rw [hR] at tR
  obtain ⟨N, hN⟩ : ∃ N, FD lo hi lo.length N := by
    by_cases h : 0 ≤ (uSt lo hi lo.length).2
    · obtain ⟨b, _, _, _, h, _⟩ := fd_at bx h; exact ⟨_, h⟩
    · exact ⟨_, fd_none bx (by omega)⟩
  have hdoc := block_doc bx hN
  obtain ⟨bk, hbk'⟩ : ∃ z, z = blockP lo hi := ⟨_, rfl⟩
  rw [← hbk'] at tB hdoc
  have hp := ptL_len c lo.length
  have hpc : code (ptL c lo.length) = c := code_ptL c lo.length ic bx.d1 hcl
  have hbw : bk = true → hasB lo hi (ptL c lo.length) = (!lexLt c (code lo) && !lexLt (code hi) c) := fun h => by
    rw [h] at hdoc
    rw [Bool.eq_iff_iff, Bool.and_eq_true]
    constructor
    · intro h3
      have := has_between bx (ptL_I c lo.length) hp h3
      rw [hpc] at this
      rw [this.1, this.2]; exact ⟨rfl, rfl⟩
    · intro ⟨h3, h4⟩
      exact block_between bx hN hdoc.symm (ptL_I c lo.length) hp (by rw [hpc]; simpa using h3) (by rw [hpc]; simpa using h4)
  have tC1 := fun W h => rcode_any L lo dl W h il bx.d8
  have tC2 := fun W h => rcode_any H hi sh W h ih (by rw [bx.hl]; exact bx.d8)
  have tP := fun W (h : Arr W W.heap.size A c.length (u8s c)) => rpoint_any A c ca lo.length W h ic bx.d8 hcl
  have tH := fun (X : Option Addr) (cx : Nat) W h h' (h3 : Arr W W.heap.size X (ptL c lo.length).length (i64s (ptL c lo.length))) => rhas_any L H X lo hi (ptL c lo.length) dl sh cx W h h' h3 (by rw [ptL_len]; omega)
  obtain ⟨l1, hl1⟩ : ∃ z, z = lexLt c (code lo) := ⟨_, rfl⟩
  obtain ⟨l2, hl2⟩ : ∃ z, z = lexLt (code hi) c := ⟨_, rfl⟩
  obtain ⟨hv, hhv⟩ : ∃ z, z = hasB lo hi (ptL c lo.length) := ⟨_, rfl⟩
  rw [← hhv] at tH hbw
  rw [← hl1, ← hl2] at hbw
  have icl := code_lt lo
  have ich := code_lt hi
  have lcl := code_len lo
  have lch := code_len hi
  rw [bx.hl] at lch
  obtain ⟨n, hn⟩ : ∃ q, q = lo.length := ⟨_, rfl⟩
  have hhl : hi.length = n := by rw [hn]; exact bx.hl
  have hn1 : 1 ≤ n := by rw [hn]; exact bx.d1
  have hn8 : n ≤ 8 := by rw [hn]; exact bx.d8
  rw [← hn] at hL tR tB tC1 tP tH lcl lch hcl ⊢
  rw [hhl] at hH tR tB tC2 tH ⊢
  rw [ptL_len] at tH
  rw [hcl] at hA tP ⊢
  have hLe1 := hideP (fun (X : Option Addr) (u : Nat) W h h' => less_at' A X c (code lo) (8 * n) ca u W l1 h h' ic icl hcl lcl (by omega) hl1.symm)
  have hLe2 := hideP (fun (X : Option Addr) (u : Nat) W h h' => less_at' X A (code hi) c (8 * n) u ca W l2 h h' ich ic lch hcl (by omega) hl2.symm)
  obtain ⟨pt, hpt⟩ : ∃ z, z = ptL c n := ⟨_, rfl⟩
  have hpv := hideP (fun i hi => ptVals_get c n i hi)
  rw [← hpt] at tH
  rw [← hpt] at hpv
  have hlen8 : ((8 * n : Nat) : Int) != 8 * (n : Int) ↔ False := by simp
  have k8 : IntKind.i64.wrap (8 * (n : Int)) = 8 * (n : Int) := IntWalk.i64_in _ (by omega)
  clear hpt hl1 hl2 hhv hpc hp hdoc hN hbk' hn hhl hR hz il ih ic nl nh cl ch hcn bx lcl lch icl ich hcl
  have HhL := hideP hL; have HhH := hideP hH; have HhA := hideP hA; have HtR := hideP tR; have HtB := hideP tB; have HtC1 := hideP tC1; have HtC2 := hideP tC2; have HtP := hideP tP; have HtH := hideP tH; have Hhbw := hideP hbw; have Hha' := hideP ha'; clear hL hH hA tR tB tC1 tC2 tP tH hbw ha'
  go_enter Try.func7, Try.ntmps7
  go_upto_region 1 with fail
  obtain ⟨w1, hw1⟩ : ∃ w1, w1 = w.alloc (Obj.cells #[.slice L n dl, .slice H n sh] 58) := ⟨_, rfl⟩
  have c1 := hideP (show Two w1 w.heap.size 58 (.slice L n dl) (.slice H n sh) by rw [hw1]; exact Two.new _ _ _ _)
  have cb := hideP (show Below w.heap.size w w1 by rw [hw1]; exact below_new _ _)
  rw [← hw1]
  clear hw1
  go_wp2_with fail
  refine (Hha'.out w1).mono ?_
  rintro e w2 ⟨rfl, hb⟩
  replace c1 := hideP (c1.out.after hb)
  replace cb := hideP (bstep cb.out hb)
  clear hb
  have kc10 := c1.out.c0; have kc11 := c1.out.c1
  go_wp2_with fail
  refine (HtR.out w2 (HhL.out.after cb.out) (HhH.out.after cb.out)).mono ?_
  rintro e w3 ⟨rfl, hb⟩
  clear kc10 kc11
  replace c1 := hideP (c1.out.after hb)
  replace cb := hideP (bstep cb.out hb)
  clear hb
  have kc10 := c1.out.c0; have kc11 := c1.out.c1
  go_upto_region 6 with fail
  clear hlen8 k8
  refine wp_region_fork 8 (.q 0 (.q 1 (.q 3 (.q 4 (.l 2 (.l 5 (.q 6 (.q 7 .nil)))))))) (by kernel_rfl) (by kernel_rfl) ?_
  simp only [pickT, nthO_zero, nthO_succ]
  iterate 4 (refine wpT_valK (by rfl) (fun K hK => ?_); apply Exists.intro; refine ⟨fun W hW => ?_, ?_⟩; (focus (have hs0 := hW.cell kc10; have hs1 := hW.cell kc11; go_simp; (try rfl); done)); go_simp; refine hK _ ?_; clear hK K)
  refine wpT_loudK 36 #[.slice L n dl] (by rfl) (fun W => by go_simp) (fun W hW => (HtC1.out W (HhL.out.after (below_ext cb.out hW.drew_left))).mono ?_)
  rintro e w4 ⟨R1, d1, rfl, ho, hb⟩
  refine ⟨_, rfl, Ext.of_below hb, fun K hK => ?_⟩
  go_simp
  refine hK _ ?_
  clear hK K
  have x4 := hideP (hW.drew_left.trans (Ext.of_below hb))
  have k1 := hideP ho
  clear hW ho hb
  refine wpT_loudK 36 #[.slice H n sh] (by rfl) (fun W => by go_simp) (fun W hW => (HtC2.out W (HhH.out.after (below_ext cb.out (x4.out.trans hW)))).mono ?_)
  rintro e w5 ⟨R2, d2, rfl, ho, hb⟩
  refine ⟨_, rfl, Ext.of_below hb, fun K hK => ?_⟩
  go_simp
  refine hK _ ?_
  clear hK K
  have x5 := hideP (x4.out.trans (hW.trans (Ext.of_below hb)))
  have k2 := hideP ho
  replace k1 := hideP (k1.out.ext (hW.trans (Ext.of_below hb)))
  clear hW ho hb x4
  iterate 2 (refine wpT_valK (by rfl) (fun K hK => ?_); apply Exists.intro; refine ⟨fun W hW => ?_, ?_⟩; (focus (go_simp; (try rfl); done)); go_simp; refine hK _ ?_; clear hK K)
  refine wpT_nil (fun w6 hW => ?_)
  try simp only [List.drop_succ_cons, List.drop_zero, List.drop_nil]
  have x6 := hideP (x5.out.trans hW)
  replace k1 := hideP (k1.out.ext hW)
  replace k2 := hideP (k2.out.ext hW)
  clear kc10 kc11
  replace c1 := hideP (c1.out.ext x6.out)
  replace cb := hideP (below_ext cb.out x6.out)
  clear hW x5 x6
  obtain ⟨bt, hbt⟩ : ∃ z, z = (!l1 && !l2) := ⟨_, rfl⟩
  rw [← hbt] at Hhbw
  have Hbt := hideP hbt
  clear hbt
  go_upto_region 7 with fail
  go_cut [8] (fun v8 wx => v8 = .bool bt ∧ Hid (Ext w6 wx))
  case first =>
    go_wp2_with fail
    refine (hLe1.out R1 d1 w6 (HhA.out.after cb.out) k1.out).mono ?_
    rintro e w7 ⟨rfl, rfl⟩
    cases l1
    · go_wp2_with fail
      refine (hLe2.out R2 d2 w6 k2.out (HhA.out.after cb.out)).mono ?_
      rintro e w7 ⟨rfl, rfl⟩
      have hh := Hbt.out
      cases l2
      · subst hh
        go_wp2_with fail
        go_meet
        exact ⟨rfl, Ext.refl _⟩
      · subst hh
        go_wp2_with fail
        go_meet
        exact ⟨rfl, Ext.refl _⟩
    · have hh := Hbt.out
      subst hh
      go_wp2_with fail
      go_meet
      exact ⟨rfl, Ext.refl _⟩
  case rest =>
    obtain ⟨rfl, hxx⟩ := hcut
    obtain ⟨w8, rfl⟩ : ∃ W, W = wc := ⟨_, rfl⟩
    replace c1 := hideP (c1.out.ext hxx.out)
    replace cb := hideP (below_ext cb.out hxx.out)
    clear hxx k1 k2 hLe1 hLe2 Hbt
    have kc10 := c1.out.c0; have kc11 := c1.out.c1
    go_upto_region 8 with fail
    cases bk
    · skip
      refine wp_region_eager 13 [(true, 0), (true, 1), (true, 2), (true, 3), (true, 4), (true, 5), (true, 6), (true, 7), (true, 8), (true, 9), (true, 10), (true, 11), (true, 12)] (by kernel_rfl) (by kernel_rfl) ?_
      simp only [pick, List.map_cons, List.map_nil, nthO_zero, nthO_succ]
      repeat (first
        | (refine wpPlan_skipK (by rfl) (fun K hK => ?_); go_simp; refine hK _ ?_; clear hK K)
        | (refine wpPlan_valK (by rfl) (fun K hK => ?_); apply Exists.intro; refine ⟨fun W hW => ?_, ?_⟩; (focus (have hs0 := hW.cell kc10; have hs1 := hW.cell kc11; go_simp; (try rfl); done)); go_simp; refine hK _ ?_; clear hK K)
        | (refine wpPlan_callK (.bool false) 32 #[.agg #[.slice L n dl, .slice H n sh]] (by rfl) ?_ (fun W hW => (HtB.out W (HhL.out.after (below_ext cb.out hW.drew_left)) (HhH.out.after (below_ext cb.out hW.drew_left))).mono fun e w2 h => ⟨h.1, Ext.of_below h.2⟩) (fun K hK => ?_); (focus (intro W; go_simp; done)); go_simp; refine hK _ ?_; clear hK K))
      refine wpPlan_nil (fun W9 hW0 => ?_)
      simp only [List.drop_succ_cons, List.drop_zero, List.drop_nil]
      have x9 := hideP hW0.drew_left
      clear hW0
      go_wp2
      go_ret
      exact ⟨rfl, below_ext cb.out x9.out⟩
    · have hvb : hv = bt := Hhbw.out (by trivial)
      subst hvb
      have q1 : (hv == hv) = true := by simp
      refine wp_region_fork 13 (.q 0 (.q 1 (.q 2 (.q 3 (.q 4 (.q 5 (.q 6 (.q 7 (.l 8 (.q 9 (.q 10 (.q 11 (.q 12 .nil))))))))))))) (by kernel_rfl) (by kernel_rfl) ?_
      simp only [pickT, nthO_zero, nthO_succ]
      (refine wpT_valK (by rfl) (fun K hK => ?_); apply Exists.intro; refine ⟨fun W hW => ?_, ?_⟩; (focus (have hs0 := hW.cell kc10; have hs1 := hW.cell kc11; go_simp; (try rfl); done)); go_simp; refine hK _ ?_; clear hK K)
      refine wpT_callK (.bool true) 32 #[.agg #[.slice L n dl, .slice H n sh]] (by rfl) (fun W => by go_simp) (fun W hW => (HtB.out W (HhL.out.after (below_ext cb.out hW.drew_left)) (HhH.out.after (below_ext cb.out hW.drew_left))).mono fun e w2 h => ⟨h.1, Ext.of_below h.2⟩) (fun K hK => ?_)
      go_simp
      refine hK _ ?_
      clear hK K
      iterate 6 (refine wpT_valK (by rfl) (fun K hK => ?_); apply Exists.intro; refine ⟨fun W hW => ?_, ?_⟩; (focus (have hs0 := hW.cell kc10; have hs1 := hW.cell kc11; go_simp; (try rfl); done)); go_simp; refine hK _ ?_; clear hK K)
      refine wpT_loudK 38 #[.slice A (8 * n) ca, .int .i64 n] (by rfl) (fun W => by go_simp) (fun W hW => (HtP.out W (HhA.out.after (below_ext cb.out hW.drew_left))).mono ?_)
      rintro e wp ⟨RP, sp, rfl, hown, hb_⟩
      refine ⟨_, rfl, Ext.of_below hb_, fun K hK => ?_⟩
      go_simp
      refine hK _ ?_
      clear hK K
      have xP := hideP (hW.drew_left.trans (Ext.of_below hb_))
      have AP := hideP (show Arr wp wp.heap.size RP n (i64s pt) from Arr.of_own hown fun i hi => hpv.out i hi)
      clear hown hW hb_
      refine wpT_callK (.bool hv) 34 #[.agg #[.slice L n dl, .slice H n sh], .slice RP n sp] (by rfl) (fun W => by go_simp) (fun W hW => (HtH.out RP sp W (HhL.out.after (below_ext cb.out (xP.out.trans hW))) (HhH.out.after (below_ext cb.out (xP.out.trans hW))) (AP.out.ext hW)).mono fun e w2 ⟨h1, h2⟩ => ⟨h1, Ext.of_below h2⟩) (fun K hK => ?_)
      go_simp
      refine hK _ ?_
      clear hK K
      iterate 3 (refine wpT_valK (by rfl) (fun K hK => ?_); apply Exists.intro; refine ⟨fun W hW => ?_, ?_⟩; (focus (go_simp; (try rfl); done)); go_simp; refine hK _ ?_; clear hK K)
      refine wpT_nil (fun W9 hW => ?_)
      try simp only [List.drop_succ_cons, List.drop_zero, List.drop_nil]
      have x9 := hideP (xP.out.trans hW)
      clear hW xP
      go_wp2
      go_ret
      exact ⟨rfl, below_ext cb.out x9.out⟩
end Go.Proofs.Ytjdbpeblbejllaa
