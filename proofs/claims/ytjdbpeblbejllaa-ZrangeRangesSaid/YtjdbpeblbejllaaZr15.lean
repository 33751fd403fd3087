/- Skip, Back and Find of any input; ZrangeSkips. -/
import Derived.Test.YtjdbpeblbejllaaZr14
set_option linter.unusedVariables false
set_option linter.unusedSimpArgs false
namespace Go.Proofs.Ytjdbpeblbejllaa
open Go.RowKit
def zok (c : List Nat) (lo hi : List Int) : Bool := rightB lo hi lo.length && decide (c.length = 8 * lo.length)
/-- what Find answers, of any input -/
def findV (be : Bool) (c : List Nat) (lo hi : List Int) : Option (List Nat) := if zok c lo hi = true then findAll be c lo hi lo.length else none
theorem hasB_iff {lo hi : List Int} {d : Nat} (hb : Bx lo hi d) (p : List Int) (hp : p.length = d) : hasB lo hi p = true ↔ ∀ k, k < d → lo.getD k 0 ≤ p.getD k 0 ∧ p.getD k 0 ≤ hi.getD k 0 := by
  unfold hasB
  rw [hp, hb.right, Bool.true_and, List.all_eq_true]
  constructor
  · intro h k hk; simpa using h k (List.mem_range.2 hk)
  · intro h k hk; simpa using h k (List.mem_range.1 hk)
theorem has_cOk {lo hi : List Int} {d : Nat} (hb : Bx lo hi d) (c : List Nat) : hasB lo hi (ptL c d) = cOk (rgn (bitAt c) (64 * d) d 0) (rgn (bitAt c) (64 * d) d 1) lo hi d := by
  rw [Bool.eq_iff_iff, cOk_iff hb, hasB_iff hb _ (ptL_len c d)]
  have key : ∀ k, k < d → (lo.getD k 0 ≤ (ptL c d).getD k 0 ∧ (ptL c d).getD k 0 ≤ hi.getD k 0 ↔ regF (bitAt c) (64 * d) d k 0 ≤ pl (hi.getD k 0) ∧ pl (lo.getD k 0) ≤ regF (bitAt c) (64 * d) d k 1) := fun k hk => by
    rw [regF_full _ _ _ _ hk, regF_full _ _ _ _ hk, ← pl_ptNum, ptL_get c d k hk]
    have h1 := hb.li k; have h2 := hb.hi' k; have h3 := ptNum_bd c d k
    generalize ptNum c d k = z at *
    generalize lo.getD k 0 = a at *
    generalize hi.getD k 0 = b at *
    unfold pl; omega
  exact ⟨fun h k hk => (key k hk).1 (h k hk), fun h k hk => (key k hk).2 (h k hk)⟩
theorem skip_all {lo hi : List Int} {d : Nat} (hb : Bx lo hi d) (c : List Nat) : skipGo c d (64 * d) 0 lo hi none = findAll false c lo hi d := by
  rw [skip_eq hb c (64 * d) 0 lo hi none (by omega) (SInv.start hb _) rfl, ← has_cOk hb c]
  unfold findAll
  rw [findX_skip]
theorem back_all {lo hi : List Int} {d : Nat} (hb : Bx lo hi d) (c : List Nat) : backGo c d (64 * d) 0 lo hi none = findAll true c lo hi d := by
  rw [back_eq hb c (64 * d) 0 lo hi none (by omega) (SInv.start hb _) rfl, ← has_cOk hb c]
  unfold findAll
  rw [findX_back]
theorem Told.none_ {w w' : World} {e : Ending} {n : Nat} (h : e = .returned (.tuple #[.slice none 0 0, .bool false]) ∧ Below w.heap.size w w') : Told w w' e n none := h
/-- what is told, in one row of words -/
theorem Told.val {w w' : World} {e : Ending} {n : Nat} {o : Option (List Nat)} (h : Told w w' e n o) : ∃ R m d, e = .returned (.tuple #[.slice R m d, .bool o.isSome]) ∧ (o.getD []).length = m ∧ Arr w' w'.heap.size R m (u8s (o.getD [])) ∧ Below w.heap.size w w' := by
  cases o with
  | none => obtain ⟨h1, h2⟩ := h; exact ⟨_, _, _, h1, rfl, Arr.none_, h2⟩
  | some l => obtain ⟨R, d, h1, h2, h3, h4⟩ := h; exact ⟨R, _, d, h1, h2, h3, h4⟩
set_option maxRecDepth 100000 in
set_option maxHeartbeats 1000000 in
theorem skip_any (A L H : Option Addr) (c : List Nat) (lo hi : List Int) (ca dl sh : Nat) (w : World) (hA : Arr w w.heap.size A c.length (u8s c)) (hc : IsB c) (hL : Arr w w.heap.size L lo.length (i64s lo)) (hH : Arr w w.heap.size H hi.length (i64s hi)) (hp : IsI lo) (hq : IsI hi) (hn : lo.length ≤ 17592186043904) :
    Calls Try.prog 39 #[.slice A c.length ca, .agg #[.slice L lo.length dl, .slice H hi.length sh]] w fun e w' => Told w w' e lo.length (findV false c lo hi) := by
  by_cases hz : zok c lo hi = true
  · have h2 := hz
    unfold zok at h2
    simp only [Bool.and_eq_true, decide_eq_true_eq] at h2
    refine (skip_in A L H c lo hi ca dl sh w hA hc hL hH hp hq h2.1 h2.2).mono fun e w' h => ?_
    rw [skip_all (Bx.of h2.1 hp hq) c] at h
    unfold findV
    rw [if_pos hz]
    exact h
  · have hv : findV false c lo hi = none := if_neg hz
    rw [hv]
    have tR := fun W h h' => zright_any A L H lo hi c.length ca dl sh W h h' hn
    have ez : (rightB lo hi lo.length && decide (c.length = 8 * lo.length)) = false := by unfold zok at hz; simpa using hz
    rw [ez] at tR
    clear hz hv ez hA hc hp hq hn
    have HhL := hideP hL; have HhH := hideP hH; have HtR := hideP tR; clear hL hH tR
    go_enter Try.func39, Try.ntmps39
    go_upto_region 1 with fail
    obtain ⟨w1, hw1⟩ : ∃ w1, w1 = w.alloc (Obj.cells #[.slice L lo.length dl, .slice H hi.length sh] 58) := ⟨_, rfl⟩
    have c1 := hideP (show Two w1 w.heap.size 58 (.slice L lo.length dl) (.slice H hi.length sh) by rw [hw1]; exact Two.new _ _ _ _)
    have cb := hideP (show Below w.heap.size w w1 by rw [hw1]; exact below_new _ _)
    rw [← hw1]
    clear hw1
    have kc10 := c1.out.c0; have kc11 := c1.out.c1
    go_wp2_with fail
    refine (HtR.out w1 (HhL.out.after cb.out) (HhH.out.after cb.out)).mono ?_
    rintro e w2 ⟨rfl, hb⟩
    clear kc10 kc11
    replace c1 := hideP (c1.out.after hb)
    replace cb := hideP (bstep cb.out hb)
    clear hb
    go_wp2
    go_ret2
    exact Told.none_ ⟨rfl, cb.out⟩
set_option maxRecDepth 100000 in
set_option maxHeartbeats 1000000 in
theorem back_any (A L H : Option Addr) (c : List Nat) (lo hi : List Int) (ca dl sh : Nat) (w : World) (hA : Arr w w.heap.size A c.length (u8s c)) (hc : IsB c) (hL : Arr w w.heap.size L lo.length (i64s lo)) (hH : Arr w w.heap.size H hi.length (i64s hi)) (hp : IsI lo) (hq : IsI hi) (hn : lo.length ≤ 17592186043904) :
    Calls Try.prog 41 #[.slice A c.length ca, .agg #[.slice L lo.length dl, .slice H hi.length sh]] w fun e w' => Told w w' e lo.length (findV true c lo hi) := by
  by_cases hz : zok c lo hi = true
  · have h2 := hz
    unfold zok at h2
    simp only [Bool.and_eq_true, decide_eq_true_eq] at h2
    refine (back_in A L H c lo hi ca dl sh w hA hc hL hH hp hq h2.1 h2.2).mono fun e w' h => ?_
    rw [back_all (Bx.of h2.1 hp hq) c] at h
    unfold findV
    rw [if_pos hz]
    exact h
  · have hv : findV true c lo hi = none := if_neg hz
    rw [hv]
    have tR := fun W h h' => zright_any A L H lo hi c.length ca dl sh W h h' hn
    have ez : (rightB lo hi lo.length && decide (c.length = 8 * lo.length)) = false := by unfold zok at hz; simpa using hz
    rw [ez] at tR
    clear hz hv ez hA hc hp hq hn
    have HhL := hideP hL; have HhH := hideP hH; have HtR := hideP tR; clear hL hH tR
    go_enter Try.func41, Try.ntmps41
    go_upto_region 1 with fail
    obtain ⟨w1, hw1⟩ : ∃ w1, w1 = w.alloc (Obj.cells #[.slice L lo.length dl, .slice H hi.length sh] 58) := ⟨_, rfl⟩
    have c1 := hideP (show Two w1 w.heap.size 58 (.slice L lo.length dl) (.slice H hi.length sh) by rw [hw1]; exact Two.new _ _ _ _)
    have cb := hideP (show Below w.heap.size w w1 by rw [hw1]; exact below_new _ _)
    rw [← hw1]
    clear hw1
    have kc10 := c1.out.c0; have kc11 := c1.out.c1
    go_wp2_with fail
    refine (HtR.out w1 (HhL.out.after cb.out) (HhH.out.after cb.out)).mono ?_
    rintro e w2 ⟨rfl, hb⟩
    clear kc10 kc11
    replace c1 := hideP (c1.out.after hb)
    replace cb := hideP (bstep cb.out hb)
    clear hb
    go_wp2
    go_ret2
    exact Told.none_ ⟨rfl, cb.out⟩
set_option maxRecDepth 100000 in
set_option maxHeartbeats 1000000 in
theorem rfind_any (be : Bool) (A L H : Option Addr) (c : List Nat) (lo hi : List Int) (ca dl sh : Nat) (w : World) (hA : Arr w w.heap.size A c.length (u8s c)) (hc : IsB c) (hL : Arr w w.heap.size L lo.length (i64s lo)) (hH : Arr w w.heap.size H hi.length (i64s hi)) (hp : IsI lo) (hq : IsI hi) (hn : lo.length ≤ 17592186043904) :
    Calls Try.prog 40 #[.slice A c.length ca, .agg #[.slice L lo.length dl, .slice H hi.length sh], .bool be] w fun e w' => Told w w' e lo.length (findV be c lo hi) := by
  by_cases hz : zok c lo hi = true
  · have h2 := hz
    unfold zok at h2
    simp only [Bool.and_eq_true, decide_eq_true_eq] at h2
    refine (rfind_in be A L H c lo hi ca dl sh w hA hc hL hH hp hq h2.1 h2.2).mono fun e w' h => ?_
    unfold findV
    rw [if_pos hz]
    exact h
  · have hv : findV be c lo hi = none := if_neg hz
    rw [hv]
    have t1 := fun W h h' => rright_any L H lo hi dl sh (lo.length : Int) W h h'
    have ez : (rightB lo hi lo.length && decide (c.length = 8 * lo.length)) = false := by unfold zok at hz; simpa using hz
    obtain ⟨rr, hrr⟩ : ∃ r, r = rightB lo hi lo.length := ⟨_, rfl⟩
    rw [← hrr] at t1 ez
    have k8 : IntKind.i64.wrap (8 * (lo.length : Int)) = 8 * (lo.length : Int) := IntWalk.i64_in _ (by omega)
    obtain ⟨n, hnn⟩ : ∃ n, n = lo.length := ⟨_, rfl⟩
    obtain ⟨m, hmm⟩ : ∃ n, n = hi.length := ⟨_, rfl⟩
    obtain ⟨q, hqq⟩ : ∃ n, n = c.length := ⟨_, rfl⟩
    rw [← hnn] at hL t1 ez hn k8 ⊢
    rw [← hmm] at hH t1 ⊢
    rw [← hqq] at ez ⊢
    clear hz hv hA hc hp hq hrr hnn hmm hqq
    have HhL := hideP hL; have HhH := hideP hH; have Ht1 := hideP t1; clear hL hH t1
    go_enter Try.func40, Try.ntmps40
    go_upto_region 1 with fail
    obtain ⟨w1, hw1⟩ : ∃ w1, w1 = w.alloc (Obj.cells #[.slice L n dl, .slice H m sh] 58) := ⟨_, rfl⟩
    have c1 := hideP (show Two w1 w.heap.size 58 (.slice L n dl) (.slice H m sh) by rw [hw1]; exact Two.new _ _ _ _)
    have cb := hideP (show Below w.heap.size w w1 by rw [hw1]; exact below_new _ _)
    rw [← hw1]
    clear hw1
    have kc10 := c1.out.c0; have kc11 := c1.out.c1
    go_wp2_with fail
    refine (Ht1.out w1 (HhL.out.after cb.out) (HhH.out.after cb.out)).mono ?_
    rintro e w2 ⟨rfl, hb⟩
    clear kc10 kc11
    replace c1 := hideP (c1.out.after hb)
    replace cb := hideP (bstep cb.out hb)
    clear hb
    cases rr
    · go_wp2
      go_ret2
      exact Told.none_ ⟨rfl, cb.out⟩
    · have hne : ¬ q = 8 * n := by simpa using ez
      have h8 : ((q : Int) != 8 * (n : Int)) = true := by simp; omega
      clear ez hne
      go_wp2
      go_ret2
      exact Told.none_ ⟨rfl, cb.out⟩
set_option maxRecDepth 100000 in
set_option maxHeartbeats 4000000 in
theorem walk_ZrangeSkips (A : Option Addr) (c : List Nat) (ca : Nat) (L : Option Addr) (lo : List Int) (dl : Nat) (H : Option Addr) (hi : List Int) (sh : Nat) (w : World)
    (hA : Arr w w.heap.size A c.length (u8s c)) (hc : IsB c) (hcn : c.length ≤ 140737488351232) (hL : Arr w w.heap.size L lo.length (i64s lo)) (il : IsI lo) (hH : Arr w w.heap.size H hi.length (i64s hi)) (ih : IsI hi) :
    Calls Try.prog 8 #[.slice A c.length ca, .agg #[.slice L lo.length dl, .slice H hi.length sh]] w fun e w' => e = .returned (.bool true) ∧ Below w.heap.size w w' := by
  obtain ⟨q, hq⟩ : ∃ q, q = c.length := ⟨_, rfl⟩
  obtain ⟨n, hn⟩ : ∃ q, q = lo.length := ⟨_, rfl⟩
  obtain ⟨m, hm⟩ : ∃ q, q = hi.length := ⟨_, rfl⟩
  have t1 := fun W h h' h3 hnn => skip_any A L H c lo hi ca dl sh W h hc h' h3 il ih hnn
  have t2 := fun W h h' h3 hnn => back_any A L H c lo hi ca dl sh W h hc h' h3 il ih hnn
  have t3 := fun be W h h' h3 hnn => rfind_any be A L H c lo hi ca dl sh W h hc h' h3 il ih hnn
  obtain ⟨o1, ho1⟩ : ∃ o, o = findV false c lo hi := ⟨_, rfl⟩
  obtain ⟨o2, ho2⟩ : ∃ o, o = findV true c lo hi := ⟨_, rfl⟩
  rw [← ho1] at t1
  rw [← ho2] at t2
  have t4 := t3 false
  have t5 := t3 true
  rw [← ho1] at t4
  rw [← ho2] at t5
  rw [← hq] at hA t1 t2 t4 t5 hcn ⊢
  rw [← hn] at hL t1 t2 t4 t5 ⊢
  rw [← hm] at hH t1 t2 t4 t5 ⊢
  have ha := alive06 w
  have Hq := hideP hq.symm
  clear t3 hc il ih ho1 ho2 hq hn hm
  have ha' := fun W => alive06 W
  clear ha
  have HhA := hideP hA; have HhL := hideP hL; have HhH := hideP hH; have Ht1 := hideP t1; have Ht2 := hideP t2; have Ht4 := hideP t4; have Ht5 := hideP t5; have Hha' := hideP ha'; clear hA hL hH t1 t2 t4 t5 ha'
  go_enter Try.func8, Try.ntmps8
  go_upto_region 1 with fail
  obtain ⟨w1, hw1⟩ : ∃ w1, w1 = w.alloc (Obj.cells #[.slice L n dl, .slice H m sh] 58) := ⟨_, rfl⟩
  have c1 := hideP (show Two w1 w.heap.size 58 (.slice L n dl) (.slice H m sh) by rw [hw1]; exact Two.new _ _ _ _)
  have cb := hideP (show Below w.heap.size w w1 by rw [hw1]; exact below_new _ _)
  rw [← hw1]
  clear hw1
  go_wp2_with fail
  refine (Hha'.out w1).mono ?_
  rintro e w2 ⟨rfl, hb⟩
  replace c1 := hideP (c1.out.after hb)
  replace cb := hideP (bstep cb.out hb)
  clear hb
  have kc10 := c1.out.c0; have kc11 := c1.out.c1
  by_cases g1 : 100 < q
  · have g1' : decide ((100 : Int) < (q : Int)) = true := by simp; omega
    clear g1
    go_wp2
    go_ret
    exact ⟨rfl, cb.out⟩
  by_cases g2 : 8 < n
  · have g1' : decide ((100 : Int) < (q : Int)) = false := by simp; omega
    have g2' : decide ((8 : Int) < (n : Int)) = true := by simp; omega
    clear g1 g2
    go_wp2
    go_ret
    exact ⟨rfl, cb.out⟩
  have g1' : decide ((100 : Int) < (q : Int)) = false := by simp; omega
  have g2' : decide ((8 : Int) < (n : Int)) = false := by simp; omega
  have hn' := hideP (show n ≤ 17592186043904 by omega)
  clear g1 g2
  have hs0 := run_str (P := Try.prog) w2 22 5 Try.underlying22 Try.underlying5 (c := ca) (HhA.out.after cb.out) Hq.out 9 Try.underlying9
  go_wp2_with fail
  clear hs0 g1' g2'
  refine (Ht1.out w2 (HhA.out.after cb.out) (HhL.out.after cb.out) (HhH.out.after cb.out) hn'.out).mono ?_
  intro e w3 ht
  obtain ⟨R1, m1, d1, rfl, l1, a1, hb⟩ := ht.val
  clear kc10 kc11
  have Hl1 := hideP l1; have Ha1 := hideP a1; clear l1 a1
  clear ht
  replace c1 := hideP (c1.out.after hb)
  replace cb := hideP (bstep cb.out hb)
  clear hb
  have kc10 := c1.out.c0; have kc11 := c1.out.c1
  go_wp2_with fail
  refine (Ht4.out w3 (HhA.out.after cb.out) (HhL.out.after cb.out) (HhH.out.after cb.out) hn'.out).mono ?_
  intro e w4 ht
  obtain ⟨R2, m2, d2, rfl, l2, a2, hb⟩ := ht.val
  clear kc10 kc11
  have Hl2 := hideP l2; have Ha2 := hideP a2; clear l2 a2
  clear ht
  replace c1 := hideP (c1.out.after hb)
  replace Ha1 := hideP (Ha1.out.after hb)
  replace cb := hideP (bstep cb.out hb)
  clear hb
  have kc10 := c1.out.c0; have kc11 := c1.out.c1
  go_wp2_with fail
  refine (Ht2.out w4 (HhA.out.after cb.out) (HhL.out.after cb.out) (HhH.out.after cb.out) hn'.out).mono ?_
  intro e w5 ht
  obtain ⟨R3, m3, d3, rfl, l3, a3, hb⟩ := ht.val
  clear kc10 kc11
  have Hl3 := hideP l3; have Ha3 := hideP a3; clear l3 a3
  clear ht
  replace c1 := hideP (c1.out.after hb)
  replace Ha1 := hideP (Ha1.out.after hb)
  replace Ha2 := hideP (Ha2.out.after hb)
  replace cb := hideP (bstep cb.out hb)
  clear hb
  have kc10 := c1.out.c0; have kc11 := c1.out.c1
  go_wp2_with fail
  refine (Ht5.out w5 (HhA.out.after cb.out) (HhL.out.after cb.out) (HhH.out.after cb.out) hn'.out).mono ?_
  intro e w6 ht
  obtain ⟨R4, m4, d4, rfl, l4, a4, hb⟩ := ht.val
  clear kc10 kc11
  have Hl4 := hideP l4; have Ha4 := hideP a4; clear l4 a4
  clear ht
  replace Ha1 := hideP (Ha1.out.after hb)
  replace Ha2 := hideP (Ha2.out.after hb)
  replace Ha3 := hideP (Ha3.out.after hb)
  replace cb := hideP (bstep cb.out hb)
  clear hb
  clear c1
  have hs0 := run_str (P := Try.prog) w6 22 5 Try.underlying22 Try.underlying5 (c := ca) (HhA.out.after cb.out) Hq.out 9 Try.underlying9
  have hs1 := run_str (P := Try.prog) w6 22 5 Try.underlying22 Try.underlying5 (c := d1) Ha1.out Hl1.out 9 Try.underlying9
  have hs2 := run_str (P := Try.prog) w6 22 5 Try.underlying22 Try.underlying5 (c := d2) Ha2.out Hl2.out 9 Try.underlying9
  have hs3 := run_str (P := Try.prog) w6 22 5 Try.underlying22 Try.underlying5 (c := d3) Ha3.out Hl3.out 9 Try.underlying9
  have hs4 := run_str (P := Try.prog) w6 22 5 Try.underlying22 Try.underlying5 (c := d4) Ha4.out Hl4.out 9 Try.underlying9
  obtain ⟨b1, hb1⟩ : ∃ b, b = o1.isSome := ⟨_, rfl⟩
  obtain ⟨b2, hb2⟩ : ∃ b, b = o2.isSome := ⟨_, rfl⟩
  rw [← hb1, ← hb2]
  clear hb1 hb2
  have q1 : (b1 == b1) = true := by simp
  have q2 : (b2 == b2) = true := by simp
  go_wp2
  go_ret
  exact ⟨rfl, cb.out⟩
end Go.Proofs.Ytjdbpeblbejllaa
