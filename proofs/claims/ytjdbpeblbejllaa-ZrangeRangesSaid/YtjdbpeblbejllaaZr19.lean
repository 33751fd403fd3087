/- ZrangeSplits and ZrangeBlock. -/
import Derived.Test.YtjdbpeblbejllaaZr18
set_option linter.unusedVariables false
set_option linter.unusedSimpArgs false
namespace Go.Proofs.Ytjdbpeblbejllaa
open Go.RowKit
def pa (o : Option ((List Int × List Int) × (List Int × List Int))) : List Int := match o with | some ((a, _), _) => a | none => []
def pb (o : Option ((List Int × List Int) × (List Int × List Int))) : List Int := match o with | some ((_, b), _) => b | none => []
def pc (o : Option ((List Int × List Int) × (List Int × List Int))) : List Int := match o with | some (_, (c, _)) => c | none => []
def pe (o : Option ((List Int × List Int) × (List Int × List Int))) : List Int := match o with | some (_, (_, e)) => e | none => []
def SplitV (w w' : World) (ee : Ending) (bb : Bool) (a b c e : List Int) : Prop := ∃ A sa B sb C sc D sd, ee = .returned (.tuple #[.agg #[.slice A a.length sa, .slice B b.length sb], .agg #[.slice C c.length sc, .slice D e.length sd], .bool bb]) ∧ Below w.heap.size w w' ∧
  Arr w' w'.heap.size A a.length (i64s a) ∧ Arr w' w'.heap.size B b.length (i64s b) ∧ Arr w' w'.heap.size C c.length (i64s c) ∧ Arr w' w'.heap.size D e.length (i64s e)
theorem SplitTold.v {w w' : World} {ee : Ending} {o : Option ((List Int × List Int) × (List Int × List Int))} (h : SplitTold w w' ee o) : SplitV w w' ee o.isSome (pa o) (pb o) (pc o) (pe o) := by
  rcases o with _ | ⟨⟨a, b⟩, c, e⟩
  · exact ⟨none, 0, none, 0, none, 0, none, 0, h.1, h.2, Arr.none_, Arr.none_, Arr.none_, Arr.none_⟩
  · obtain ⟨A, sa, B, sb, C, sc, D, sd, h1, h2, h3, h4, h5, h6⟩ := h
    exact ⟨A, sa, B, sb, C, sc, D, sd, h1, h2, h3.arr, h4.arr, h5.arr, h6.arr⟩
/-- the same, with the blocks -/
def SplitW (w w' : World) (ee : Ending) (bb : Bool) (a b c e : List Int) : Prop := ∃ A sa B sb C sc D sd, ee = .returned (.tuple #[.agg #[.slice A a.length sa, .slice B b.length sb], .agg #[.slice C c.length sc, .slice D e.length sd], .bool bb]) ∧ Below w.heap.size w w' ∧
  ArrQ (fun k => w.heap.size ≤ k) w' A a.length (i64s a) ∧ ArrQ (fun k => w.heap.size ≤ k) w' B b.length (i64s b) ∧ ArrQ (fun k => w.heap.size ≤ k) w' C c.length (i64s c) ∧ ArrQ (fun k => w.heap.size ≤ k) w' D e.length (i64s e)
theorem SplitTold.w {w w' : World} {ee : Ending} {o : Option ((List Int × List Int) × (List Int × List Int))} (h : SplitTold w w' ee o) : SplitW w w' ee o.isSome (pa o) (pb o) (pc o) (pe o) := by
  rcases o with _ | ⟨⟨a, b⟩, c, e⟩
  · exact ⟨none, 0, none, 0, none, 0, none, 0, h.1, h.2, fun h => (by cases h), fun h => (by cases h), fun h => (by cases h), fun h => (by cases h)⟩
  · exact h
theorem split_any (L H : Option Addr) (lo hi : List Int) (dl sh : Nat) (w : World) (hL : Arr w w.heap.size L lo.length (i64s lo)) (hH : Arr w w.heap.size H hi.length (i64s hi)) (hp : IsI lo) (hq : IsI hi) :
    Calls Try.prog 29 #[.agg #[.slice L lo.length dl, .slice H hi.length sh]] w fun e w' => SplitTold w w' e (splitP lo hi) := by
  by_cases h : rightB lo hi lo.length = true ∧ 0 ≤ (uSt lo hi lo.length).2
  · have bx := Bx.of h.1 hp hq
    obtain ⟨bt, hbe, hb63, hs, _, _⟩ := fd_at bx h.2
    have hu : uSt lo hi lo.length = ((uSt lo hi lo.length).1, (bt : Int)) := by rw [← hbe]
    have hv : splitP lo hi = some ((lo, hi.set (uSt lo hi lo.length).1 (toI (upN (pl (hi.getD (uSt lo hi lo.length).1 0)) bt))), (lo.set (uSt lo hi lo.length).1 (toI (loN (pl (hi.getD (uSt lo hi lo.length).1 0)) bt)), hi)) := by
      unfold splitP
      rw [if_pos h, hbe, show ((bt : Nat) : Int).toNat = bt by omega]
    rw [hv]
    refine (split_in L H lo hi dl sh w hL hH hp hq h.1 _ bt hu hs hb63).mono fun e w' ⟨r1, s1, q1, u1, r2, s2, q2, u2, he, hb, o1, o2, o3, o4⟩ => ?_
    refine ⟨_, s1, _, u1, _, s2, _, u2, ?_, hb, ArrQ.of_own o1, ArrQ.of_own o2, ArrQ.of_own o3, ArrQ.of_own o4⟩
    rw [he]
    simp only [List.length_set, show hi.length = lo.length from bx.hl]
  · have hv : splitP lo hi = none := if_neg h
    rw [hv]
    refine (split_out L H lo hi dl sh w hL hH hp hq ?_).mono fun e w' h => h
    by_cases hr : rightB lo hi lo.length = true
    · refine .inr (Int.not_le.1 fun h0 => h ⟨hr, h0⟩)
    · exact .inl (by simpa using hr)
set_option maxRecDepth 100000 in
set_option maxHeartbeats 1000000 in
theorem rsplit_any (L H : Option Addr) (lo hi : List Int) (dl sh : Nat) (w : World) (hL : Arr w w.heap.size L lo.length (i64s lo)) (hH : Arr w w.heap.size H hi.length (i64s hi)) (hp : IsI lo) (hq : IsI hi) :
    Calls Try.prog 30 #[.agg #[.slice L lo.length dl, .slice H hi.length sh]] w fun e w' => SplitTold w w' e (splitP lo hi) := by
  by_cases hr : rightB lo hi lo.length = true
  · have bx := Bx.of hr hp hq
    rw [show hi.length = lo.length from bx.hl] at hH ⊢
    by_cases h0 : 0 ≤ (uSt lo hi lo.length).2
    · obtain ⟨bt, hbe, hb63, hs, hfd, hN⟩ := fd_at bx h0
      have hNm : ((63 - bt) * lo.length + (uSt lo hi lo.length).1) % lo.length = (uSt lo hi lo.length).1 := by rw [Nat.add_comm, Nat.add_mul_mod_self_right, Nat.mod_eq_of_lt hs]
      have hNd : ((63 - bt) * lo.length + (uSt lo hi lo.length).1) / lo.length = 63 - bt := by rw [Nat.add_comm, Nat.add_mul_div_right _ _ bx.d1, Nat.div_eq_of_lt hs, Nat.zero_add]
      have h := rsplit_in L H lo hi dl sh lo.length _ w hL hH bx hfd
      rw [if_pos hN, hNm, hNd, show 63 - (63 - bt) = bt by omega] at h
      unfold splitP
      rw [if_pos ⟨hr, h0⟩, hbe, show ((bt : Nat) : Int).toNat = bt by omega]
      exact h
    · have h := rsplit_in L H lo hi dl sh lo.length _ w hL hH bx (fd_none bx (by omega))
      rw [if_neg (by omega)] at h
      unfold splitP
      rw [if_neg (fun hc => h0 hc.2)]
      exact h
  · have hv : splitP lo hi = none := if_neg (fun hc => hr hc.1)
    rw [hv]
    have t1 := fun W h h' => rright_any L H lo hi dl sh (lo.length : Int) W h h'
    rw [show rightB lo hi lo.length = false by simpa using hr] at t1
    clear hr hv hp hq
    have HhL := hideP hL; have HhH := hideP hH; have Ht1 := hideP t1; clear hL hH t1
    go_enter Try.func30, Try.ntmps30
    go_upto_region 1 with fail
    obtain ⟨w1, hw1⟩ : ∃ w1, w1 = ((w.alloc (Obj.cells #[.slice L lo.length dl, .slice H hi.length sh] 58)).alloc (Obj.cells #[.slice none 0 0, .slice none 0 0] 58)).alloc (Obj.cells #[.slice none 0 0, .slice none 0 0] 58) := ⟨_, rfl⟩
    have c1 := hideP (show Two w1 w.heap.size 58 (.slice L lo.length dl) (.slice H hi.length sh) by rw [hw1]; exact ((Two.new _ _ _ _).alloc _).alloc _)
    have c2 := hideP (show Two w1 (w.heap.size + 1) 58 (.slice none 0 0) (.slice none 0 0) by rw [hw1]; exact (Two.new' _ _ _ _ _ (by simp)).alloc _)
    have c3 := hideP (show Two w1 (w.heap.size + 1 + 1) 58 (.slice none 0 0) (.slice none 0 0) by rw [hw1]; exact Two.new' _ _ _ _ _ (by simp))
    have cb := hideP (show Below w.heap.size w w1 by rw [hw1]; exact ((below_new _ _).alloc (by simp) _).alloc (by simp; omega) _)
    rw [← hw1]
    clear hw1
    have kc10 := c1.out.c0; have kc11 := c1.out.c1
    go_wp2_with fail
    refine (Ht1.out w1 (HhL.out.after cb.out) (HhH.out.after cb.out)).mono ?_
    rintro e w2 ⟨rfl, hb⟩
    clear kc10 kc11
    replace c1 := hideP (c1.out.after hb)
    replace c2 := hideP (c2.out.after hb)
    replace c3 := hideP (c3.out.after hb)
    replace cb := hideP (bstep cb.out hb)
    clear hb
    have z0 := c2.out.fz 0
    have z1 := c2.out.fz 1
    have z2 := c3.out.fz 0
    have z3 := c3.out.fz 1
    have kc20 := c2.out.c0; have kc21 := c2.out.c1
    have kc30 := c3.out.c0; have kc31 := c3.out.c1
    go_wp2
    exact ret_box3 rfl rfl rfl rfl (((c2.out.set2 _ _).setOther (a := ⟨w.heap.size + 1 + 1, 0, none⟩) (by simp) _).setOther (a := ⟨w.heap.size + 1 + 1, 1, none⟩) (by simp) _) (((c3.out.setOther (a := ⟨w.heap.size + 1, 0, none⟩) (by simp) _).setOther (a := ⟨w.heap.size + 1, 1, none⟩) (by simp) _).set2 _ _) rfl ⟨rfl, (((cb.out.setCell (p := ⟨w.heap.size + 1, 0, none⟩) (by simp) _).setCell (p := ⟨w.heap.size + 1, 1, none⟩) (by simp) _).setCell (p := ⟨w.heap.size + 1 + 1, 0, none⟩) (by simp; omega) _).setCell (p := ⟨w.heap.size + 1 + 1, 1, none⟩) (by simp; omega) _⟩
set_option maxRecDepth 100000 in
set_option maxHeartbeats 8000000 in
theorem walk_ZrangeSplits (L : Option Addr) (lo : List Int) (dl : Nat) (H : Option Addr) (hi : List Int) (sh : Nat) (P : Option Addr) (p : List Int) (cp : Nat) (Q : Option Addr) (q : List Int) (cq : Nat) (w : World)
    (hL : Arr w w.heap.size L lo.length (i64s lo)) (il : IsI lo) (hH : Arr w w.heap.size H hi.length (i64s hi)) (ih : IsI hi) (nl : lo.length ≤ 17592186043904) (nh : hi.length ≤ 17592186043904) (cl : lo.length ≤ dl) (ch : hi.length ≤ sh)
    (hP : Arr w w.heap.size P p.length (i64s p)) (ip : IsI p) (hpn : p.length ≤ 17592186043904) (hQ : Arr w w.heap.size Q q.length (i64s q)) (iq : IsI q) (hqn : q.length ≤ 17592186043904) :
    Calls Try.prog 6 #[.agg #[.slice L lo.length dl, .slice H hi.length sh], .slice P p.length cp, .slice Q q.length cq] w fun e w' => e = .returned (.bool true) ∧ Below w.heap.size w w' := by
  have ha' := fun W => alive06 W
  have tS := fun W h h' => (split_any L H lo hi dl sh W h h' il ih).mono fun e w' h => h.v
  have tR := fun W h h' => (rsplit_any L H lo hi dl sh W h h' il ih).mono fun e w' h => h.v
  have tB := fun W h h' => block_any L H lo hi dl sh W h h' il ih
  have tD := fun W h h' => rblock_any L H lo hi dl sh W h h' il ih
  have hpart := fun a b c e (h : splitP lo hi = some ((a, b), (c, e))) => split_parts il ih h
  obtain ⟨o, ho⟩ : ∃ o, o = splitP lo hi := ⟨_, rfl⟩
  rw [← ho] at tS tR hpart
  obtain ⟨bb, hbb⟩ : ∃ b, b = o.isSome := ⟨_, rfl⟩
  obtain ⟨a, haa⟩ : ∃ b, b = pa o := ⟨_, rfl⟩
  obtain ⟨b, hab⟩ : ∃ b, b = pb o := ⟨_, rfl⟩
  obtain ⟨c, hac⟩ : ∃ b, b = pc o := ⟨_, rfl⟩
  obtain ⟨f, haf⟩ : ∃ b, b = pe o := ⟨_, rfl⟩
  rw [← hbb, ← haa, ← hab, ← hac, ← haf] at tS tR
  have hsm : a.length ≤ 17592186043904 ∧ b.length ≤ 17592186043904 ∧ c.length ≤ 17592186043904 := by
    rcases o with _ | ⟨⟨a', b'⟩, c', e'⟩
    · rw [haa, hab, hac]; simp [pa, pb, pc]
    · obtain ⟨bx, N, s, U, pt⟩ := hpart a' b' c' e' rfl
      have := bx.d8; have := pt.bx1.ll; have := pt.bx1.hl; have := pt.bx2.ll
      rw [haa, hab, hac]; simp only [pa, pb, pc]; omega
  have hfact : bb = true → (hasB lo hi p = (hasB a b p || hasB c f p)) ∧ (hasB a b p && hasB c f p) = false ∧ (hasB a b p = true → hasB c f q = true → lexLt (code p) (code q) = true ∧ p.length = q.length) ∧ (hasB a b p = true → p.length ≤ 8) := by
    rcases o with _ | ⟨⟨a', b'⟩, c', e'⟩
    · rw [hbb]; intro h; cases h
    · intro _
      obtain ⟨bx, N, s, U, pt⟩ := hpart a' b' c' e' rfl
      rw [haa, hab, hac, haf]
      simp only [pa, pb, pc, pe]
      have h1 := parts_has (p := p) bx pt
      refine ⟨h1.1, h1.2, fun h2 h3 => ⟨parts_less bx pt ip iq h2 h3, ?_⟩, fun h2 => ?_⟩
      · rw [← hasB_plen h2, ← hasB_plen h3, pt.bx1.ll, pt.bx2.ll]
      · rw [← hasB_plen h2, pt.bx1.ll]; exact bx.d8
  have tHx := fun (X Y : Option Addr) (u v : Nat) W h h' h3 => rhas_any X Y P a b p u v cp W h h' h3 hpn
  have tHy := fun (X Y : Option Addr) (u v : Nat) W h h' h3 => rhas_any X Y P c f p u v cp W h h' h3 hpn
  have tHq := fun (X Y : Option Addr) (u v : Nat) W h h' h3 => rhas_any X Y Q c f q u v cq W h h' h3 hqn
  have tHb := fun W h h' h3 => rhas_any L H P lo hi p dl sh cp W h h' h3 hpn
  have tS1 := fun (X Y X' Y' : Option Addr) (u v u' v' : Nat) W h1 h2 h3 h4 => same_any X Y X' Y' a b a b u v u' v' W h1 h2 h3 h4 hsm.1 hsm.2.1
  have hs4 : f.length ≤ 17592186043904 := by
    rcases o with _ | ⟨⟨a', b'⟩, c', e'⟩
    · rw [haf]; simp [pe]
    · obtain ⟨bx, N, s, U, pt⟩ := hpart a' b' c' e' rfl
      have := bx.d8; have := pt.bx2.hl
      rw [haf]; simp only [pe]; omega
  have tS2 := fun (X Y X' Y' : Option Addr) (u v u' v' : Nat) W h1 h2 h3 h4 => same_any X Y X' Y' c f c f u v u' v' W h1 h2 h3 h4 hsm.2.2 hs4
  have tC1 := fun (h8 : p.length ≤ 8) W h => rcode_any P p cp W h ip h8
  have tC2 := fun (h8 : q.length ≤ 8) W h => rcode_any Q q cq W h iq h8
  simp only [and_self, decide_true] at tS1 tS2
  obtain ⟨bk, hbk⟩ : ∃ b, b = blockP lo hi := ⟨_, rfl⟩
  rw [← hbk] at tB tD
  obtain ⟨i0, hi0⟩ : ∃ z, z = hasB lo hi p := ⟨_, rfl⟩
  obtain ⟨i1, hi1⟩ : ∃ z, z = hasB a b p := ⟨_, rfl⟩
  obtain ⟨i2, hi2⟩ : ∃ z, z = hasB c f p := ⟨_, rfl⟩
  obtain ⟨i3, hi3⟩ : ∃ z, z = hasB c f q := ⟨_, rfl⟩
  rw [← hi1] at tHx
  rw [← hi2] at tHy
  rw [← hi3] at tHq
  rw [← hi0] at tHb
  rw [← hi0, ← hi1, ← hi2, ← hi3] at hfact
  obtain ⟨la, hla⟩ : ∃ n, n = a.length := ⟨_, rfl⟩
  obtain ⟨lb, hlb⟩ : ∃ n, n = b.length := ⟨_, rfl⟩
  obtain ⟨lc, hlc⟩ : ∃ n, n = c.length := ⟨_, rfl⟩
  obtain ⟨lf, hlf⟩ : ∃ n, n = f.length := ⟨_, rfl⟩
  obtain ⟨n, hn⟩ : ∃ n, n = lo.length := ⟨_, rfl⟩
  obtain ⟨m, hm⟩ : ∃ n, n = hi.length := ⟨_, rfl⟩
  unfold SplitV at tS tR
  rw [← hla] at tS tR tHx tS1
  rw [← hlb] at tS tR tHx tS1
  rw [← hlc] at tS tR tHy tHq tS2
  rw [← hlf] at tS tR tHy tHq tS2
  rw [← hn] at hL tS tR tB tD tHb ⊢
  rw [← hm] at hH tS tR tB tD tHb ⊢
  have icp := code_lt p
  have icq := code_lt q
  have lcp := code_len p
  have lcq := code_len q
  clear ho hbb haa hab hac haf hbk hi0 hi1 hi2 hi3 hla hlb hlc hlf hn hm hpart hsm hs4 il ih nl nh cl ch ip iq hpn hqn
  have HhL := hideP hL; have HhH := hideP hH; have HhP := hideP hP; have HhQ := hideP hQ; have HtS := hideP tS; have HtR := hideP tR; have HtB := hideP tB; have HtD := hideP tD; have HtHx := hideP tHx; have HtHy := hideP tHy; have HtHq := hideP tHq; have HtHb := hideP tHb; have HtS1 := hideP tS1; have HtS2 := hideP tS2; have HtC1 := hideP tC1; have HtC2 := hideP tC2; have Hhfact := hideP hfact; have Hha' := hideP ha'; have Hicp := hideP icp; have Hicq := hideP icq; have Hlcp := hideP lcp; have Hlcq := hideP lcq; clear hL hH hP hQ tS tR tB tD tHx tHy tHq tHb tS1 tS2 tC1 tC2 hfact ha' icp icq lcp lcq
  go_enter Try.func6, Try.ntmps6
  go_upto_region 1 with fail
  obtain ⟨w1, hw1⟩ : ∃ w1, w1 = w.alloc (Obj.cells #[.slice L n dl, .slice H m sh] 58) := ⟨_, rfl⟩
  have c1 := hideP (show Two w1 w.heap.size 58 (.slice L n dl) (.slice H m sh) by rw [hw1]; exact Two.new _ _ _ _)
  have cb := hideP (show Below w.heap.size w w1 by rw [hw1]; exact below_new _ _)
  rw [← hw1]
  clear hw1
  go_wp2_with fail
  refine (Hha'.out w1).mono ?_
  rintro e w2 ⟨rfl, hb⟩
  replace c1 := hideP (c1.out.after hb)
  replace cb := hideP (bstep cb.out hb)
  clear hb
  have kc10 := c1.out.c0; have kc11 := c1.out.c1
  by_cases g1 : 8 < n
  · have g1' : decide ((8 : Int) < (n : Int)) = true := by simp; omega
    clear g1
    go_wp2
    go_ret
    exact ⟨rfl, cb.out⟩
  have g1' : decide ((8 : Int) < (n : Int)) = false := by simp; omega
  clear g1
  go_wp2_with fail
  clear g1'
  refine (HtS.out w2 (HhL.out.after cb.out) (HhH.out.after cb.out)).mono ?_
  rintro e w3 ⟨E1, e1, E2, e2, E3, e3, E4, e4, rfl, hb, a1, a2, a3, a4⟩
  clear kc10 kc11
  have Ha1 := hideP a1; have Ha2 := hideP a2; have Ha3 := hideP a3; have Ha4 := hideP a4; clear a1 a2 a3 a4
  replace c1 := hideP (c1.out.after hb)
  replace cb := hideP (bstep cb.out hb)
  clear hb
  go_upto_region 6 with fail
  obtain ⟨y1, h_y1⟩ : ∃ v, v = w3.alloc (Obj.cells #[.slice E1 la e1, .slice E2 lb e2] 58) := ⟨_, rfl⟩
  have b_y1 : Below w3.heap.size w3 y1 := by rw [h_y1]; exact below_new _ _
  have s_y1 : y1.heap.size = w3.heap.size + 1 := by rw [h_y1]; simp
  replace Ha1 := hideP (Ha1.out.after b_y1)
  replace Ha2 := hideP (Ha2.out.after b_y1)
  replace Ha3 := hideP (Ha3.out.after b_y1)
  replace Ha4 := hideP (Ha4.out.after b_y1)
  replace c1 := hideP (c1.out.after b_y1)
  replace cb := hideP (bstep cb.out b_y1)
  have x3 := hideP (show Two y1 w3.heap.size 58 (.slice E1 la e1) (.slice E2 lb e2) by rw [h_y1]; exact Two.new _ _ _ _)
  obtain ⟨y2, h_y2⟩ : ∃ v, v = y1.alloc (Obj.cells #[.slice E3 lc e3, .slice E4 lf e4] 58) := ⟨_, rfl⟩
  have b_y2 : Below y1.heap.size y1 y2 := by rw [h_y2]; exact below_new _ _
  have s_y2 : y2.heap.size = w3.heap.size + 1 + 1 := by rw [h_y2]; simp [s_y1]
  replace Ha1 := hideP (Ha1.out.after b_y2)
  replace Ha2 := hideP (Ha2.out.after b_y2)
  replace Ha3 := hideP (Ha3.out.after b_y2)
  replace Ha4 := hideP (Ha4.out.after b_y2)
  replace c1 := hideP (c1.out.after b_y2)
  replace x3 := hideP (x3.out.after b_y2)
  replace cb := hideP (bstep cb.out b_y2)
  have x4 := hideP (show Two y2 (w3.heap.size + 1) 58 (.slice E3 lc e3) (.slice E4 lf e4) by rw [h_y2]; exact Two.new' _ _ _ _ _ s_y1)
  rw [← h_y1, ← h_y2]
  clear h_y1 h_y2 b_y1 b_y2 s_y1 s_y2
  have kc10 := c1.out.c0; have kc11 := c1.out.c1
  go_wp2_with fail
  refine (HtR.out y2 (HhL.out.after cb.out) (HhH.out.after cb.out)).mono ?_
  rintro e w5 ⟨F1, f1, F2, f2, F3, f3, F4, f4, rfl, hb, b1, b2, b3, b4⟩
  clear kc10 kc11
  have Hb1 := hideP b1; have Hb2 := hideP b2; have Hb3 := hideP b3; have Hb4 := hideP b4; clear b1 b2 b3 b4
  replace c1 := hideP (c1.out.after hb)
  replace x3 := hideP (x3.out.after hb)
  replace x4 := hideP (x4.out.after hb)
  replace Ha1 := hideP (Ha1.out.after hb)
  replace Ha2 := hideP (Ha2.out.after hb)
  replace Ha3 := hideP (Ha3.out.after hb)
  replace Ha4 := hideP (Ha4.out.after hb)
  replace cb := hideP (bstep cb.out hb)
  clear hb
  go_upto_region 7 with fail
  obtain ⟨z1, h_z1⟩ : ∃ v, v = w5.alloc (Obj.cells #[.slice F1 la f1, .slice F2 lb f2] 58) := ⟨_, rfl⟩
  have b_z1 : Below w5.heap.size w5 z1 := by rw [h_z1]; exact below_new _ _
  have s_z1 : z1.heap.size = w5.heap.size + 1 := by rw [h_z1]; simp
  replace Ha1 := hideP (Ha1.out.after b_z1)
  replace Ha2 := hideP (Ha2.out.after b_z1)
  replace Ha3 := hideP (Ha3.out.after b_z1)
  replace Ha4 := hideP (Ha4.out.after b_z1)
  replace Hb1 := hideP (Hb1.out.after b_z1)
  replace Hb2 := hideP (Hb2.out.after b_z1)
  replace Hb3 := hideP (Hb3.out.after b_z1)
  replace Hb4 := hideP (Hb4.out.after b_z1)
  replace c1 := hideP (c1.out.after b_z1)
  replace x3 := hideP (x3.out.after b_z1)
  replace x4 := hideP (x4.out.after b_z1)
  replace cb := hideP (bstep cb.out b_z1)
  have x5 := hideP (show Two z1 w5.heap.size 58 (.slice F1 la f1) (.slice F2 lb f2) by rw [h_z1]; exact Two.new _ _ _ _)
  obtain ⟨z2, h_z2⟩ : ∃ v, v = z1.alloc (Obj.cells #[.slice F3 lc f3, .slice F4 lf f4] 58) := ⟨_, rfl⟩
  have b_z2 : Below z1.heap.size z1 z2 := by rw [h_z2]; exact below_new _ _
  have s_z2 : z2.heap.size = w5.heap.size + 1 + 1 := by rw [h_z2]; simp [s_z1]
  replace Ha1 := hideP (Ha1.out.after b_z2)
  replace Ha2 := hideP (Ha2.out.after b_z2)
  replace Ha3 := hideP (Ha3.out.after b_z2)
  replace Ha4 := hideP (Ha4.out.after b_z2)
  replace Hb1 := hideP (Hb1.out.after b_z2)
  replace Hb2 := hideP (Hb2.out.after b_z2)
  replace Hb3 := hideP (Hb3.out.after b_z2)
  replace Hb4 := hideP (Hb4.out.after b_z2)
  replace c1 := hideP (c1.out.after b_z2)
  replace x3 := hideP (x3.out.after b_z2)
  replace x4 := hideP (x4.out.after b_z2)
  replace x5 := hideP (x5.out.after b_z2)
  replace cb := hideP (bstep cb.out b_z2)
  have x6 := hideP (show Two z2 (w5.heap.size + 1) 58 (.slice F3 lc f3) (.slice F4 lf f4) by rw [h_z2]; exact Two.new' _ _ _ _ _ s_z1)
  rw [← h_z1, ← h_z2]
  clear h_z1 h_z2 b_z1 b_z2 s_z1 s_z2
  have kc10 := c1.out.c0; have kc11 := c1.out.c1
  have kx30 := x3.out.c0; have kx31 := x3.out.c1
  have kx40 := x4.out.c0; have kx41 := x4.out.c1
  have kx50 := x5.out.c0; have kx51 := x5.out.c1
  have kx60 := x6.out.c0; have kx61 := x6.out.c1
  have q1 : (bb != bb) = false := by simp
  have q2 : (bk != bk) = false := by simp
  refine wp_region_eager 22 [(true, 0), (true, 1), (true, 2), (true, 3), (true, 4), (true, 5), (true, 6), (true, 7), (true, 8), (true, 9), (true, 10), (true, 11), (true, 12), (true, 13), (true, 14), (true, 15), (true, 16), (true, 17), (true, 18), (true, 19), (true, 20), (true, 21)] (by kernel_rfl) (by kernel_rfl) ?_
  simp only [pick, List.map_cons, List.map_nil, nthO_zero, nthO_succ]
  repeat (first
    | (refine wpPlan_skipK (by rfl) (fun K hK => ?_); go_simp; refine hK _ ?_; clear hK K)
    | (refine wpPlan_valK (by rfl) (fun K hK => ?_); apply Exists.intro; refine ⟨fun W hW => ?_, ?_⟩; (focus (have hs0 := hW.cell kc10; have hs1 := hW.cell kc11; have hs2 := hW.cell kx30; have hs3 := hW.cell kx31; have hs4 := hW.cell kx40; have hs5 := hW.cell kx41; have hs6 := hW.cell kx50; have hs7 := hW.cell kx51; have hs8 := hW.cell kx60; have hs9 := hW.cell kx61; go_simp; (try rfl); done)); go_simp; refine hK _ ?_; clear hK K)
    | (refine wpPlan_callK (.bool true) 31 #[.agg #[.slice E1 la e1, .slice E2 lb e2], .agg #[.slice F1 la f1, .slice F2 lb f2]] (by rfl) ?_ (fun W hW => (HtS1.out E1 E2 F1 F2 e1 e2 f1 f2 W (Ha1.out.ext hW.drew_left) (Ha2.out.ext hW.drew_left) (Hb1.out.ext hW.drew_left) (Hb2.out.ext hW.drew_left)).mono fun e w2 h => ⟨h.1, Ext.of_below h.2⟩) (fun K hK => ?_); (focus (intro W; go_simp; done)); go_simp; refine hK _ ?_; clear hK K)
    | (refine wpPlan_callK (.bool true) 31 #[.agg #[.slice E3 lc e3, .slice E4 lf e4], .agg #[.slice F3 lc f3, .slice F4 lf f4]] (by rfl) ?_ (fun W hW => (HtS2.out E3 E4 F3 F4 e3 e4 f3 f4 W (Ha3.out.ext hW.drew_left) (Ha4.out.ext hW.drew_left) (Hb3.out.ext hW.drew_left) (Hb4.out.ext hW.drew_left)).mono fun e w2 h => ⟨h.1, Ext.of_below h.2⟩) (fun K hK => ?_); (focus (intro W; go_simp; done)); go_simp; refine hK _ ?_; clear hK K)
    | (refine wpPlan_callK (.bool bk) 32 #[.agg #[.slice L n dl, .slice H m sh]] (by rfl) ?_ (fun W hW => (HtB.out W (HhL.out.after (below_ext cb.out hW.drew_left)) (HhH.out.after (below_ext cb.out hW.drew_left))).mono fun e w2 h => ⟨h.1, Ext.of_below h.2⟩) (fun K hK => ?_); (focus (intro W; go_simp; done)); go_simp; refine hK _ ?_; clear hK K)
    | (refine wpPlan_callK (.bool bk) 33 #[.agg #[.slice L n dl, .slice H m sh]] (by rfl) ?_ (fun W hW => (HtD.out W (HhL.out.after (below_ext cb.out hW.drew_left)) (HhH.out.after (below_ext cb.out hW.drew_left))).mono fun e w2 h => ⟨h.1, Ext.of_below h.2⟩) (fun K hK => ?_); (focus (intro W; go_simp; done)); go_simp; refine hK _ ?_; clear hK K))
  refine wpPlan_nil (fun W7 hW0 => ?_)
  simp only [List.drop_succ_cons, List.drop_zero, List.drop_nil]
  have x7 := hideP hW0.drew_left
  clear kc10 kc11 kx30 kx31 kx40 kx41 kx50 kx51 kx60 kx61
  replace c1 := hideP (c1.out.ext x7.out)
  replace x3 := hideP (x3.out.ext x7.out)
  replace x4 := hideP (x4.out.ext x7.out)
  replace Ha1 := hideP (Ha1.out.ext x7.out)
  replace Ha2 := hideP (Ha2.out.ext x7.out)
  replace Ha3 := hideP (Ha3.out.ext x7.out)
  replace Ha4 := hideP (Ha4.out.ext x7.out)
  replace cb := hideP (below_ext cb.out x7.out)
  clear hW0 x7 x5 x6 Hb1 Hb2 Hb3 Hb4 q1 q2
  cases bb
  · go_wp2
    go_ret
    exact ⟨rfl, cb.out⟩
  obtain ⟨hf1, hf2, hf3, hf4⟩ := Hhfact.out rfl
  have Hf1 := hideP hf1; have Hf2 := hideP hf2; have Hf3 := hideP hf3; have Hf4 := hideP hf4
  clear hf1 hf2 hf3 hf4 Hhfact
  have kx30 := x3.out.c0; have kx31 := x3.out.c1
  go_wp2_with fail
  refine (HtHx.out E1 E2 e1 e2 W7 Ha1.out Ha2.out (HhP.out.after cb.out)).mono ?_
  rintro e w8 ⟨rfl, hb⟩
  clear kx30 kx31
  clear x3 Ha1 Ha2
  replace c1 := hideP (c1.out.after hb)
  replace x4 := hideP (x4.out.after hb)
  replace Ha3 := hideP (Ha3.out.after hb)
  replace Ha4 := hideP (Ha4.out.after hb)
  replace cb := hideP (bstep cb.out hb)
  clear hb
  have kc10 := c1.out.c0; have kc11 := c1.out.c1
  go_wp2_with fail
  refine (HtHb.out w8 (HhL.out.after cb.out) (HhH.out.after cb.out) (HhP.out.after cb.out)).mono ?_
  rintro e w9 ⟨rfl, hb⟩
  clear kc10 kc11
  clear c1
  replace x4 := hideP (x4.out.after hb)
  replace Ha3 := hideP (Ha3.out.after hb)
  replace Ha4 := hideP (Ha4.out.after hb)
  replace cb := hideP (bstep cb.out hb)
  clear hb
  have kx40 := x4.out.c0; have kx41 := x4.out.c1
  cases i1
  · have e0 : i0 = i2 := by have := Hf1.out; simpa using this
    subst e0
    go_wp2_with fail
    refine (HtHy.out E3 E4 e3 e4 w9 Ha3.out Ha4.out (HhP.out.after cb.out)).mono ?_
    rintro e w10 ⟨rfl, hb⟩
    clear kx40 kx41
    replace x4 := hideP (x4.out.after hb)
    replace Ha3 := hideP (Ha3.out.after hb)
    replace Ha4 := hideP (Ha4.out.after hb)
    replace cb := hideP (bstep cb.out hb)
    clear hb
    have q1 : (i0 != i0) = false := by simp
    go_wp2
    go_ret
    exact ⟨rfl, cb.out⟩
  · have e0 : i0 = true := by have := Hf1.out; simpa using this
    have e2 : i2 = false := by have := Hf2.out; simpa using this
    subst e0 e2
    go_wp2_with fail
    refine (HtHy.out E3 E4 e3 e4 w9 Ha3.out Ha4.out (HhP.out.after cb.out)).mono ?_
    rintro e w10 ⟨rfl, hb⟩
    clear kx40 kx41
    replace x4 := hideP (x4.out.after hb)
    replace Ha3 := hideP (Ha3.out.after hb)
    replace Ha4 := hideP (Ha4.out.after hb)
    replace cb := hideP (bstep cb.out hb)
    clear hb
    have kx40 := x4.out.c0; have kx41 := x4.out.c1
    go_wp2_with fail
    refine (HtHq.out E3 E4 e3 e4 w10 Ha3.out Ha4.out (HhQ.out.after cb.out)).mono ?_
    rintro e w11 ⟨rfl, hb⟩
    clear kx40 kx41
    clear x4 Ha3 Ha4
    replace cb := hideP (bstep cb.out hb)
    clear hb
    cases i3
    · go_wp2
      go_ret
      exact ⟨rfl, cb.out⟩
    · obtain ⟨hlx, hpq⟩ := Hf3.out (by trivial) (by trivial)
      have h8 := Hf4.out (by trivial)
      have tC1 := hideP (HtC1.out h8)
      have tC2 := hideP (HtC2.out (by omega))
      have hLess := hideP (fun (X Y : Option Addr) (u v : Nat) W h h' => less_any X Y (code p) (code q) u v W h h' Hicp.out Hicq.out (by have := Hlcp.out; omega) (by have := Hlcq.out; omega))
      have hv : lessB (code p) (code q) = true := by unfold lessB; rw [if_pos (by have := Hlcp.out; have := Hlcq.out; omega)]; exact hlx
      rw [hv, Hlcp.out, Hlcq.out] at hLess
      clear hlx hpq h8 hv
      go_wp2_with fail
      refine (tC1.out w11 (HhP.out.after cb.out)).mono ?_
      rintro e w12 ⟨R1, d1, rfl, k1, hb⟩
      have Hk1 := hideP k1; clear k1
      replace cb := hideP (bstep cb.out hb)
      clear hb
      go_wp2_with fail
      refine (tC2.out w12 (HhQ.out.after cb.out)).mono ?_
      rintro e w13 ⟨R2, d2, rfl, k2, hb⟩
      have Hk2 := hideP k2; clear k2
      replace Hk1 := hideP (Hk1.out.after hb)
      replace cb := hideP (bstep cb.out hb)
      clear hb
      go_wp2_with fail
      refine (hLess.out R1 R2 d1 d2 w13 Hk1.out Hk2.out).mono ?_
      rintro e w14 ⟨rfl, rfl⟩
      go_wp2
      go_ret
      exact ⟨rfl, cb.out⟩
end Go.Proofs.Ytjdbpeblbejllaa
