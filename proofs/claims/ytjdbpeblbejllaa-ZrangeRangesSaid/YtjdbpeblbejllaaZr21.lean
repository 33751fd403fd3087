/- Contract of zrange's Ranges. -/
import Derived.Test.YtjdbpeblbejllaaBoxes
import Derived.Test.YtjdbpeblbejllaaZr19
set_option linter.unusedVariables false
set_option linter.unusedSimpArgs false
namespace Go.Proofs.Ytjdbpeblbejllaa
open Go.RowKit
/-- a box's ranges -/
def rangesP : Nat → List Int → List Int → Bxs
  | 0, lo, hi => [(lo, hi)]
  | d + 1, lo, hi => match splitP lo hi with
    | none => [(lo, hi)]
    | some ((a, b), (c, e)) => if blockP lo hi then [(lo, hi)] else rangesP d a b ++ rangesP d c e
theorem rangesP_len : ∀ (d : Nat) (lo hi : List Int), 1 ≤ (rangesP d lo hi).length ∧ (rangesP d lo hi).length ≤ 2 ^ d
  | 0, lo, hi => by simp [rangesP]
  | d + 1, lo, hi => by
    have hp : 0 < 2 ^ d := Nat.pow_pos (by omega)
    rw [rangesP, Nat.pow_succ]
    split
    · simp; omega
    · rename_i a b c e _
      split
      · simp; omega
      · have h1 := rangesP_len d a b
        have h2 := rangesP_len d c e
        rw [List.length_append]
        omega
theorem hull_self (l : List Int) : hullLo l l = l ∧ hullHi l l = l := by
  constructor
  · refine list_eq _ _ l.length (by simp [hullLo]) rfl fun k hk => ?_
    simp [hullLo, List.getD, List.getElem?_map, List.getElem?_range hk, mn]
  · refine list_eq _ _ l.length (by simp [hullHi]) rfl fun k hk => ?_
    simp [hullHi, List.getD, List.getElem?_map, List.getElem?_range hk, mx]
/-- the facts on the parts of a box -/
theorem split_facts {lo hi : List Int} (hp : IsI lo) (hq : IsI hi) (bb : Bool) (a b c f : List Int) (o : Option ((List Int × List Int) × (List Int × List Int))) (ho : o = splitP lo hi) (hbb : bb = o.isSome) (ha : a = pa o) (hb : b = pb o) (hc : c = pc o) (hf : f = pe o) :
    bb = true → splitP lo hi = some ((a, b), (c, f)) ∧ Bx a b lo.length ∧ Bx c f lo.length := by
  rcases o with _ | ⟨⟨a', b'⟩, c', e'⟩
  · rw [hbb]; intro h; cases h
  · intro _
    obtain ⟨bx, N, s, U, pt⟩ := split_parts hp hq ho.symm
    subst ha hb hc hf
    exact ⟨ho.symm, pt.bx1, pt.bx2⟩
/-- what Ranges tells -/
def RangesTold (w w' : World) (e : Ending) (rs : Bxs) : Prop := ∃ g cap, e = .returned (.tuple #[.slice (some ⟨g, 0, none⟩) rs.length cap, .int .i64 0]) ∧ Boxes (fun _ => False) w' w.heap.size g cap rs ∧ Below w.heap.size w w'
set_option maxRecDepth 100000 in
set_option maxHeartbeats 8000000 in
theorem ranges_step (d : Nat) (hd : d ≤ 10) (ih : ∀ k, d = k + 1 → ∀ (L H : Option Addr) (lo hi : List Int) (dl sh : Nat) (w : World), Arr w w.heap.size L lo.length (i64s lo) → Arr w w.heap.size H hi.length (i64s hi) → Bx lo hi lo.length →
      Calls Try.prog 42 #[.agg #[.slice L lo.length dl, .slice H hi.length sh], .int .i64 (k : Int)] w (fun e w' => RangesTold w w' e (rangesP k lo hi)))
    (L H : Option Addr) (lo hi : List Int) (dl sh : Nat) (w : World) (hL : Arr w w.heap.size L lo.length (i64s lo)) (hH : Arr w w.heap.size H hi.length (i64s hi)) (bx : Bx lo hi lo.length) :
    Calls Try.prog 42 #[.agg #[.slice L lo.length dl, .slice H hi.length sh], .int .i64 (d : Int)] w (fun e w' => RangesTold w w' e (rangesP d lo hi)) := by
  have tR := fun W h h' => right_any L H lo hi dl sh lo.length W h h'
  rw [bx.right] at tR
  have tS := fun W h h' => (split_any L H lo hi dl sh W h h' bx.li bx.hi').mono fun e w' h => h.v
  have tB := fun W h h' => block_any L H lo hi dl sh W h h' bx.li bx.hi'
  have tU := fun W (h : Arr W W.heap.size L lo.length (i64s lo)) (h' : Arr W W.heap.size H hi.length (i64s hi)) => (hull_in L H L H lo hi lo hi dl sh dl sh W h h' h h' bx.right bx.right rfl).mono fun e w' ⟨R, s, R', s', h1, h2, h3, h4, _⟩ => (⟨R, s, R', s', h1, h2, by rw [(hull_self lo).1] at h3; exact h3, by rw [(hull_self hi).2] at h4; exact h4⟩ : ∃ R s R' s', e = Ending.returned (.agg #[.slice R lo.length s, .slice R' lo.length s']) ∧ Below W.heap.size W w' ∧ Own w' W.heap.size R s lo ∧ Own w' W.heap.size R' s' hi)
  obtain ⟨o, ho⟩ : ∃ o, o = splitP lo hi := ⟨_, rfl⟩
  rw [← ho] at tS
  obtain ⟨bb, hbb⟩ : ∃ b, b = o.isSome := ⟨_, rfl⟩
  obtain ⟨a, haa⟩ : ∃ b, b = pa o := ⟨_, rfl⟩
  obtain ⟨b, hab⟩ : ∃ b, b = pb o := ⟨_, rfl⟩
  obtain ⟨c, hac⟩ : ∃ b, b = pc o := ⟨_, rfl⟩
  obtain ⟨f, haf⟩ : ∃ b, b = pe o := ⟨_, rfl⟩
  rw [← hbb, ← haa, ← hab, ← hac, ← haf] at tS
  have hsf := split_facts bx.li bx.hi' bb a b c f o ho hbb haa hab hac haf
  obtain ⟨bk, hbk⟩ : ∃ z, z = blockP lo hi := ⟨_, rfl⟩
  rw [← hbk] at tB
  obtain ⟨rs, hrs⟩ : ∃ rs, rs = rangesP d lo hi := ⟨_, rfl⟩
  rw [← hrs]
  have r1 : d = 0 → rs = [(lo, hi)] := fun h => by rw [hrs, h]; rfl
  have r2 : bb = false → rs = [(lo, hi)] := fun h => by
    rw [hrs]
    cases d with
    | zero => rfl
    | succ d =>
      rw [rangesP, ← ho]
      cases o with
      | none => rfl
      | some x => rw [hbb] at h; cases h
  have r3 : bb = true → bk = true → rs = [(lo, hi)] := fun h h' => by
    rw [hrs]
    cases d with
    | zero => rfl
    | succ d =>
      rw [rangesP, (hsf h).1, ← hbk, h']; rfl
  have r4 : ∀ k, d = k + 1 → bb = true → bk = false → rs = rangesP k a b ++ rangesP k c f := fun k hk h h' => by
    rw [hrs, hk, rangesP, (hsf h).1, ← hbk, h']; rfl
  have i1 : ∀ k, d = k + 1 → bb = true → ∀ (X Y : Option Addr) (u v : Nat) W, Arr W W.heap.size X a.length (i64s a) → Arr W W.heap.size Y b.length (i64s b) → Calls Try.prog 42 #[.agg #[.slice X a.length u, .slice Y b.length v], .int .i64 (k : Int)] W (fun e w' => RangesTold W w' e (rangesP k a b)) := fun k hk hb' X Y u v W h h' => ih k hk X Y a b u v W h h' (by have := (hsf hb').2.1; rw [this.ll]; exact this)
  have i2 : ∀ k, d = k + 1 → bb = true → ∀ (X Y : Option Addr) (u v : Nat) W, Arr W W.heap.size X c.length (i64s c) → Arr W W.heap.size Y f.length (i64s f) → Calls Try.prog 42 #[.agg #[.slice X c.length u, .slice Y f.length v], .int .i64 (k : Int)] W (fun e w' => RangesTold W w' e (rangesP k c f)) := fun k hk hb' X Y u v W h h' => ih k hk X Y c f u v W h h' (by have := (hsf hb').2.2; rw [this.ll]; exact this)
  obtain ⟨la, hla⟩ : ∃ n, n = a.length := ⟨_, rfl⟩
  obtain ⟨lb, hlb⟩ : ∃ n, n = b.length := ⟨_, rfl⟩
  obtain ⟨lc, hlc⟩ : ∃ n, n = c.length := ⟨_, rfl⟩
  obtain ⟨lf, hlf⟩ : ∃ n, n = f.length := ⟨_, rfl⟩
  unfold SplitV at tS
  rw [← hla, ← hlb] at i1
  rw [← hlc, ← hlf] at i2
  rw [← hla, ← hlb, ← hlc, ← hlf] at tS
  obtain ⟨n, hn⟩ : ∃ n, n = lo.length := ⟨_, rfl⟩
  have hhl : hi.length = n := by rw [hn]; exact bx.hl
  have Hll := hideP hn.symm
  have Hhl := hideP hhl
  rw [← hn] at hL tR tS tB tU ⊢
  rw [hhl] at hH tR tS tB tU ⊢
  clear ho hbb haa hab hac haf hsf hbk hrs hla hlb hlc hlf hn hhl bx ih
  have HhL := hideP hL; have HhH := hideP hH; have HtR := hideP tR; have HtS := hideP tS; have HtB := hideP tB; have HtU := hideP tU; have Hr1 := hideP r1; have Hr2 := hideP r2; have Hr3 := hideP r3; have Hr4 := hideP r4; have Hi1 := hideP i1; have Hi2 := hideP i2; clear hL hH tR tS tB tU r1 r2 r3 r4 i1 i2
  go_enter Try.func42, Try.ntmps42
  go_upto_region 1 with fail
  obtain ⟨w1, hw1⟩ : ∃ w1, w1 = w.alloc (Obj.cells #[.slice L n dl, .slice H n sh] 58) := ⟨_, rfl⟩
  have c1 := hideP (show Two w1 w.heap.size 58 (.slice L n dl) (.slice H n sh) by rw [hw1]; exact Two.new _ _ _ _)
  have cb := hideP (show Below w.heap.size w w1 by rw [hw1]; exact below_new _ _)
  rw [← hw1]
  clear hw1
  have kc10 := c1.out.c0; have kc11 := c1.out.c1
  go_wp2_with fail
  refine (HtR.out w1 (HhL.out.after cb.out) (HhH.out.after cb.out)).mono ?_
  rintro e w2 ⟨rfl, hb⟩
  clear kc10 kc11
  replace c1 := hideP (c1.out.after hb)
  replace cb := hideP (bstep cb.out hb)
  clear hb
  have kc10 := c1.out.c0; have kc11 := c1.out.c1
  have g1 : decide ((d : Int) < 0) = false := by simp <;> omega
  have g2 : decide ((10 : Int) < (d : Int)) = false := by simp; try omega
  go_wp2_with fail
  clear g1 g2
  refine (HtS.out w2 (HhL.out.after cb.out) (HhH.out.after cb.out)).mono ?_
  rintro e w3 ⟨E1, e1, E2, e2, E3, e3, E4, e4, rfl, hb, a1, a2, a3, a4⟩
  clear kc10 kc11
  have Ha1 := hideP a1; have Ha2 := hideP a2; have Ha3 := hideP a3; have Ha4 := hideP a4; clear a1 a2 a3 a4
  replace c1 := hideP (c1.out.after hb)
  replace cb := hideP (bstep cb.out hb)
  clear hb
  go_upto_region 4 with fail
  obtain ⟨y1, h_y1⟩ : ∃ v, v = w3.alloc (Obj.cells #[.slice E1 la e1, .slice E2 lb e2] 58) := ⟨_, rfl⟩
  have b_y1 : Below w3.heap.size w3 y1 := by rw [h_y1]; exact below_new _ _
  have s_y1 : y1.heap.size = w3.heap.size + 1 := by rw [h_y1]; simp
  replace Ha1 := hideP (Ha1.out.after b_y1)
  replace Ha2 := hideP (Ha2.out.after b_y1)
  replace Ha3 := hideP (Ha3.out.after b_y1)
  replace Ha4 := hideP (Ha4.out.after b_y1)
  replace c1 := hideP (c1.out.after b_y1)
  replace cb := hideP (bstep cb.out b_y1)
  have x3 := hideP (show Two y1 w3.heap.size 58 (.slice E1 la e1) (.slice E2 lb e2) by rw [h_y1]; exact Two.new _ _ _ _)
  obtain ⟨y2, h_y2⟩ : ∃ v, v = y1.alloc (Obj.cells #[.slice E3 lc e3, .slice E4 lf e4] 58) := ⟨_, rfl⟩
  have b_y2 : Below y1.heap.size y1 y2 := by rw [h_y2]; exact below_new _ _
  have s_y2 : y2.heap.size = w3.heap.size + 1 + 1 := by rw [h_y2]; simp [s_y1]
  replace Ha1 := hideP (Ha1.out.after b_y2)
  replace Ha2 := hideP (Ha2.out.after b_y2)
  replace Ha3 := hideP (Ha3.out.after b_y2)
  replace Ha4 := hideP (Ha4.out.after b_y2)
  replace c1 := hideP (c1.out.after b_y2)
  replace x3 := hideP (x3.out.after b_y2)
  replace cb := hideP (bstep cb.out b_y2)
  have x4 := hideP (show Two y2 (w3.heap.size + 1) 58 (.slice E3 lc e3) (.slice E4 lf e4) by rw [h_y2]; exact Two.new' _ _ _ _ _ s_y1)
  rw [← h_y1, ← h_y2]
  clear h_y1 h_y2 b_y1 b_y2 s_y1 s_y2
  have kc10 := c1.out.c0; have kc11 := c1.out.c1
  by_cases hd0 : d = 0
  · subst hd0
    have hres := hideP (Hr1.out rfl)
    clear x3 x4
    go_wp2_with fail
    refine (HtU.out y2 (HhL.out.after cb.out) (HhH.out.after cb.out)).mono ?_
    rintro e w9 ⟨R, s, R', s', rfl, hb, o1, o2⟩
    have h1 := hideP (ArrQ.of_own o1)
    have h2 := hideP (ArrQ.of_own o2)
    have hle := hideP cb.out.size
    replace cb := hideP (bstep cb.out hb)
    clear kc10 kc11
    clear hb o1 o2 c1
    go_wp2
    go_ret2
    rw [hres.out]
    have hb1 := Boxes.one (Q := fun b => y2.heap.size ≤ b) (sa := s) (sc := s') h1.out h2.out
    rw [Hll.out, Hhl.out] at hb1
    exact ⟨w9.heap.size, 1, rfl, hb1.mono cb.out.size (fun b hb => .inr (Nat.le_trans hle.out hb)), cb.out.trans ((below_new w9 _).mono cb.out.size)⟩
  have gd : ((d : Int) == 0) = false := by simp; try omega
  obtain ⟨k, rfl⟩ : ∃ k, d = k + 1 := ⟨d - 1, by omega⟩
  cases bb
  · have hres := hideP (Hr2.out rfl)
    clear x3 x4
    go_wp2_with fail
    refine (HtU.out y2 (HhL.out.after cb.out) (HhH.out.after cb.out)).mono ?_
    rintro e w9 ⟨R, s, R', s', rfl, hb, o1, o2⟩
    have h1 := hideP (ArrQ.of_own o1)
    have h2 := hideP (ArrQ.of_own o2)
    have hle := hideP cb.out.size
    replace cb := hideP (bstep cb.out hb)
    clear kc10 kc11
    clear hb o1 o2 c1
    go_wp2
    go_ret2
    rw [hres.out]
    have hb1 := Boxes.one (Q := fun b => y2.heap.size ≤ b) (sa := s) (sc := s') h1.out h2.out
    rw [Hll.out, Hhl.out] at hb1
    exact ⟨w9.heap.size, 1, rfl, hb1.mono cb.out.size (fun b hb => .inr (Nat.le_trans hle.out hb)), cb.out.trans ((below_new w9 _).mono cb.out.size)⟩
  go_wp2_with fail
  refine (HtB.out y2 (HhL.out.after cb.out) (HhH.out.after cb.out)).mono ?_
  rintro e w5 ⟨rfl, hb⟩
  clear kc10 kc11
  replace c1 := hideP (c1.out.after hb)
  replace x3 := hideP (x3.out.after hb)
  replace x4 := hideP (x4.out.after hb)
  replace Ha1 := hideP (Ha1.out.after hb)
  replace Ha2 := hideP (Ha2.out.after hb)
  replace Ha3 := hideP (Ha3.out.after hb)
  replace Ha4 := hideP (Ha4.out.after hb)
  replace cb := hideP (bstep cb.out hb)
  clear hb
  cases bk
  · have hres := hideP (Hr4.out k rfl (by trivial) (by trivial))
    have i1 := hideP (Hi1.out k rfl (by trivial))
    have i2 := hideP (Hi2.out k rfl (by trivial))
    have n1 := hideP (rangesP_len k a b)
    have n2 := hideP (rangesP_len k c f)
    obtain ⟨ra, hra⟩ : ∃ r, r = rangesP k a b := ⟨_, rfl⟩
    obtain ⟨rc, hrc⟩ : ∃ r, r = rangesP k c f := ⟨_, rfl⟩
    rw [← hra] at n1 i1 hres
    rw [← hrc] at n2 i2 hres
    have hk10 := hideP (show 2 ^ k ≤ 1024 from Nat.le_trans (Nat.pow_le_pow_right (by omega) (show k ≤ 10 by omega)) (by decide))
    have ek : IntKind.i64.wrap (((k + 1 : Nat) : Int) - 1) = (k : Int) := by rw [IntWalk.i64_in _ (by omega)]; omega
    clear hra hrc
    have kx30 := x3.out.c0; have kx31 := x3.out.c1
    go_wp2_with fail
    refine (i1.out E1 E2 e1 e2 w5 Ha1.out Ha2.out).mono ?_
    rintro e w6 ⟨gx, cx, rfl, hbx, hb⟩
    clear kx30 kx31
    clear x3 c1 Ha1 Ha2
    have bX := hideP hbx
    have s5 := hideP cb.out.size
    clear hbx
    replace x4 := hideP (x4.out.after hb)
    replace Ha3 := hideP (Ha3.out.after hb)
    replace Ha4 := hideP (Ha4.out.after hb)
    replace cb := hideP (bstep cb.out hb)
    clear hb
    have kx40 := x4.out.c0; have kx41 := x4.out.c1
    go_wp2_with fail
    refine (i2.out E3 E4 e3 e4 w6 Ha3.out Ha4.out).mono ?_
    rintro e w7 ⟨gy, cy, rfl, hby, hb⟩
    clear kx40 kx41
    clear x4 Ha3 Ha4
    have lx := hideP bX.out.lt
    have bY := hideP hby
    replace bX := hideP (bX.out.ext (Ext.of_below hb))
    clear hby
    replace cb := hideP (bstep cb.out hb)
    clear hb
    go_wp2_with (refine wpList_append_boxes rfl (.tmp 61) (.tmp 62) rfl ra.length rc.length rfl rfl rfl rfl bX.out bY.out lx.out.2 (fun b h => h.elim) (by have := n2.out; omega) (by have := n1.out; have := n2.out; have := hk10.out; omega) (by have := lx.out; have := bY.out.lt; omega) ?_; intro g' c' w8 hb8 hbl8; have B8 := hideP hb8; have L8 := hideP hbl8; clear hb8 hbl8)
    go_ret2
    rw [hres.out]
    refine ⟨g', c', by rw [List.length_append]; rfl, B8.out.mono s5.out (fun b hb => hb.elim), cb.out.trans (L8.out.mono s5.out)⟩
  · have hres := hideP (Hr3.out (by trivial) (by trivial))
    clear x3 x4
    have kc10 := c1.out.c0; have kc11 := c1.out.c1
    go_wp2_with fail
    refine (HtU.out w5 (HhL.out.after cb.out) (HhH.out.after cb.out)).mono ?_
    rintro e w9 ⟨R, s, R', s', rfl, hb, o1, o2⟩
    have h1 := hideP (ArrQ.of_own o1)
    have h2 := hideP (ArrQ.of_own o2)
    have hle := hideP cb.out.size
    replace cb := hideP (bstep cb.out hb)
    clear kc10 kc11
    clear hb o1 o2 c1
    go_wp2
    go_ret2
    rw [hres.out]
    have hb1 := Boxes.one (Q := fun b => w5.heap.size ≤ b) (sa := s) (sc := s') h1.out h2.out
    rw [Hll.out, Hhl.out] at hb1
    exact ⟨w9.heap.size, 1, rfl, hb1.mono cb.out.size (fun b hb => .inr (Nat.le_trans hle.out hb)), cb.out.trans ((below_new w9 _).mono cb.out.size)⟩
theorem ranges_in : ∀ (d : Nat), d ≤ 10 → ∀ (L H : Option Addr) (lo hi : List Int) (dl sh : Nat) (w : World), Arr w w.heap.size L lo.length (i64s lo) → Arr w w.heap.size H hi.length (i64s hi) → Bx lo hi lo.length →
    Calls Try.prog 42 #[.agg #[.slice L lo.length dl, .slice H hi.length sh], .int .i64 (d : Int)] w fun e w' => RangesTold w w' e (rangesP d lo hi)
  | 0, hd, L, H, lo, hi, dl, sh, w, hL, hH, bx => ranges_step 0 hd (fun k hk => by omega) L H lo hi dl sh w hL hH bx
  | d + 1, hd, L, H, lo, hi, dl, sh, w, hL, hH, bx => ranges_step (d + 1) hd (fun k hk => by
    obtain rfl : d = k := by omega
    exact ranges_in d (by omega)) L H lo hi dl sh w hL hH bx
end Go.Proofs.Ytjdbpeblbejllaa
