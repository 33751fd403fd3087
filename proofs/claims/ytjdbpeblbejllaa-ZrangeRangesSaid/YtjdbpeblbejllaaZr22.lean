/- Contract of indentureref06's Ranges (printed by wip/gen/zrranges.py). -/
import Derived.Test.YtjdbpeblbejllaaZr21
set_option linter.unusedVariables false
set_option linter.unusedSimpArgs false
namespace Go.Proofs.Ytjdbpeblbejllaa
open Go.RowKit
/-- what the document's Ranges tells -/
def RTold (Q : Nat → Prop) (w w' : World) (e : Ending) (rs : Bxs) : Prop := ∃ g cap, e = .returned (.slice (some ⟨g, 0, none⟩) rs.length cap) ∧ Boxes Q w' w.heap.size g cap rs ∧ Below w.heap.size w w'
theorem wpM_append_boxes {S : Nat → Prop} {ops : Array Oper} {Lq : Act → World → Prop} {r : TO} {a : Act} {w : World} {o : Oper} (hw : Region.wanted o (yielded ops a.tmps) = true) (s x : Operand) (ho : o.op = .call { callee := .builtin .append, args := #[s, x], argTypes := #[75, 75] })
    {Q : Nat → Prop} {B gx cx gy By cy : Nat} {lx ly : Bxs} (nx ny : Nat) (hnx : nx = lx.length) (hny : ny = ly.length) (hs : a.eval s = .slice (some ⟨gx, 0, none⟩) nx cx) (hx : a.eval x = .slice (some ⟨gy, 0, none⟩) ny cy) (h1 : Boxes Q w B gx cx lx) (h2 : Boxes Q w By gy cy ly) (hBy : gx < By) (hQ : ∀ b, Q b → b ≠ gx) (hn : 0 < ly.length) (hsm : lx.length + ly.length ≤ 100000)
    (hB : B ≤ w.heap.size) (hS : ∀ k, B ≤ k → S k) (h : ∀ W g c w', Ext w W → Boxes Q w' B g c (lx ++ ly) → Below B W w' → ∀ K : Act → Prop, (∀ a, wpM S Try.prog ops Lq r a w' → K a) → K (a.put o.dst (.slice (some ⟨g, 0, none⟩) (nx + ny) c))) : wpM S Try.prog ops Lq (.l o r) a w := by
  refine wpM_turnK hw fun W hW => ?_
  obtain ⟨g, c, w', hrun, h3, h4⟩ := exec_append_boxes s x ho nx ny hnx hny hs hx (h1.ext hW) (h2.ext hW) hBy hQ hn hsm (Nat.le_trans hB hW.size)
  refine ⟨_, w', ⟨hrun, ⟨h4.size, fun j hj hs => h4.block j (Nat.lt_of_not_le fun hh => hs (hS j hh)), h4.os, h4.tape, h4.output⟩⟩, fun K hK => h W g c w' hW h3 h4 K hK⟩
set_option maxRecDepth 100000 in
set_option maxHeartbeats 8000000 in
theorem rranges_step (d : Nat) (hd : d ≤ 10) (ih : ∀ k, d = k + 1 → ∀ (Q : Nat → Prop) (L H : Option Addr) (lo hi : List Int) (dl sh : Nat) (w : World), ArrQ Q w L lo.length (i64s lo) → ArrQ Q w H hi.length (i64s hi) → Bx lo hi lo.length →
      Calls Try.prog 43 #[.agg #[.slice L lo.length dl, .slice H hi.length sh], .int .i64 (k : Int)] w fun e w' => RTold Q w w' e (rangesP k lo hi))
    (Q : Nat → Prop) (L H : Option Addr) (lo hi : List Int) (dl sh : Nat) (w : World) (hL : ArrQ Q w L lo.length (i64s lo)) (hH : ArrQ Q w H hi.length (i64s hi)) (bx : Bx lo hi lo.length) :
    Calls Try.prog 43 #[.agg #[.slice L lo.length dl, .slice H hi.length sh], .int .i64 (d : Int)] w fun e w' => RTold Q w w' e (rangesP d lo hi) := by
  have tS := fun W h h' => (rsplit_any L H lo hi dl sh W h h' bx.li bx.hi').mono fun e w' h => h.w
  have tB := fun W h h' => rblock_any L H lo hi dl sh W h h' bx.li bx.hi'
  obtain ⟨o, ho⟩ : ∃ o, o = splitP lo hi := ⟨_, rfl⟩
  rw [← ho] at tS
  obtain ⟨bb, hbb⟩ : ∃ b, b = o.isSome := ⟨_, rfl⟩
  obtain ⟨a, haa⟩ : ∃ b, b = pa o := ⟨_, rfl⟩
  obtain ⟨b, hab⟩ : ∃ b, b = pb o := ⟨_, rfl⟩
  obtain ⟨c, hac⟩ : ∃ b, b = pc o := ⟨_, rfl⟩
  obtain ⟨f, haf⟩ : ∃ b, b = pe o := ⟨_, rfl⟩
  rw [← hbb, ← haa, ← hab, ← hac, ← haf] at tS
  have hsf := split_facts bx.li bx.hi' bb a b c f o ho hbb haa hab hac haf
  obtain ⟨bk, hbk⟩ : ∃ z, z = blockP lo hi := ⟨_, rfl⟩
  rw [← hbk] at tB
  obtain ⟨rs, hrs⟩ : ∃ rs, rs = rangesP d lo hi := ⟨_, rfl⟩
  rw [← hrs]
  have r1 : d = 0 → rs = [(lo, hi)] := fun h => by rw [hrs, h]; rfl
  have r2 : bb = false → rs = [(lo, hi)] := fun h => by
    rw [hrs]
    cases d with
    | zero => rfl
    | succ d =>
      rw [rangesP, ← ho]
      cases o with
      | none => rfl
      | some x => rw [hbb] at h; cases h
  have r3 : bb = true → bk = true → rs = [(lo, hi)] := fun h h' => by
    rw [hrs]
    cases d with
    | zero => rfl
    | succ d =>
      rw [rangesP, (hsf h).1, ← hbk, h']; rfl
  have r4 : ∀ k, d = k + 1 → bb = true → bk = false → rs = rangesP k a b ++ rangesP k c f := fun k hk h h' => by
    rw [hrs, hk, rangesP, (hsf h).1, ← hbk, h']; rfl
  have i1 : ∀ k, d = k + 1 → bb = true → ∀ (Q : Nat → Prop) (X Y : Option Addr) (u v : Nat) W, ArrQ Q W X a.length (i64s a) → ArrQ Q W Y b.length (i64s b) → Calls Try.prog 43 #[.agg #[.slice X a.length u, .slice Y b.length v], .int .i64 (k : Int)] W fun e w' => RTold Q W w' e (rangesP k a b) := fun k hk hb' Q X Y u v W h h' => ih k hk Q X Y a b u v W h h' (by have := (hsf hb').2.1; rw [this.ll]; exact this)
  have i2 : ∀ k, d = k + 1 → bb = true → ∀ (Q : Nat → Prop) (X Y : Option Addr) (u v : Nat) W, ArrQ Q W X c.length (i64s c) → ArrQ Q W Y f.length (i64s f) → Calls Try.prog 43 #[.agg #[.slice X c.length u, .slice Y f.length v], .int .i64 (k : Int)] W fun e w' => RTold Q W w' e (rangesP k c f) := fun k hk hb' Q X Y u v W h h' => ih k hk Q X Y c f u v W h h' (by have := (hsf hb').2.2; rw [this.ll]; exact this)
  obtain ⟨la, hla⟩ : ∃ n, n = a.length := ⟨_, rfl⟩
  obtain ⟨lb, hlb⟩ : ∃ n, n = b.length := ⟨_, rfl⟩
  obtain ⟨lc, hlc⟩ : ∃ n, n = c.length := ⟨_, rfl⟩
  obtain ⟨lf, hlf⟩ : ∃ n, n = f.length := ⟨_, rfl⟩
  unfold SplitW at tS
  rw [← hla, ← hlb] at i1
  rw [← hlc, ← hlf] at i2
  rw [← hla, ← hlb, ← hlc, ← hlf] at tS
  clear ho hbb haa hab hac haf hsf hbk hrs hla hlb hlc hlf bx ih
  have HhL := hideP hL; have HhH := hideP hH; have HtS := hideP tS; have HtB := hideP tB; have Hr1 := hideP r1; have Hr2 := hideP r2; have Hr3 := hideP r3; have Hr4 := hideP r4; have Hi1 := hideP i1; have Hi2 := hideP i2; clear hL hH tS tB r1 r2 r3 r4 i1 i2
  go_enter Try.func43, Try.ntmps43
  go_upto_region 1 with fail
  obtain ⟨w1, hw1⟩ : ∃ w1, w1 = w.alloc (Obj.cells #[.slice L lo.length dl, .slice H hi.length sh] 58) := ⟨_, rfl⟩
  have c1 := hideP (show Two w1 w.heap.size 58 (.slice L lo.length dl) (.slice H hi.length sh) by rw [hw1]; exact Two.new _ _ _ _)
  have cb := hideP (show Below w.heap.size w w1 by rw [hw1]; exact below_new _ _)
  rw [← hw1]
  clear hw1
  have kc10 := c1.out.c0; have kc11 := c1.out.c1
  go_wp2_with fail
  refine (HtS.out w1 (HhL.out.arr.after cb.out) (HhH.out.arr.after cb.out)).mono ?_
  rintro e w3 ⟨E1, e1, E2, e2, E3, e3, E4, e4, rfl, hb, a1, a2, a3, a4⟩
  clear kc10 kc11
  have s1 := hideP cb.out.size
  have Ha1 := hideP a1; have Ha2 := hideP a2; have Ha3 := hideP a3; have Ha4 := hideP a4; clear a1 a2 a3 a4
  replace c1 := hideP (c1.out.after hb)
  replace cb := hideP (bstep cb.out hb)
  clear hb
  go_upto_region 2 with fail
  obtain ⟨y1, h_y1⟩ : ∃ v, v = w3.alloc (Obj.cells #[.slice E1 la e1, .slice E2 lb e2] 58) := ⟨_, rfl⟩
  have b_y1 : Below w3.heap.size w3 y1 := by rw [h_y1]; exact below_new _ _
  have s_y1 : y1.heap.size = w3.heap.size + 1 := by rw [h_y1]; simp
  replace c1 := hideP (c1.out.after b_y1)
  replace cb := hideP (bstep cb.out b_y1)
  have x3 := hideP (show Two y1 w3.heap.size 58 (.slice E1 la e1) (.slice E2 lb e2) by rw [h_y1]; exact Two.new _ _ _ _)
  obtain ⟨y2, h_y2⟩ : ∃ v, v = y1.alloc (Obj.cells #[.slice E3 lc e3, .slice E4 lf e4] 58) := ⟨_, rfl⟩
  have b_y2 : Below y1.heap.size y1 y2 := by rw [h_y2]; exact below_new _ _
  have s_y2 : y2.heap.size = w3.heap.size + 1 + 1 := by rw [h_y2]; simp [s_y1]
  replace c1 := hideP (c1.out.after b_y2)
  replace x3 := hideP (x3.out.after b_y2)
  replace cb := hideP (bstep cb.out b_y2)
  have x4 := hideP (show Two y2 (w3.heap.size + 1) 58 (.slice E3 lc e3) (.slice E4 lf e4) by rw [h_y2]; exact Two.new' _ _ _ _ _ s_y1)
  have xy := hideP ((Ext.of_below b_y1).trans (Ext.of_below b_y2))
  have qq : ∀ b, b < w3.heap.size → w1.heap.size ≤ b → (w.heap.size ≤ b ∧ b < w3.heap.size) := fun b h1 h2 => ⟨Nat.le_trans s1.out h2, h1⟩
  replace Ha1 := hideP ((Ha1.out.mono qq).ext xy.out)
  replace Ha2 := hideP ((Ha2.out.mono qq).ext xy.out)
  replace Ha3 := hideP ((Ha3.out.mono qq).ext xy.out)
  replace Ha4 := hideP ((Ha4.out.mono qq).ext xy.out)
  have sy := hideP (show w3.heap.size ≤ y2.heap.size from xy.out.size)
  rw [← h_y1, ← h_y2]
  clear h_y1 h_y2 b_y1 b_y2 s_y1 s_y2 qq xy
  have kc10 := c1.out.c0; have kc11 := c1.out.c1
  by_cases hd0 : d = 0
  · subst hd0
    have hres := hideP (Hr1.out rfl)
    clear x3 x4
    go_wp2
    go_ret
    rw [hres.out]
    have hb1 := Boxes.one (Q := Q) (sa := dl) (sc := sh) (w := y2) (HhL.out.block cb.out.size fun b hb _ => cb.out.block b hb) (HhH.out.block cb.out.size fun b hb _ => cb.out.block b hb)
    exact ⟨_, 1, rfl, hb1.mono cb.out.size (fun b hb => .inl hb), cb.out.trans ((below_new _ _).mono cb.out.size)⟩
  have gd : ((d : Int) == 0) = false := by simp; omega
  obtain ⟨k, rfl⟩ : ∃ k, d = k + 1 := ⟨d - 1, by omega⟩
  cases bb
  · have hres := hideP (Hr2.out rfl)
    clear x3 x4
    go_wp2
    go_ret
    rw [hres.out]
    have hb1 := Boxes.one (Q := Q) (sa := dl) (sc := sh) (w := y2) (HhL.out.block cb.out.size fun b hb _ => cb.out.block b hb) (HhH.out.block cb.out.size fun b hb _ => cb.out.block b hb)
    exact ⟨_, 1, rfl, hb1.mono cb.out.size (fun b hb => .inl hb), cb.out.trans ((below_new _ _).mono cb.out.size)⟩
  go_wp2_with fail
  refine (HtB.out y2 (HhL.out.arr.after cb.out) (HhH.out.arr.after cb.out)).mono ?_
  rintro e w5 ⟨rfl, hb⟩
  clear kc10 kc11
  replace Ha1 := hideP (Ha1.out.ext (Ext.of_below hb))
  replace Ha2 := hideP (Ha2.out.ext (Ext.of_below hb))
  replace Ha3 := hideP (Ha3.out.ext (Ext.of_below hb))
  replace Ha4 := hideP (Ha4.out.ext (Ext.of_below hb))
  replace sy := hideP (Nat.le_trans sy.out hb.size)
  replace c1 := hideP (c1.out.after hb)
  replace x3 := hideP (x3.out.after hb)
  replace x4 := hideP (x4.out.after hb)
  replace cb := hideP (bstep cb.out hb)
  clear hb
  cases bk
  · have hres := hideP (Hr4.out k rfl (by trivial) (by trivial))
    have i1 := hideP (Hi1.out k rfl (by trivial))
    have i2 := hideP (Hi2.out k rfl (by trivial))
    have n1 := hideP (rangesP_len k a b)
    have n2 := hideP (rangesP_len k c f)
    obtain ⟨ra, hra⟩ : ∃ r, r = rangesP k a b := ⟨_, rfl⟩
    obtain ⟨rc, hrc⟩ : ∃ r, r = rangesP k c f := ⟨_, rfl⟩
    rw [← hra] at n1 i1 hres
    rw [← hrc] at n2 i2 hres
    have hk10 := hideP (show 2 ^ k ≤ 1024 from Nat.le_trans (Nat.pow_le_pow_right (by omega) (show k ≤ 10 by omega)) (by decide))
    clear hra hrc
    have kx30 := x3.out.c0; have kx31 := x3.out.c1
    have kx40 := x4.out.c0; have kx41 := x4.out.c1
    have ek : IntKind.i64.wrap (k : Int) = (k : Int) := IntWalk.i64_in _ (by omega)
    go_upto_region 4 with fail
    have ns3 := hideP (show ¬ (w5.heap.size ≤ w3.heap.size) by have := x3.out.lt; omega)
    have ns4 := hideP (show ¬ (w5.heap.size ≤ w3.heap.size + 1) by have := x4.out.lt; omega)
    refine wp_region_mut (S := fun k => w5.heap.size ≤ k) 10 (.q 0 (.q 1 (.q 2 (.q 4 (.q 5 (.q 6 (.l 3 (.l 7 (.l 8 (.q 9 .nil)))))))))) (by kernel_rfl) (by kernel_rfl) ?_
    simp only [pickT, nthO_zero, nthO_succ]
    iterate 6 (refine wpM_valK (by rfl) (fun K hK => ?_); apply Exists.intro; refine ⟨fun W hW => ?_, ?_⟩; (focus (have hs0 := hW.cell kx30 ns3.out; have hs1 := hW.cell kx31 ns3.out; have hs2 := hW.cell kx40 ns4.out; have hs3 := hW.cell kx41 ns4.out; go_simp; (try rfl); done)); go_simp; refine hK _ ?_; clear hK K)
    clear kx30 kx31 kx40 kx41
    clear x3 x4 c1 ns3 ns4
    refine wpM_loudK 43 #[.agg #[.slice E1 la e1, .slice E2 lb e2], .int .i64 (k : Int)] (by rfl) (fun W => by go_simp) (fun W6 hW6 => (i1.out _ E1 E2 e1 e2 W6 (Ha1.out.ext hW6.drew_left) (Ha2.out.ext hW6.drew_left)).mono ?_)
    rintro e w6 ⟨gx, cx, rfl, hbx, hb⟩
    refine ⟨_, rfl, Ext.of_below hb, fun K hK => ?_⟩
    go_simp
    refine hK _ ?_
    clear hK K
    have bX := hideP hbx
    have x6 := hideP (hW6.drew_left.trans (Ext.of_below hb))
    have l6 := hideP (show w5.heap.size ≤ W6.heap.size from hW6.drew_left.size)
    clear hbx hb hW6
    refine wpM_loudK 43 #[.agg #[.slice E3 lc e3, .slice E4 lf e4], .int .i64 (k : Int)] (by rfl) (fun W => by go_simp) (fun W7 hW7 => (i2.out _ E3 E4 e3 e4 W7 (Ha3.out.ext (x6.out.trans hW7)) (Ha4.out.ext (x6.out.trans hW7))).mono ?_)
    rintro e w7 ⟨gy, cy, rfl, hby, hb⟩
    refine ⟨_, rfl, Ext.of_below hb, fun K hK => ?_⟩
    go_simp
    refine hK _ ?_
    clear hK K
    have lx := hideP (bX.out.ext hW7).lt
    replace bX := hideP (bX.out.ext (hW7.trans (Ext.of_below hb)))
    have bY := hideP hby
    have x7 := hideP (x6.out.trans (hW7.trans (Ext.of_below hb)))
    clear hby hb hW7 x6 Ha1 Ha2 Ha3 Ha4
    refine wpM_append_boxes (by rfl) (.tmp 29) (.tmp 33) rfl ra.length rc.length rfl rfl rfl rfl bX.out bY.out lx.out.2 (fun b h => by have := lx.out; have := sy.out; have := l6.out; omega) (by have := n2.out; omega) (by have := n1.out; have := n2.out; have := hk10.out; omega) (by have := lx.out; have := bY.out.lt; omega) (fun k h => Nat.le_trans l6.out h) (fun W8 g' c' w8 hW8 hb8 hbl8 K hK => ?_)
    go_simp
    refine hK _ ?_
    clear hK K
    have B8 := hideP hb8
    have L8 := hideP (show Below w5.heap.size w5 w8 from (x7.out.trans hW8).below.trans (hbl8.mono l6.out))
    clear hb8 hbl8 hW8 x7 bX bY lx
    (refine wpM_valK (by rfl) (fun K hK => ?_); apply Exists.intro; refine ⟨fun W hW => ?_, ?_⟩; (focus (go_simp; (try rfl); done)); go_simp; refine hK _ ?_; clear hK K)
    refine wpM_nil (fun W9 hW9 => ?_)
    try simp only [List.drop_succ_cons, List.drop_zero, List.drop_nil]
    have B9 := hideP (B8.out.ext hW9)
    have L9 := hideP (below_ext L8.out hW9)
    clear hW9 B8 L8
    go_wp2
    go_ret
    rw [hres.out]
    refine ⟨g', c', by rw [List.length_append]; rfl, B9.out.mono (Nat.le_trans cb.out.size l6.out) (fun b hb => .inr hb.1), cb.out.trans (L9.out.mono cb.out.size)⟩
  · have hres := hideP (Hr3.out (by trivial) (by trivial))
    clear x3 x4
    have kc10 := c1.out.c0; have kc11 := c1.out.c1
    go_wp2
    go_ret
    rw [hres.out]
    have hb1 := Boxes.one (Q := Q) (sa := dl) (sc := sh) (w := w5) (HhL.out.block cb.out.size fun b hb _ => cb.out.block b hb) (HhH.out.block cb.out.size fun b hb _ => cb.out.block b hb)
    exact ⟨_, 1, rfl, hb1.mono cb.out.size (fun b hb => .inl hb), cb.out.trans ((below_new _ _).mono cb.out.size)⟩
theorem rranges_in : ∀ (d : Nat), d ≤ 10 → ∀ (Q : Nat → Prop) (L H : Option Addr) (lo hi : List Int) (dl sh : Nat) (w : World), ArrQ Q w L lo.length (i64s lo) → ArrQ Q w H hi.length (i64s hi) → Bx lo hi lo.length →
    Calls Try.prog 43 #[.agg #[.slice L lo.length dl, .slice H hi.length sh], .int .i64 (d : Int)] w fun e w' => RTold Q w w' e (rangesP d lo hi)
  | 0, hd, Q, L, H, lo, hi, dl, sh, w, hL, hH, bx => rranges_step 0 hd (fun k hk => by omega) Q L H lo hi dl sh w hL hH bx
  | d + 1, hd, Q, L, H, lo, hi, dl, sh, w, hL, hH, bx => rranges_step (d + 1) hd (fun k hk => by
    obtain rfl : d = k := by omega
    exact rranges_in d (by omega)) Q L H lo hi dl sh w hL hH bx
end Go.Proofs.Ytjdbpeblbejllaa
