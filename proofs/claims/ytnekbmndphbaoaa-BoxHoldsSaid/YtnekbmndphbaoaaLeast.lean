/- Contracts of package box: Least. -/
import Derived.Test.YtnekbmndphbaoaaKey2
import Derived.Test.YtnekbmndphbaoaaBox3
import Derived.Test.YtnekbmndphbaoaaMut
set_option linter.unusedVariables false
set_option linter.unusedSimpArgs false
namespace Go.Proofs.Ytnekbmndphbaoaa
open Go.RowKit
theorem But.set2 {S : Nat → Prop} (w : World) (g : Nat) (u v : Value) (hs : S g) : But S w ((w.setCell ⟨g, 0, none⟩ u).setCell ⟨g, 1, none⟩ v) := (But.set w ⟨g, 0, none⟩ u hs).trans (But.set _ ⟨g, 1, none⟩ v hs)
theorem below_but {S : Nat → Prop} {w0 w W : World} (h : Below w0.heap.size w0 w) (hW : But S w W) (hs : ∀ k, k < w0.heap.size → ¬ S k) : Below w0.heap.size w0 W :=
  ⟨hW.os.trans h.os, hW.tape.trans h.tape, hW.output.trans h.output, Nat.le_trans h.size hW.size, fun k hk => (hW.block k (Nat.lt_of_lt_of_le hk h.size) (hs k hk)).trans (h.block k hk)⟩
theorem results_cell_tmp2' {fn : Func} {p u v : Tmp} {ty : TypeId} (h : fn.results = #[.cell p ty, .tmp u, .tmp v]) (tmps : Array Value) (P : Program) (w : World) :
    (results fn tmps).run P w =
      ((asAddr (tmps.getD p undef)).run P w).andThen fun a w₁ => ((loadVar ty a).run P w₁).andThen fun x w₂ => .ok (.tuple #[x, tmps.getD u undef, tmps.getD v undef]) w₂ := by
  simp only [results, h]
  simp [Sem.run_bind, Result.andThen]
theorem ret_dist3 {fn : Func} {p u u' : Tmp} {a : Act} {w : World} {R : Ending → World → Prop} (h : fn.results = #[.cell p 29, .tmp u, .tmp u']) {g : Nat} {x y v v' : Value}
    (hp : a.tmps.getD p undef = .pointer (some ⟨g, 0, none⟩)) (hu : a.tmps.getD u undef = v) (hu' : a.tmps.getD u' undef = v') (hg : w.heap[g]? = some (.cells #[x, y] 29 (0, 0))) (hd : a.defers = []) (hR : R (.returned (.tuple #[.agg #[x, y], v, v'])) w) : bodyPost Try.prog fn R .ret a w := by
  refine bodyPost_ret (v := .tuple #[.agg #[x, y], v, v']) ?_ hd hR
  rw [results_cell_tmp2' h, hp, hu, hu']
  simp [asAddr, run_loadVar_row w g 29 29 #[x, y] (0, 0) _ hg Try.underlying29 rfl (by kernel_rfl)]
/-- has a box a least key? -/
def leastB (K col : Int) (m : Nat) (lo hi : List Int) : Bool := rightB lo hi lo.length && ordB K col m lo.length
def leastN (K col : Int) (at_ lo hi : List Int) : Nat :=
  if K = 2 then (9223372036854775807 - hi.getD col.toNat 0).toNat else if K = 3 then dbox at_ (lo.drop 1) (hi.drop 1) (lo.length - 1) else (lo.getD col.toNat 0 + 9223372036854775808).toNat
set_option maxRecDepth 100000 in
set_option maxHeartbeats 4000000 in
theorem least_no (K col : Int) (A L H : Option Addr) (at_ lo hi : List Int) (ca dl sh : Nat) (w : World) (hL : Arr w w.heap.size L lo.length (i64s lo)) (hH : Arr w w.heap.size H hi.length (i64s hi)) (hn : lo.length ≤ 17592186043904) (hB : leastB K col at_.length lo hi = false) :
    Calls Try.prog 36 #[.agg #[.int .u8 K, .int .i64 col, .slice A at_.length ca], .agg #[.slice L lo.length dl, .slice H hi.length sh]] w fun e w' => e = .returned (.tuple #[dv 0, .int .i64 0, .int .i64 1]) ∧ Below w.heap.size w w' := by
  have t1 := fun W h h' => right_any L H lo hi dl sh lo.length W h h'
  have t2 := fun W => ord_any K col A at_.length ca lo.length W (by unfold I64; omega)
  have e0 : dv 0 = .agg #[.int .u64 0, .int .u64 0] := rfl
  rw [e0]
  obtain ⟨o, ho⟩ : ∃ o, o = rightB lo hi lo.length := ⟨_, rfl⟩
  obtain ⟨q, hq⟩ : ∃ o, o = ordB K col at_.length lo.length := ⟨_, rfl⟩
  have hcase : o = false ∨ (o = true ∧ q = false) := by
    unfold leastB at hB; rw [← ho, ← hq] at hB
    cases o
    · exact .inl rfl
    · right; exact ⟨rfl, by simpa using hB⟩
  rw [← ho] at t1
  rw [← hq] at t2
  clear ho hq hB e0 hn
  have Ht1 := hideP t1; have Ht2 := hideP t2; have HhL := hideP hL; have HhH := hideP hH; clear t1 t2 hL hH
  rcases hcase with rfl | ⟨rfl, rfl⟩
  all_goals
    go_enter Try.func36, Try.ntmps36
    go_wp2_with fail
    obtain ⟨w1, hw1⟩ : ∃ w1, w1 = ((w.alloc (Obj.cells #[.int .u8 K, .int .i64 col, .slice A at_.length ca] 50)).alloc (Obj.cells #[.slice L lo.length dl, .slice H hi.length sh] 25)).alloc (Obj.cells #[.int .u64 0, .int .u64 0] 29) := ⟨_, rfl⟩
    have c1 := hideP (show Three w1 w.heap.size 50 (.int .u8 K) (.int .i64 col) (.slice A at_.length ca) by rw [hw1]; exact ((Three.new _ _ _ _ _).alloc _).alloc _)
    have c2 := hideP (show Two w1 (w.heap.size + 1) 25 (.slice L lo.length dl) (.slice H hi.length sh) by rw [hw1]; exact (Two.new' _ _ _ _ _ (by simp)).alloc _)
    have c3 := hideP (show Two w1 (w.heap.size + 1 + 1) 29 (.int .u64 0) (.int .u64 0) by rw [hw1]; exact Two.new' _ _ _ _ _ (by simp))
    have cb := hideP (show Below w.heap.size w w1 by rw [hw1]; exact ((below_new _ _).alloc (by simp) _).alloc (by simp; omega) _)
    rw [← hw1]
    clear hw1
    have kc20 := c2.out.c0; have kc21 := c2.out.c1
    refine (Ht1.out w1 (HhL.out.after cb.out) (HhH.out.after cb.out)).mono ?_
    rintro e w2 ⟨rfl, hb_⟩
    clear kc20 kc21
    replace c1 := hideP (c1.out.after hb_)
    replace c2 := hideP (c2.out.after hb_)
    replace c3 := hideP (c3.out.after hb_)
    replace cb := hideP (bstep cb.out hb_)
    clear hb_
  · have f0 := c3.out.fz 0
    have f1 := c3.out.fz 1
    have kc30 := c3.out.c0; have kc31 := c3.out.c1
    go_wp2
    refine ret_dist3 rfl rfl rfl rfl (c3.out.set2 _ _) rfl ?_
    exact ⟨rfl, (cb.out.setCell (p := ⟨w.heap.size + 1 + 1, 0, none⟩) (by simp; omega) _).setCell (p := ⟨w.heap.size + 1 + 1, 1, none⟩) (by simp; omega) _⟩
  · have q0 := c1.out.c0
    have q1 := c1.out.c1
    have q2 := c1.out.c2
    have kc20 := c2.out.c0; have kc21 := c2.out.c1
    go_wp2_with fail
    refine (Ht2.out w2).mono ?_
    rintro e w3 ⟨rfl, hb_⟩
    clear q0 q1 q2
    clear kc20 kc21
    replace c3 := hideP (c3.out.after hb_)
    replace cb := hideP (bstep cb.out hb_)
    clear hb_
    have f0 := c3.out.fz 0
    have f1 := c3.out.fz 1
    have kc30 := c3.out.c0; have kc31 := c3.out.c1
    go_wp2
    refine ret_dist3 rfl rfl rfl rfl (c3.out.set2 _ _) rfl ?_
    exact ⟨rfl, (cb.out.setCell (p := ⟨w.heap.size + 1 + 1, 0, none⟩) (by simp; omega) _).setCell (p := ⟨w.heap.size + 1 + 1, 1, none⟩) (by simp; omega) _⟩
set_option maxRecDepth 100000 in
set_option maxHeartbeats 8000000 in
theorem least_in (K col : Int) (A L H : Option Addr) (at_ lo hi : List Int) (ca dl sh : Nat) (w : World) (hA : Arr w w.heap.size A at_.length (i64s at_)) (hL : Arr w w.heap.size L lo.length (i64s lo)) (hH : Arr w w.heap.size H hi.length (i64s hi)) (ia : IsI at_) (il : IsI lo) (ih : IsI hi)
    (hd : lo.length ≤ dl) (hs : hi.length ≤ sh) (hB : leastB K col at_.length lo hi = true) :
    Calls Try.prog 36 #[.agg #[.int .u8 K, .int .i64 col, .slice A at_.length ca], .agg #[.slice L lo.length dl, .slice H hi.length sh]] w fun e w' => e = .returned (.tuple #[dv (leastN K col at_ lo hi), .int .i64 (lo.getD 0 0), .int .i64 0]) ∧ Below w.heap.size w w' := by
  have hB1 : rightB lo hi lo.length = true := by unfold leastB at hB; simp at hB; exact hB.1
  have hB2 : ordB K col at_.length lo.length = true := by unfold leastB at hB; simp at hB; exact hB.2
  obtain ⟨r1, r8, _, rl, _⟩ := rightB_len hB1
  obtain ⟨_, _, hK⟩ := ordB_of hB2
  have t1 := fun W h h' => right_any L H lo hi dl sh lo.length W h h'
  have t2 := fun W => ord_any K col A at_.length ca lo.length W (by unfold I64; omega)
  rw [hB1] at t1
  rw [hB2] at t2
  obtain ⟨j, rfl⟩ : ∃ j : Nat, col = (j : Int) := ⟨col.toNat, by omega⟩
  have hkey : leastN K j at_ lo hi = if K = 2 then (9223372036854775807 - hi.getD j 0).toNat else if K = 3 then dbox at_ (lo.drop 1) (hi.drop 1) (lo.length - 1) else (lo.getD j 0 + 9223372036854775808).toNat := by unfold leastN; simp
  rw [hkey]
  obtain ⟨b, off, rfl, hb, hcl⟩ := hL (by omega)
  obtain ⟨b', off', rfl, hb', hcl'⟩ := hH (by omega)
  have hL2 := hL.drop
  have hH2 := hH.drop
  have tT := fun W h h' h'' => toBox_in A (some ⟨b, off + 1, none⟩) (some ⟨b', off' + 1, none⟩) at_ (lo.drop 1) (hi.drop 1) (lo.length - 1) ca (dl - 1) (sh - 1) W h h' h'' ia il.drop ih.drop
  have hjn : j < lo.length := by omega
  have u0 := hcl 0 (by omega)
  have u1 := hcl j hjn
  have u2 := hcl' j (by omega)
  rw [Nat.add_zero] at u0
  unfold i64s at u0 u1 u2
  have hx := il j
  have hy := ih j
  rw [show hi.length = lo.length by omega] at hH hH2 hs t1 ⊢
  obtain ⟨n, hn⟩ : ∃ n, n = lo.length := ⟨_, rfl⟩
  obtain ⟨m, hm⟩ : ∃ m, m = at_.length := ⟨_, rfl⟩
  rw [← hn] at r1 r8 hK t1 t2 tT hL hL2 hH hH2 hd hs hjn ⊢
  rw [← hm] at hK t2 hA ⊢
  obtain ⟨x, ex⟩ : ∃ x, x = lo.getD j 0 := ⟨_, rfl⟩
  obtain ⟨y, ey⟩ : ∃ x, x = hi.getD j 0 := ⟨_, rfl⟩
  obtain ⟨z, ez⟩ : ∃ x, x = lo.getD 0 0 := ⟨_, rfl⟩
  rw [← ex] at u1 hx ⊢
  rw [← ey] at u2 hy ⊢
  rw [← ez] at u0 ⊢
  have Hx : I64 x := hx
  have Hy : I64 y := hy
  have tup := fun W => up_any x W Hx
  have tdn := fun W => down_any y W Hy
  unfold dv dvp at tup tdn
  obtain ⟨h1, g1⟩ : ∃ h, h = (x + 9223372036854775808).toNat / 18446744073709551616 := ⟨_, rfl⟩
  obtain ⟨l1, g2⟩ : ∃ l, l = (x + 9223372036854775808).toNat % 18446744073709551616 := ⟨_, rfl⟩
  obtain ⟨h2, g3⟩ : ∃ h, h = (9223372036854775807 - y).toNat / 18446744073709551616 := ⟨_, rfl⟩
  obtain ⟨l2, g4⟩ : ∃ l, l = (9223372036854775807 - y).toNat % 18446744073709551616 := ⟨_, rfl⟩
  rw [← g1, ← g2] at tup
  rw [← g3, ← g4] at tdn
  have E1 : dv (x + 9223372036854775808).toNat = .agg #[.int .u64 h1, .int .u64 l1] := by rw [g1, g2]; rfl
  have E2 : dv (9223372036854775807 - y).toNat = .agg #[.int .u64 h2, .int .u64 l2] := by rw [g3, g4]; rfl
  have j0 : (0 : Int) ≤ (j : Int) := by omega
  have j1 : (j : Int) < n := by omega
  have j2 : (0 : Int) < n := by omega
  have jn : 0 < n := by omega
  clear g1 g2 g3 g4 hB hB1 hB2 rl hcl hcl' hn hm ex ey ez hx hy Hx Hy hkey hjn
  have Ht1 := hideP t1; have Ht2 := hideP t2; have HtT := hideP tT; have Htup := hideP tup; have Htdn := hideP tdn; have HhA := hideP hA; have HhL := hideP hL; have HhH := hideP hH; have HhL2 := hideP hL2; have HhH2 := hideP hH2; have Hhb := hideP hb; have Hhb' := hideP hb'; have Hu0 := hideP u0; have Hu1 := hideP u1; have Hu2 := hideP u2; have HE1 := hideP E1; have HE2 := hideP E2; clear t1 t2 tT tup tdn hA hL hH hL2 hH2 hb hb' u0 u1 u2 E1 E2
  rcases hK with ⟨rfl, h, z0⟩ | ⟨rfl, z1, h, z0⟩ | ⟨rfl, z1, h, z0⟩ | ⟨rfl, z1, h, z0⟩
  · clear h z0
    show Calls _ _ _ _ fun e w' => e = .returned (.tuple #[dv (x + 9223372036854775808).toNat, .int .i64 z, .int .i64 0]) ∧ _
    rw [HE1.out]
    go_enter Try.func36, Try.ntmps36
    go_wp2_with fail
    obtain ⟨w1, hw1⟩ : ∃ w1, w1 = ((w.alloc (Obj.cells #[.int .u8 0, .int .i64 j, .slice A m ca] 50)).alloc (Obj.cells #[.slice (some ⟨b, off, none⟩) n dl, .slice (some ⟨b', off', none⟩) n sh] 25)).alloc (Obj.cells #[.int .u64 0, .int .u64 0] 29) := ⟨_, rfl⟩
    have c1 := hideP (show Three w1 w.heap.size 50 (.int .u8 0) (.int .i64 j) (.slice A m ca) by rw [hw1]; exact ((Three.new _ _ _ _ _).alloc _).alloc _)
    have c2 := hideP (show Two w1 (w.heap.size + 1) 25 (.slice (some ⟨b, off, none⟩) n dl) (.slice (some ⟨b', off', none⟩) n sh) by rw [hw1]; exact (Two.new' _ _ _ _ _ (by simp)).alloc _)
    have c3 := hideP (show Two w1 (w.heap.size + 1 + 1) 29 (.int .u64 0) (.int .u64 0) by rw [hw1]; exact Two.new' _ _ _ _ _ (by simp))
    have cb := hideP (show Below w.heap.size w w1 by rw [hw1]; exact ((below_new _ _).alloc (by simp) _).alloc (by simp; omega) _)
    rw [← hw1]
    clear hw1
    have kc20 := c2.out.c0; have kc21 := c2.out.c1
    refine (Ht1.out w1 (HhL.out.after cb.out) (HhH.out.after cb.out)).mono ?_
    rintro e w2 ⟨rfl, hb_⟩
    clear kc20 kc21
    replace c1 := hideP (c1.out.after hb_)
    replace c2 := hideP (c2.out.after hb_)
    replace c3 := hideP (c3.out.after hb_)
    replace cb := hideP (bstep cb.out hb_)
    clear hb_
    have q0 := c1.out.c0
    have q1 := c1.out.c1
    have q2 := c1.out.c2
    have kc20 := c2.out.c0; have kc21 := c2.out.c1
    go_wp2_with fail
    refine (Ht2.out w2).mono ?_
    rintro e w3 ⟨rfl, hb_⟩
    clear q0 q1 q2
    clear kc20 kc21
    replace c1 := hideP (c1.out.after hb_)
    replace c2 := hideP (c2.out.after hb_)
    replace c3 := hideP (c3.out.after hb_)
    replace cb := hideP (bstep cb.out hb_)
    clear hb_
    have q0 := c1.out.c0
    have q1 := c1.out.c1
    have q2 := c1.out.c2
    have kc20 := c2.out.c0; have kc21 := c2.out.c1
    have k1 := cell_below cb.out Hhb.out Hu1.out
    go_wp2_with fail
    refine (Htup.out w3).mono ?_
    rintro e w4 ⟨rfl, hb_⟩
    clear q0 q1 q2 k1
    clear kc20 kc21
    replace c1 := hideP (c1.out.after hb_)
    replace c2 := hideP (c2.out.after hb_)
    replace c3 := hideP (c3.out.after hb_)
    replace cb := hideP (bstep cb.out hb_)
    clear hb_
    have q0 := (c1.out.alloc (Obj.cells #[.int .u64 h1, .int .u64 l1] 29)).c0
    have q1 := (c1.out.alloc (Obj.cells #[.int .u64 h1, .int .u64 l1] 29)).c1
    have q2 := (c1.out.alloc (Obj.cells #[.int .u64 h1, .int .u64 l1] 29)).c2
    have p0 := (c2.out.alloc (Obj.cells #[.int .u64 h1, .int .u64 l1] 29)).c0
    have p1 := (c2.out.alloc (Obj.cells #[.int .u64 h1, .int .u64 l1] 29)).c1
    have k2 : (w4.alloc (Obj.cells #[.int .u64 h1, .int .u64 l1] 29)).cell? ⟨b', off' + j, none⟩ = _ := cell_below (cb.out.alloc cb.out.size _) Hhb'.out Hu2.out
    go_wp2_with fail
    clear q0 q1 q2 p0 p1 k2
    obtain ⟨v4, hv_⟩ : ∃ v, v = w4.alloc (Obj.cells #[.int .u64 h1, .int .u64 l1] 29) := ⟨_, rfl⟩
    obtain ⟨g7, hg_⟩ : ∃ g, g = w4.heap.size := ⟨_, rfl⟩
    have hb_ : Below w4.heap.size w4 v4 := by rw [hv_]; exact below_new _ _
    have x7 := hideP (show Two v4 g7 29 (.int .u64 h1) (.int .u64 l1) by rw [hv_, hg_]; exact Two.new _ _ _ _)
    have Gx7 := hideP (show w4.heap.size ≤ g7 from Nat.le_of_eq hg_.symm)
    have Lc3x7 := hideP (Nat.lt_of_lt_of_eq c3.out.lt hg_.symm)
    replace c1 := hideP (c1.out.after hb_)
    replace c2 := hideP (c2.out.after hb_)
    replace c3 := hideP (c3.out.after hb_)
    replace cb := hideP (bstep cb.out hb_)
    rw [← hv_, ← hg_]
    clear hv_ hg_ hb_
    have kc20 := c2.out.c0; have kc21 := c2.out.c1
    have kx70 := x7.out.c0; have kx71 := x7.out.c1
    have z0 := cell_below cb.out Hhb.out Hu0.out
    have N2 := hideP (show ¬ (w.heap.size + 1 = w.heap.size + 1 + 1) by omega)
    have N7 := hideP (show ¬ (g7 = w.heap.size + 1 + 1) by have := Lc3x7.out; omega)
    have Nb := hideP (show ¬ (b = w.heap.size + 1 + 1) by have := Hhb.out; omega)
    refine wp_region_mut (S := fun k => k = w.heap.size + 1 + 1) 8 (.q 0 (.q 1 (.q 2 (.q 3 (.q 4 (.l 5 (.q 6 (.q 7 .nil)))))))) (by kernel_rfl) (by kernel_rfl) ?_
    simp only [pickT, nthO_zero, nthO_succ]
    iterate 5 (refine wpM_valK (by rfl) (fun K hK => ?_); apply Exists.intro; refine ⟨fun W hW => ?_, ?_⟩; (focus (have hs1 := hW.cell kc20 N2.out; have hs2 := hW.cell kc21 N2.out; have hs3 := hW.cell kx70 N7.out; have hs4 := hW.cell kx71 N7.out; have hs5 := hW.cell z0 Nb.out; go_simp; (try rfl); done)); go_simp; refine hK _ ?_; clear hK K)
    refine wpM_storeK (by rfl) (fun W hW => ⟨(W.setCell ⟨w.heap.size + 1 + 1, 0, none⟩ (.int .u64 h1)).setCell ⟨w.heap.size + 1 + 1, 1, none⟩ (.int .u64 l1), ⟨?_, But.set2 _ _ _ _ rfl⟩, fun K hK => ?_⟩)
    · have c3' := c3.out.ext hW.drew_left
      have f0 := c3'.fz 0
      have f1 := c3'.fz 1
      have g0 := c3'.c0
      have g1 := c3'.c1
      clear c3'
      go_simp
    go_simp
    refine hK _ ?_
    clear hK K
    replace c3 := hideP ((c3.out.ext hW.drew_left).set2 (.int .u64 h1) (.int .u64 l1))
    replace cb := hideP (((below_ext cb.out hW.drew_left).setCell (p := ⟨w.heap.size + 1 + 1, 0, none⟩) (by simp; omega) (.int .u64 h1)).setCell (p := ⟨w.heap.size + 1 + 1, 1, none⟩) (by simp; omega) (.int .u64 l1))
    clear hW z0 kc20 kc21 kx70 kx71
    iterate 2 (refine wpM_valK (by rfl) (fun K hK => ?_); apply Exists.intro; refine ⟨fun W hW => ?_, ?_⟩; (focus (go_simp; (try rfl); done)); go_simp; refine hK _ ?_; clear hK K)
    refine wpM_nil (fun w7 hW0 => ?_)
    simp only [List.drop_succ_cons, List.drop_zero, List.drop_nil]
    replace c3 := hideP (c3.out.ext hW0)
    replace cb := hideP (below_ext cb.out hW0)
    clear hW0
    go_wp2
    refine ret_dist3 rfl rfl rfl rfl c3.out rfl ?_
    exact ⟨rfl, cb.out⟩
  · clear h z0 z1
    show Calls _ _ _ _ fun e w' => e = .returned (.tuple #[dv (x + 9223372036854775808).toNat, .int .i64 z, .int .i64 0]) ∧ _
    rw [HE1.out]
    go_enter Try.func36, Try.ntmps36
    go_wp2_with fail
    obtain ⟨w1, hw1⟩ : ∃ w1, w1 = ((w.alloc (Obj.cells #[.int .u8 1, .int .i64 j, .slice A m ca] 50)).alloc (Obj.cells #[.slice (some ⟨b, off, none⟩) n dl, .slice (some ⟨b', off', none⟩) n sh] 25)).alloc (Obj.cells #[.int .u64 0, .int .u64 0] 29) := ⟨_, rfl⟩
    have c1 := hideP (show Three w1 w.heap.size 50 (.int .u8 1) (.int .i64 j) (.slice A m ca) by rw [hw1]; exact ((Three.new _ _ _ _ _).alloc _).alloc _)
    have c2 := hideP (show Two w1 (w.heap.size + 1) 25 (.slice (some ⟨b, off, none⟩) n dl) (.slice (some ⟨b', off', none⟩) n sh) by rw [hw1]; exact (Two.new' _ _ _ _ _ (by simp)).alloc _)
    have c3 := hideP (show Two w1 (w.heap.size + 1 + 1) 29 (.int .u64 0) (.int .u64 0) by rw [hw1]; exact Two.new' _ _ _ _ _ (by simp))
    have cb := hideP (show Below w.heap.size w w1 by rw [hw1]; exact ((below_new _ _).alloc (by simp) _).alloc (by simp; omega) _)
    rw [← hw1]
    clear hw1
    have kc20 := c2.out.c0; have kc21 := c2.out.c1
    refine (Ht1.out w1 (HhL.out.after cb.out) (HhH.out.after cb.out)).mono ?_
    rintro e w2 ⟨rfl, hb_⟩
    clear kc20 kc21
    replace c1 := hideP (c1.out.after hb_)
    replace c2 := hideP (c2.out.after hb_)
    replace c3 := hideP (c3.out.after hb_)
    replace cb := hideP (bstep cb.out hb_)
    clear hb_
    have q0 := c1.out.c0
    have q1 := c1.out.c1
    have q2 := c1.out.c2
    have kc20 := c2.out.c0; have kc21 := c2.out.c1
    go_wp2_with fail
    refine (Ht2.out w2).mono ?_
    rintro e w3 ⟨rfl, hb_⟩
    clear q0 q1 q2
    clear kc20 kc21
    replace c1 := hideP (c1.out.after hb_)
    replace c2 := hideP (c2.out.after hb_)
    replace c3 := hideP (c3.out.after hb_)
    replace cb := hideP (bstep cb.out hb_)
    clear hb_
    have q0 := c1.out.c0
    have q1 := c1.out.c1
    have q2 := c1.out.c2
    have kc20 := c2.out.c0; have kc21 := c2.out.c1
    have k1 := cell_below cb.out Hhb.out Hu1.out
    go_wp2_with fail
    refine (Htup.out w3).mono ?_
    rintro e w4 ⟨rfl, hb_⟩
    clear q0 q1 q2 k1
    clear kc20 kc21
    replace c1 := hideP (c1.out.after hb_)
    replace c2 := hideP (c2.out.after hb_)
    replace c3 := hideP (c3.out.after hb_)
    replace cb := hideP (bstep cb.out hb_)
    clear hb_
    have q0 := (c1.out.alloc (Obj.cells #[.int .u64 h1, .int .u64 l1] 29)).c0
    have q1 := (c1.out.alloc (Obj.cells #[.int .u64 h1, .int .u64 l1] 29)).c1
    have q2 := (c1.out.alloc (Obj.cells #[.int .u64 h1, .int .u64 l1] 29)).c2
    have p0 := (c2.out.alloc (Obj.cells #[.int .u64 h1, .int .u64 l1] 29)).c0
    have p1 := (c2.out.alloc (Obj.cells #[.int .u64 h1, .int .u64 l1] 29)).c1
    have k2 : (w4.alloc (Obj.cells #[.int .u64 h1, .int .u64 l1] 29)).cell? ⟨b', off' + j, none⟩ = _ := cell_below (cb.out.alloc cb.out.size _) Hhb'.out Hu2.out
    go_wp2_with fail
    clear q0 q1 q2 p0 p1 k2
    obtain ⟨v4, hv_⟩ : ∃ v, v = w4.alloc (Obj.cells #[.int .u64 h1, .int .u64 l1] 29) := ⟨_, rfl⟩
    obtain ⟨g7, hg_⟩ : ∃ g, g = w4.heap.size := ⟨_, rfl⟩
    have hb_ : Below w4.heap.size w4 v4 := by rw [hv_]; exact below_new _ _
    have x7 := hideP (show Two v4 g7 29 (.int .u64 h1) (.int .u64 l1) by rw [hv_, hg_]; exact Two.new _ _ _ _)
    have Gx7 := hideP (show w4.heap.size ≤ g7 from Nat.le_of_eq hg_.symm)
    have Lc3x7 := hideP (Nat.lt_of_lt_of_eq c3.out.lt hg_.symm)
    replace c1 := hideP (c1.out.after hb_)
    replace c2 := hideP (c2.out.after hb_)
    replace c3 := hideP (c3.out.after hb_)
    replace cb := hideP (bstep cb.out hb_)
    rw [← hv_, ← hg_]
    clear hv_ hg_ hb_
    have kc20 := c2.out.c0; have kc21 := c2.out.c1
    have kx70 := x7.out.c0; have kx71 := x7.out.c1
    have z0 := cell_below cb.out Hhb.out Hu0.out
    have N2 := hideP (show ¬ (w.heap.size + 1 = w.heap.size + 1 + 1) by omega)
    have N7 := hideP (show ¬ (g7 = w.heap.size + 1 + 1) by have := Lc3x7.out; omega)
    have Nb := hideP (show ¬ (b = w.heap.size + 1 + 1) by have := Hhb.out; omega)
    refine wp_region_mut (S := fun k => k = w.heap.size + 1 + 1) 8 (.q 0 (.q 1 (.q 2 (.q 3 (.q 4 (.l 5 (.q 6 (.q 7 .nil)))))))) (by kernel_rfl) (by kernel_rfl) ?_
    simp only [pickT, nthO_zero, nthO_succ]
    iterate 5 (refine wpM_valK (by rfl) (fun K hK => ?_); apply Exists.intro; refine ⟨fun W hW => ?_, ?_⟩; (focus (have hs1 := hW.cell kc20 N2.out; have hs2 := hW.cell kc21 N2.out; have hs3 := hW.cell kx70 N7.out; have hs4 := hW.cell kx71 N7.out; have hs5 := hW.cell z0 Nb.out; go_simp; (try rfl); done)); go_simp; refine hK _ ?_; clear hK K)
    refine wpM_storeK (by rfl) (fun W hW => ⟨(W.setCell ⟨w.heap.size + 1 + 1, 0, none⟩ (.int .u64 h1)).setCell ⟨w.heap.size + 1 + 1, 1, none⟩ (.int .u64 l1), ⟨?_, But.set2 _ _ _ _ rfl⟩, fun K hK => ?_⟩)
    · have c3' := c3.out.ext hW.drew_left
      have f0 := c3'.fz 0
      have f1 := c3'.fz 1
      have g0 := c3'.c0
      have g1 := c3'.c1
      clear c3'
      go_simp
    go_simp
    refine hK _ ?_
    clear hK K
    replace c3 := hideP ((c3.out.ext hW.drew_left).set2 (.int .u64 h1) (.int .u64 l1))
    replace cb := hideP (((below_ext cb.out hW.drew_left).setCell (p := ⟨w.heap.size + 1 + 1, 0, none⟩) (by simp; omega) (.int .u64 h1)).setCell (p := ⟨w.heap.size + 1 + 1, 1, none⟩) (by simp; omega) (.int .u64 l1))
    clear hW z0 kc20 kc21 kx70 kx71
    iterate 2 (refine wpM_valK (by rfl) (fun K hK => ?_); apply Exists.intro; refine ⟨fun W hW => ?_, ?_⟩; (focus (go_simp; (try rfl); done)); go_simp; refine hK _ ?_; clear hK K)
    refine wpM_nil (fun w7 hW0 => ?_)
    simp only [List.drop_succ_cons, List.drop_zero, List.drop_nil]
    replace c3 := hideP (c3.out.ext hW0)
    replace cb := hideP (below_ext cb.out hW0)
    clear hW0
    go_wp2
    refine ret_dist3 rfl rfl rfl rfl c3.out rfl ?_
    exact ⟨rfl, cb.out⟩
  · clear h z0 z1
    show Calls _ _ _ _ fun e w' => e = .returned (.tuple #[dv (9223372036854775807 - y).toNat, .int .i64 z, .int .i64 0]) ∧ _
    rw [HE2.out]
    go_enter Try.func36, Try.ntmps36
    go_wp2_with fail
    obtain ⟨w1, hw1⟩ : ∃ w1, w1 = ((w.alloc (Obj.cells #[.int .u8 2, .int .i64 j, .slice A m ca] 50)).alloc (Obj.cells #[.slice (some ⟨b, off, none⟩) n dl, .slice (some ⟨b', off', none⟩) n sh] 25)).alloc (Obj.cells #[.int .u64 0, .int .u64 0] 29) := ⟨_, rfl⟩
    have c1 := hideP (show Three w1 w.heap.size 50 (.int .u8 2) (.int .i64 j) (.slice A m ca) by rw [hw1]; exact ((Three.new _ _ _ _ _).alloc _).alloc _)
    have c2 := hideP (show Two w1 (w.heap.size + 1) 25 (.slice (some ⟨b, off, none⟩) n dl) (.slice (some ⟨b', off', none⟩) n sh) by rw [hw1]; exact (Two.new' _ _ _ _ _ (by simp)).alloc _)
    have c3 := hideP (show Two w1 (w.heap.size + 1 + 1) 29 (.int .u64 0) (.int .u64 0) by rw [hw1]; exact Two.new' _ _ _ _ _ (by simp))
    have cb := hideP (show Below w.heap.size w w1 by rw [hw1]; exact ((below_new _ _).alloc (by simp) _).alloc (by simp; omega) _)
    rw [← hw1]
    clear hw1
    have kc20 := c2.out.c0; have kc21 := c2.out.c1
    refine (Ht1.out w1 (HhL.out.after cb.out) (HhH.out.after cb.out)).mono ?_
    rintro e w2 ⟨rfl, hb_⟩
    clear kc20 kc21
    replace c1 := hideP (c1.out.after hb_)
    replace c2 := hideP (c2.out.after hb_)
    replace c3 := hideP (c3.out.after hb_)
    replace cb := hideP (bstep cb.out hb_)
    clear hb_
    have q0 := c1.out.c0
    have q1 := c1.out.c1
    have q2 := c1.out.c2
    have kc20 := c2.out.c0; have kc21 := c2.out.c1
    go_wp2_with fail
    refine (Ht2.out w2).mono ?_
    rintro e w3 ⟨rfl, hb_⟩
    clear q0 q1 q2
    clear kc20 kc21
    replace c1 := hideP (c1.out.after hb_)
    replace c2 := hideP (c2.out.after hb_)
    replace c3 := hideP (c3.out.after hb_)
    replace cb := hideP (bstep cb.out hb_)
    clear hb_
    have q0 := c1.out.c0
    have q1 := c1.out.c1
    have q2 := c1.out.c2
    have kc20 := c2.out.c0; have kc21 := c2.out.c1
    have k1 := cell_below cb.out Hhb.out Hu1.out
    go_wp2_with fail
    refine (Htup.out w3).mono ?_
    rintro e w4 ⟨rfl, hb_⟩
    clear q0 q1 q2 k1
    clear kc20 kc21
    replace c1 := hideP (c1.out.after hb_)
    replace c2 := hideP (c2.out.after hb_)
    replace c3 := hideP (c3.out.after hb_)
    replace cb := hideP (bstep cb.out hb_)
    clear hb_
    have q0 := (c1.out.alloc (Obj.cells #[.int .u64 h1, .int .u64 l1] 29)).c0
    have q1 := (c1.out.alloc (Obj.cells #[.int .u64 h1, .int .u64 l1] 29)).c1
    have q2 := (c1.out.alloc (Obj.cells #[.int .u64 h1, .int .u64 l1] 29)).c2
    have p0 := (c2.out.alloc (Obj.cells #[.int .u64 h1, .int .u64 l1] 29)).c0
    have p1 := (c2.out.alloc (Obj.cells #[.int .u64 h1, .int .u64 l1] 29)).c1
    have k2 : (w4.alloc (Obj.cells #[.int .u64 h1, .int .u64 l1] 29)).cell? ⟨b', off' + j, none⟩ = _ := cell_below (cb.out.alloc cb.out.size _) Hhb'.out Hu2.out
    go_wp2_with fail
    clear q0 q1 q2 p0 p1 k2
    obtain ⟨v4, hv_⟩ : ∃ v, v = w4.alloc (Obj.cells #[.int .u64 h1, .int .u64 l1] 29) := ⟨_, rfl⟩
    obtain ⟨g7, hg_⟩ : ∃ g, g = w4.heap.size := ⟨_, rfl⟩
    have hb_ : Below w4.heap.size w4 v4 := by rw [hv_]; exact below_new _ _
    have x7 := hideP (show Two v4 g7 29 (.int .u64 h1) (.int .u64 l1) by rw [hv_, hg_]; exact Two.new _ _ _ _)
    have Gx7 := hideP (show w4.heap.size ≤ g7 from Nat.le_of_eq hg_.symm)
    have Lc3x7 := hideP (Nat.lt_of_lt_of_eq c3.out.lt hg_.symm)
    replace c1 := hideP (c1.out.after hb_)
    replace c2 := hideP (c2.out.after hb_)
    replace c3 := hideP (c3.out.after hb_)
    replace cb := hideP (bstep cb.out hb_)
    rw [← hv_, ← hg_]
    clear hv_ hg_ hb_
    refine (Htdn.out v4).mono ?_
    rintro e w5 ⟨rfl, hb_⟩
    replace c1 := hideP (c1.out.after hb_)
    replace c2 := hideP (c2.out.after hb_)
    replace c3 := hideP (c3.out.after hb_)
    replace x7 := hideP (x7.out.after hb_)
    replace cb := hideP (bstep cb.out hb_)
    clear hb_
    have f0 := x7.out.fz 0
    have f1 := x7.out.fz 1
    have kx70 := x7.out.c0; have kx71 := x7.out.c1
    go_wp2
    clear f0 f1
    clear kx70 kx71
    obtain ⟨w6, hw6⟩ : ∃ v, v = (w5.setCell ⟨g7, 0, none⟩ (.int .u64 h2)).setCell ⟨g7, 1, none⟩ (.int .u64 l2) := ⟨_, rfl⟩
    have N7' := Lc3x7.out
    replace c2 := hideP (show Two w6 (w.heap.size + 1) 25 (.slice (some ⟨b, off, none⟩) n dl) (.slice (some ⟨b', off', none⟩) n sh) by rw [hw6]; exact (c2.out.setOther (by simp; omega) _).setOther (by simp; omega) _)
    replace c3 := hideP (show Two w6 (w.heap.size + 1 + 1) 29 (.int .u64 0) (.int .u64 0) by rw [hw6]; exact (c3.out.setOther (by simp; omega) _).setOther (by simp; omega) _)
    replace cb := hideP (show Below w.heap.size w w6 by rw [hw6]; exact (cb.out.setCell (p := ⟨g7, 0, none⟩) (by simp; omega) _).setCell (p := ⟨g7, 1, none⟩) (by simp; omega) _)
    replace x7 := hideP (show Two w6 g7 29 (.int .u64 h2) (.int .u64 l2) by rw [hw6]; exact x7.out.set2 _ _)
    rw [← hw6]
    clear hw6 N7'
    have kc20 := c2.out.c0; have kc21 := c2.out.c1
    have kx70 := x7.out.c0; have kx71 := x7.out.c1
    have z0 := cell_below cb.out Hhb.out Hu0.out
    have N2 := hideP (show ¬ (w.heap.size + 1 = w.heap.size + 1 + 1) by omega)
    have N7 := hideP (show ¬ (g7 = w.heap.size + 1 + 1) by have := Lc3x7.out; omega)
    have Nb := hideP (show ¬ (b = w.heap.size + 1 + 1) by have := Hhb.out; omega)
    refine wp_region_mut (S := fun k => k = w.heap.size + 1 + 1) 8 (.q 0 (.q 1 (.q 2 (.q 3 (.q 4 (.l 5 (.q 6 (.q 7 .nil)))))))) (by kernel_rfl) (by kernel_rfl) ?_
    simp only [pickT, nthO_zero, nthO_succ]
    iterate 5 (refine wpM_valK (by rfl) (fun K hK => ?_); apply Exists.intro; refine ⟨fun W hW => ?_, ?_⟩; (focus (have hs1 := hW.cell kc20 N2.out; have hs2 := hW.cell kc21 N2.out; have hs3 := hW.cell kx70 N7.out; have hs4 := hW.cell kx71 N7.out; have hs5 := hW.cell z0 Nb.out; go_simp; (try rfl); done)); go_simp; refine hK _ ?_; clear hK K)
    refine wpM_storeK (by rfl) (fun W hW => ⟨(W.setCell ⟨w.heap.size + 1 + 1, 0, none⟩ (.int .u64 h2)).setCell ⟨w.heap.size + 1 + 1, 1, none⟩ (.int .u64 l2), ⟨?_, But.set2 _ _ _ _ rfl⟩, fun K hK => ?_⟩)
    · have c3' := c3.out.ext hW.drew_left
      have f0 := c3'.fz 0
      have f1 := c3'.fz 1
      have g0 := c3'.c0
      have g1 := c3'.c1
      clear c3'
      go_simp
    go_simp
    refine hK _ ?_
    clear hK K
    replace c3 := hideP ((c3.out.ext hW.drew_left).set2 (.int .u64 h2) (.int .u64 l2))
    replace cb := hideP (((below_ext cb.out hW.drew_left).setCell (p := ⟨w.heap.size + 1 + 1, 0, none⟩) (by simp; omega) (.int .u64 h2)).setCell (p := ⟨w.heap.size + 1 + 1, 1, none⟩) (by simp; omega) (.int .u64 l2))
    clear hW z0 kc20 kc21 kx70 kx71
    iterate 2 (refine wpM_valK (by rfl) (fun K hK => ?_); apply Exists.intro; refine ⟨fun W hW => ?_, ?_⟩; (focus (go_simp; (try rfl); done)); go_simp; refine hK _ ?_; clear hK K)
    refine wpM_nil (fun w7 hW0 => ?_)
    simp only [List.drop_succ_cons, List.drop_zero, List.drop_nil]
    replace c3 := hideP (c3.out.ext hW0)
    replace cb := hideP (below_ext cb.out hW0)
    clear hW0
    go_wp2
    refine ret_dist3 rfl rfl rfl rfl c3.out rfl ?_
    exact ⟨rfl, cb.out⟩
  · obtain rfl : m = n - 1 := by omega
    have h1' : 1 ≤ n - 1 := by omega
    have h8' : n - 1 ≤ 8 := by omega
    have TT := hideP (fun W h h' h'' => HtT.out W h h' h'' h1' h8')
    unfold dv dvp at TT
    show Calls _ _ _ _ fun e w' => e = .returned (.tuple #[dv (dbox at_ (lo.drop 1) (hi.drop 1) (n - 1)), .int .i64 z, .int .i64 0]) ∧ _
    unfold dv dvp
    obtain ⟨h3, g3⟩ : ∃ h, h = dbox at_ (lo.drop 1) (hi.drop 1) (n - 1) / 18446744073709551616 := ⟨_, rfl⟩
    obtain ⟨l3, g4⟩ : ∃ h, h = dbox at_ (lo.drop 1) (hi.drop 1) (n - 1) % 18446744073709551616 := ⟨_, rfl⟩
    rw [← g3, ← g4] at TT ⊢
    obtain ⟨m, hm⟩ : ∃ m, m = n - 1 := ⟨_, rfl⟩
    rw [← hm] at HhA Ht2 ⊢
    replace TT := hideP (show ∀ W, Arr W W.heap.size A m (i64s at_) → Arr W W.heap.size (some ⟨b, off + 1, none⟩) (n - 1) (i64s (lo.drop 1)) → Arr W W.heap.size (some ⟨b', off' + 1, none⟩) (n - 1) (i64s (hi.drop 1)) → Calls Try.prog 16 #[.slice A m ca, .agg #[.slice (some ⟨b, off + 1, none⟩) (n - 1) (dl - 1), .slice (some ⟨b', off' + 1, none⟩) (n - 1) (sh - 1)]] W fun e w' => e = .returned (.tuple #[.agg #[.int .u64 h3, .int .u64 l3], .int .i64 0]) ∧ Below W.heap.size W w' from by rw [hm]; exact TT.out)
    have t1 : (1 : Int) ≤ n := by omega
    have t2 : (n : Int) ≤ dl := by omega
    have t3 : ¬ dl = 1 := by omega
    have t4 : (n : Int) ≤ sh := by omega
    have t5 : ¬ sh = 1 := by omega
    clear g3 g4 z0 z1 h HtT hm h1' h8'
    go_enter Try.func36, Try.ntmps36
    go_wp2_with fail
    obtain ⟨w1, hw1⟩ : ∃ w1, w1 = ((w.alloc (Obj.cells #[.int .u8 3, .int .i64 j, .slice A m ca] 50)).alloc (Obj.cells #[.slice (some ⟨b, off, none⟩) n dl, .slice (some ⟨b', off', none⟩) n sh] 25)).alloc (Obj.cells #[.int .u64 0, .int .u64 0] 29) := ⟨_, rfl⟩
    have c1 := hideP (show Three w1 w.heap.size 50 (.int .u8 3) (.int .i64 j) (.slice A m ca) by rw [hw1]; exact ((Three.new _ _ _ _ _).alloc _).alloc _)
    have c2 := hideP (show Two w1 (w.heap.size + 1) 25 (.slice (some ⟨b, off, none⟩) n dl) (.slice (some ⟨b', off', none⟩) n sh) by rw [hw1]; exact (Two.new' _ _ _ _ _ (by simp)).alloc _)
    have c3 := hideP (show Two w1 (w.heap.size + 1 + 1) 29 (.int .u64 0) (.int .u64 0) by rw [hw1]; exact Two.new' _ _ _ _ _ (by simp))
    have cb := hideP (show Below w.heap.size w w1 by rw [hw1]; exact ((below_new _ _).alloc (by simp) _).alloc (by simp; omega) _)
    rw [← hw1]
    clear hw1
    have kc20 := c2.out.c0; have kc21 := c2.out.c1
    refine (Ht1.out w1 (HhL.out.after cb.out) (HhH.out.after cb.out)).mono ?_
    rintro e w2 ⟨rfl, hb_⟩
    clear kc20 kc21
    replace c1 := hideP (c1.out.after hb_)
    replace c2 := hideP (c2.out.after hb_)
    replace c3 := hideP (c3.out.after hb_)
    replace cb := hideP (bstep cb.out hb_)
    clear hb_
    have q0 := c1.out.c0
    have q1 := c1.out.c1
    have q2 := c1.out.c2
    have kc20 := c2.out.c0; have kc21 := c2.out.c1
    go_wp2_with fail
    refine (Ht2.out w2).mono ?_
    rintro e w3 ⟨rfl, hb_⟩
    clear q0 q1 q2
    clear kc20 kc21
    replace c1 := hideP (c1.out.after hb_)
    replace c2 := hideP (c2.out.after hb_)
    replace c3 := hideP (c3.out.after hb_)
    replace cb := hideP (bstep cb.out hb_)
    clear hb_
    have q0 := c1.out.c0
    have q1 := c1.out.c1
    have q2 := c1.out.c2
    have kc20 := c2.out.c0; have kc21 := c2.out.c1
    have k1 := cell_below cb.out Hhb.out Hu1.out
    go_wp2_with fail
    refine (Htup.out w3).mono ?_
    rintro e w4 ⟨rfl, hb_⟩
    clear q0 q1 q2 k1
    clear kc20 kc21
    replace c1 := hideP (c1.out.after hb_)
    replace c2 := hideP (c2.out.after hb_)
    replace c3 := hideP (c3.out.after hb_)
    replace cb := hideP (bstep cb.out hb_)
    clear hb_
    have q0 := (c1.out.alloc (Obj.cells #[.int .u64 h1, .int .u64 l1] 29)).c0
    have q1 := (c1.out.alloc (Obj.cells #[.int .u64 h1, .int .u64 l1] 29)).c1
    have q2 := (c1.out.alloc (Obj.cells #[.int .u64 h1, .int .u64 l1] 29)).c2
    have p0 := (c2.out.alloc (Obj.cells #[.int .u64 h1, .int .u64 l1] 29)).c0
    have p1 := (c2.out.alloc (Obj.cells #[.int .u64 h1, .int .u64 l1] 29)).c1
    have k2 : (w4.alloc (Obj.cells #[.int .u64 h1, .int .u64 l1] 29)).cell? ⟨b', off' + j, none⟩ = _ := cell_below (cb.out.alloc cb.out.size _) Hhb'.out Hu2.out
    go_wp2_with fail
    clear q0 q1 q2 p0 p1 k2
    obtain ⟨v4, hv_⟩ : ∃ v, v = w4.alloc (Obj.cells #[.int .u64 h1, .int .u64 l1] 29) := ⟨_, rfl⟩
    obtain ⟨g7, hg_⟩ : ∃ g, g = w4.heap.size := ⟨_, rfl⟩
    have hb_ : Below w4.heap.size w4 v4 := by rw [hv_]; exact below_new _ _
    have x7 := hideP (show Two v4 g7 29 (.int .u64 h1) (.int .u64 l1) by rw [hv_, hg_]; exact Two.new _ _ _ _)
    have Gx7 := hideP (show w4.heap.size ≤ g7 from Nat.le_of_eq hg_.symm)
    have Lc3x7 := hideP (Nat.lt_of_lt_of_eq c3.out.lt hg_.symm)
    replace c1 := hideP (c1.out.after hb_)
    replace c2 := hideP (c2.out.after hb_)
    replace c3 := hideP (c3.out.after hb_)
    replace cb := hideP (bstep cb.out hb_)
    rw [← hv_, ← hg_]
    clear hv_ hg_ hb_
    have q2 := c1.out.c2
    have kc20 := c2.out.c0; have kc21 := c2.out.c1
    have N0 := hideP (show ¬ (w.heap.size = g7) by have := Lc3x7.out; omega)
    have N1 := hideP (show ¬ (w.heap.size + 1 = g7) by have := Lc3x7.out; omega)
    refine wp_region_mut (S := fun k => k = g7) 14 (.q 0 (.q 1 (.q 2 (.q 3 (.q 4 (.q 5 (.q 6 (.q 7 (.q 8 (.q 9 (.q 10 (.q 11 (.q 12 (.l 13 .nil)))))))))))))) (by kernel_rfl) (by kernel_rfl) ?_
    simp only [pickT, nthO_zero, nthO_succ]
    iterate 9 (refine wpM_valK (by rfl) (fun K hK => ?_); apply Exists.intro; refine ⟨fun W hW => ?_, ?_⟩; (focus (have hs1 := hW.cell kc20 N1.out; have hs2 := hW.cell kc21 N1.out; have hs3 := hW.cell q2 N0.out; go_simp; (try rfl); done)); go_simp; refine hK _ ?_; clear hK K)
    have NS := hideP (show ∀ k, k < w.heap.size → ¬ k = g7 from fun k hk => by have := Lc3x7.out; omega)
    refine wpM_callK (.tuple #[.agg #[.int .u64 h3, .int .u64 l3], .int .i64 0]) 16 #[.slice A m ca, .agg #[.slice (some ⟨b, off + 1, none⟩) (n - 1) (dl - 1), .slice (some ⟨b', off' + 1, none⟩) (n - 1) (sh - 1)]] (by rfl) (fun W => by go_simp)
      (fun W hW => (TT.out W (HhA.out.after (below_but cb.out hW.drew_left NS.out)) (HhL2.out.after (below_but cb.out hW.drew_left NS.out)) (HhH2.out.after (below_but cb.out hW.drew_left NS.out))).mono fun e w' h => ⟨h.1, Ext.of_below h.2⟩) (fun K hK => ?_)
    go_simp
    refine hK _ ?_
    clear hK K
    iterate 3 (refine wpM_valK (by rfl) (fun K hK => ?_); apply Exists.intro; refine ⟨fun W hW => ?_, ?_⟩; (focus (go_simp; (try rfl); done)); go_simp; refine hK _ ?_; clear hK K)
    refine wpM_storeK (by rfl) (fun W hW => ⟨(W.setCell ⟨g7, 0, none⟩ (.int .u64 h3)).setCell ⟨g7, 1, none⟩ (.int .u64 l3), ⟨?_, But.set2 _ _ _ _ rfl⟩, fun K hK => ?_⟩)
    · have x7' := x7.out.ext hW.drew_left
      have f0 := x7'.fz 0
      have f1 := x7'.fz 1
      have g0 := x7'.c0
      have g1 := x7'.c1
      clear x7'
      go_simp
    go_simp
    refine hK _ ?_
    clear hK K q2
    clear kc20 kc21
    have N7' := Lc3x7.out
    replace c2 := hideP (((c2.out.ext hW.drew_left).setOther (a := ⟨g7, 0, none⟩) (by simp; omega) (.int .u64 h3)).setOther (a := ⟨g7, 1, none⟩) (by simp; omega) (.int .u64 l3))
    replace c3 := hideP (((c3.out.ext hW.drew_left).setOther (a := ⟨g7, 0, none⟩) (by simp; omega) (.int .u64 h3)).setOther (a := ⟨g7, 1, none⟩) (by simp; omega) (.int .u64 l3))
    replace cb := hideP (((below_ext cb.out hW.drew_left).setCell (p := ⟨g7, 0, none⟩) (by simp; omega) (.int .u64 h3)).setCell (p := ⟨g7, 1, none⟩) (by simp; omega) (.int .u64 l3))
    replace x7 := hideP ((x7.out.ext hW.drew_left).set2 (.int .u64 h3) (.int .u64 l3))
    clear hW N7'
    refine wpM_nil (fun w8 hW0 => ?_)
    simp only [List.drop_succ_cons, List.drop_zero, List.drop_nil]
    replace c2 := hideP (c2.out.ext hW0)
    replace c3 := hideP (c3.out.ext hW0)
    replace x7 := hideP (x7.out.ext hW0)
    replace cb := hideP (below_ext cb.out hW0)
    clear hW0 N0 N1
    go_wp2
    have kc20 := c2.out.c0; have kc21 := c2.out.c1
    have kx70 := x7.out.c0; have kx71 := x7.out.c1
    have z0 := cell_below cb.out Hhb.out Hu0.out
    have N2 := hideP (show ¬ (w.heap.size + 1 = w.heap.size + 1 + 1) by omega)
    have N7 := hideP (show ¬ (g7 = w.heap.size + 1 + 1) by have := Lc3x7.out; omega)
    have Nb := hideP (show ¬ (b = w.heap.size + 1 + 1) by have := Hhb.out; omega)
    refine wp_region_mut (S := fun k => k = w.heap.size + 1 + 1) 8 (.q 0 (.q 1 (.q 2 (.q 3 (.q 4 (.l 5 (.q 6 (.q 7 .nil)))))))) (by kernel_rfl) (by kernel_rfl) ?_
    simp only [pickT, nthO_zero, nthO_succ]
    iterate 5 (refine wpM_valK (by rfl) (fun K hK => ?_); apply Exists.intro; refine ⟨fun W hW => ?_, ?_⟩; (focus (have hs1 := hW.cell kc20 N2.out; have hs2 := hW.cell kc21 N2.out; have hs3 := hW.cell kx70 N7.out; have hs4 := hW.cell kx71 N7.out; have hs5 := hW.cell z0 Nb.out; go_simp; (try rfl); done)); go_simp; refine hK _ ?_; clear hK K)
    refine wpM_storeK (by rfl) (fun W hW => ⟨(W.setCell ⟨w.heap.size + 1 + 1, 0, none⟩ (.int .u64 h3)).setCell ⟨w.heap.size + 1 + 1, 1, none⟩ (.int .u64 l3), ⟨?_, But.set2 _ _ _ _ rfl⟩, fun K hK => ?_⟩)
    · have c3' := c3.out.ext hW.drew_left
      have f0 := c3'.fz 0
      have f1 := c3'.fz 1
      have g0 := c3'.c0
      have g1 := c3'.c1
      clear c3'
      go_simp
    go_simp
    refine hK _ ?_
    clear hK K
    replace c3 := hideP ((c3.out.ext hW.drew_left).set2 (.int .u64 h3) (.int .u64 l3))
    replace cb := hideP (((below_ext cb.out hW.drew_left).setCell (p := ⟨w.heap.size + 1 + 1, 0, none⟩) (by simp; omega) (.int .u64 h3)).setCell (p := ⟨w.heap.size + 1 + 1, 1, none⟩) (by simp; omega) (.int .u64 l3))
    clear hW z0 kc20 kc21 kx70 kx71
    iterate 2 (refine wpM_valK (by rfl) (fun K hK => ?_); apply Exists.intro; refine ⟨fun W hW => ?_, ?_⟩; (focus (go_simp; (try rfl); done)); go_simp; refine hK _ ?_; clear hK K)
    refine wpM_nil (fun w7 hW0 => ?_)
    simp only [List.drop_succ_cons, List.drop_zero, List.drop_nil]
    replace c3 := hideP (c3.out.ext hW0)
    replace cb := hideP (below_ext cb.out hW0)
    clear hW0
    go_wp2
    refine ret_dist3 rfl rfl rfl rfl c3.out rfl ?_
    exact ⟨rfl, cb.out⟩
end Go.Proofs.Ytnekbmndphbaoaa
