/- ObC -/
import Derived.Test.YtglmohcnmpbfmaaObA
import Derived.Laws.OwnMore
import Derived.Lib.SliceRun
import Derived.Test.YtglmohcnmpbfmaaObB
import Derived.Deep.AppendLies
set_option linter.unusedVariables false
set_option linter.unusedSimpArgs false
namespace Go.Proofs.Ytglmohcnmpbfmaa
open Go.RowKit

theorem range_all_succ (f : Nat → Bool) (k : Nat) : (List.range (k + 1)).all f = ((List.range k).all f && f k) := by simp [List.range_succ]
theorem range_all_false (f : Nat → Bool) (n k : Nat) (hk : k < n) (h : f k = false) : (List.range n).all f = false := by
  rw [List.all_eq_false]
  exact ⟨k, by simpa using hk, by simp [h]⟩

theorem all_any (n : Nat) (fv : Value) (fn : Nat) (caps : Array Value) (hfv : fv = .func (.func fn) #[] caps) (f : Nat → Bool) (w : World) (hn : n ≤ 1000000)
    (henter : ∀ args W, (callFunc fn args).run Try.prog W = .ok (.enter fn args) W)
    (hside : ∀ (i : Nat) (W : World), i < n → Below w.heap.size w W → Calls Try.prog fn (#[.int .i64 i] ++ caps) W fun e W' => e = .returned (.bool (f i)) ∧ ∃ nq, W.drewN nq = W') :
    Calls Try.prog 161 #[.int .i64 n, fv] w fun e w' => e = .returned (.bool ((List.range n).all f)) ∧ Below w.heap.size w w' := by
  subst hfv
  have HS := hideP hside
  clear hside
  go_enter Try.func161, Try.ntmps161
  go_wp2
  go_loopw [7] (fun v7 wr => ∃ k : Nat, k ≤ n ∧ v7 = .int .i64 k ∧ Hid ((List.range k).all f = true ∧ Below w.heap.size w wr)) (fun v7 _ => n - (intOf v7).toNat)
  case atStart => exact ⟨0, by omega, rfl, rfl, Below.refl _ _⟩
  case round =>
    obtain ⟨k, hk, rfl, hW⟩ := hrel
    by_cases hlt : k < n
    · have t : decide ((k : Int) < n) = true := by simp; omega
      go_wp2_with fail
      refine (HS.out k wr hlt hW.out.2).mono ?_
      rintro e w1 ⟨rfl, nq, hw1⟩
      have hbel : Below w.heap.size w w1 := by rw [← hw1]; exact below_drewN hW.out.2 _
      clear hw1
      obtain ⟨b, hb⟩ : ∃ b, b = f k := ⟨_, rfl⟩
      rw [← hb]
      have HB := hideP hb; have BL := hideP hbel
      clear hb hbel
      cases b
      · have hf := hideP (range_all_false f n k hlt HB.out.symm)
        go_wp2
        go_ret
        exact ⟨by rw [hf.out]; rfl, BL.out⟩
      · have hf := hideP (show (List.range (k + 1)).all f = true by rw [range_all_succ, hW.out.1, ← HB.out]; rfl)
        clear hW
        go_wp2
        go_roundw
        case rel => exact ⟨k + 1, by omega, by go_num, hf.out, BL.out⟩
        case measure => simp [intOf]; omega
    · have t : decide ((k : Int) < n) = false := by simp; omega
      have hf := hideP (show (List.range n).all f = true by rw [show n = k by omega]; exact hW.out.1)
      go_wp2
      go_ret
      exact ⟨by rw [hf.out]; rfl, hW.out.2⟩

/-- on each side the lesser number is not greater -/
def leAll (lo hi : List Int) (n : Nat) : Bool := (List.range n).all fun i => decide (lo.getD i 0 ≤ hi.getD i 0)
def rightB (lo hi : List Int) (d : Int) : Bool := decide (1 ≤ d) && decide (d ≤ 8) && decide ((lo.length : Int) = d) && decide ((hi.length : Int) = d) && leAll lo hi lo.length
theorem rightB_len {lo hi : List Int} {d : Int} (h : rightB lo hi d = true) : 1 ≤ d ∧ d ≤ 8 ∧ (lo.length : Int) = d ∧ (hi.length : Int) = d ∧ leAll lo hi lo.length = true := by
  unfold rightB at h
  simpa [and_assoc] using h

theorem right1 (i : Nat) (g : Nat) (L H : Option Addr) (lo hi : List Int) (n m d s : Nat) (w : World) (h1 : w.cell? ⟨g, 0, none⟩ = some (.slice L n d)) (h2 : w.cell? ⟨g, 1, none⟩ = some (.slice H m s))
    (hL : Arr w w.heap.size L n (i64s lo)) (hH : Arr w w.heap.size H m (i64s hi)) (hi0 : i < n) (hi' : i < m) :
    Calls Try.prog 162 (#[.int .i64 i] ++ #[.pointer (some ⟨g, 0, none⟩)]) w fun e w' => e = .returned (.bool (decide (lo.getD i 0 ≤ hi.getD i 0))) ∧ ∃ nq, w.drewN nq = w' := by
  obtain ⟨b, off, rfl, hb, hc⟩ := hL (by omega)
  obtain ⟨b', off', rfl, hb', hc'⟩ := hH (by omega)
  have k1 := hc i hi0
  have k2 := hc' i hi'
  unfold i64s at k1 k2
  obtain ⟨x, ex⟩ : ∃ x, x = lo.getD i 0 := ⟨_, rfl⟩
  obtain ⟨y, ey⟩ : ∃ y, y = hi.getD i 0 := ⟨_, rfl⟩
  rw [← ex] at k1 ⊢
  rw [← ey] at k2 ⊢
  have i0 : (0 : Int) ≤ (i : Int) := by omega
  have i1 : (i : Int) < (n : Int) := by omega
  have i2 : (i : Int) < (m : Int) := by omega
  clear hc hc' hL hH ex ey
  go_enter Try.func162, Try.ntmps162
  go_wp2
  go_quiet (fail)
  go_wp2
  go_ret
  exact ⟨rfl, ⟨_, rfl⟩⟩

set_option maxHeartbeats 1000000 in
theorem right_any (L H : Option Addr) (lo hi : List Int) (dl sh : Nat) (d : Int) (w : World) (hL : Arr w w.heap.size L lo.length (i64s lo)) (hH : Arr w w.heap.size H hi.length (i64s hi)) :
    Calls Try.prog 95 #[.agg #[.slice L lo.length dl, .slice H hi.length sh], .int .i64 d] w fun e w' => e = .returned (.bool (rightB lo hi d)) ∧ Below w.heap.size w w' := by
  have HL := hideP hL; have HH := hideP hH
  clear hL hH
  by_cases h1 : 1 ≤ d
  case neg =>
    have hr := hideP (show rightB lo hi d = false by simp [rightB, h1])
    have t : decide (d < 1) = true := by simp; omega
    go_enter Try.func95, Try.ntmps95
    go_wp2
    go_ret
    exact ⟨by rw [hr.out]; rfl, below_new _ _⟩
  have t1 : decide (d < 1) = false := by simp; omega
  by_cases h2 : d ≤ 8
  case neg =>
    have hr := hideP (show rightB lo hi d = false by simp [rightB, h2])
    have t : decide (8 < d) = true := by simp; omega
    go_enter Try.func95, Try.ntmps95
    go_wp2
    go_ret
    exact ⟨by rw [hr.out]; rfl, below_new _ _⟩
  have t2 : decide (8 < d) = false := by simp; omega
  by_cases h3 : (lo.length : Int) = d
  case neg =>
    have hr := hideP (show rightB lo hi d = false by simp [rightB, h3])
    have t : ((lo.length : Int) != d) = true := by simp [h3]
    clear h3
    go_enter Try.func95, Try.ntmps95
    go_wp2
    go_ret
    exact ⟨by rw [hr.out]; rfl, below_new _ _⟩
  have t3 : ((lo.length : Int) != d) = false := by simp [h3]
  by_cases h4 : (hi.length : Int) = d
  case neg =>
    have hr := hideP (show rightB lo hi d = false by simp [rightB, h4])
    have t : ((hi.length : Int) != d) = true := by simp [h4]
    clear h3 h4
    go_enter Try.func95, Try.ntmps95
    go_wp2
    go_ret
    exact ⟨by rw [hr.out]; rfl, below_new _ _⟩
  have t4 : ((hi.length : Int) != d) = false := by simp [h4]
  obtain ⟨n, hn⟩ : ∃ n, n = lo.length := ⟨_, rfl⟩
  have hm : hi.length = n := by omega
  obtain rfl : d = n := by omega
  have hr := hideP (show rightB lo hi n = leAll lo hi n by unfold rightB; simp only [decide_true, Bool.true_and, hn ▸ h1, h2, ← hn, hm, decide_eq_true h1])
  have h8 : n ≤ 8 := by omega
  rw [hm] at HH t4 ⊢
  rw [← hn] at HL t3 ⊢
  clear h1 h2 h3 h4 hn hm
  go_enter Try.func95, Try.ntmps95
  go_wp2_with fail
  obtain ⟨w1, hw1⟩ : ∃ w1, w1 = w.alloc (Obj.cells #[.slice L n dl, .slice H n sh] 33) := ⟨_, rfl⟩
  have c1 := hideP (show Two w1 w.heap.size 33 (.slice L n dl) (.slice H n sh) by rw [hw1]; exact Two.new _ _ _ _)
  have cb := hideP (show Below w.heap.size w w1 by rw [hw1]; exact below_new _ _)
  rw [← hw1]
  clear hw1
  refine (all_any n _ 162 #[.pointer (some ⟨w.heap.size, 0, none⟩)] rfl (fun i => decide (lo.getD i 0 ≤ hi.getD i 0)) w1 (by omega) (run_enter Try.func162 rfl rfl) (fun i W hi hW => ?_)).mono ?_
  · exact right1 i _ L H _ _ n n dl sh W (c1.out.after hW).c0 (c1.out.after hW).c1 ((HL.out.after cb.out).after hW) ((HH.out.after cb.out).after hW) hi hi
  rintro e w2 ⟨rfl, hb⟩
  replace cb := hideP (bstep cb.out hb)
  clear hb
  go_wp2
  go_ret
  exact ⟨by rw [hr.out]; rfl, cb.out⟩
end Go.Proofs.Ytglmohcnmpbfmaa
namespace Go.Proofs.Ytglmohcnmpbfmaa
open Go.RowKit
theorem info_i64 : (Try.prog.info? 2).map (fun i => (i.zero, i.size, i.bytes)) = some (some (.int .i64 0), 1, 8) := by kernel_rfl
/-- a row of the call's own -/
def Own (w : World) (base : Nat) (R : Option Addr) (s : Nat) (l : List Int) : Prop := w.ownsRow base 2 1 (.slice R l.length s) l.length (l.map (Value.int .i64))
theorem map_i64s (l : List Int) : (List.range l.length).map (i64s l) = l.map (Value.int .i64) := by
  refine List.ext_getElem? fun i => ?_
  rcases Nat.lt_or_ge i l.length with h | h
  · simp [List.getElem?_map, List.getElem?_range h, i64s, List.getD, List.getElem?_eq_getElem h]
  · simp [h]
theorem Own.mono {w : World} {base base' : Nat} {R : Option Addr} {s : Nat} {l : List Int} (h : Own w base R s l) (hb : base' ≤ base) : Own w base' R s l :=
  ⟨h.1, h.2.imp id fun ⟨g, cap, cur, hv, hg, r⟩ => ⟨g, cap, cur, hv, Nat.le_trans hb hg, r⟩⟩
theorem Own.ext {w W : World} {base : Nat} {R : Option Addr} {s : Nat} {l : List Int} (h : Own w base R s l) (hW : Ext w W) : Own W base R s l := ownsRow_ext h hW

set_option maxRecDepth 100000 in
set_option maxHeartbeats 1000000 in
theorem clone_any (A : Option Addr) (l : List Int) (c : Nat) (w : World) (hA : Arr w w.heap.size A l.length (i64s l)) (hn : l.length ≤ 17592186043904) :
    Calls Try.prog 82 #[.slice A l.length c] w fun e w' => ∃ R s, e = .returned (.slice R l.length s) ∧ Below w.heap.size w w' ∧ Own w' w.heap.size R s l := by
  obtain ⟨i0, hi0, hz0, hz1, hz2⟩ := info_parts info_i64
  have qT : ∀ (w : World) (a : Option Addr) (n c n' c' : Nat), (binOp .eql 31 (.slice a n c) (.slice none n' c')).run Try.prog w = .ok (.bool a.isNone) w := fun w a n c n' c' => Lib.run_eql_slice_nil w _ _ a n c n' c' Try.underlying31
  rcases A with _ | ad
  · have h0 : l.length = 0 := by
      rcases Nat.eq_zero_or_pos l.length with h | h
      · exact h
      · obtain ⟨_, _, h, _⟩ := hA h; cases h
    obtain rfl : l = [] := List.length_eq_zero_iff.1 h0
    clear h0 hA
    go_enter Try.func82, Try.ntmps82
    go_wp2
    go_ret
    exact ⟨none, 0, rfl, Below.refl _ _, World.ownsRow_nil _ _ _ _⟩
  · have HA := hideP hA
    clear hA
    obtain ⟨n, hn'⟩ : ∃ n, n = l.length := ⟨_, rfl⟩
    have HN := hideP hn'
    rw [← hn'] at hn HA ⊢
    clear hn'
    go_enter Try.func82, Try.ntmps82
    have hown := World.ownsRow_lit (base := w.heap.size) (e := 2) (size := 1) w #[] 0 (Nat.le_refl _) (Nat.zero_le _) rfl
    have aA := HA.out.after (below_new w (Obj.cells #[] 2))
    have b1 : w.heap.size ≤ (w.alloc (Obj.cells #[] 2)).heap.size := by simp
    go_wp2_with (at_builtin; refine wpList_append_arr (w.alloc (Obj.cells #[] 2)) rfl (.tmp 5) (.tmp 6) 31 rfl w.heap.size 2 i0 _ 8 Try.underlying31 hi0 hz0 hz1 hz2 rfl (.slice (some ⟨w.heap.size, 0, none⟩) 0 0) 0 _ rfl hown _ (some ad) n c (i64s l) rfl aA (fun _ => rfl) (by unfold maxLen; omega) (by omega) b1 ?_; intro A3 c3 w3 hown3 hg3 hat3)
    go_ret
    refine ⟨A3, c3, rfl, (below_new _ _).trans (below_own hown hg3 (Nat.le_refl _) b1), ?_⟩
    unfold Own
    rw [← HN.out, ← map_i64s, ← HN.out]
    simpa using hown3
theorem own_setCell {w : World} {base : Nat} {R : Option Addr} {s : Nat} {l : List Int} {a : Addr} (h : Own w base R s l) (ha : a.block < base) (v : Value) : Own (w.setCell a v) base R s l := by
  refine ⟨h.1, h.2.imp id ?_⟩
  rintro ⟨g, cap, cur, hv, hg, hh, r⟩
  exact ⟨g, cap, cur, hv, hg, (Below.heap_setCell _ _ _ _ (by omega)).trans hh, r⟩
theorem sep_fresh {W W2 : World} {base : Nat} {R R' : Option Addr} {s s' : Nat} {l l' : List Int} (h1 : Own W base R s l) (h2 : Own W2 W.heap.size R' s' l') : Sep (.slice R' l'.length s') (.slice R l.length s) := by
  unfold Sep
  rcases hb : (Value.slice R' l'.length s').ownBlock with _ | b
  · exact .inl rfl
  · right
    have h3 := (World.ownsRow.lt h2 b hb).1
    intro hh
    have := (World.ownsRow.lt h1 b hh.symm).2
    omega

/-- the end of a function whose one result is a box in a variable -/
theorem ret_box {fn : Func} {p : Tmp} {a : Act} {w : World} {R : Ending → World → Prop} (h : fn.results = #[.cell p 33]) {g : Nat} {x y : Value}
    (hp : a.tmps.getD p undef = .pointer (some ⟨g, 0, none⟩)) (hg : w.heap[g]? = some (.cells #[x, y] 33 (0, 0))) (hd : a.defers = []) (hR : R (.returned (.agg #[x, y])) w) : bodyPost Try.prog fn R .ret a w :=
  bodyPost_ret (results_cell_row h _ w g 33 #[x, y] (0, 0) _ hp hg Try.underlying33 rfl (by kernel_rfl)) hd hR

set_option maxRecDepth 100000 in
set_option maxHeartbeats 1000000 in
theorem copied_any (L H : Option Addr) (lo hi : List Int) (dl sh : Nat) (w : World) (hL : Arr w w.heap.size L lo.length (i64s lo)) (hH : Arr w w.heap.size H hi.length (i64s hi)) (hn : lo.length ≤ 17592186043904) (hm : hi.length ≤ 17592186043904) :
    Calls Try.prog 150 #[.agg #[.slice L lo.length dl, .slice H hi.length sh]] w fun e w' => ∃ R s R' s', e = .returned (.agg #[.slice R lo.length s, .slice R' hi.length s']) ∧ Below w.heap.size w w' ∧ Own w' w.heap.size R s lo ∧ Own w' w.heap.size R' s' hi ∧ Sep (.slice R lo.length s) (.slice R' hi.length s') := by
  have t1 := fun W h => clone_any L lo dl W h hn
  have t2 := fun W h => clone_any H hi sh W h hm
  obtain ⟨n, hn'⟩ : ∃ n, n = lo.length := ⟨_, rfl⟩
  obtain ⟨m, hm'⟩ : ∃ n, n = hi.length := ⟨_, rfl⟩
  have HN := hideP hn'; have HM := hideP hm'
  rw [← hn'] at hn hL t1 ⊢
  rw [← hm'] at hm hH t2 ⊢
  clear hn' hm'
  have HhL := hideP hL; have HhH := hideP hH; have Ht1 := hideP t1; have Ht2 := hideP t2; clear hL hH t1 t2
  go_enter Try.func150, Try.ntmps150
  go_wp2
  obtain ⟨w1, hw1⟩ : ∃ w1, w1 = (w.alloc (Obj.cells #[.slice L n dl, .slice H m sh] 33)).alloc (Obj.cells #[.slice none 0 0, .slice none 0 0] 33) := ⟨_, rfl⟩
  have c1 := hideP (show Two w1 w.heap.size 33 (.slice L n dl) (.slice H m sh) by rw [hw1]; exact (Two.new _ _ _ _).alloc _)
  have c2 := hideP (show Two w1 (w.heap.size + 1) 33 (.slice none 0 0) (.slice none 0 0) by rw [hw1]; exact Two.new' _ _ _ _ _ (by simp))
  have cb := hideP (show Below w.heap.size w w1 by rw [hw1]; exact (below_new _ _).alloc (by simp) _)
  rw [← hw1]
  clear hw1
  have kc10 := c1.out.c0; have kc11 := c1.out.c1
  refine wp_region_fork 7 (.q 0 (.q 1 (.q 3 (.q 4 (.l 2 (.l 5 (.q 6 .nil))))))) (by kernel_rfl) (by kernel_rfl) ?_
  simp only [pickT, nthO_zero, nthO_succ]
  iterate 4 (refine wpT_valK (by rfl) (fun K hK => ?_); apply Exists.intro; refine ⟨fun W hW => ?_, ?_⟩; (focus (have hs0 := hW.cell kc10; have hs1 := hW.cell kc11; go_simp; (try rfl); done)); go_simp; refine hK _ ?_; clear hK K)
  refine wpT_loudK 82 #[.slice L n dl] (by rfl) (fun W => by go_simp) (fun W hW => (Ht1.out W (HhL.out.after (below_ext cb.out hW.drew_left))).mono ?_)
  rintro e w2 ⟨R, s, rfl, hb, hown⟩
  refine ⟨_, rfl, Ext.of_below hb, fun K hK => ?_⟩
  go_simp
  refine hK _ ?_
  clear hK K
  have c3 := hideP ((c2.out.ext hW.drew_left).after hb)
  have cb2 := hideP (bstep (below_ext cb.out hW.drew_left) hb)
  have o1 := hideP hown
  have s1 := hideP (c2.out.ext hW.drew_left).lt
  clear hb hown hW c1 c2 cb kc10 kc11 w1
  refine wpT_loudK 82 #[.slice H m sh] (by rfl) (fun W => by go_simp) (fun W2 hW => (Ht2.out W2 (HhH.out.after (below_ext cb2.out hW))).mono ?_)
  rintro e w3 ⟨R', s', rfl, hb, hown⟩
  refine ⟨_, rfl, Ext.of_below hb, fun K hK => ?_⟩
  go_simp
  refine hK _ ?_
  clear hK K
  have o2 := hideP hown
  have s2 := hideP (c3.out.ext hW).lt
  replace c3 := hideP ((c3.out.ext hW).after hb)
  replace cb2 := hideP (bstep (below_ext cb2.out hW) hb)
  have o1' := hideP (o1.out.ext hW)
  have sp := hideP (sep_fresh o1'.out o2.out)
  replace o1 := hideP (o1'.out.ext (Ext.of_below hb))
  clear hb hown hW o1'
  refine wpT_valK (by rfl) (fun K hK => ?_); apply Exists.intro; refine ⟨fun W hW => ?_, ?_⟩; (focus (go_simp; (try rfl); done)); go_simp; refine hK _ ?_; clear hK K
  refine wpT_nil (fun W3 hW => ?_)
  simp only [List.drop_succ_cons, List.drop_zero, List.drop_nil]
  replace o1 := hideP (o1.out.ext hW)
  replace o2 := hideP (o2.out.ext hW)
  replace c3 := hideP (c3.out.ext hW)
  replace cb2 := hideP (below_ext cb2.out hW)
  clear hW
  have f0 := c3.out.fz 0
  have f1 := c3.out.fz 1
  have kc30 := c3.out.c0; have kc31 := c3.out.c1
  go_wp2
  refine ret_box rfl rfl (c3.out.set2 _ _) rfl ?_
  have h1 := s1.out
  have h2 := s2.out
  refine ⟨R, s, R', s', rfl, (cb2.out.setCell (p := ⟨w.heap.size + 1, 0, none⟩) (by simp) _).setCell (p := ⟨w.heap.size + 1, 1, none⟩) (by simp) _, ?_, ?_, ?_⟩
  · exact (own_setCell (own_setCell o1.out (by simp; omega) _) (by simp; omega) _).mono (by omega)
  · exact (own_setCell (own_setCell o2.out (by simp; omega) _) (by simp; omega) _).mono (by omega)
  · rw [HN.out, HM.out]; exact sp.out.symm
end Go.Proofs.Ytglmohcnmpbfmaa
namespace Go.Proofs.Ytglmohcnmpbfmaa
open Go.RowKit

def bothB (alo ahi blo bhi : List Int) : Bool := rightB alo ahi alo.length && rightB blo bhi alo.length
set_option maxHeartbeats 1000000 in
theorem both_any (L H L' H' : Option Addr) (lo hi lo' hi' : List Int) (dl sh dl' sh' : Nat) (w : World) (hL : Arr w w.heap.size L lo.length (i64s lo)) (hH : Arr w w.heap.size H hi.length (i64s hi))
    (hL' : Arr w w.heap.size L' lo'.length (i64s lo')) (hH' : Arr w w.heap.size H' hi'.length (i64s hi')) :
    Calls Try.prog 165 #[.agg #[.slice L lo.length dl, .slice H hi.length sh], .agg #[.slice L' lo'.length dl', .slice H' hi'.length sh']] w fun e w' => e = .returned (.bool (bothB lo hi lo' hi')) ∧ Below w.heap.size w w' := by
  have t1 := fun W h h' => right_any L H lo hi dl sh lo.length W h h'
  have t2 := fun W h h' => right_any L' H' lo' hi' dl' sh' lo.length W h h'
  obtain ⟨p, hp⟩ : ∃ p, p = rightB lo hi lo.length := ⟨_, rfl⟩
  obtain ⟨q, hq⟩ : ∃ p, p = rightB lo' hi' lo.length := ⟨_, rfl⟩
  have hb := hideP (show bothB lo hi lo' hi' = (p && q) by unfold bothB; rw [hp, hq])
  rw [← hp] at t1
  rw [← hq] at t2
  clear hp hq
  have Ht1 := hideP t1; have Ht2 := hideP t2; have HhL := hideP hL; have HhH := hideP hH; have HhL' := hideP hL'; have HhH' := hideP hH'; clear t1 t2 hL hH hL' hH'
  go_enter Try.func165, Try.ntmps165
  go_wp2_with fail
  obtain ⟨w1, hw1⟩ : ∃ w1, w1 = (w.alloc (Obj.cells #[.slice L lo.length dl, .slice H hi.length sh] 33)).alloc (Obj.cells #[.slice L' lo'.length dl', .slice H' hi'.length sh'] 33) := ⟨_, rfl⟩
  have c1 := hideP (show Two w1 w.heap.size 33 (.slice L lo.length dl) (.slice H hi.length sh) by rw [hw1]; exact (Two.new _ _ _ _).alloc _)
  have c2 := hideP (show Two w1 (w.heap.size + 1) 33 (.slice L' lo'.length dl') (.slice H' hi'.length sh') by rw [hw1]; exact Two.new' _ _ _ _ _ (by simp))
  have cb := hideP (show Below w.heap.size w w1 by rw [hw1]; exact (below_new _ _).alloc (by simp) _)
  rw [← hw1]
  clear hw1
  refine (Ht1.out w1 (HhL.out.after cb.out) (HhH.out.after cb.out)).mono ?_
  rintro e w2 ⟨rfl, hb'⟩
  replace c1 := hideP (c1.out.after hb')
  replace c2 := hideP (c2.out.after hb')
  replace cb := hideP (bstep cb.out hb')
  clear hb'
  cases p
  · go_wp2
    go_ret
    exact ⟨by rw [hb.out]; rfl, cb.out⟩
  · skip
    have kc10 := c1.out.c0; have kc11 := c1.out.c1
    have kc20 := c2.out.c0; have kc21 := c2.out.c1
    go_wp2_with fail
    refine (Ht2.out w2 (HhL'.out.after cb.out) (HhH'.out.after cb.out)).mono ?_
    rintro e w3 ⟨rfl, hb'⟩
    clear kc10 kc11 kc20 kc21
    replace cb := hideP (bstep cb.out hb')
    clear hb'
    go_wp2
    go_ret
    exact ⟨by rw [hb.out]; rfl, cb.out⟩

def meetsB (alo ahi blo bhi : List Int) : Bool := bothB alo ahi blo bhi && (List.range alo.length).all fun i => decide (alo.getD i 0 ≤ bhi.getD i 0) && decide (blo.getD i 0 ≤ ahi.getD i 0)
theorem meets1 (i : Nat) (g g' : Nat) (L H L' H' : Option Addr) (lo hi lo' hi' : List Int) (n dl sh dl' sh' : Nat) (w : World) (h1 : w.cell? ⟨g, 0, none⟩ = some (.slice L n dl)) (h2 : w.cell? ⟨g, 1, none⟩ = some (.slice H n sh))
    (h1' : w.cell? ⟨g', 0, none⟩ = some (.slice L' n dl')) (h2' : w.cell? ⟨g', 1, none⟩ = some (.slice H' n sh'))
    (hL : Arr w w.heap.size L n (i64s lo)) (hH : Arr w w.heap.size H n (i64s hi)) (hL' : Arr w w.heap.size L' n (i64s lo')) (hH' : Arr w w.heap.size H' n (i64s hi')) (hi0 : i < n) :
    Calls Try.prog 166 (#[.int .i64 i] ++ #[.pointer (some ⟨g, 0, none⟩), .pointer (some ⟨g', 0, none⟩)]) w fun e w' => e = .returned (.bool (decide (lo.getD i 0 ≤ hi'.getD i 0) && decide (lo'.getD i 0 ≤ hi.getD i 0))) ∧ ∃ nq, w.drewN nq = w' := by
  obtain ⟨b, off, rfl, hb, hc⟩ := hL (by omega)
  obtain ⟨b', off', rfl, hb', hc'⟩ := hH (by omega)
  obtain ⟨b1, off1, rfl, hb1, hc1⟩ := hL' (by omega)
  obtain ⟨b2, off2, rfl, hb2, hc2⟩ := hH' (by omega)
  have k1 := hc i hi0
  have k2 := hc' i hi0
  have k3 := hc1 i hi0
  have k4 := hc2 i hi0
  unfold i64s at k1 k2 k3 k4
  obtain ⟨x, ex⟩ : ∃ x, x = lo.getD i 0 := ⟨_, rfl⟩
  obtain ⟨y, ey⟩ : ∃ y, y = hi'.getD i 0 := ⟨_, rfl⟩
  obtain ⟨u, eu⟩ : ∃ x, x = lo'.getD i 0 := ⟨_, rfl⟩
  obtain ⟨v, ev⟩ : ∃ y, y = hi.getD i 0 := ⟨_, rfl⟩
  rw [← ex] at k1 ⊢
  rw [← ev] at k2 ⊢
  rw [← eu] at k3 ⊢
  rw [← ey] at k4 ⊢
  have i0 : (0 : Int) ≤ (i : Int) := by omega
  have i1 : (i : Int) < (n : Int) := by omega
  clear hc hc' hc1 hc2 hL hH hL' hH' ex ey eu ev
  by_cases hxy : x ≤ y
  · have t : decide (x ≤ y) = true := by simp [hxy]
    rw [t]
    clear hxy
    go_enter Try.func166, Try.ntmps166
    go_wp2
    go_quiet (fail)
    go_wp2
    go_ret
    exact ⟨by simp, ⟨_, rfl⟩⟩
  · have t : decide (x ≤ y) = false := by simp; omega
    rw [t]
    clear hxy
    go_enter Try.func166, Try.ntmps166
    go_wp2
    go_quiet (fail)
    go_wp2
    go_ret
    exact ⟨by simp, ⟨_, rfl⟩⟩


set_option maxHeartbeats 1000000 in
theorem meets_any (L H L' H' : Option Addr) (lo hi lo' hi' : List Int) (dl sh dl' sh' : Nat) (w : World) (hL : Arr w w.heap.size L lo.length (i64s lo)) (hH : Arr w w.heap.size H hi.length (i64s hi))
    (hL' : Arr w w.heap.size L' lo'.length (i64s lo')) (hH' : Arr w w.heap.size H' hi'.length (i64s hi')) :
    Calls Try.prog 102 #[.agg #[.slice L lo.length dl, .slice H hi.length sh], .agg #[.slice L' lo'.length dl', .slice H' hi'.length sh']] w fun e w' => e = .returned (.bool (meetsB lo hi lo' hi')) ∧ Below w.heap.size w w' := by
  have t1 := fun W h h' h'' h3 => both_any L H L' H' lo hi lo' hi' dl sh dl' sh' W h h' h'' h3
  have hfacts : bothB lo hi lo' hi' = true → lo.length ≤ 8 ∧ hi.length = lo.length ∧ lo'.length = lo.length ∧ hi'.length = lo.length := fun h => by
    unfold bothB at h
    simp only [Bool.and_eq_true] at h
    have h1 := rightB_len h.1
    have h2 := rightB_len h.2
    omega
  obtain ⟨p, hp⟩ : ∃ p, p = bothB lo hi lo' hi' := ⟨_, rfl⟩
  have hb := hideP (show meetsB lo hi lo' hi' = (p && (List.range lo.length).all fun i => decide (lo.getD i 0 ≤ hi'.getD i 0) && decide (lo'.getD i 0 ≤ hi.getD i 0)) by unfold meetsB; rw [hp])
  rw [← hp] at t1 hfacts
  clear hp
  have HF := hideP hfacts
  clear hfacts
  have Ht1 := hideP t1; have HhL := hideP hL; have HhH := hideP hH; have HhL' := hideP hL'; have HhH' := hideP hH'; clear t1 hL hH hL' hH'
  go_enter Try.func102, Try.ntmps102
  go_wp2_with fail
  obtain ⟨w1, hw1⟩ : ∃ w1, w1 = (w.alloc (Obj.cells #[.slice L lo.length dl, .slice H hi.length sh] 33)).alloc (Obj.cells #[.slice L' lo'.length dl', .slice H' hi'.length sh'] 33) := ⟨_, rfl⟩
  have c1 := hideP (show Two w1 w.heap.size 33 (.slice L lo.length dl) (.slice H hi.length sh) by rw [hw1]; exact (Two.new _ _ _ _).alloc _)
  have c2 := hideP (show Two w1 (w.heap.size + 1) 33 (.slice L' lo'.length dl') (.slice H' hi'.length sh') by rw [hw1]; exact Two.new' _ _ _ _ _ (by simp))
  have cb := hideP (show Below w.heap.size w w1 by rw [hw1]; exact (below_new _ _).alloc (by simp) _)
  rw [← hw1]
  clear hw1
  refine (Ht1.out w1 (HhL.out.after cb.out) (HhH.out.after cb.out) (HhL'.out.after cb.out) (HhH'.out.after cb.out)).mono ?_
  rintro e w2 ⟨rfl, hb'⟩
  replace c1 := hideP (c1.out.after hb')
  replace c2 := hideP (c2.out.after hb')
  replace cb := hideP (bstep cb.out hb')
  clear hb'
  cases p
  · go_wp2
    go_ret
    exact ⟨by rw [hb.out]; rfl, cb.out⟩
  · obtain ⟨h8, e1, e2, e3⟩ := HF.out rfl
    obtain ⟨n, hn⟩ : ∃ n, n = lo.length := ⟨_, rfl⟩
    rw [← hn] at h8 e1 e2 e3 hb HhL c1
    rw [e1] at HhH c1
    rw [e2] at HhL' c2
    rw [e3] at HhH' c2
    rw [e1, e2, e3, ← hn]
    clear e1 e2 e3 hn HF
    have kc10 := c1.out.c0; have kc11 := c1.out.c1
    have kc20 := c2.out.c0; have kc21 := c2.out.c1
    go_wp2_with fail
    refine (all_any n _ 166 #[.pointer (some ⟨w.heap.size, 0, none⟩), .pointer (some ⟨w.heap.size + 1, 0, none⟩)] rfl (fun i => decide (lo.getD i 0 ≤ hi'.getD i 0) && decide (lo'.getD i 0 ≤ hi.getD i 0)) w2 (by omega) (run_enter Try.func166 rfl rfl) (fun i W hi hW => ?_)).mono ?_
    · exact meets1 i _ _ L H L' H' _ _ _ _ n dl sh dl' sh' W (c1.out.after hW).c0 (c1.out.after hW).c1 (c2.out.after hW).c0 (c2.out.after hW).c1 ((HhL.out.after cb.out).after hW) ((HhH.out.after cb.out).after hW) ((HhL'.out.after cb.out).after hW) ((HhH'.out.after cb.out).after hW) hi
    rintro e w3 ⟨rfl, hb'⟩
    clear kc10 kc11 kc20 kc21
    replace cb := hideP (bstep cb.out hb')
    clear hb'
    go_wp2
    go_ret
    exact ⟨by rw [hb.out]; rfl, cb.out⟩
end Go.Proofs.Ytglmohcnmpbfmaa
namespace Go.Proofs.Ytglmohcnmpbfmaa
open Go.RowKit

/-- all that w holds W holds too, but in blocks of S -/
structure But (S : Nat → Prop) (w W : World) : Prop where
  size : w.heap.size ≤ W.heap.size
  block : ∀ k, k < w.heap.size → ¬ S k → W.heap[k]? = w.heap[k]?
  os : W.os = w.os
  tape : W.tape = w.tape
  output : W.output = w.output
theorem But.refl {S : Nat → Prop} (w : World) : But S w w := ⟨Nat.le_refl _, fun _ _ _ => rfl, rfl, rfl, rfl⟩
theorem But.trans {S : Nat → Prop} {a b c : World} (h : But S a b) (k : But S b c) : But S a c :=
  ⟨Nat.le_trans h.size k.size, fun i hi hs => (k.block i (Nat.lt_of_lt_of_le hi h.size) hs).trans (h.block i hi hs), k.os.trans h.os, k.tape.trans h.tape, k.output.trans h.output⟩
theorem But.of_ext {S : Nat → Prop} {w W : World} (h : Ext w W) : But S w W := ⟨h.size, fun k hk _ => h.block k hk, h.os, h.tape, h.output⟩
theorem But.drew_left {S : Nat → Prop} {w W : World} (h : But S w.drew W) : But S w W := ⟨h.size, h.block, h.os, h.tape, h.output⟩
theorem But.cell {S : Nat → Prop} {w W : World} (h : But S w W) {p : Addr} {v : Value} (hc : w.cell? p = some v) (hs : ¬ S p.block) : W.cell? p = some v :=
  (World.cell?_of_block (w := w) (h.block p.block (World.block_lt_of_cell? w p hc) hs)).trans hc
theorem But.set {S : Nat → Prop} (w : World) (a : Addr) (v : Value) (hs : S a.block) : But S w (w.setCell a v) :=
  ⟨by simp, fun k _ hk => Below.heap_setCell _ _ _ _ (fun e => hk (e ▸ hs)), rfl, rfl, rfl⟩

section
variable {P : Program} {ops : Array Oper} {md : Region.Mode} {S : Nat → Prop}

/-- operation i comes up; it leaves all memory that was there as it was -/
def mOp (S : Nat → Prop) (P : Program) (ops : Array Oper) (i : Nat) (K : Act → World → Prop) (a : Act) (w : World) : Prop :=
  match ops[i]? with
  | none => K a w
  | some o => if Region.wanted o (yielded ops a.tmps) then o.wp P a w (fun a' w' => But S w w' ∧ K a' w') QF else K (a.put o.dst undef) w

theorem mOp_mono {i : Nat} {a : Act} {w : World} {K K' : Act → World → Prop} (h : ∀ a w, K a w → K' a w) (hh : mOp S P ops i K a w) : mOp S P ops i K' a w := by
  unfold mOp at *
  split
  · exact h _ _ (by simpa [*] using hh)
  · rename_i o ho
    simp only [ho] at hh
    split
    · rename_i hw; simp only [hw, if_true] at hh; exact Oper.wp_mono (fun a w h2 => ⟨h2.1, h _ _ h2.2⟩) hh
    · rename_i hw; simp only [hw] at hh; exact h _ _ hh

theorem wpOp_of_mOp {Q : Exit → Act → World → Prop} {i : Nat} {a : Act} {w : World} {K K' : Act → World → Prop} (h : ∀ a w, K a w → K' a w) (hh : mOp S P ops i K a w) : wpOp P ops Q i K' a w := by
  unfold mOp at hh
  unfold wpOp
  split
  · rename_i ho; simp only [ho] at hh; exact h _ _ hh
  · rename_i o ho
    simp only [ho] at hh
    split
    · rename_i hw; simp only [hw, if_true] at hh; exact .inl (Oper.wp_mono (fun a w h2 => h _ _ h2.2) (Oper.wp_toQ hh))
    · rename_i hw; simp only [hw] at hh; exact h _ _ hh

def MSil (S : Nat → Prop) (P : Program) (ops : Array Oper) (o : Oper) (v : Value) (a : Act) (w : World) : Prop :=
  (Region.wanted o (yielded ops a.tmps) = true ∧ ∀ W, But S w W → qUpon P W v ((execOp a.eval o).run P W)) ∨ (Region.wanted o (yielded ops a.tmps) = false ∧ v = undef)

theorem MSil.later {o : Oper} {v : Value} {a : Act} {w w' : World} (h : MSil S P ops o v a w) (hw : But S w w') : MSil S P ops o v a w' :=
  h.imp (fun ⟨h1, h2⟩ => ⟨h1, fun W hW => h2 W (hw.trans hW)⟩) id
theorem MSil.of_same {o : Oper} {v : Value} {a a' : Act} {w : World} (h : MSil S P ops o v a w) (he : execOp a'.eval o = execOp a.eval o)
    (hw : Region.wanted o (yielded ops a'.tmps) = Region.wanted o (yielded ops a.tmps)) : MSil S P ops o v a' w := by
  unfold MSil at *
  rw [he, hw]
  exact h

theorem MSil.mOp {i : Nat} {o : Oper} {v : Value} {a : Act} {w : World} (hi : ops[i]? = some o) (hy : MSil S P ops o v a w) {K : Act → World → Prop} (h : ∀ w', Ext w w' → K (a.put o.dst v) w') : mOp S P ops i K a w := by
  unfold Go.Proofs.Ytglmohcnmpbfmaa.mOp
  simp only [hi]
  rcases hy with ⟨hw, hv⟩ | ⟨hw, rfl⟩
  · have h0 := hv w (But.refl w)
    simp only [hw, if_true, Oper.wp]
    generalize (execOp a.eval o).run P w = r at h0
    cases r with
    | ok n w' =>
      cases n <;> simp only [qUpon] at h0 <;> simp only [Oper.upon]
      case value u => obtain ⟨rfl, rfl⟩ := h0; exact ⟨But.refl _, h _ (Ext.refl _)⟩
      case skip => obtain ⟨rfl, rfl⟩ := h0; exact ⟨But.refl _, h _ (Ext.refl _)⟩
      case enter f args =>
        obtain ⟨rfl, hc⟩ := h0
        exact hc.mono fun e w2 ⟨he, hx⟩ => by subst he; exact ⟨But.of_ext hx, h _ hx⟩
    | halt x w' => simp only [qUpon] at h0
  · simp only [hw, Bool.false_eq_true, if_false]
    exact h _ (Ext.refl _)

theorem mOp_put {j : Nat} {oi oj : Oper} {v : Value} (hj : ops[j]? = some oj) (hap : oi.apart ops oj = true) (hsi : ∀ cs b, oi.op ≠ .select cs b) (hsj : ∀ cs b, oj.op ≠ .select cs b)
    {K : Act → World → Prop} {a : Act} {w : World} (hy : MSil S P ops oi v a w) (h : mOp S P ops j K (a.put oi.dst v) w) :
    mOp S P ops j (fun a' w' => MSil S P ops oi v a' w' ∧ K (a'.put oi.dst v) w') a w := by
  obtain ⟨h1, h2, h3⟩ := Oper.apart_spec hap
  have keep : ∀ (a : Act) (w : World), MSil S P ops oi v a w → ∀ u, MSil S P ops oi v (a.put oj.dst u) w := fun a w hy u =>
    hy.of_same (execOp_put oi hsi a oj.dst u h3) (wanted_put oi a oj.dst u h3)
  unfold mOp at *
  simp only [hj] at *
  rw [wanted_put oj a oi.dst v h1] at h
  split
  · rename_i hw
    simp only [hw, if_true] at h
    unfold Oper.wp at *
    rw [execOp_put oj hsj a oi.dst v h1] at h
    generalize (execOp a.eval oj).run P w = r at *
    cases r with
    | ok n w' =>
      cases n <;> simp only [Oper.upon] at h ⊢
      case value u => exact ⟨h.1, keep a w' (hy.later h.1) u, by rw [← Act.put_comm a v u h2]; exact h.2⟩
      case skip => exact ⟨h.1, keep a w' (hy.later h.1) undef, by rw [← Act.put_comm a v undef h2]; exact h.2⟩
      case defer d =>
        have hd : MSil S P ops oi v ({ a with defers := d :: a.defers } : Act) w' := (hy.later h.1).of_same rfl rfl
        refine ⟨h.1, keep _ w' hd undef, ?_⟩
        have h4 := h.2
        rw [defers_put, put_defers, Act.put_comm _ v undef h2] at h4
        exact h4
      case enter f args =>
        exact Calls.mono h fun e w2 he => by
          cases e with
          | returned u => exact ⟨he.1, keep a w2 (hy.later he.1) u, by rw [← Act.put_comm a v u h2]; exact he.2⟩
          | panicked c => exact he
          | outgrown => exact he
      case row row args =>
        exact Rows.mono h fun u w2 he => ⟨he.1, keep a w2 (hy.later he.1) u, by rw [← Act.put_comm a v u h2]; exact he.2⟩
      all_goals exact h
    | halt x w' => cases x <;> simp only [Oper.upon] at h ⊢ <;> exact h
  · rename_i hw
    simp only [hw] at h
    exact ⟨keep a w hy _, by rw [← Act.put_comm a v undef h2]; exact h⟩

/-- whatever comes up, of the first n operations; in every world that may have come about -/
def wpML (S : Nat → Prop) (P : Program) (md : Region.Mode) (ops : Array Oper) (n : Nat) (L : Array Bool → Act → World → Prop) : Nat → Array Bool → Act → World → Prop
  | 0, listed, a, w => ∀ W, Ext w W → L listed a W
  | f + 1, listed, a, w => Region.ready md ops listed ≠ [] ∧ ∀ i ∈ Region.ready md ops listed, i < n ∧ ∀ W, Ext w W → mOp S P ops i (wpML S P md ops n L f (listed.setIfInBounds i true)) a W

theorem wpML_later {n : Nat} {L : Array Bool → Act → World → Prop} : ∀ {f : Nat} {listed : Array Bool} {a : Act} {w w' : World}, wpML S P md ops n L f listed a w → Ext w w' → wpML S P md ops n L f listed a w'
  | 0, _, _, _, _, h, hw => fun W hW => h W (hw.trans hW)
  | _ + 1, _, _, _, _, h, hw => ⟨h.1, fun i hi => ⟨(h.2 i hi).1, fun W hW => (h.2 i hi).2 W (hw.trans hW)⟩⟩

theorem wpAny_of_ML {n g : Nat} {L : Array Bool → Act → World → Prop} {Q : Exit → Act → World → Prop} (hL : ∀ listed a w, L listed a w → wpAny P md ops Q g listed a w) :
    ∀ (f : Nat) (listed : Array Bool) (a : Act) (w : World), wpML S P md ops n L f listed a w → wpAny P md ops Q (f + g) listed a w
  | 0, listed, a, w, h => by rw [Nat.zero_add]; exact hL _ _ _ (h w (Ext.refl w))
  | f + 1, listed, a, w, h => by
    rw [show f + 1 + g = (f + g) + 1 by omega]
    exact ⟨fun h0 => absurd h0 h.1, fun i hi => wpOp_of_mOp (fun a' w' h' => wpAny_of_ML hL f _ a' w' h') ((h.2 i hi).2 w (Ext.refl w))⟩

theorem wpML_first {n i : Nat} {oi : Oper} {v : Value} {L : Array Bool → Act → World → Prop} (hi : ops[i]? = some oi) (hsel : ∀ (j : Nat) (o : Oper) cs b, ops[j]? = some o → o.op ≠ .select cs b)
    (hjn : ∀ listed, HeadInv md ops n listed → listed.getD i true = false → ∀ j ∈ Region.ready md ops listed, j < n) (hin : i < n)
    (hdone : ∀ listed a w, L listed a w → ∀ j ∈ Region.ready md ops listed, n ≤ j) :
    ∀ (f : Nat) (listed : Array Bool) (a : Act) (w : World), HeadInv md ops n listed →
      (∀ j oj, ops[j]? = some oj → j ≠ i → listed.getD j true = false → (∀ e ∈ oj.after, Region.binds md e = true → e.on ≠ i) → oi.apart ops oj = true) →
      i ∈ Region.ready md ops listed → MSil S P ops oi v a w →
      wpML S P md ops n L f (listed.setIfInBounds i true) (a.put oi.dst v) w → wpML S P md ops n L (f + 1) listed a w := by
  intro f
  induction f with
  | zero =>
    intro listed a w inv _ hr hy H
    have hun := (mem_ready.1 hr).1
    refine ⟨fun h => (by rw [h] at hr; cases hr), fun j hj => ?_⟩
    have hjn' := hjn listed inv hun j hj
    refine ⟨hjn', fun W hW => ?_⟩
    by_cases hji : j = i
    · subst hji
      exact (hy.later (But.of_ext hW)).mOp hi fun w' hw' W' hW' => H W' ((hW.trans hw').trans hW')
    · have := hdone _ _ _ (H w (Ext.refl w)) j (ready_mono hj hji)
      omega
  | succ f ih =>
    intro listed a w inv hfree hr hy H
    have hun := (mem_ready.1 hr).1
    refine ⟨fun h => (by rw [h] at hr; cases hr), fun j hj => ?_⟩
    have hjn' := hjn listed inv hun j hj
    refine ⟨hjn', fun W hW => ?_⟩
    by_cases hji : j = i
    · subst hji
      exact (hy.later (But.of_ext hW)).mOp hi fun w' hw' => wpML_later H (hW.trans hw')
    · have h1 := (H.2 j (ready_mono hj hji)).2 W hW
      obtain ⟨hjun, oj, hoj, hall⟩ := mem_ready.1 hj
      have hnot : ∀ e ∈ oj.after, Region.binds md e = true → e.on ≠ i := fun e he hb heq => by
        have h1 := hall e he hb
        rw [heq] at h1
        rcases Nat.lt_or_ge i listed.size with h' | h'
        · simp [h'] at hun h1; rw [hun] at h1; cases h1
        · simp [Array.getElem?_eq_none h'] at h1
      have h2 := mOp_put hoj (hfree j oj hoj hji hjun hnot) (fun cs b => hsel i oi cs b hi) (fun cs b => hsel j oj cs b hoj) (hy.later (But.of_ext hW)) h1
      have hfree' : ∀ k ok, ops[k]? = some ok → k ≠ i → (listed.setIfInBounds j true).getD k true = false →
          (∀ e ∈ ok.after, Region.binds md e = true → e.on ≠ i) → oi.apart ops ok = true := fun k ok hk hki hun' hno => by
        refine hfree k ok hk hki ?_ hno
        by_cases hjk : j = k
        · subst hjk; exact hjun
        · rw [getD_set_ne true hjk] at hun'; exact hun'
      refine mOp_mono (fun a' w' h3 => ih (listed.setIfInBounds j true) a' w' (inv.set hj hjn') hfree' (ready_mono hr (Ne.symm hji)) h3.1 ?_) h2
      rw [Array.setIfInBounds_comm _ _ hji]
      exact h3.2

def wpM (S : Nat → Prop) (P : Program) (ops : Array Oper) (Lq : Act → World → Prop) : TO → Act → World → Prop
  | .nil, a, w => ∀ W, Ext w W → Lq a W
  | .q o t, a, w => if Region.wanted o (yielded ops a.tmps) then ∃ v, (∀ W, But S w W → qUpon P W v ((execOp a.eval o).run P W)) ∧ Held (wpM S P ops Lq t (a.put o.dst v) w) else Held (wpM S P ops Lq t (a.put o.dst undef) w)
  | .l o t, a, w => ∀ W, Ext w W → if Region.wanted o (yielded ops a.tmps) then o.wp P a W (fun a' w' => But S W w' ∧ wpM S P ops Lq t a' w') QF else Held (wpM S P ops Lq t (a.put o.dst undef) W)
  | .alt t u, a, w => Held (wpM S P ops Lq t a w) ∧ Held (wpM S P ops Lq u a w)

theorem wpML_of_tree {S : Nat → Prop} {l : List Oper} {n g : Nat} {Lq : Act → World → Prop} (hsel : Region.noSelect l.toArray = true)
    (hjn : ∀ i, i < n → ∀ listed, HeadInv md l.toArray n listed → listed.getD i true = false → ∀ j ∈ Region.ready md l.toArray listed, j < n)
    (hdone : ∀ listed, planB md l.toArray n g [] listed = true → ∀ j ∈ Region.ready md l.toArray listed, n ≤ j) :
    ∀ (t : Tr) (f : Nat) (listed : Array Bool) (a : Act) (w : World), t.deep f = true → t.within l.length = true → HeadInv md l.toArray n listed → wpM S P l.toArray Lq (pickT l t) a w →
      (treeB md l.toArray n g t true listed = true → wpML S P md l.toArray n (fun listed' a' w' => planB md l.toArray n g [] listed' = true ∧ Lq a' w') f listed a w) ∧
      (treeB md l.toArray n g t false listed = true → ∃ f', f = f' + 1 ∧ t.heads ≠ [] ∧ ∀ i ∈ t.heads, i < n ∧ ∀ W, Ext w W → mOp S P l.toArray i (wpML S P md l.toArray n (fun listed' a' w' => planB md l.toArray n g [] listed' = true ∧ Lq a' w') f' (listed.setIfInBounds i true)) a W) := by
  intro t
  induction t with
  | nil =>
    intro f listed a w hd hin inv h
    have hf : f = 0 := by simpa [Tr.deep] using hd
    subst hf
    refine ⟨fun hB => fun W hW => ⟨by simpa [treeB] using hB, h W hW⟩, fun hB => by simp [treeB] at hB⟩
  | q i t ih =>
    intro f listed a w hd hin inv h
    rcases f with _ | f
    · simp [Tr.deep] at hd
    simp only [Tr.within, Bool.and_eq_true, decide_eq_true_eq] at hin
    refine ⟨fun hB => ?_, fun hB => by simp [treeB] at hB⟩
    simp only [treeB, Bool.true_and, Bool.and_eq_true, decide_eq_true_eq] at hB
    obtain ⟨⟨hi, hr, hf⟩, hB'⟩ := hB
    have hr' : i ∈ Region.ready md l.toArray listed := by simpa using hr
    have hoi : l.toArray[i]? = some (nthO l i) := by
      have := nthO_get l i hin.1
      simpa using this
    have inv' := inv.set hr' hi
    simp only [pickT, wpM] at h
    by_cases hw : Region.wanted (nthO l i) (yielded l.toArray a.tmps) = true
    · simp only [hw, if_true] at h
      obtain ⟨v, h1, h2⟩ := h
      exact wpML_first hoi (Region.noSelect_spec hsel) (hjn i hi) hi (fun listed' a' w' hL => hdone listed' hL.1) f listed a w inv (Region.free_spec hoi hf) hr' (.inl ⟨hw, h1⟩)
        ((ih f _ _ w (by simpa [Tr.deep] using hd) hin.2 inv' h2.out).1 hB')
    · simp only [hw] at h
      exact wpML_first (v := undef) hoi (Region.noSelect_spec hsel) (hjn i hi) hi (fun listed' a' w' hL => hdone listed' hL.1) f listed a w inv (Region.free_spec hoi hf) hr' (.inr ⟨by simpa using hw, rfl⟩)
        ((ih f _ _ w (by simpa [Tr.deep] using hd) hin.2 inv' h.out).1 hB')
  | l i t ih =>
    intro f listed a w hd hin inv h
    rcases f with _ | f
    · simp [Tr.deep] at hd
    simp only [Tr.within, Bool.and_eq_true, decide_eq_true_eq] at hin
    have hoi : l.toArray[i]? = some (nthO l i) := by
      have := nthO_get l i hin.1
      simpa using this
    have key : ∀ hi : i < n, i ∈ Region.ready md l.toArray listed → treeB md l.toArray n g t true (listed.setIfInBounds i true) = true →
        ∀ W, Ext w W → mOp S P l.toArray i (wpML S P md l.toArray n (fun listed' a' w' => planB md l.toArray n g [] listed' = true ∧ Lq a' w') f (listed.setIfInBounds i true)) a W := by
      intro hi hr hB' W hW
      have ih' := fun a' w' h' => (ih f (listed.setIfInBounds i true) a' w' (by simpa [Tr.deep] using hd) hin.2 (inv.set hr hi) h').1 hB'
      simp only [pickT, wpM] at h
      have h1 := h W hW
      unfold mOp
      simp only [hoi]
      split
      · rename_i hw
        simp only [hw, if_true] at h1
        exact Oper.wp_mono (fun a' w' h2 => ⟨h2.1, ih' a' w' h2.2⟩) h1
      · rename_i hw
        simp only [hw] at h1
        exact ih' _ _ h1.out
    constructor
    · intro hB
      simp only [treeB, Bool.not_true, Bool.false_or, Bool.and_eq_true, decide_eq_true_eq] at hB
      obtain ⟨⟨hi, hrd⟩, hr, hB'⟩ := hB
      have hr' : i ∈ Region.ready md l.toArray listed := by simpa using hr
      refine ⟨by rw [hrd]; simp, fun j hj => ?_⟩
      rw [hrd] at hj
      have hji : j = i := by simpa using hj
      subst hji
      exact ⟨hi, key hi hr' hB'⟩
    · intro hB
      simp only [treeB, Bool.not_false, Bool.true_or, Bool.and_true, Bool.and_eq_true, decide_eq_true_eq] at hB
      obtain ⟨hi, hr, hB'⟩ := hB
      have hr' : i ∈ Region.ready md l.toArray listed := by simpa using hr
      refine ⟨f, rfl, by simp [Tr.heads], fun j hj => ?_⟩
      have hji : j = i := by simpa [Tr.heads] using hj
      subst hji
      exact ⟨hi, key hi hr' hB'⟩
  | alt t u iht ihu =>
    intro f listed a w hd hin inv h
    simp only [Tr.deep, Bool.and_eq_true] at hd
    simp only [Tr.within, Bool.and_eq_true] at hin
    simp only [pickT, wpM] at h
    have h2 : treeB md l.toArray n g t false listed = true → treeB md l.toArray n g u false listed = true → ∃ f', f = f' + 1 ∧ (Tr.alt t u).heads ≠ [] ∧ ∀ i ∈ (Tr.alt t u).heads, i < n ∧ ∀ W, Ext w W → mOp S P l.toArray i (wpML S P md l.toArray n (fun listed' a' w' => planB md l.toArray n g [] listed' = true ∧ Lq a' w') f' (listed.setIfInBounds i true)) a W := by
      intro ht hu
      obtain ⟨f', e1, ne1, k1⟩ := (iht f listed a w hd.1 hin.1 inv h.1.out).2 ht
      obtain ⟨f'', e2, ne2, k2⟩ := (ihu f listed a w hd.2 hin.2 inv h.2.out).2 hu
      obtain rfl : f' = f'' := by omega
      refine ⟨f', e1, by simp [Tr.heads, ne1], fun i hi => ?_⟩
      rcases List.mem_append.1 (show i ∈ t.heads ++ u.heads from hi) with h | h
      · exact k1 i h
      · exact k2 i h
    constructor
    · intro hB
      simp only [treeB, Bool.not_true, Bool.false_or, Bool.and_eq_true, decide_eq_true_eq] at hB
      obtain ⟨hrd, ht, hu⟩ := hB
      obtain ⟨f', rfl, ne, k⟩ := h2 ht hu
      refine ⟨by rw [hrd]; exact ne, fun j hj => ?_⟩
      rw [hrd] at hj
      exact k j hj
    · intro hB
      simp only [treeB, Bool.not_false, Bool.true_or, Bool.true_and, Bool.and_eq_true] at hB
      exact h2 hB.1 hB.2

theorem wp_region_mut {S : Nat → Prop} {id : Nat} {Q : Exit → Act → World → Prop} {a : Act} {w : World} {l : List Oper} (n : Nat) (t : Tr) (hm : P.follows .mixedOrders = true) (hB : forkB l n t = true)
    (h : wpM S P l.toArray (fun a' w' => wpList P l.toArray Q (l.drop n) a' w') (pickT l t) a w.drew) : (Code.region id l.toArray true).wp P Q a w := by
  simp only [forkB, Bool.and_eq_true, decide_eq_true_eq] at hB
  obtain ⟨⟨⟨⟨⟨hsel, hn⟩, hdeep⟩, hwi⟩, htail⟩, hplan⟩ := hB
  have hsz : l.toArray.size = l.length := by simp
  have hplan' : treeB .any l.toArray n (l.length - n) t true (Array.replicate l.toArray.size false) = true := by rw [hsz]; exact hplan
  have inv0 : HeadInv .any l.toArray n (Array.replicate l.toArray.size false) :=
    ⟨by simp, fun j oj _ hl => (by rw [getD_replicate_false] at hl; cases hl), fun t _ ht => getD_in (by simpa using ht) (getD_replicate_false _ _)⟩
  have hjn : ∀ i, i < n → ∀ listed, HeadInv .any l.toArray n listed → listed.getD i true = false → ∀ j ∈ Region.ready .any l.toArray listed, j < n := fun i hi listed inv hun j hj => by
    by_cases hlt : n < l.length
    · rw [if_pos hlt] at htail
      simp only [Bool.and_eq_true] at htail
      rcases Nat.lt_or_ge j n with h1 | h1
      · exact h1
      · exact absurd hj (tail_waits htail.1 htail.2 (by rw [hsz]; exact hlt) inv _ i rfl hi hun j h1)
    · obtain ⟨_, oj, hoj, _⟩ := mem_ready.1 hj
      have := (Array.getElem?_eq_some_iff.1 hoj).1
      rw [hsz] at this; omega
  have hdone : ∀ listed, planB .any l.toArray n (l.length - n) [] listed = true → ∀ j ∈ Region.ready .any l.toArray listed, n ≤ j := fun listed hp j hj => by
    simp only [planB] at hp
    split at hp
    · exact seqB_ready hp j hj
    · simp only [List.isEmpty_iff] at hp
      rw [hp] at hj; cases hj
  have hEL := (wpML_of_tree (P := P) (g := l.length - n) hsel hjn hdone t n _ a w.drew hdeep hwi inv0 h).1 hplan'
  refine wp_region_any hm ?_
  have := wpAny_of_ML (Q := Q) (g := l.length - n) (fun listed a' w' hL => by
    obtain ⟨hp, hq⟩ := hL
    by_cases hlt : n < l.length
    · simp only [planB, hsz, if_pos hlt] at hp
      have := wpAny_of_seq (md := .any) (Q' := Q) (l.drop n) n listed a' w' (fun j => by simp [List.getElem?_drop]) (by rw [List.length_drop]; exact hp) hq
      rwa [List.length_drop] at this
    · simp only [planB, hsz, if_neg hlt, List.isEmpty_iff] at hp
      have hnl : n = l.length := by omega
      subst hnl
      rw [List.drop_length] at hq
      rw [Nat.sub_self]
      exact ⟨hp, hq⟩) _ _ _ _ hEL
  rw [show n + (l.length - n) = l.toArray.size by rw [hsz]; omega] at this
  exact this

/-! ### The steps of the walk -/
section
variable {Lq : Act → World → Prop} {r : TO} {a : Act} {w : World} {o : Oper}
theorem wpM_nil (h : ∀ W, Ext w W → Lq a W) : wpM S P ops Lq .nil a w := h
theorem wpM_valK (hw : Region.wanted o (yielded ops a.tmps) = true) (h : ∀ K : Act → Prop, (∀ a, wpM S P ops Lq r a w → K a) → ∃ v, (∀ W, But S w W → (execOp a.eval o).run P W = .ok (.value v) W) ∧ K (a.put o.dst v)) : wpM S P ops Lq (.q o r) a w := by
  obtain ⟨v, hv, h2⟩ := h _ fun _ h => h
  simp only [wpM, hw, if_true]
  exact ⟨v, fun W hW => by rw [hv W hW]; exact ⟨rfl, rfl⟩, ⟨h2⟩⟩
theorem wpM_callK (v : Value) (f : FuncId) (args : Array Value) (hw : Region.wanted o (yielded ops a.tmps) = true) (hv : ∀ W, (execOp a.eval o).run P W = .ok (.enter f args) W)
    (hc : ∀ W, But S w W → Calls P f args W fun e w2 => e = .returned v ∧ Ext W w2) (h : ∀ K : Act → Prop, (∀ a, wpM S P ops Lq r a w → K a) → K (a.put o.dst v)) : wpM S P ops Lq (.q o r) a w := by
  simp only [wpM, hw, if_true]
  exact ⟨v, fun W hW => by rw [hv W]; exact ⟨rfl, hc W hW⟩, ⟨h _ fun _ h => h⟩⟩
/-- an operation that yields nothing and turns memory, in blocks of S alone (a store) -/
theorem wpM_storeK (hw : Region.wanted o (yielded ops a.tmps) = true) (h : ∀ W, Ext w W → ∃ w', ((execOp a.eval o).run P W = .ok .skip w' ∧ But S W w') ∧ (∀ K : Act → Prop, (∀ a, wpM S P ops Lq r a w' → K a) → K (a.put o.dst undef))) : wpM S P ops Lq (.l o r) a w := by
  intro W hW
  obtain ⟨w', h1, h3⟩ := h W hW
  simp only [hw, if_true, Oper.wp, h1.1, Oper.upon]
  exact ⟨h1.2, h3 _ fun _ h => h⟩
end
end
end Go.Proofs.Ytglmohcnmpbfmaa
namespace Go.Proofs.Ytglmohcnmpbfmaa
open Go.RowKit
theorem But.set2 {S : Nat → Prop} (w : World) (g : Nat) (u v : Value) (hs : S g) : But S w ((w.setCell ⟨g, 0, none⟩ u).setCell ⟨g, 1, none⟩ v) := (But.set w ⟨g, 0, none⟩ u hs).trans (But.set _ ⟨g, 1, none⟩ v hs)
theorem below_but {S : Nat → Prop} {w0 w W : World} (h : Below w0.heap.size w0 w) (hW : But S w W) (hs : ∀ k, k < w0.heap.size → ¬ S k) : Below w0.heap.size w0 W :=
  ⟨hW.os.trans h.os, hW.tape.trans h.tape, hW.output.trans h.output, Nat.le_trans h.size hW.size, fun k hk => (hW.block k (Nat.lt_of_lt_of_le hk h.size) (hs k hk)).trans (h.block k hk)⟩
theorem results_cell_tmp2' {fn : Func} {p u v : Tmp} {ty : TypeId} (h : fn.results = #[.cell p ty, .tmp u, .tmp v]) (tmps : Array Value) (P : Program) (w : World) :
    (results fn tmps).run P w =
      ((asAddr (tmps.getD p undef)).run P w).andThen fun a w₁ => ((loadVar ty a).run P w₁).andThen fun x w₂ => .ok (.tuple #[x, tmps.getD u undef, tmps.getD v undef]) w₂ := by
  simp only [results, h]
  simp [Sem.run_bind, Result.andThen]
theorem ret_dist3 {fn : Func} {p u u' : Tmp} {a : Act} {w : World} {R : Ending → World → Prop} (h : fn.results = #[.cell p 165, .tmp u, .tmp u']) {g : Nat} {x y v v' : Value}
    (hp : a.tmps.getD p undef = .pointer (some ⟨g, 0, none⟩)) (hu : a.tmps.getD u undef = v) (hu' : a.tmps.getD u' undef = v') (hg : w.heap[g]? = some (.cells #[x, y] 165 (0, 0))) (hd : a.defers = []) (hR : R (.returned (.tuple #[.agg #[x, y], v, v'])) w) : bodyPost Try.prog fn R .ret a w := by
  refine bodyPost_ret (v := .tuple #[.agg #[x, y], v, v']) ?_ hd hR
  rw [results_cell_tmp2' h, hp, hu, hu']
  simp [asAddr, run_loadVar_row w g 165 165 #[x, y] (0, 0) _ hg Try.underlying165 rfl (by kernel_rfl)]
/-- has a box a least key? -/
def leastB (K col : Int) (m : Nat) (lo hi : List Int) : Bool := rightB lo hi lo.length && ordB K col m lo.length
def leastN (K col : Int) (at_ lo hi : List Int) : Nat :=
  if K = 2 then (9223372036854775807 - hi.getD col.toNat 0).toNat else if K = 3 then dbox at_ (lo.drop 1) (hi.drop 1) (lo.length - 1) else (lo.getD col.toNat 0 + 9223372036854775808).toNat
set_option maxRecDepth 100000 in
set_option maxHeartbeats 4000000 in
theorem least_no (K col : Int) (A L H : Option Addr) (at_ lo hi : List Int) (ca dl sh : Nat) (w : World) (hL : Arr w w.heap.size L lo.length (i64s lo)) (hH : Arr w w.heap.size H hi.length (i64s hi)) (hn : lo.length ≤ 9223372036854775807) (hB : leastB K col at_.length lo hi = false) :
    Calls Try.prog 168 #[.agg #[.int .u8 K, .int .i64 col, .slice A at_.length ca], .agg #[.slice L lo.length dl, .slice H hi.length sh]] w fun e w' => e = .returned (.tuple #[dv 0, .int .i64 0, .int .i64 1]) ∧ Below w.heap.size w w' := by
  have t1 := fun W h h' => right_any L H lo hi dl sh lo.length W h h'
  have t2 := fun W => ord_any K col A at_.length ca lo.length W (by unfold I64; omega)
  have e0 : dv 0 = .agg #[.int .u64 0, .int .u64 0] := rfl
  rw [e0]
  obtain ⟨o, ho⟩ : ∃ o, o = rightB lo hi lo.length := ⟨_, rfl⟩
  obtain ⟨q, hq⟩ : ∃ o, o = ordB K col at_.length lo.length := ⟨_, rfl⟩
  have hcase : o = false ∨ (o = true ∧ q = false) := by
    unfold leastB at hB; rw [← ho, ← hq] at hB
    cases o
    · exact .inl rfl
    · right; exact ⟨rfl, by simpa using hB⟩
  rw [← ho] at t1
  rw [← hq] at t2
  clear ho hq hB e0 hn
  have Ht1 := hideP t1; have Ht2 := hideP t2; have HhL := hideP hL; have HhH := hideP hH; clear t1 t2 hL hH
  rcases hcase with rfl | ⟨rfl, rfl⟩
  all_goals
    go_enter Try.func168, Try.ntmps168
    go_wp2_with fail
    obtain ⟨w1, hw1⟩ : ∃ w1, w1 = ((w.alloc (Obj.cells #[.int .u8 K, .int .i64 col, .slice A at_.length ca] 62)).alloc (Obj.cells #[.slice L lo.length dl, .slice H hi.length sh] 33)).alloc (Obj.cells #[.int .u64 0, .int .u64 0] 165) := ⟨_, rfl⟩
    have c1 := hideP (show Three w1 w.heap.size 62 (.int .u8 K) (.int .i64 col) (.slice A at_.length ca) by rw [hw1]; exact ((Three.new _ _ _ _ _).alloc _).alloc _)
    have c2 := hideP (show Two w1 (w.heap.size + 1) 33 (.slice L lo.length dl) (.slice H hi.length sh) by rw [hw1]; exact (Two.new' _ _ _ _ _ (by simp)).alloc _)
    have c3 := hideP (show Two w1 (w.heap.size + 1 + 1) 165 (.int .u64 0) (.int .u64 0) by rw [hw1]; exact Two.new' _ _ _ _ _ (by simp))
    have cb := hideP (show Below w.heap.size w w1 by rw [hw1]; exact ((below_new _ _).alloc (by simp) _).alloc (by simp; omega) _)
    rw [← hw1]
    clear hw1
    have kc20 := c2.out.c0; have kc21 := c2.out.c1
    refine (Ht1.out w1 (HhL.out.after cb.out) (HhH.out.after cb.out)).mono ?_
    rintro e w2 ⟨rfl, hb_⟩
    clear kc20 kc21
    replace c1 := hideP (c1.out.after hb_)
    replace c2 := hideP (c2.out.after hb_)
    replace c3 := hideP (c3.out.after hb_)
    replace cb := hideP (bstep cb.out hb_)
    clear hb_
  · have f0 := c3.out.fz 0
    have f1 := c3.out.fz 1
    have kc30 := c3.out.c0; have kc31 := c3.out.c1
    go_wp2
    refine ret_dist3 rfl rfl rfl rfl (c3.out.set2 _ _) rfl ?_
    exact ⟨rfl, (cb.out.setCell (p := ⟨w.heap.size + 1 + 1, 0, none⟩) (by simp; omega) _).setCell (p := ⟨w.heap.size + 1 + 1, 1, none⟩) (by simp; omega) _⟩
  · have q0 := c1.out.c0
    have q1 := c1.out.c1
    have q2 := c1.out.c2
    have kc20 := c2.out.c0; have kc21 := c2.out.c1
    go_wp2_with fail
    refine (Ht2.out w2).mono ?_
    rintro e w3 ⟨rfl, hb_⟩
    clear q0 q1 q2
    clear kc20 kc21
    replace c3 := hideP (c3.out.after hb_)
    replace cb := hideP (bstep cb.out hb_)
    clear hb_
    have f0 := c3.out.fz 0
    have f1 := c3.out.fz 1
    have kc30 := c3.out.c0; have kc31 := c3.out.c1
    go_wp2
    refine ret_dist3 rfl rfl rfl rfl (c3.out.set2 _ _) rfl ?_
    exact ⟨rfl, (cb.out.setCell (p := ⟨w.heap.size + 1 + 1, 0, none⟩) (by simp; omega) _).setCell (p := ⟨w.heap.size + 1 + 1, 1, none⟩) (by simp; omega) _⟩
set_option maxRecDepth 100000 in
set_option maxHeartbeats 8000000 in
theorem least_in (K col : Int) (A L H : Option Addr) (at_ lo hi : List Int) (ca dl sh : Nat) (w : World) (hA : Arr w w.heap.size A at_.length (i64s at_)) (hL : Arr w w.heap.size L lo.length (i64s lo)) (hH : Arr w w.heap.size H hi.length (i64s hi)) (ia : IsI at_) (il : IsI lo) (ih : IsI hi)
    (hd : lo.length ≤ dl) (hs : hi.length ≤ sh) (hB : leastB K col at_.length lo hi = true) :
    Calls Try.prog 168 #[.agg #[.int .u8 K, .int .i64 col, .slice A at_.length ca], .agg #[.slice L lo.length dl, .slice H hi.length sh]] w fun e w' => e = .returned (.tuple #[dv (leastN K col at_ lo hi), .int .i64 (lo.getD 0 0), .int .i64 0]) ∧ Below w.heap.size w w' := by
  have hB1 : rightB lo hi lo.length = true := by unfold leastB at hB; simp at hB; exact hB.1
  have hB2 : ordB K col at_.length lo.length = true := by unfold leastB at hB; simp at hB; exact hB.2
  obtain ⟨r1, r8, _, rl, _⟩ := rightB_len hB1
  obtain ⟨_, _, hK⟩ := ordB_of hB2
  have t1 := fun W h h' => right_any L H lo hi dl sh lo.length W h h'
  have t2 := fun W => ord_any K col A at_.length ca lo.length W (by unfold I64; omega)
  rw [hB1] at t1
  rw [hB2] at t2
  obtain ⟨j, rfl⟩ : ∃ j : Nat, col = (j : Int) := ⟨col.toNat, by omega⟩
  have hkey : leastN K j at_ lo hi = if K = 2 then (9223372036854775807 - hi.getD j 0).toNat else if K = 3 then dbox at_ (lo.drop 1) (hi.drop 1) (lo.length - 1) else (lo.getD j 0 + 9223372036854775808).toNat := by unfold leastN; simp
  rw [hkey]
  obtain ⟨b, off, rfl, hb, hcl⟩ := hL (by omega)
  obtain ⟨b', off', rfl, hb', hcl'⟩ := hH (by omega)
  have hL2 := hL.drop
  have hH2 := hH.drop
  have tT := fun W h h' h'' => toBox_in A (some ⟨b, off + 1, none⟩) (some ⟨b', off' + 1, none⟩) at_ (lo.drop 1) (hi.drop 1) (lo.length - 1) ca (dl - 1) (sh - 1) W h h' h'' ia il.drop ih.drop
  have hjn : j < lo.length := by omega
  have u0 := hcl 0 (by omega)
  have u1 := hcl j hjn
  have u2 := hcl' j (by omega)
  rw [Nat.add_zero] at u0
  unfold i64s at u0 u1 u2
  have hx := il j
  have hy := ih j
  rw [show hi.length = lo.length by omega] at hH hH2 hs t1 ⊢
  obtain ⟨n, hn⟩ : ∃ n, n = lo.length := ⟨_, rfl⟩
  obtain ⟨m, hm⟩ : ∃ m, m = at_.length := ⟨_, rfl⟩
  rw [← hn] at r1 r8 hK t1 t2 tT hL hL2 hH hH2 hd hs hjn ⊢
  rw [← hm] at hK t2 hA ⊢
  obtain ⟨x, ex⟩ : ∃ x, x = lo.getD j 0 := ⟨_, rfl⟩
  obtain ⟨y, ey⟩ : ∃ x, x = hi.getD j 0 := ⟨_, rfl⟩
  obtain ⟨z, ez⟩ : ∃ x, x = lo.getD 0 0 := ⟨_, rfl⟩
  rw [← ex] at u1 hx ⊢
  rw [← ey] at u2 hy ⊢
  rw [← ez] at u0 ⊢
  have Hx : I64 x := hx
  have Hy : I64 y := hy
  have tup := fun W => up_any x W Hx
  have tdn := fun W => down_any y W Hy
  unfold dv dvp at tup tdn
  obtain ⟨h1, g1⟩ : ∃ h, h = (x + 9223372036854775808).toNat / 18446744073709551616 := ⟨_, rfl⟩
  obtain ⟨l1, g2⟩ : ∃ l, l = (x + 9223372036854775808).toNat % 18446744073709551616 := ⟨_, rfl⟩
  obtain ⟨h2, g3⟩ : ∃ h, h = (9223372036854775807 - y).toNat / 18446744073709551616 := ⟨_, rfl⟩
  obtain ⟨l2, g4⟩ : ∃ l, l = (9223372036854775807 - y).toNat % 18446744073709551616 := ⟨_, rfl⟩
  rw [← g1, ← g2] at tup
  rw [← g3, ← g4] at tdn
  have E1 : dv (x + 9223372036854775808).toNat = .agg #[.int .u64 h1, .int .u64 l1] := by rw [g1, g2]; rfl
  have E2 : dv (9223372036854775807 - y).toNat = .agg #[.int .u64 h2, .int .u64 l2] := by rw [g3, g4]; rfl
  have j0 : (0 : Int) ≤ (j : Int) := by omega
  have j1 : (j : Int) < n := by omega
  have j2 : (0 : Int) < n := by omega
  have jn : 0 < n := by omega
  clear g1 g2 g3 g4 hB hB1 hB2 rl hcl hcl' hn hm ex ey ez hx hy Hx Hy hkey hjn
  have Ht1 := hideP t1; have Ht2 := hideP t2; have HtT := hideP tT; have Htup := hideP tup; have Htdn := hideP tdn; have HhA := hideP hA; have HhL := hideP hL; have HhH := hideP hH; have HhL2 := hideP hL2; have HhH2 := hideP hH2; have Hhb := hideP hb; have Hhb' := hideP hb'; have Hu0 := hideP u0; have Hu1 := hideP u1; have Hu2 := hideP u2; have HE1 := hideP E1; have HE2 := hideP E2; clear t1 t2 tT tup tdn hA hL hH hL2 hH2 hb hb' u0 u1 u2 E1 E2
  rcases hK with ⟨rfl, h, z0⟩ | ⟨rfl, z1, h, z0⟩ | ⟨rfl, z1, h, z0⟩ | ⟨rfl, z1, h, z0⟩
  · clear h z0
    show Calls _ _ _ _ fun e w' => e = .returned (.tuple #[dv (x + 9223372036854775808).toNat, .int .i64 z, .int .i64 0]) ∧ _
    rw [HE1.out]
    go_enter Try.func168, Try.ntmps168
    go_wp2_with fail
    obtain ⟨w1, hw1⟩ : ∃ w1, w1 = ((w.alloc (Obj.cells #[.int .u8 0, .int .i64 j, .slice A m ca] 62)).alloc (Obj.cells #[.slice (some ⟨b, off, none⟩) n dl, .slice (some ⟨b', off', none⟩) n sh] 33)).alloc (Obj.cells #[.int .u64 0, .int .u64 0] 165) := ⟨_, rfl⟩
    have c1 := hideP (show Three w1 w.heap.size 62 (.int .u8 0) (.int .i64 j) (.slice A m ca) by rw [hw1]; exact ((Three.new _ _ _ _ _).alloc _).alloc _)
    have c2 := hideP (show Two w1 (w.heap.size + 1) 33 (.slice (some ⟨b, off, none⟩) n dl) (.slice (some ⟨b', off', none⟩) n sh) by rw [hw1]; exact (Two.new' _ _ _ _ _ (by simp)).alloc _)
    have c3 := hideP (show Two w1 (w.heap.size + 1 + 1) 165 (.int .u64 0) (.int .u64 0) by rw [hw1]; exact Two.new' _ _ _ _ _ (by simp))
    have cb := hideP (show Below w.heap.size w w1 by rw [hw1]; exact ((below_new _ _).alloc (by simp) _).alloc (by simp; omega) _)
    rw [← hw1]
    clear hw1
    have kc20 := c2.out.c0; have kc21 := c2.out.c1
    refine (Ht1.out w1 (HhL.out.after cb.out) (HhH.out.after cb.out)).mono ?_
    rintro e w2 ⟨rfl, hb_⟩
    clear kc20 kc21
    replace c1 := hideP (c1.out.after hb_)
    replace c2 := hideP (c2.out.after hb_)
    replace c3 := hideP (c3.out.after hb_)
    replace cb := hideP (bstep cb.out hb_)
    clear hb_
    have q0 := c1.out.c0
    have q1 := c1.out.c1
    have q2 := c1.out.c2
    have kc20 := c2.out.c0; have kc21 := c2.out.c1
    go_wp2_with fail
    refine (Ht2.out w2).mono ?_
    rintro e w3 ⟨rfl, hb_⟩
    clear q0 q1 q2
    clear kc20 kc21
    replace c1 := hideP (c1.out.after hb_)
    replace c2 := hideP (c2.out.after hb_)
    replace c3 := hideP (c3.out.after hb_)
    replace cb := hideP (bstep cb.out hb_)
    clear hb_
    have q0 := c1.out.c0
    have q1 := c1.out.c1
    have q2 := c1.out.c2
    have kc20 := c2.out.c0; have kc21 := c2.out.c1
    have k1 := cell_below cb.out Hhb.out Hu1.out
    go_wp2_with fail
    refine (Htup.out w3).mono ?_
    rintro e w4 ⟨rfl, hb_⟩
    clear q0 q1 q2 k1
    clear kc20 kc21
    replace c1 := hideP (c1.out.after hb_)
    replace c2 := hideP (c2.out.after hb_)
    replace c3 := hideP (c3.out.after hb_)
    replace cb := hideP (bstep cb.out hb_)
    clear hb_
    have q0 := (c1.out.alloc (Obj.cells #[.int .u64 h1, .int .u64 l1] 165)).c0
    have q1 := (c1.out.alloc (Obj.cells #[.int .u64 h1, .int .u64 l1] 165)).c1
    have q2 := (c1.out.alloc (Obj.cells #[.int .u64 h1, .int .u64 l1] 165)).c2
    have p0 := (c2.out.alloc (Obj.cells #[.int .u64 h1, .int .u64 l1] 165)).c0
    have p1 := (c2.out.alloc (Obj.cells #[.int .u64 h1, .int .u64 l1] 165)).c1
    have k2 : (w4.alloc (Obj.cells #[.int .u64 h1, .int .u64 l1] 165)).cell? ⟨b', off' + j, none⟩ = _ := cell_below (cb.out.alloc cb.out.size _) Hhb'.out Hu2.out
    go_wp2_with fail
    clear q0 q1 q2 p0 p1 k2
    obtain ⟨v4, hv_⟩ : ∃ v, v = w4.alloc (Obj.cells #[.int .u64 h1, .int .u64 l1] 165) := ⟨_, rfl⟩
    obtain ⟨g7, hg_⟩ : ∃ g, g = w4.heap.size := ⟨_, rfl⟩
    have hb_ : Below w4.heap.size w4 v4 := by rw [hv_]; exact below_new _ _
    have x7 := hideP (show Two v4 g7 165 (.int .u64 h1) (.int .u64 l1) by rw [hv_, hg_]; exact Two.new _ _ _ _)
    have Gx7 := hideP (show w4.heap.size ≤ g7 from Nat.le_of_eq hg_.symm)
    have Lc3x7 := hideP (Nat.lt_of_lt_of_eq c3.out.lt hg_.symm)
    replace c1 := hideP (c1.out.after hb_)
    replace c2 := hideP (c2.out.after hb_)
    replace c3 := hideP (c3.out.after hb_)
    replace cb := hideP (bstep cb.out hb_)
    rw [← hv_, ← hg_]
    clear hv_ hg_ hb_
    have kc20 := c2.out.c0; have kc21 := c2.out.c1
    have kx70 := x7.out.c0; have kx71 := x7.out.c1
    have z0 := cell_below cb.out Hhb.out Hu0.out
    have N2 := hideP (show ¬ (w.heap.size + 1 = w.heap.size + 1 + 1) by omega)
    have N7 := hideP (show ¬ (g7 = w.heap.size + 1 + 1) by have := Lc3x7.out; omega)
    have Nb := hideP (show ¬ (b = w.heap.size + 1 + 1) by have := Hhb.out; omega)
    refine wp_region_mut (S := fun k => k = w.heap.size + 1 + 1) 8 (.q 0 (.q 1 (.q 2 (.q 3 (.q 4 (.l 5 (.q 6 (.q 7 .nil)))))))) (by kernel_rfl) (by kernel_rfl) ?_
    simp only [pickT, nthO_zero, nthO_succ]
    iterate 5 (refine wpM_valK (by rfl) (fun K hK => ?_); apply Exists.intro; refine ⟨fun W hW => ?_, ?_⟩; (focus (have hs1 := hW.cell kc20 N2.out; have hs2 := hW.cell kc21 N2.out; have hs3 := hW.cell kx70 N7.out; have hs4 := hW.cell kx71 N7.out; have hs5 := hW.cell z0 Nb.out; go_simp; (try rfl); done)); go_simp; refine hK _ ?_; clear hK K)
    refine wpM_storeK (by rfl) (fun W hW => ⟨(W.setCell ⟨w.heap.size + 1 + 1, 0, none⟩ (.int .u64 h1)).setCell ⟨w.heap.size + 1 + 1, 1, none⟩ (.int .u64 l1), ⟨?_, But.set2 _ _ _ _ rfl⟩, fun K hK => ?_⟩)
    · have c3' := c3.out.ext hW.drew_left
      have f0 := c3'.fz 0
      have f1 := c3'.fz 1
      have g0 := c3'.c0
      have g1 := c3'.c1
      clear c3'
      go_simp
    go_simp
    refine hK _ ?_
    clear hK K
    replace c3 := hideP ((c3.out.ext hW.drew_left).set2 (.int .u64 h1) (.int .u64 l1))
    replace cb := hideP (((below_ext cb.out hW.drew_left).setCell (p := ⟨w.heap.size + 1 + 1, 0, none⟩) (by simp; omega) (.int .u64 h1)).setCell (p := ⟨w.heap.size + 1 + 1, 1, none⟩) (by simp; omega) (.int .u64 l1))
    clear hW z0 kc20 kc21 kx70 kx71
    iterate 2 (refine wpM_valK (by rfl) (fun K hK => ?_); apply Exists.intro; refine ⟨fun W hW => ?_, ?_⟩; (focus (go_simp; (try rfl); done)); go_simp; refine hK _ ?_; clear hK K)
    refine wpM_nil (fun w7 hW0 => ?_)
    simp only [List.drop_succ_cons, List.drop_zero, List.drop_nil]
    replace c3 := hideP (c3.out.ext hW0)
    replace cb := hideP (below_ext cb.out hW0)
    clear hW0
    go_wp2
    refine ret_dist3 rfl rfl rfl rfl c3.out rfl ?_
    exact ⟨rfl, cb.out⟩
  · clear h z0 z1
    show Calls _ _ _ _ fun e w' => e = .returned (.tuple #[dv (x + 9223372036854775808).toNat, .int .i64 z, .int .i64 0]) ∧ _
    rw [HE1.out]
    go_enter Try.func168, Try.ntmps168
    go_wp2_with fail
    obtain ⟨w1, hw1⟩ : ∃ w1, w1 = ((w.alloc (Obj.cells #[.int .u8 1, .int .i64 j, .slice A m ca] 62)).alloc (Obj.cells #[.slice (some ⟨b, off, none⟩) n dl, .slice (some ⟨b', off', none⟩) n sh] 33)).alloc (Obj.cells #[.int .u64 0, .int .u64 0] 165) := ⟨_, rfl⟩
    have c1 := hideP (show Three w1 w.heap.size 62 (.int .u8 1) (.int .i64 j) (.slice A m ca) by rw [hw1]; exact ((Three.new _ _ _ _ _).alloc _).alloc _)
    have c2 := hideP (show Two w1 (w.heap.size + 1) 33 (.slice (some ⟨b, off, none⟩) n dl) (.slice (some ⟨b', off', none⟩) n sh) by rw [hw1]; exact (Two.new' _ _ _ _ _ (by simp)).alloc _)
    have c3 := hideP (show Two w1 (w.heap.size + 1 + 1) 165 (.int .u64 0) (.int .u64 0) by rw [hw1]; exact Two.new' _ _ _ _ _ (by simp))
    have cb := hideP (show Below w.heap.size w w1 by rw [hw1]; exact ((below_new _ _).alloc (by simp) _).alloc (by simp; omega) _)
    rw [← hw1]
    clear hw1
    have kc20 := c2.out.c0; have kc21 := c2.out.c1
    refine (Ht1.out w1 (HhL.out.after cb.out) (HhH.out.after cb.out)).mono ?_
    rintro e w2 ⟨rfl, hb_⟩
    clear kc20 kc21
    replace c1 := hideP (c1.out.after hb_)
    replace c2 := hideP (c2.out.after hb_)
    replace c3 := hideP (c3.out.after hb_)
    replace cb := hideP (bstep cb.out hb_)
    clear hb_
    have q0 := c1.out.c0
    have q1 := c1.out.c1
    have q2 := c1.out.c2
    have kc20 := c2.out.c0; have kc21 := c2.out.c1
    go_wp2_with fail
    refine (Ht2.out w2).mono ?_
    rintro e w3 ⟨rfl, hb_⟩
    clear q0 q1 q2
    clear kc20 kc21
    replace c1 := hideP (c1.out.after hb_)
    replace c2 := hideP (c2.out.after hb_)
    replace c3 := hideP (c3.out.after hb_)
    replace cb := hideP (bstep cb.out hb_)
    clear hb_
    have q0 := c1.out.c0
    have q1 := c1.out.c1
    have q2 := c1.out.c2
    have kc20 := c2.out.c0; have kc21 := c2.out.c1
    have k1 := cell_below cb.out Hhb.out Hu1.out
    go_wp2_with fail
    refine (Htup.out w3).mono ?_
    rintro e w4 ⟨rfl, hb_⟩
    clear q0 q1 q2 k1
    clear kc20 kc21
    replace c1 := hideP (c1.out.after hb_)
    replace c2 := hideP (c2.out.after hb_)
    replace c3 := hideP (c3.out.after hb_)
    replace cb := hideP (bstep cb.out hb_)
    clear hb_
    have q0 := (c1.out.alloc (Obj.cells #[.int .u64 h1, .int .u64 l1] 165)).c0
    have q1 := (c1.out.alloc (Obj.cells #[.int .u64 h1, .int .u64 l1] 165)).c1
    have q2 := (c1.out.alloc (Obj.cells #[.int .u64 h1, .int .u64 l1] 165)).c2
    have p0 := (c2.out.alloc (Obj.cells #[.int .u64 h1, .int .u64 l1] 165)).c0
    have p1 := (c2.out.alloc (Obj.cells #[.int .u64 h1, .int .u64 l1] 165)).c1
    have k2 : (w4.alloc (Obj.cells #[.int .u64 h1, .int .u64 l1] 165)).cell? ⟨b', off' + j, none⟩ = _ := cell_below (cb.out.alloc cb.out.size _) Hhb'.out Hu2.out
    go_wp2_with fail
    clear q0 q1 q2 p0 p1 k2
    obtain ⟨v4, hv_⟩ : ∃ v, v = w4.alloc (Obj.cells #[.int .u64 h1, .int .u64 l1] 165) := ⟨_, rfl⟩
    obtain ⟨g7, hg_⟩ : ∃ g, g = w4.heap.size := ⟨_, rfl⟩
    have hb_ : Below w4.heap.size w4 v4 := by rw [hv_]; exact below_new _ _
    have x7 := hideP (show Two v4 g7 165 (.int .u64 h1) (.int .u64 l1) by rw [hv_, hg_]; exact Two.new _ _ _ _)
    have Gx7 := hideP (show w4.heap.size ≤ g7 from Nat.le_of_eq hg_.symm)
    have Lc3x7 := hideP (Nat.lt_of_lt_of_eq c3.out.lt hg_.symm)
    replace c1 := hideP (c1.out.after hb_)
    replace c2 := hideP (c2.out.after hb_)
    replace c3 := hideP (c3.out.after hb_)
    replace cb := hideP (bstep cb.out hb_)
    rw [← hv_, ← hg_]
    clear hv_ hg_ hb_
    have kc20 := c2.out.c0; have kc21 := c2.out.c1
    have kx70 := x7.out.c0; have kx71 := x7.out.c1
    have z0 := cell_below cb.out Hhb.out Hu0.out
    have N2 := hideP (show ¬ (w.heap.size + 1 = w.heap.size + 1 + 1) by omega)
    have N7 := hideP (show ¬ (g7 = w.heap.size + 1 + 1) by have := Lc3x7.out; omega)
    have Nb := hideP (show ¬ (b = w.heap.size + 1 + 1) by have := Hhb.out; omega)
    refine wp_region_mut (S := fun k => k = w.heap.size + 1 + 1) 8 (.q 0 (.q 1 (.q 2 (.q 3 (.q 4 (.l 5 (.q 6 (.q 7 .nil)))))))) (by kernel_rfl) (by kernel_rfl) ?_
    simp only [pickT, nthO_zero, nthO_succ]
    iterate 5 (refine wpM_valK (by rfl) (fun K hK => ?_); apply Exists.intro; refine ⟨fun W hW => ?_, ?_⟩; (focus (have hs1 := hW.cell kc20 N2.out; have hs2 := hW.cell kc21 N2.out; have hs3 := hW.cell kx70 N7.out; have hs4 := hW.cell kx71 N7.out; have hs5 := hW.cell z0 Nb.out; go_simp; (try rfl); done)); go_simp; refine hK _ ?_; clear hK K)
    refine wpM_storeK (by rfl) (fun W hW => ⟨(W.setCell ⟨w.heap.size + 1 + 1, 0, none⟩ (.int .u64 h1)).setCell ⟨w.heap.size + 1 + 1, 1, none⟩ (.int .u64 l1), ⟨?_, But.set2 _ _ _ _ rfl⟩, fun K hK => ?_⟩)
    · have c3' := c3.out.ext hW.drew_left
      have f0 := c3'.fz 0
      have f1 := c3'.fz 1
      have g0 := c3'.c0
      have g1 := c3'.c1
      clear c3'
      go_simp
    go_simp
    refine hK _ ?_
    clear hK K
    replace c3 := hideP ((c3.out.ext hW.drew_left).set2 (.int .u64 h1) (.int .u64 l1))
    replace cb := hideP (((below_ext cb.out hW.drew_left).setCell (p := ⟨w.heap.size + 1 + 1, 0, none⟩) (by simp; omega) (.int .u64 h1)).setCell (p := ⟨w.heap.size + 1 + 1, 1, none⟩) (by simp; omega) (.int .u64 l1))
    clear hW z0 kc20 kc21 kx70 kx71
    iterate 2 (refine wpM_valK (by rfl) (fun K hK => ?_); apply Exists.intro; refine ⟨fun W hW => ?_, ?_⟩; (focus (go_simp; (try rfl); done)); go_simp; refine hK _ ?_; clear hK K)
    refine wpM_nil (fun w7 hW0 => ?_)
    simp only [List.drop_succ_cons, List.drop_zero, List.drop_nil]
    replace c3 := hideP (c3.out.ext hW0)
    replace cb := hideP (below_ext cb.out hW0)
    clear hW0
    go_wp2
    refine ret_dist3 rfl rfl rfl rfl c3.out rfl ?_
    exact ⟨rfl, cb.out⟩
  · clear h z0 z1
    show Calls _ _ _ _ fun e w' => e = .returned (.tuple #[dv (9223372036854775807 - y).toNat, .int .i64 z, .int .i64 0]) ∧ _
    rw [HE2.out]
    go_enter Try.func168, Try.ntmps168
    go_wp2_with fail
    obtain ⟨w1, hw1⟩ : ∃ w1, w1 = ((w.alloc (Obj.cells #[.int .u8 2, .int .i64 j, .slice A m ca] 62)).alloc (Obj.cells #[.slice (some ⟨b, off, none⟩) n dl, .slice (some ⟨b', off', none⟩) n sh] 33)).alloc (Obj.cells #[.int .u64 0, .int .u64 0] 165) := ⟨_, rfl⟩
    have c1 := hideP (show Three w1 w.heap.size 62 (.int .u8 2) (.int .i64 j) (.slice A m ca) by rw [hw1]; exact ((Three.new _ _ _ _ _).alloc _).alloc _)
    have c2 := hideP (show Two w1 (w.heap.size + 1) 33 (.slice (some ⟨b, off, none⟩) n dl) (.slice (some ⟨b', off', none⟩) n sh) by rw [hw1]; exact (Two.new' _ _ _ _ _ (by simp)).alloc _)
    have c3 := hideP (show Two w1 (w.heap.size + 1 + 1) 165 (.int .u64 0) (.int .u64 0) by rw [hw1]; exact Two.new' _ _ _ _ _ (by simp))
    have cb := hideP (show Below w.heap.size w w1 by rw [hw1]; exact ((below_new _ _).alloc (by simp) _).alloc (by simp; omega) _)
    rw [← hw1]
    clear hw1
    have kc20 := c2.out.c0; have kc21 := c2.out.c1
    refine (Ht1.out w1 (HhL.out.after cb.out) (HhH.out.after cb.out)).mono ?_
    rintro e w2 ⟨rfl, hb_⟩
    clear kc20 kc21
    replace c1 := hideP (c1.out.after hb_)
    replace c2 := hideP (c2.out.after hb_)
    replace c3 := hideP (c3.out.after hb_)
    replace cb := hideP (bstep cb.out hb_)
    clear hb_
    have q0 := c1.out.c0
    have q1 := c1.out.c1
    have q2 := c1.out.c2
    have kc20 := c2.out.c0; have kc21 := c2.out.c1
    go_wp2_with fail
    refine (Ht2.out w2).mono ?_
    rintro e w3 ⟨rfl, hb_⟩
    clear q0 q1 q2
    clear kc20 kc21
    replace c1 := hideP (c1.out.after hb_)
    replace c2 := hideP (c2.out.after hb_)
    replace c3 := hideP (c3.out.after hb_)
    replace cb := hideP (bstep cb.out hb_)
    clear hb_
    have q0 := c1.out.c0
    have q1 := c1.out.c1
    have q2 := c1.out.c2
    have kc20 := c2.out.c0; have kc21 := c2.out.c1
    have k1 := cell_below cb.out Hhb.out Hu1.out
    go_wp2_with fail
    refine (Htup.out w3).mono ?_
    rintro e w4 ⟨rfl, hb_⟩
    clear q0 q1 q2 k1
    clear kc20 kc21
    replace c1 := hideP (c1.out.after hb_)
    replace c2 := hideP (c2.out.after hb_)
    replace c3 := hideP (c3.out.after hb_)
    replace cb := hideP (bstep cb.out hb_)
    clear hb_
    have q0 := (c1.out.alloc (Obj.cells #[.int .u64 h1, .int .u64 l1] 165)).c0
    have q1 := (c1.out.alloc (Obj.cells #[.int .u64 h1, .int .u64 l1] 165)).c1
    have q2 := (c1.out.alloc (Obj.cells #[.int .u64 h1, .int .u64 l1] 165)).c2
    have p0 := (c2.out.alloc (Obj.cells #[.int .u64 h1, .int .u64 l1] 165)).c0
    have p1 := (c2.out.alloc (Obj.cells #[.int .u64 h1, .int .u64 l1] 165)).c1
    have k2 : (w4.alloc (Obj.cells #[.int .u64 h1, .int .u64 l1] 165)).cell? ⟨b', off' + j, none⟩ = _ := cell_below (cb.out.alloc cb.out.size _) Hhb'.out Hu2.out
    go_wp2_with fail
    clear q0 q1 q2 p0 p1 k2
    obtain ⟨v4, hv_⟩ : ∃ v, v = w4.alloc (Obj.cells #[.int .u64 h1, .int .u64 l1] 165) := ⟨_, rfl⟩
    obtain ⟨g7, hg_⟩ : ∃ g, g = w4.heap.size := ⟨_, rfl⟩
    have hb_ : Below w4.heap.size w4 v4 := by rw [hv_]; exact below_new _ _
    have x7 := hideP (show Two v4 g7 165 (.int .u64 h1) (.int .u64 l1) by rw [hv_, hg_]; exact Two.new _ _ _ _)
    have Gx7 := hideP (show w4.heap.size ≤ g7 from Nat.le_of_eq hg_.symm)
    have Lc3x7 := hideP (Nat.lt_of_lt_of_eq c3.out.lt hg_.symm)
    replace c1 := hideP (c1.out.after hb_)
    replace c2 := hideP (c2.out.after hb_)
    replace c3 := hideP (c3.out.after hb_)
    replace cb := hideP (bstep cb.out hb_)
    rw [← hv_, ← hg_]
    clear hv_ hg_ hb_
    refine (Htdn.out v4).mono ?_
    rintro e w5 ⟨rfl, hb_⟩
    replace c1 := hideP (c1.out.after hb_)
    replace c2 := hideP (c2.out.after hb_)
    replace c3 := hideP (c3.out.after hb_)
    replace x7 := hideP (x7.out.after hb_)
    replace cb := hideP (bstep cb.out hb_)
    clear hb_
    have f0 := x7.out.fz 0
    have f1 := x7.out.fz 1
    have kx70 := x7.out.c0; have kx71 := x7.out.c1
    go_wp2
    clear f0 f1
    clear kx70 kx71
    obtain ⟨w6, hw6⟩ : ∃ v, v = (w5.setCell ⟨g7, 0, none⟩ (.int .u64 h2)).setCell ⟨g7, 1, none⟩ (.int .u64 l2) := ⟨_, rfl⟩
    have N7' := Lc3x7.out
    replace c2 := hideP (show Two w6 (w.heap.size + 1) 33 (.slice (some ⟨b, off, none⟩) n dl) (.slice (some ⟨b', off', none⟩) n sh) by rw [hw6]; exact (c2.out.setOther (by simp; omega) _).setOther (by simp; omega) _)
    replace c3 := hideP (show Two w6 (w.heap.size + 1 + 1) 165 (.int .u64 0) (.int .u64 0) by rw [hw6]; exact (c3.out.setOther (by simp; omega) _).setOther (by simp; omega) _)
    replace cb := hideP (show Below w.heap.size w w6 by rw [hw6]; exact (cb.out.setCell (p := ⟨g7, 0, none⟩) (by simp; omega) _).setCell (p := ⟨g7, 1, none⟩) (by simp; omega) _)
    replace x7 := hideP (show Two w6 g7 165 (.int .u64 h2) (.int .u64 l2) by rw [hw6]; exact x7.out.set2 _ _)
    rw [← hw6]
    clear hw6 N7'
    have kc20 := c2.out.c0; have kc21 := c2.out.c1
    have kx70 := x7.out.c0; have kx71 := x7.out.c1
    have z0 := cell_below cb.out Hhb.out Hu0.out
    have N2 := hideP (show ¬ (w.heap.size + 1 = w.heap.size + 1 + 1) by omega)
    have N7 := hideP (show ¬ (g7 = w.heap.size + 1 + 1) by have := Lc3x7.out; omega)
    have Nb := hideP (show ¬ (b = w.heap.size + 1 + 1) by have := Hhb.out; omega)
    refine wp_region_mut (S := fun k => k = w.heap.size + 1 + 1) 8 (.q 0 (.q 1 (.q 2 (.q 3 (.q 4 (.l 5 (.q 6 (.q 7 .nil)))))))) (by kernel_rfl) (by kernel_rfl) ?_
    simp only [pickT, nthO_zero, nthO_succ]
    iterate 5 (refine wpM_valK (by rfl) (fun K hK => ?_); apply Exists.intro; refine ⟨fun W hW => ?_, ?_⟩; (focus (have hs1 := hW.cell kc20 N2.out; have hs2 := hW.cell kc21 N2.out; have hs3 := hW.cell kx70 N7.out; have hs4 := hW.cell kx71 N7.out; have hs5 := hW.cell z0 Nb.out; go_simp; (try rfl); done)); go_simp; refine hK _ ?_; clear hK K)
    refine wpM_storeK (by rfl) (fun W hW => ⟨(W.setCell ⟨w.heap.size + 1 + 1, 0, none⟩ (.int .u64 h2)).setCell ⟨w.heap.size + 1 + 1, 1, none⟩ (.int .u64 l2), ⟨?_, But.set2 _ _ _ _ rfl⟩, fun K hK => ?_⟩)
    · have c3' := c3.out.ext hW.drew_left
      have f0 := c3'.fz 0
      have f1 := c3'.fz 1
      have g0 := c3'.c0
      have g1 := c3'.c1
      clear c3'
      go_simp
    go_simp
    refine hK _ ?_
    clear hK K
    replace c3 := hideP ((c3.out.ext hW.drew_left).set2 (.int .u64 h2) (.int .u64 l2))
    replace cb := hideP (((below_ext cb.out hW.drew_left).setCell (p := ⟨w.heap.size + 1 + 1, 0, none⟩) (by simp; omega) (.int .u64 h2)).setCell (p := ⟨w.heap.size + 1 + 1, 1, none⟩) (by simp; omega) (.int .u64 l2))
    clear hW z0 kc20 kc21 kx70 kx71
    iterate 2 (refine wpM_valK (by rfl) (fun K hK => ?_); apply Exists.intro; refine ⟨fun W hW => ?_, ?_⟩; (focus (go_simp; (try rfl); done)); go_simp; refine hK _ ?_; clear hK K)
    refine wpM_nil (fun w7 hW0 => ?_)
    simp only [List.drop_succ_cons, List.drop_zero, List.drop_nil]
    replace c3 := hideP (c3.out.ext hW0)
    replace cb := hideP (below_ext cb.out hW0)
    clear hW0
    go_wp2
    refine ret_dist3 rfl rfl rfl rfl c3.out rfl ?_
    exact ⟨rfl, cb.out⟩
  · obtain rfl : m = n - 1 := by omega
    have h1' : 1 ≤ n - 1 := by omega
    have h8' : n - 1 ≤ 8 := by omega
    have TT := hideP (fun W h h' h'' => HtT.out W h h' h'' h1' h8')
    unfold dv dvp at TT
    show Calls _ _ _ _ fun e w' => e = .returned (.tuple #[dv (dbox at_ (lo.drop 1) (hi.drop 1) (n - 1)), .int .i64 z, .int .i64 0]) ∧ _
    unfold dv dvp
    obtain ⟨h3, g3⟩ : ∃ h, h = dbox at_ (lo.drop 1) (hi.drop 1) (n - 1) / 18446744073709551616 := ⟨_, rfl⟩
    obtain ⟨l3, g4⟩ : ∃ h, h = dbox at_ (lo.drop 1) (hi.drop 1) (n - 1) % 18446744073709551616 := ⟨_, rfl⟩
    rw [← g3, ← g4] at TT ⊢
    obtain ⟨m, hm⟩ : ∃ m, m = n - 1 := ⟨_, rfl⟩
    rw [← hm] at HhA Ht2 ⊢
    replace TT := hideP (show ∀ W, Arr W W.heap.size A m (i64s at_) → Arr W W.heap.size (some ⟨b, off + 1, none⟩) (n - 1) (i64s (lo.drop 1)) → Arr W W.heap.size (some ⟨b', off' + 1, none⟩) (n - 1) (i64s (hi.drop 1)) → Calls Try.prog 219 #[.slice A m ca, .agg #[.slice (some ⟨b, off + 1, none⟩) (n - 1) (dl - 1), .slice (some ⟨b', off' + 1, none⟩) (n - 1) (sh - 1)]] W fun e w' => e = .returned (.tuple #[.agg #[.int .u64 h3, .int .u64 l3], .int .i64 0]) ∧ Below W.heap.size W w' from by rw [hm]; exact TT.out)
    have t1 : (1 : Int) ≤ n := by omega
    have t2 : (n : Int) ≤ dl := by omega
    have t3 : ¬ dl = 1 := by omega
    have t4 : (n : Int) ≤ sh := by omega
    have t5 : ¬ sh = 1 := by omega
    clear g3 g4 z0 z1 h HtT hm h1' h8'
    go_enter Try.func168, Try.ntmps168
    go_wp2_with fail
    obtain ⟨w1, hw1⟩ : ∃ w1, w1 = ((w.alloc (Obj.cells #[.int .u8 3, .int .i64 j, .slice A m ca] 62)).alloc (Obj.cells #[.slice (some ⟨b, off, none⟩) n dl, .slice (some ⟨b', off', none⟩) n sh] 33)).alloc (Obj.cells #[.int .u64 0, .int .u64 0] 165) := ⟨_, rfl⟩
    have c1 := hideP (show Three w1 w.heap.size 62 (.int .u8 3) (.int .i64 j) (.slice A m ca) by rw [hw1]; exact ((Three.new _ _ _ _ _).alloc _).alloc _)
    have c2 := hideP (show Two w1 (w.heap.size + 1) 33 (.slice (some ⟨b, off, none⟩) n dl) (.slice (some ⟨b', off', none⟩) n sh) by rw [hw1]; exact (Two.new' _ _ _ _ _ (by simp)).alloc _)
    have c3 := hideP (show Two w1 (w.heap.size + 1 + 1) 165 (.int .u64 0) (.int .u64 0) by rw [hw1]; exact Two.new' _ _ _ _ _ (by simp))
    have cb := hideP (show Below w.heap.size w w1 by rw [hw1]; exact ((below_new _ _).alloc (by simp) _).alloc (by simp; omega) _)
    rw [← hw1]
    clear hw1
    have kc20 := c2.out.c0; have kc21 := c2.out.c1
    refine (Ht1.out w1 (HhL.out.after cb.out) (HhH.out.after cb.out)).mono ?_
    rintro e w2 ⟨rfl, hb_⟩
    clear kc20 kc21
    replace c1 := hideP (c1.out.after hb_)
    replace c2 := hideP (c2.out.after hb_)
    replace c3 := hideP (c3.out.after hb_)
    replace cb := hideP (bstep cb.out hb_)
    clear hb_
    have q0 := c1.out.c0
    have q1 := c1.out.c1
    have q2 := c1.out.c2
    have kc20 := c2.out.c0; have kc21 := c2.out.c1
    go_wp2_with fail
    refine (Ht2.out w2).mono ?_
    rintro e w3 ⟨rfl, hb_⟩
    clear q0 q1 q2
    clear kc20 kc21
    replace c1 := hideP (c1.out.after hb_)
    replace c2 := hideP (c2.out.after hb_)
    replace c3 := hideP (c3.out.after hb_)
    replace cb := hideP (bstep cb.out hb_)
    clear hb_
    have q0 := c1.out.c0
    have q1 := c1.out.c1
    have q2 := c1.out.c2
    have kc20 := c2.out.c0; have kc21 := c2.out.c1
    have k1 := cell_below cb.out Hhb.out Hu1.out
    go_wp2_with fail
    refine (Htup.out w3).mono ?_
    rintro e w4 ⟨rfl, hb_⟩
    clear q0 q1 q2 k1
    clear kc20 kc21
    replace c1 := hideP (c1.out.after hb_)
    replace c2 := hideP (c2.out.after hb_)
    replace c3 := hideP (c3.out.after hb_)
    replace cb := hideP (bstep cb.out hb_)
    clear hb_
    have q0 := (c1.out.alloc (Obj.cells #[.int .u64 h1, .int .u64 l1] 165)).c0
    have q1 := (c1.out.alloc (Obj.cells #[.int .u64 h1, .int .u64 l1] 165)).c1
    have q2 := (c1.out.alloc (Obj.cells #[.int .u64 h1, .int .u64 l1] 165)).c2
    have p0 := (c2.out.alloc (Obj.cells #[.int .u64 h1, .int .u64 l1] 165)).c0
    have p1 := (c2.out.alloc (Obj.cells #[.int .u64 h1, .int .u64 l1] 165)).c1
    have k2 : (w4.alloc (Obj.cells #[.int .u64 h1, .int .u64 l1] 165)).cell? ⟨b', off' + j, none⟩ = _ := cell_below (cb.out.alloc cb.out.size _) Hhb'.out Hu2.out
    go_wp2_with fail
    clear q0 q1 q2 p0 p1 k2
    obtain ⟨v4, hv_⟩ : ∃ v, v = w4.alloc (Obj.cells #[.int .u64 h1, .int .u64 l1] 165) := ⟨_, rfl⟩
    obtain ⟨g7, hg_⟩ : ∃ g, g = w4.heap.size := ⟨_, rfl⟩
    have hb_ : Below w4.heap.size w4 v4 := by rw [hv_]; exact below_new _ _
    have x7 := hideP (show Two v4 g7 165 (.int .u64 h1) (.int .u64 l1) by rw [hv_, hg_]; exact Two.new _ _ _ _)
    have Gx7 := hideP (show w4.heap.size ≤ g7 from Nat.le_of_eq hg_.symm)
    have Lc3x7 := hideP (Nat.lt_of_lt_of_eq c3.out.lt hg_.symm)
    replace c1 := hideP (c1.out.after hb_)
    replace c2 := hideP (c2.out.after hb_)
    replace c3 := hideP (c3.out.after hb_)
    replace cb := hideP (bstep cb.out hb_)
    rw [← hv_, ← hg_]
    clear hv_ hg_ hb_
    have q2 := c1.out.c2
    have kc20 := c2.out.c0; have kc21 := c2.out.c1
    have N0 := hideP (show ¬ (w.heap.size = g7) by have := Lc3x7.out; omega)
    have N1 := hideP (show ¬ (w.heap.size + 1 = g7) by have := Lc3x7.out; omega)
    refine wp_region_mut (S := fun k => k = g7) 14 (.q 0 (.q 1 (.q 2 (.q 3 (.q 4 (.q 5 (.q 6 (.q 7 (.q 8 (.q 9 (.q 10 (.q 11 (.q 12 (.l 13 .nil)))))))))))))) (by kernel_rfl) (by kernel_rfl) ?_
    simp only [pickT, nthO_zero, nthO_succ]
    iterate 9 (refine wpM_valK (by rfl) (fun K hK => ?_); apply Exists.intro; refine ⟨fun W hW => ?_, ?_⟩; (focus (have hs1 := hW.cell kc20 N1.out; have hs2 := hW.cell kc21 N1.out; have hs3 := hW.cell q2 N0.out; go_simp; (try rfl); done)); go_simp; refine hK _ ?_; clear hK K)
    have NS := hideP (show ∀ k, k < w.heap.size → ¬ k = g7 from fun k hk => by have := Lc3x7.out; omega)
    refine wpM_callK (.tuple #[.agg #[.int .u64 h3, .int .u64 l3], .int .i64 0]) 219 #[.slice A m ca, .agg #[.slice (some ⟨b, off + 1, none⟩) (n - 1) (dl - 1), .slice (some ⟨b', off' + 1, none⟩) (n - 1) (sh - 1)]] (by rfl) (fun W => by go_simp)
      (fun W hW => (TT.out W (HhA.out.after (below_but cb.out hW.drew_left NS.out)) (HhL2.out.after (below_but cb.out hW.drew_left NS.out)) (HhH2.out.after (below_but cb.out hW.drew_left NS.out))).mono fun e w' h => ⟨h.1, Ext.of_below h.2⟩) (fun K hK => ?_)
    go_simp
    refine hK _ ?_
    clear hK K
    iterate 3 (refine wpM_valK (by rfl) (fun K hK => ?_); apply Exists.intro; refine ⟨fun W hW => ?_, ?_⟩; (focus (go_simp; (try rfl); done)); go_simp; refine hK _ ?_; clear hK K)
    refine wpM_storeK (by rfl) (fun W hW => ⟨(W.setCell ⟨g7, 0, none⟩ (.int .u64 h3)).setCell ⟨g7, 1, none⟩ (.int .u64 l3), ⟨?_, But.set2 _ _ _ _ rfl⟩, fun K hK => ?_⟩)
    · have x7' := x7.out.ext hW.drew_left
      have f0 := x7'.fz 0
      have f1 := x7'.fz 1
      have g0 := x7'.c0
      have g1 := x7'.c1
      clear x7'
      go_simp
    go_simp
    refine hK _ ?_
    clear hK K q2
    clear kc20 kc21
    have N7' := Lc3x7.out
    replace c2 := hideP (((c2.out.ext hW.drew_left).setOther (a := ⟨g7, 0, none⟩) (by simp; omega) (.int .u64 h3)).setOther (a := ⟨g7, 1, none⟩) (by simp; omega) (.int .u64 l3))
    replace c3 := hideP (((c3.out.ext hW.drew_left).setOther (a := ⟨g7, 0, none⟩) (by simp; omega) (.int .u64 h3)).setOther (a := ⟨g7, 1, none⟩) (by simp; omega) (.int .u64 l3))
    replace cb := hideP (((below_ext cb.out hW.drew_left).setCell (p := ⟨g7, 0, none⟩) (by simp; omega) (.int .u64 h3)).setCell (p := ⟨g7, 1, none⟩) (by simp; omega) (.int .u64 l3))
    replace x7 := hideP ((x7.out.ext hW.drew_left).set2 (.int .u64 h3) (.int .u64 l3))
    clear hW N7'
    refine wpM_nil (fun w8 hW0 => ?_)
    simp only [List.drop_succ_cons, List.drop_zero, List.drop_nil]
    replace c2 := hideP (c2.out.ext hW0)
    replace c3 := hideP (c3.out.ext hW0)
    replace x7 := hideP (x7.out.ext hW0)
    replace cb := hideP (below_ext cb.out hW0)
    clear hW0 N0 N1
    go_wp2
    have kc20 := c2.out.c0; have kc21 := c2.out.c1
    have kx70 := x7.out.c0; have kx71 := x7.out.c1
    have z0 := cell_below cb.out Hhb.out Hu0.out
    have N2 := hideP (show ¬ (w.heap.size + 1 = w.heap.size + 1 + 1) by omega)
    have N7 := hideP (show ¬ (g7 = w.heap.size + 1 + 1) by have := Lc3x7.out; omega)
    have Nb := hideP (show ¬ (b = w.heap.size + 1 + 1) by have := Hhb.out; omega)
    refine wp_region_mut (S := fun k => k = w.heap.size + 1 + 1) 8 (.q 0 (.q 1 (.q 2 (.q 3 (.q 4 (.l 5 (.q 6 (.q 7 .nil)))))))) (by kernel_rfl) (by kernel_rfl) ?_
    simp only [pickT, nthO_zero, nthO_succ]
    iterate 5 (refine wpM_valK (by rfl) (fun K hK => ?_); apply Exists.intro; refine ⟨fun W hW => ?_, ?_⟩; (focus (have hs1 := hW.cell kc20 N2.out; have hs2 := hW.cell kc21 N2.out; have hs3 := hW.cell kx70 N7.out; have hs4 := hW.cell kx71 N7.out; have hs5 := hW.cell z0 Nb.out; go_simp; (try rfl); done)); go_simp; refine hK _ ?_; clear hK K)
    refine wpM_storeK (by rfl) (fun W hW => ⟨(W.setCell ⟨w.heap.size + 1 + 1, 0, none⟩ (.int .u64 h3)).setCell ⟨w.heap.size + 1 + 1, 1, none⟩ (.int .u64 l3), ⟨?_, But.set2 _ _ _ _ rfl⟩, fun K hK => ?_⟩)
    · have c3' := c3.out.ext hW.drew_left
      have f0 := c3'.fz 0
      have f1 := c3'.fz 1
      have g0 := c3'.c0
      have g1 := c3'.c1
      clear c3'
      go_simp
    go_simp
    refine hK _ ?_
    clear hK K
    replace c3 := hideP ((c3.out.ext hW.drew_left).set2 (.int .u64 h3) (.int .u64 l3))
    replace cb := hideP (((below_ext cb.out hW.drew_left).setCell (p := ⟨w.heap.size + 1 + 1, 0, none⟩) (by simp; omega) (.int .u64 h3)).setCell (p := ⟨w.heap.size + 1 + 1, 1, none⟩) (by simp; omega) (.int .u64 l3))
    clear hW z0 kc20 kc21 kx70 kx71
    iterate 2 (refine wpM_valK (by rfl) (fun K hK => ?_); apply Exists.intro; refine ⟨fun W hW => ?_, ?_⟩; (focus (go_simp; (try rfl); done)); go_simp; refine hK _ ?_; clear hK K)
    refine wpM_nil (fun w7 hW0 => ?_)
    simp only [List.drop_succ_cons, List.drop_zero, List.drop_nil]
    replace c3 := hideP (c3.out.ext hW0)
    replace cb := hideP (below_ext cb.out hW0)
    clear hW0
    go_wp2
    refine ret_dist3 rfl rfl rfl rfl c3.out rfl ?_
    exact ⟨rfl, cb.out⟩
end Go.Proofs.Ytglmohcnmpbfmaa
namespace Go.Proofs.Ytglmohcnmpbfmaa
open Go.RowKit
/-- a box's least key, 0 if there is none -/
def leastD (K col : Int) (at_ lo hi : List Int) : Nat := if leastB K col at_.length lo hi = true then leastN K col at_ lo hi else 0
theorem leastB_len {K col : Int} {m : Nat} {lo hi : List Int} (h : leastB K col m lo hi = true) : 1 ≤ lo.length ∧ lo.length ≤ 8 ∧ hi.length = lo.length := by
  unfold leastB at h
  simp only [Bool.and_eq_true] at h
  have := rightB_len h.1
  omega
theorem leastN_lt (K col : Int) (at_ lo hi : List Int) (ha : IsI at_) (il : IsI lo) (ih : IsI hi) (hn : lo.length ≤ 8) : leastN K col at_ lo hi < 147573952589676412928 := by
  have h1 := il col.toNat
  have h2 := ih col.toNat
  have h3 := dbox_lt at_ (lo.drop 1) (hi.drop 1) (lo.length - 1) ha il.drop ih.drop (by omega)
  unfold leastN
  split
  · omega
  · split
    · exact h3
    · omega
theorem leastD_lt (K col : Int) (at_ lo hi : List Int) (ha : IsI at_) (il : IsI lo) (ih : IsI hi) : leastD K col at_ lo hi < 340282366920938463463374607431768211456 := by
  unfold leastD
  split
  · rename_i h
    exact Nat.lt_trans (leastN_lt K col at_ lo hi ha il ih (leastB_len h).2.1) (by decide)
  · decide
/-- is a box beyond a row? -/
def beyondB (K col : Int) (at_ lo hi p : List Int) : Bool :=
  leastB K col at_.length lo hi && ordB K col at_.length p.length && decide (p.length = lo.length) && aheadB (keyN K col at_ p) (leastN K col at_ lo hi) (p.getD 0 0) (lo.getD 0 0)
theorem least_any (K col : Int) (A L H : Option Addr) (at_ lo hi : List Int) (ca dl sh : Nat) (ia : IsI at_) (il : IsI lo) (ih : IsI hi) (hm : lo.length ≤ 9223372036854775807) (hd : lo.length ≤ dl) (hs : hi.length ≤ sh) :
    ∃ (er id : Int), ((er = 0 ∧ leastB K col at_.length lo hi = true ∧ id = lo.getD 0 0) ∨ (er = 1 ∧ leastB K col at_.length lo hi = false ∧ id = 0)) ∧ ∀ w, Arr w w.heap.size A at_.length (i64s at_) → Arr w w.heap.size L lo.length (i64s lo) → Arr w w.heap.size H hi.length (i64s hi) →
      Calls Try.prog 168 #[.agg #[.int .u8 K, .int .i64 col, .slice A at_.length ca], .agg #[.slice L lo.length dl, .slice H hi.length sh]] w fun e w' => e = .returned (.tuple #[dv (leastD K col at_ lo hi), .int .i64 id, .int .i64 er]) ∧ Below w.heap.size w w' := by
  by_cases h : leastB K col at_.length lo hi = true
  · refine ⟨0, lo.getD 0 0, .inl ⟨rfl, h, rfl⟩, fun w hA hL hH => ?_⟩
    have := least_in K col A L H at_ lo hi ca dl sh w hA hL hH ia il ih hd hs h
    unfold leastD
    rw [if_pos h]
    exact this
  · have h' : leastB K col at_.length lo hi = false := by simpa using h
    refine ⟨1, 0, .inr ⟨rfl, h', rfl⟩, fun w hA hL hH => ?_⟩
    have := least_no K col A L H at_ lo hi ca dl sh w hL hH hm h'
    unfold leastD
    rw [if_neg h]
    exact this
set_option maxRecDepth 100000 in
set_option maxHeartbeats 4000000 in
theorem beyond_any (K col : Int) (A L H P : Option Addr) (at_ lo hi p : List Int) (ca dl sh c : Nat) (w : World) (hA : Arr w w.heap.size A at_.length (i64s at_)) (hL : Arr w w.heap.size L lo.length (i64s lo)) (hH : Arr w w.heap.size H hi.length (i64s hi)) (hP : Arr w w.heap.size P p.length (i64s p))
    (ha : IsI at_) (il : IsI lo) (ih : IsI hi) (hp : IsI p) (hn : p.length ≤ 9223372036854775807) (hm : lo.length ≤ 9223372036854775807) (hc : p.length ≤ c) (hdl : lo.length ≤ dl) (hsh : hi.length ≤ sh) :
    Calls Try.prog 106 #[.agg #[.int .u8 K, .int .i64 col, .slice A at_.length ca], .agg #[.slice L lo.length dl, .slice H hi.length sh], .slice P p.length c] w fun e w' => e = .returned (.bool (beyondB K col at_ lo hi p)) ∧ Below w.heap.size w w' := by
  obtain ⟨e1, id, hE1, t1⟩ := least_any K col A L H at_ lo hi ca dl sh ha il ih hm hdl hsh
  obtain ⟨e2, hE2, t2⟩ := key_any K col A at_ ca ha P p c hp hn hc
  have t3 := fun W => ahead_any (keyD K col at_ p) (leastD K col at_ lo hi) (p.getD 0 0) id W (keyD_lt K col at_ p hp ha) (leastD_lt K col at_ lo hi ha il ih)
  obtain ⟨z, hz⟩ : ∃ z, z = aheadB (keyD K col at_ p) (leastD K col at_ lo hi) (p.getD 0 0) id := ⟨_, rfl⟩
  rw [← hz] at t3
  obtain ⟨r, hr⟩ : ∃ r, r = beyondB K col at_ lo hi p := ⟨_, rfl⟩
  rw [← hr]
  have hcase : (e1 = 1 ∧ r = false) ∨ (e1 = 0 ∧ e2 = 1 ∧ r = false) ∨ (e1 = 0 ∧ e2 = 0 ∧ p.length ≠ lo.length ∧ r = false) ∨ (e1 = 0 ∧ e2 = 0 ∧ p.length = lo.length ∧ 1 ≤ p.length ∧ r = z) := by
    rw [hr, hz]
    unfold beyondB keyD leastD
    rcases hE1 with ⟨h1, h2, h5⟩ | ⟨h1, h2, h5⟩ <;> rcases hE2 with ⟨h3, h4⟩ | ⟨h3, h4⟩
    · by_cases hl : p.length = lo.length
      · right; right; right
        exact ⟨h1, h3, hl, ordB_len h4, by rw [if_pos h2, if_pos h4, h2, h4, h5]; simp [hl]⟩
      · right; right; left
        exact ⟨h1, h3, hl, by simp [hl]⟩
    · right; left; exact ⟨h1, h3, by simp [h4]⟩
    · left; exact ⟨h1, by simp [h2]⟩
    · left; exact ⟨h1, by simp [h2]⟩
  unfold dv dvp at t1 t2 t3
  obtain ⟨h1, g1⟩ : ∃ h, h = leastD K col at_ lo hi / 18446744073709551616 := ⟨_, rfl⟩
  obtain ⟨l1, g2⟩ : ∃ l, l = leastD K col at_ lo hi % 18446744073709551616 := ⟨_, rfl⟩
  obtain ⟨h2, g3⟩ : ∃ h, h = keyD K col at_ p / 18446744073709551616 := ⟨_, rfl⟩
  obtain ⟨l2, g4⟩ : ∃ l, l = keyD K col at_ p % 18446744073709551616 := ⟨_, rfl⟩
  rw [← g1, ← g2] at t1 t3
  rw [← g3, ← g4] at t2 t3
  obtain ⟨m, hm'⟩ : ∃ m, m = at_.length := ⟨_, rfl⟩
  rw [← hm'] at t1 t2 hA ⊢
  obtain ⟨x, hx⟩ : ∃ x, x = p.getD 0 0 := ⟨_, rfl⟩
  rw [← hx] at t3
  obtain ⟨np, hnp⟩ : ∃ n, n = p.length := ⟨_, rfl⟩
  obtain ⟨nq, hnq⟩ : ∃ n, n = lo.length := ⟨_, rfl⟩
  obtain ⟨nh, hnh⟩ : ∃ n, n = hi.length := ⟨_, rfl⟩
  rw [← hnp] at hcase t2 hP ⊢
  rw [← hnq] at hcase t1 hL ⊢
  rw [← hnh] at t1 hH ⊢
  clear hr hz g1 g2 g3 g4 hE1 hE2 hm' hn hm hc hdl hsh ha il ih hp hnp hnq hnh
  have Ht1 := hideP t1; have Ht2 := hideP t2; have Ht3 := hideP t3; have HhA := hideP hA; have HhL := hideP hL; have HhH := hideP hH; have HhP := hideP hP; have Hhx := hideP hx; clear t1 t2 t3 hA hL hH hP hx
  rcases hcase with ⟨rfl, rfl⟩ | ⟨rfl, rfl, rfl⟩ | ⟨rfl, rfl, hne, rfl⟩ | ⟨rfl, rfl, heq, hpos, rfl⟩
  case' inr.inr.inl => have tl : ((np : Int) == nq) = false := by simp; omega
  case' inr.inr.inl => clear hne
  case' inr.inr.inr =>
    obtain rfl := heq
    have j0 : (0 : Int) < np := by omega
    have jn : 0 < np := by omega
    obtain ⟨b, off, rfl, hb, hcl⟩ := HhP.out (by omega)
    have u1 := hcl 0 (by omega)
    rw [Nat.add_zero] at u1
    unfold i64s at u1
    rw [← Hhx.out] at u1
    have Hu1 := hideP u1; have Hhb := hideP hb; clear u1 hb
    clear hcl hpos
  · skip
    go_enter Try.func106, Try.ntmps106
    go_wp2_with fail
    obtain ⟨w1, hw1⟩ : ∃ w1, w1 = (w.alloc (Obj.cells #[.int .u8 K, .int .i64 col, .slice A m ca] 62)).alloc (Obj.cells #[.slice L np dl, .slice H nh sh] 33) := ⟨_, rfl⟩
    have c1 := hideP (show Three w1 w.heap.size 62 (.int .u8 K) (.int .i64 col) (.slice A m ca) by rw [hw1]; exact (Three.new _ _ _ _ _).alloc _)
    have c2 := hideP (show Two w1 (w.heap.size + 1) 33 (.slice L np dl) (.slice H nh sh) by rw [hw1]; exact Two.new' _ _ _ _ _ (by simp))
    have cb := hideP (show Below w.heap.size w w1 by rw [hw1]; exact (below_new _ _).alloc (by simp) _)
    rw [← hw1]
    clear hw1
    refine (Ht1.out w1 (HhA.out.after cb.out) (HhL.out.after cb.out) (HhH.out.after cb.out)).mono ?_
    rintro e w2 ⟨rfl, hb_⟩
    replace c1 := hideP (c1.out.after hb_)
    replace c2 := hideP (c2.out.after hb_)
    replace cb := hideP (bstep cb.out hb_)
    clear hb_
    have q0 := (c1.out.alloc (Obj.cells #[.int .u64 h1, .int .u64 l1] 165)).c0
    have q1 := (c1.out.alloc (Obj.cells #[.int .u64 h1, .int .u64 l1] 165)).c1
    have q2 := (c1.out.alloc (Obj.cells #[.int .u64 h1, .int .u64 l1] 165)).c2
    go_wp2_with fail
    clear q0 q1 q2
    obtain ⟨v2, hv_⟩ : ∃ v, v = w2.alloc (Obj.cells #[.int .u64 h1, .int .u64 l1] 165) := ⟨_, rfl⟩
    obtain ⟨g2, hg_⟩ : ∃ g, g = w2.heap.size := ⟨_, rfl⟩
    have hb_ : Below w2.heap.size w2 v2 := by rw [hv_]; exact below_new _ _
    have x2 := hideP (show Two v2 g2 165 (.int .u64 h1) (.int .u64 l1) by rw [hv_, hg_]; exact Two.new _ _ _ _)
    have Gx2 := hideP (show w2.heap.size ≤ g2 from Nat.le_of_eq hg_.symm)
    replace c1 := hideP (c1.out.after hb_)
    replace c2 := hideP (c2.out.after hb_)
    replace cb := hideP (bstep cb.out hb_)
    rw [← hv_, ← hg_]
    clear hv_ hg_ hb_
    refine (Ht2.out v2 (HhA.out.after cb.out) (HhP.out.after cb.out)).mono ?_
    rintro e w3 ⟨rfl, hb_⟩
    replace c2 := hideP (c2.out.after hb_)
    replace x2 := hideP (x2.out.after hb_)
    replace cb := hideP (bstep cb.out hb_)
    clear hb_
    go_wp2
    obtain ⟨v3, hv_⟩ : ∃ v, v = w3.alloc (Obj.cells #[.int .u64 h2, .int .u64 l2] 165) := ⟨_, rfl⟩
    obtain ⟨g3, hg_⟩ : ∃ g, g = w3.heap.size := ⟨_, rfl⟩
    have hb_ : Below w3.heap.size w3 v3 := by rw [hv_]; exact below_new _ _
    have x3 := hideP (show Two v3 g3 165 (.int .u64 h2) (.int .u64 l2) by rw [hv_, hg_]; exact Two.new _ _ _ _)
    have Gx3 := hideP (show w3.heap.size ≤ g3 from Nat.le_of_eq hg_.symm)
    replace c2 := hideP (c2.out.after hb_)
    replace x2 := hideP (x2.out.after hb_)
    replace cb := hideP (bstep cb.out hb_)
    rw [← hv_, ← hg_]
    clear hv_ hg_ hb_
    have kc20 := c2.out.c0; have kc21 := c2.out.c1
    have kx20 := x2.out.c0; have kx21 := x2.out.c1
    have kx30 := x3.out.c0; have kx31 := x3.out.c1
    have v1 := cell_below cb.out Hhb.out Hu1.out
    refine wp_region_eager 24 [(true, 0), (true, 1), (true, 2), (true, 3), (true, 4), (true, 5), (true, 6), (true, 7), (true, 8), (true, 9), (true, 10), (true, 11), (true, 12), (true, 13), (true, 14), (true, 15), (true, 16), (true, 17), (true, 18), (true, 19), (true, 20), (true, 21), (true, 22), (true, 23)] (by kernel_rfl) (by kernel_rfl) ?_
    simp only [pick, List.map_cons, List.map_nil, nthO_zero, nthO_succ]
    repeat (first
      | (refine wpPlan_skipK (by rfl) (fun K hK => ?_); go_simp; refine hK _ ?_; clear hK K)
      | (refine wpPlan_valK (by rfl) (fun K hK => ?_); apply Exists.intro; refine ⟨fun W hW => ?_, ?_⟩; (focus (have hs0 := hW.cell kc20; have hs1 := hW.cell kc21; have hs2 := hW.cell kx20; have hs3 := hW.cell kx21; have hs4 := hW.cell kx30; have hs5 := hW.cell kx31; have hs6 := hW.cell v1; go_simp; (try rfl); done)); go_simp; refine hK _ ?_; clear hK K)
      | (refine wpPlan_callK (.bool r) 169 #[.agg #[.int .u64 h2, .int .u64 l2], .int .i64 x, .agg #[.int .u64 h1, .int .u64 l1], .int .i64 id] (by rfl) ?_ (fun W hW => (Ht3.out W).mono fun e w' h => ⟨h.1, Ext.of_below h.2⟩) (fun K hK => ?_); (focus (intro W; go_simp; done)); go_simp; refine hK _ ?_; clear hK K))
    refine wpPlan_nil (fun w4 hW0 => ?_)
    simp only [List.drop_succ_cons, List.drop_zero, List.drop_nil]
    replace cb := hideP (below_ext cb.out hW0.drew_left)
    clear hW0
    go_wp2
    go_ret
    exact ⟨rfl, cb.out⟩
  all_goals
    go_enter Try.func106, Try.ntmps106
    go_wp2_with fail
    obtain ⟨w1, hw1⟩ : ∃ w1, w1 = (w.alloc (Obj.cells #[.int .u8 K, .int .i64 col, .slice A m ca] 62)).alloc (Obj.cells #[.slice L nq dl, .slice H nh sh] 33) := ⟨_, rfl⟩
    have c1 := hideP (show Three w1 w.heap.size 62 (.int .u8 K) (.int .i64 col) (.slice A m ca) by rw [hw1]; exact (Three.new _ _ _ _ _).alloc _)
    have c2 := hideP (show Two w1 (w.heap.size + 1) 33 (.slice L nq dl) (.slice H nh sh) by rw [hw1]; exact Two.new' _ _ _ _ _ (by simp))
    have cb := hideP (show Below w.heap.size w w1 by rw [hw1]; exact (below_new _ _).alloc (by simp) _)
    rw [← hw1]
    clear hw1
    refine (Ht1.out w1 (HhA.out.after cb.out) (HhL.out.after cb.out) (HhH.out.after cb.out)).mono ?_
    rintro e w2 ⟨rfl, hb_⟩
    replace c1 := hideP (c1.out.after hb_)
    replace c2 := hideP (c2.out.after hb_)
    replace cb := hideP (bstep cb.out hb_)
    clear hb_
    have q0 := (c1.out.alloc (Obj.cells #[.int .u64 h1, .int .u64 l1] 165)).c0
    have q1 := (c1.out.alloc (Obj.cells #[.int .u64 h1, .int .u64 l1] 165)).c1
    have q2 := (c1.out.alloc (Obj.cells #[.int .u64 h1, .int .u64 l1] 165)).c2
    go_wp2_with fail
    clear q0 q1 q2
    obtain ⟨v2, hv_⟩ : ∃ v, v = w2.alloc (Obj.cells #[.int .u64 h1, .int .u64 l1] 165) := ⟨_, rfl⟩
    obtain ⟨g2, hg_⟩ : ∃ g, g = w2.heap.size := ⟨_, rfl⟩
    have hb_ : Below w2.heap.size w2 v2 := by rw [hv_]; exact below_new _ _
    have x2 := hideP (show Two v2 g2 165 (.int .u64 h1) (.int .u64 l1) by rw [hv_, hg_]; exact Two.new _ _ _ _)
    have Gx2 := hideP (show w2.heap.size ≤ g2 from Nat.le_of_eq hg_.symm)
    replace c1 := hideP (c1.out.after hb_)
    replace c2 := hideP (c2.out.after hb_)
    replace cb := hideP (bstep cb.out hb_)
    rw [← hv_, ← hg_]
    clear hv_ hg_ hb_
    refine (Ht2.out v2 (HhA.out.after cb.out) (HhP.out.after cb.out)).mono ?_
    rintro e w3 ⟨rfl, hb_⟩
    replace c2 := hideP (c2.out.after hb_)
    replace x2 := hideP (x2.out.after hb_)
    replace cb := hideP (bstep cb.out hb_)
    clear hb_
    go_wp2
    obtain ⟨v3, hv_⟩ : ∃ v, v = w3.alloc (Obj.cells #[.int .u64 h2, .int .u64 l2] 165) := ⟨_, rfl⟩
    obtain ⟨g3, hg_⟩ : ∃ g, g = w3.heap.size := ⟨_, rfl⟩
    have hb_ : Below w3.heap.size w3 v3 := by rw [hv_]; exact below_new _ _
    have x3 := hideP (show Two v3 g3 165 (.int .u64 h2) (.int .u64 l2) by rw [hv_, hg_]; exact Two.new _ _ _ _)
    have Gx3 := hideP (show w3.heap.size ≤ g3 from Nat.le_of_eq hg_.symm)
    replace c2 := hideP (c2.out.after hb_)
    replace x2 := hideP (x2.out.after hb_)
    replace cb := hideP (bstep cb.out hb_)
    rw [← hv_, ← hg_]
    clear hv_ hg_ hb_
    have kc20 := c2.out.c0; have kc21 := c2.out.c1
    have kx20 := x2.out.c0; have kx21 := x2.out.c1
    have kx30 := x3.out.c0; have kx31 := x3.out.c1
    refine wp_region_eager 24 [(true, 0), (true, 1), (true, 2), (true, 3), (true, 4), (true, 5), (true, 6), (true, 7), (true, 8), (true, 9), (true, 10), (true, 11), (true, 12), (true, 13), (true, 14), (true, 15), (true, 16), (true, 17), (true, 18), (true, 19), (true, 20), (true, 21), (true, 22), (true, 23)] (by kernel_rfl) (by kernel_rfl) ?_
    simp only [pick, List.map_cons, List.map_nil, nthO_zero, nthO_succ]
    repeat (first
      | (refine wpPlan_skipK (by rfl) (fun K hK => ?_); go_simp; refine hK _ ?_; clear hK K)
      | (refine wpPlan_valK (by rfl) (fun K hK => ?_); apply Exists.intro; refine ⟨fun W hW => ?_, ?_⟩; (focus (have hs0 := hW.cell kc20; have hs1 := hW.cell kc21; have hs2 := hW.cell kx20; have hs3 := hW.cell kx21; have hs4 := hW.cell kx30; have hs5 := hW.cell kx31; go_simp; (try rfl); done)); go_simp; refine hK _ ?_; clear hK K))
    refine wpPlan_nil (fun w4 hW0 => ?_)
    simp only [List.drop_succ_cons, List.drop_zero, List.drop_nil]
    replace cb := hideP (below_ext cb.out hW0.drew_left)
    clear hW0
    go_wp2
    go_ret
    exact ⟨rfl, cb.out⟩
end Go.Proofs.Ytglmohcnmpbfmaa
namespace Go.Proofs.Ytglmohcnmpbfmaa
open Go.RowKit

set_option maxRecDepth 100000 in
set_option maxHeartbeats 1000000 in
theorem rbright_any (L H : Option Addr) (lo hi : List Int) (dl sh : Nat) (d : Int) (w : World) (hL : Arr w w.heap.size L lo.length (i64s lo)) (hH : Arr w w.heap.size H hi.length (i64s hi)) :
    Calls Try.prog 34 #[.agg #[.slice L lo.length dl, .slice H hi.length sh], .int .i64 d] w fun e w' => e = .returned (.bool (rightB lo hi d)) ∧ Below w.heap.size w w' := by
  have HL := hideP hL; have HH := hideP hH
  clear hL hH
  by_cases h1 : 1 ≤ d
  case neg =>
    have hr := hideP (show rightB lo hi d = false by simp [rightB, h1])
    have t : decide (d < 1) = true := by simp; omega
    go_enter Try.func34, Try.ntmps34
    go_wp2
    go_ret
    exact ⟨by rw [hr.out]; rfl, below_new _ _⟩
  have t1 : decide (d < 1) = false := by simp; omega
  by_cases h2 : d ≤ 8
  case neg =>
    have hr := hideP (show rightB lo hi d = false by simp [rightB, h2])
    have t : decide (8 < d) = true := by simp; omega
    go_enter Try.func34, Try.ntmps34
    go_wp2
    go_ret
    exact ⟨by rw [hr.out]; rfl, below_new _ _⟩
  have t2 : decide (8 < d) = false := by simp; omega
  by_cases h3 : (lo.length : Int) = d
  case neg =>
    have hr := hideP (show rightB lo hi d = false by simp [rightB, h3])
    have t : ((lo.length : Int) != d) = true := by simp [h3]
    clear h3
    go_enter Try.func34, Try.ntmps34
    go_wp2
    go_ret
    exact ⟨by rw [hr.out]; rfl, below_new _ _⟩
  have t3 : ((lo.length : Int) != d) = false := by simp [h3]
  by_cases h4 : (hi.length : Int) = d
  case neg =>
    have hr := hideP (show rightB lo hi d = false by simp [rightB, h4])
    have t : ((hi.length : Int) != d) = true := by simp [h4]
    clear h3 h4
    go_enter Try.func34, Try.ntmps34
    go_wp2
    go_ret
    exact ⟨by rw [hr.out]; rfl, below_new _ _⟩
  have t4 : ((hi.length : Int) != d) = false := by simp [h4]
  obtain ⟨n, hn⟩ : ∃ n, n = lo.length := ⟨_, rfl⟩
  have hm : hi.length = n := by omega
  obtain rfl : d = n := by omega
  have hr := hideP (show rightB lo hi n = leAll lo hi n by unfold rightB; simp only [decide_true, Bool.true_and, hn ▸ h1, h2, ← hn, hm, decide_eq_true h1])
  have h8 : n ≤ 8 := by omega
  rw [hm] at HH t4 ⊢
  rw [← hn] at HL t3 ⊢
  clear h1 h2 h3 h4 hn hm
  go_enter Try.func34, Try.ntmps34
  go_wp2_with fail
  obtain ⟨w1, hw1⟩ : ∃ w1, w1 = w.alloc (Obj.cells #[.slice L n dl, .slice H n sh] 33) := ⟨_, rfl⟩
  have c1 := hideP (show Two w1 w.heap.size 33 (.slice L n dl) (.slice H n sh) by rw [hw1]; exact Two.new _ _ _ _)
  have cb := hideP (show Below w.heap.size w w1 by rw [hw1]; exact below_new _ _)
  rw [← hw1]
  clear hw1
  go_loopw [5] (fun v5 wr => ∃ k : Nat, k ≤ n ∧ v5 = .int .i64 k ∧ Hid (leAll lo hi k = true ∧ Two wr w.heap.size 33 (.slice L n dl) (.slice H n sh) ∧ Below w.heap.size w wr)) (fun v5 _ => n - (intOf v5).toNat)
  case atStart => exact ⟨0, by omega, rfl, rfl, c1.out, cb.out⟩
  case round =>
    obtain ⟨k, hk, rfl, hW⟩ := hrel
    clear c1 cb
    by_cases hlt : k < n
    · have t' : decide ((k : Int) < n) = true := by simp; omega
      obtain ⟨b, off, rfl, hb, hc⟩ := (HL.out.below hW.out.2.2) (by omega)
      obtain ⟨b', off', rfl, hb', hc'⟩ := (HH.out.below hW.out.2.2) (by omega)
      have k1 := hc k hlt
      have k2 := hc' k hlt
      unfold i64s at k1 k2
      have kc10 := hW.out.2.1.c0
      have kc11 := hW.out.2.1.c1
      have hst : leAll lo hi (k + 1) = (leAll lo hi k && decide (lo.getD k 0 ≤ hi.getD k 0)) := range_all_succ _ k
      have hfl := fun h : decide (lo.getD k 0 ≤ hi.getD k 0) = false => (show leAll lo hi n = false from range_all_false _ n k hlt h)
      obtain ⟨x, ex⟩ : ∃ x, x = lo.getD k 0 := ⟨_, rfl⟩
      obtain ⟨y, ey⟩ : ∃ y, y = hi.getD k 0 := ⟨_, rfl⟩
      rw [← ex] at k1 hst hfl
      rw [← ey] at k2 hst hfl
      rw [hW.out.1, Bool.true_and] at hst
      clear ex ey hc hc' hb hb'
      by_cases hxy : x ≤ y
      · have t : decide (y < x) = false := by simp; omega
        have hs := hideP (show leAll lo hi (k + 1) = true by rw [hst]; simp [hxy])
        clear hst hfl hxy
        go_wp2
        refine wp_region_eager 11 [(true, 0), (true, 1), (true, 2), (true, 3), (true, 4), (true, 5), (true, 6), (true, 7), (true, 8), (true, 9), (true, 10)] (by kernel_rfl) (by kernel_rfl) ?_
        simp only [pick, List.map_cons, List.map_nil, nthO_zero, nthO_succ]
        repeat (first
          | (refine wpPlan_skipK (by rfl) (fun K hK => ?_); go_simp; refine hK _ ?_; clear hK K)
          | (refine wpPlan_valK (by rfl) (fun K hK => ?_); apply Exists.intro; refine ⟨fun W hW => ?_, ?_⟩; (focus (have hs0 := hW.cell k1; have hs1 := hW.cell k2; have hs2 := hW.cell kc10; have hs3 := hW.cell kc11; go_simp; (try rfl); done)); go_simp; refine hK _ ?_; clear hK K))
        refine wpPlan_nil (fun W1 hW0 => ?_)
        simp only [List.drop_succ_cons, List.drop_zero, List.drop_nil]
        have c1 := hideP (hW.out.2.1.ext hW0.drew_left)
        have cb := hideP (below_ext hW.out.2.2 hW0.drew_left)
        clear hW hW0 k1 k2 kc10 kc11
        go_wp2
        go_roundw
        case rel => exact ⟨k + 1, by omega, by go_num, hs.out, c1.out, cb.out⟩
        case measure => simp [intOf]; omega
      · have t : decide (y < x) = true := by simp; omega
        have hs := hideP (hfl (by simp; omega))
        clear hst hfl hxy
        go_wp2
        refine wp_region_eager 11 [(true, 0), (true, 1), (true, 2), (true, 3), (true, 4), (true, 5), (true, 6), (true, 7), (true, 8), (true, 9), (true, 10)] (by kernel_rfl) (by kernel_rfl) ?_
        simp only [pick, List.map_cons, List.map_nil, nthO_zero, nthO_succ]
        repeat (first
          | (refine wpPlan_skipK (by rfl) (fun K hK => ?_); go_simp; refine hK _ ?_; clear hK K)
          | (refine wpPlan_valK (by rfl) (fun K hK => ?_); apply Exists.intro; refine ⟨fun W hW => ?_, ?_⟩; (focus (have hs0 := hW.cell k1; have hs1 := hW.cell k2; have hs2 := hW.cell kc10; have hs3 := hW.cell kc11; go_simp; (try rfl); done)); go_simp; refine hK _ ?_; clear hK K))
        refine wpPlan_nil (fun W1 hW0 => ?_)
        simp only [List.drop_succ_cons, List.drop_zero, List.drop_nil]
        have cb := hideP (below_ext hW.out.2.2 hW0.drew_left)
        clear hW hW0 k1 k2 kc10 kc11
        go_wp2
        go_ret
        exact ⟨by rw [hr.out, hs.out]; rfl, cb.out⟩
    · have t' : decide ((k : Int) < n) = false := by simp; omega
      obtain rfl : k = n := by omega
      go_wp2
      go_ret
      exact ⟨by rw [hr.out, hW.out.1]; rfl, hW.out.2.2⟩
/-- a box has a point -/
def hasB (lo hi p : List Int) : Bool := rightB lo hi p.length && (List.range p.length).all fun i => decide (lo.getD i 0 ≤ p.getD i 0) && decide (p.getD i 0 ≤ hi.getD i 0)
set_option maxRecDepth 100000 in
set_option maxHeartbeats 4000000 in
theorem rhas_any (L H P : Option Addr) (lo hi p : List Int) (dl sh c : Nat) (w : World) (hL : Arr w w.heap.size L lo.length (i64s lo)) (hH : Arr w w.heap.size H hi.length (i64s hi)) (hP : Arr w w.heap.size P p.length (i64s p)) (hn : p.length ≤ 9223372036854775807) :
    Calls Try.prog 14 #[.agg #[.slice L lo.length dl, .slice H hi.length sh], .slice P p.length c] w fun e w' => e = .returned (.bool (hasB lo hi p)) ∧ Below w.heap.size w w' := by
  have t1 := fun W h h' => rbright_any L H lo hi dl sh p.length W h h'
  obtain ⟨o, ho⟩ : ∃ o, o = rightB lo hi p.length := ⟨_, rfl⟩
  have hb := hideP (show hasB lo hi p = (o && (List.range p.length).all fun i => decide (lo.getD i 0 ≤ p.getD i 0) && decide (p.getD i 0 ≤ hi.getD i 0)) by unfold hasB; rw [ho])
  have hlen : o = true → lo.length = p.length ∧ hi.length = p.length := fun h => by
    rw [ho] at h; have := rightB_len h; omega
  rw [← ho] at t1
  clear ho
  have Ht1 := hideP t1; have HhL := hideP hL; have HhH := hideP hH; have HhP := hideP hP; have Hhlen := hideP hlen; clear t1 hL hH hP hlen
  go_enter Try.func14, Try.ntmps14
  go_wp2_with fail
  obtain ⟨w1, hw1⟩ : ∃ w1, w1 = w.alloc (Obj.cells #[.slice L lo.length dl, .slice H hi.length sh] 33) := ⟨_, rfl⟩
  have c1 := hideP (show Two w1 w.heap.size 33 (.slice L lo.length dl) (.slice H hi.length sh) by rw [hw1]; exact Two.new _ _ _ _)
  have cb := hideP (show Below w.heap.size w w1 by rw [hw1]; exact below_new _ _)
  rw [← hw1]
  clear hw1
  refine (Ht1.out w1 (HhL.out.after cb.out) (HhH.out.after cb.out)).mono ?_
  rintro e w2 ⟨rfl, hb_⟩
  replace c1 := hideP (c1.out.after hb_)
  replace cb := hideP (bstep cb.out hb_)
  clear hb_
  cases o
  · go_wp2
    go_ret
    exact ⟨by rw [hb.out]; rfl, cb.out⟩
  obtain ⟨e1, e2⟩ := Hhlen.out rfl
  rw [e1] at HhL c1
  rw [e2] at HhH c1
  rw [e1, e2]
  clear e1 e2 Hhlen
  obtain ⟨n, hn'⟩ : ∃ n, n = p.length := ⟨_, rfl⟩
  rw [← hn'] at HhL HhH HhP c1 hb hn ⊢
  rw [Bool.true_and] at hb
  clear hn'
  go_wp2
  go_loopw [5] (fun v5 wr => ∃ k : Nat, k ≤ n ∧ v5 = .int .i64 k ∧ Hid ((List.range k).all (fun i => decide (lo.getD i 0 ≤ p.getD i 0) && decide (p.getD i 0 ≤ hi.getD i 0)) = true ∧ Two wr w.heap.size 33 (.slice L n dl) (.slice H n sh) ∧ Below w.heap.size w wr)) (fun v5 _ => n - (intOf v5).toNat)
  case atStart => exact ⟨0, by omega, rfl, rfl, c1.out, cb.out⟩
  case round =>
    obtain ⟨k, hk, rfl, hW⟩ := hrel
    clear c1 cb
    by_cases hlt : k < n
    · have t' : decide ((k : Int) < n) = true := by simp; omega
      obtain ⟨b, off, rfl, hb1, hc⟩ := (HhL.out.below hW.out.2.2) (by omega)
      obtain ⟨b', off', rfl, hb', hc'⟩ := (HhH.out.below hW.out.2.2) (by omega)
      obtain ⟨b2, off2, rfl, hb2, hc2⟩ := (HhP.out.below hW.out.2.2) (by omega)
      have k1 := hc k hlt
      have k2 := hc' k hlt
      have k3 := hc2 k hlt
      unfold i64s at k1 k2 k3
      have kc10 := hW.out.2.1.c0
      have kc11 := hW.out.2.1.c1
      have hst := range_all_succ (fun i => decide (lo.getD i 0 ≤ p.getD i 0) && decide (p.getD i 0 ≤ hi.getD i 0)) k
      have hfl := range_all_false (fun i => decide (lo.getD i 0 ≤ p.getD i 0) && decide (p.getD i 0 ≤ hi.getD i 0)) n k hlt
      rw [hW.out.1, Bool.true_and] at hst
      (try dsimp only at hst); (try dsimp only at hfl)
      obtain ⟨x, ex⟩ : ∃ x, x = lo.getD k 0 := ⟨_, rfl⟩
      obtain ⟨y, ey⟩ : ∃ y, y = hi.getD k 0 := ⟨_, rfl⟩
      obtain ⟨z, ez⟩ : ∃ y, y = p.getD k 0 := ⟨_, rfl⟩
      rw [← ex, ← ez] at hst hfl
      rw [← ex] at k1
      rw [← ey] at k2 hst hfl
      rw [← ez] at k3
      clear ex ey ez hc hc' hc2 hb1 hb' hb2
      have hcase : (decide (z < x) = true ∧ (decide (x ≤ z) && decide (z ≤ y)) = false) ∨ (decide (z < x) = false ∧ decide (y < z) = true ∧ (decide (x ≤ z) && decide (z ≤ y)) = false) ∨ (decide (z < x) = false ∧ decide (y < z) = false ∧ (decide (x ≤ z) && decide (z ≤ y)) = true) := by
        simp only [Bool.and_eq_true, Bool.and_eq_false_iff, decide_eq_true_eq, decide_eq_false_iff_not]; omega
      rcases hcase with ⟨t1, h⟩ | ⟨t1, t2, h⟩ | ⟨t1, t2, h⟩
      · have hs := hideP (hfl h)
        clear hst hfl h
        go_wp2
        refine wp_region_eager 22 [(true, 0), (true, 1), (true, 2), (true, 3), (true, 4), (true, 5), (true, 6), (true, 7), (true, 8), (true, 9), (true, 10), (true, 11), (true, 12), (true, 13), (true, 14), (true, 15), (true, 16), (true, 17), (true, 18), (true, 19), (true, 20), (true, 21)] (by kernel_rfl) (by kernel_rfl) ?_
        simp only [pick, List.map_cons, List.map_nil, nthO_zero, nthO_succ]
        repeat (first
          | (refine wpPlan_skipK (by rfl) (fun K hK => ?_); go_simp; refine hK _ ?_; clear hK K)
          | (refine wpPlan_valK (by rfl) (fun K hK => ?_); apply Exists.intro; refine ⟨fun W hW => ?_, ?_⟩; (focus (have hs0 := hW.cell k1; have hs1 := hW.cell k2; have hs2 := hW.cell k3; have hs3 := hW.cell kc10; have hs4 := hW.cell kc11; go_simp; (try rfl); done)); go_simp; refine hK _ ?_; clear hK K))
        refine wpPlan_nil (fun W1 hW0 => ?_)
        simp only [List.drop_succ_cons, List.drop_zero, List.drop_nil]
        have cb := hideP (below_ext hW.out.2.2 hW0.drew_left)
        clear hW hW0 k1 k2 k3 kc10 kc11
        go_wp2
        go_ret
        exact ⟨by rw [hb.out, hs.out]; rfl, cb.out⟩
      · have hs := hideP (hfl h)
        clear hst hfl h
        go_wp2
        refine wp_region_eager 22 [(true, 0), (true, 1), (true, 2), (true, 3), (true, 4), (true, 5), (true, 6), (true, 7), (true, 8), (true, 9), (true, 10), (true, 11), (true, 12), (true, 13), (true, 14), (true, 15), (true, 16), (true, 17), (true, 18), (true, 19), (true, 20), (true, 21)] (by kernel_rfl) (by kernel_rfl) ?_
        simp only [pick, List.map_cons, List.map_nil, nthO_zero, nthO_succ]
        repeat (first
          | (refine wpPlan_skipK (by rfl) (fun K hK => ?_); go_simp; refine hK _ ?_; clear hK K)
          | (refine wpPlan_valK (by rfl) (fun K hK => ?_); apply Exists.intro; refine ⟨fun W hW => ?_, ?_⟩; (focus (have hs0 := hW.cell k1; have hs1 := hW.cell k2; have hs2 := hW.cell k3; have hs3 := hW.cell kc10; have hs4 := hW.cell kc11; go_simp; (try rfl); done)); go_simp; refine hK _ ?_; clear hK K))
        refine wpPlan_nil (fun W1 hW0 => ?_)
        simp only [List.drop_succ_cons, List.drop_zero, List.drop_nil]
        have cb := hideP (below_ext hW.out.2.2 hW0.drew_left)
        clear hW hW0 k1 k2 k3 kc10 kc11
        go_wp2
        go_ret
        exact ⟨by rw [hb.out, hs.out]; rfl, cb.out⟩
      · have hs := hideP (hst.trans h)
        clear hst hfl h
        go_wp2
        refine wp_region_eager 22 [(true, 0), (true, 1), (true, 2), (true, 3), (true, 4), (true, 5), (true, 6), (true, 7), (true, 8), (true, 9), (true, 10), (true, 11), (true, 12), (true, 13), (true, 14), (true, 15), (true, 16), (true, 17), (true, 18), (true, 19), (true, 20), (true, 21)] (by kernel_rfl) (by kernel_rfl) ?_
        simp only [pick, List.map_cons, List.map_nil, nthO_zero, nthO_succ]
        repeat (first
          | (refine wpPlan_skipK (by rfl) (fun K hK => ?_); go_simp; refine hK _ ?_; clear hK K)
          | (refine wpPlan_valK (by rfl) (fun K hK => ?_); apply Exists.intro; refine ⟨fun W hW => ?_, ?_⟩; (focus (have hs0 := hW.cell k1; have hs1 := hW.cell k2; have hs2 := hW.cell k3; have hs3 := hW.cell kc10; have hs4 := hW.cell kc11; go_simp; (try rfl); done)); go_simp; refine hK _ ?_; clear hK K))
        refine wpPlan_nil (fun W1 hW0 => ?_)
        simp only [List.drop_succ_cons, List.drop_zero, List.drop_nil]
        have c1 := hideP (hW.out.2.1.ext hW0.drew_left)
        have cb := hideP (below_ext hW.out.2.2 hW0.drew_left)
        clear hW hW0 k1 k2 k3 kc10 kc11
        go_wp2
        go_roundw
        case rel => exact ⟨k + 1, by omega, by go_num, hs.out, c1.out, cb.out⟩
        case measure => simp [intOf]; omega
    · have t' : decide ((k : Int) < n) = false := by simp; omega
      obtain rfl : k = n := by omega
      go_wp2
      go_ret
      exact ⟨by rw [hb.out, hW.out.1]; rfl, hW.out.2.2⟩
end Go.Proofs.Ytglmohcnmpbfmaa
namespace Go.Proofs.Ytglmohcnmpbfmaa
open Go.RowKit
def holdsB (alo ahi blo bhi : List Int) : Bool := bothB alo ahi blo bhi && (List.range alo.length).all fun i => decide (alo.getD i 0 ≤ blo.getD i 0) && decide (bhi.getD i 0 ≤ ahi.getD i 0)
theorem holds1 (i : Nat) (g g' : Nat) (L H L' H' : Option Addr) (lo hi lo' hi' : List Int) (n dl sh dl' sh' : Nat) (w : World) (h1 : w.cell? ⟨g, 0, none⟩ = some (.slice L n dl)) (h2 : w.cell? ⟨g, 1, none⟩ = some (.slice H n sh))
    (h1' : w.cell? ⟨g', 0, none⟩ = some (.slice L' n dl')) (h2' : w.cell? ⟨g', 1, none⟩ = some (.slice H' n sh'))
    (hL : Arr w w.heap.size L n (i64s lo)) (hH : Arr w w.heap.size H n (i64s hi)) (hL' : Arr w w.heap.size L' n (i64s lo')) (hH' : Arr w w.heap.size H' n (i64s hi')) (hi0 : i < n) :
    Calls Try.prog 167 (#[.int .i64 i] ++ #[.pointer (some ⟨g, 0, none⟩), .pointer (some ⟨g', 0, none⟩)]) w fun e w' => e = .returned (.bool (decide (lo.getD i 0 ≤ lo'.getD i 0) && decide (hi'.getD i 0 ≤ hi.getD i 0))) ∧ ∃ nq, w.drewN nq = w' := by
  obtain ⟨b, off, rfl, hb, hc⟩ := hL (by omega)
  obtain ⟨b', off', rfl, hb', hc'⟩ := hH (by omega)
  obtain ⟨b1, off1, rfl, hb1, hc1⟩ := hL' (by omega)
  obtain ⟨b2, off2, rfl, hb2, hc2⟩ := hH' (by omega)
  have k1 := hc i hi0
  have k2 := hc' i hi0
  have k3 := hc1 i hi0
  have k4 := hc2 i hi0
  unfold i64s at k1 k2 k3 k4
  obtain ⟨x, ex⟩ : ∃ x, x = lo.getD i 0 := ⟨_, rfl⟩
  obtain ⟨y, ey⟩ : ∃ y, y = lo'.getD i 0 := ⟨_, rfl⟩
  obtain ⟨u, eu⟩ : ∃ x, x = hi'.getD i 0 := ⟨_, rfl⟩
  obtain ⟨v, ev⟩ : ∃ y, y = hi.getD i 0 := ⟨_, rfl⟩
  rw [← ex] at k1 ⊢
  rw [← ev] at k2 ⊢
  rw [← ey] at k3 ⊢
  rw [← eu] at k4 ⊢
  have i0 : (0 : Int) ≤ (i : Int) := by omega
  have i1 : (i : Int) < (n : Int) := by omega
  clear hc hc' hc1 hc2 hL hH hL' hH' ex ey eu ev
  by_cases hxy : x ≤ y
  · have t : decide (x ≤ y) = true := by simp [hxy]
    rw [t]
    clear hxy
    go_enter Try.func167, Try.ntmps167
    go_wp2
    go_quiet (fail)
    go_wp2
    go_ret
    exact ⟨by simp, ⟨_, rfl⟩⟩
  · have t : decide (x ≤ y) = false := by simp; omega
    rw [t]
    clear hxy
    go_enter Try.func167, Try.ntmps167
    go_wp2
    go_quiet (fail)
    go_wp2
    go_ret
    exact ⟨by simp, ⟨_, rfl⟩⟩

set_option maxHeartbeats 1000000 in
theorem holds_any (L H L' H' : Option Addr) (lo hi lo' hi' : List Int) (dl sh dl' sh' : Nat) (w : World) (hL : Arr w w.heap.size L lo.length (i64s lo)) (hH : Arr w w.heap.size H hi.length (i64s hi))
    (hL' : Arr w w.heap.size L' lo'.length (i64s lo')) (hH' : Arr w w.heap.size H' hi'.length (i64s hi')) :
    Calls Try.prog 103 #[.agg #[.slice L lo.length dl, .slice H hi.length sh], .agg #[.slice L' lo'.length dl', .slice H' hi'.length sh']] w fun e w' => e = .returned (.bool (holdsB lo hi lo' hi')) ∧ Below w.heap.size w w' := by
  have t1 := fun W h h' h'' h3 => both_any L H L' H' lo hi lo' hi' dl sh dl' sh' W h h' h'' h3
  have hfacts : bothB lo hi lo' hi' = true → lo.length ≤ 8 ∧ hi.length = lo.length ∧ lo'.length = lo.length ∧ hi'.length = lo.length := fun h => by
    unfold bothB at h
    simp only [Bool.and_eq_true] at h
    have h1 := rightB_len h.1
    have h2 := rightB_len h.2
    omega
  obtain ⟨p, hp⟩ : ∃ p, p = bothB lo hi lo' hi' := ⟨_, rfl⟩
  have hb := hideP (show holdsB lo hi lo' hi' = (p && (List.range lo.length).all fun i => decide (lo.getD i 0 ≤ lo'.getD i 0) && decide (hi'.getD i 0 ≤ hi.getD i 0)) by unfold holdsB; rw [hp])
  rw [← hp] at t1 hfacts
  clear hp
  have HF := hideP hfacts
  clear hfacts
  have Ht1 := hideP t1; have HhL := hideP hL; have HhH := hideP hH; have HhL' := hideP hL'; have HhH' := hideP hH'; clear t1 hL hH hL' hH'
  go_enter Try.func103, Try.ntmps103
  go_wp2_with fail
  obtain ⟨w1, hw1⟩ : ∃ w1, w1 = (w.alloc (Obj.cells #[.slice L lo.length dl, .slice H hi.length sh] 33)).alloc (Obj.cells #[.slice L' lo'.length dl', .slice H' hi'.length sh'] 33) := ⟨_, rfl⟩
  have c1 := hideP (show Two w1 w.heap.size 33 (.slice L lo.length dl) (.slice H hi.length sh) by rw [hw1]; exact (Two.new _ _ _ _).alloc _)
  have c2 := hideP (show Two w1 (w.heap.size + 1) 33 (.slice L' lo'.length dl') (.slice H' hi'.length sh') by rw [hw1]; exact Two.new' _ _ _ _ _ (by simp))
  have cb := hideP (show Below w.heap.size w w1 by rw [hw1]; exact (below_new _ _).alloc (by simp) _)
  rw [← hw1]
  clear hw1
  refine (Ht1.out w1 (HhL.out.after cb.out) (HhH.out.after cb.out) (HhL'.out.after cb.out) (HhH'.out.after cb.out)).mono ?_
  rintro e w2 ⟨rfl, hb'⟩
  replace c1 := hideP (c1.out.after hb')
  replace c2 := hideP (c2.out.after hb')
  replace cb := hideP (bstep cb.out hb')
  clear hb'
  cases p
  · go_wp2
    go_ret
    exact ⟨by rw [hb.out]; rfl, cb.out⟩
  · obtain ⟨h8, e1, e2, e3⟩ := HF.out rfl
    obtain ⟨n, hn⟩ : ∃ n, n = lo.length := ⟨_, rfl⟩
    rw [← hn] at h8 e1 e2 e3 hb HhL c1
    rw [e1] at HhH c1
    rw [e2] at HhL' c2
    rw [e3] at HhH' c2
    rw [e1, e2, e3, ← hn]
    clear e1 e2 e3 hn HF
    have kc10 := c1.out.c0; have kc11 := c1.out.c1
    have kc20 := c2.out.c0; have kc21 := c2.out.c1
    go_wp2_with fail
    refine (all_any n _ 167 #[.pointer (some ⟨w.heap.size, 0, none⟩), .pointer (some ⟨w.heap.size + 1, 0, none⟩)] rfl (fun i => decide (lo.getD i 0 ≤ lo'.getD i 0) && decide (hi'.getD i 0 ≤ hi.getD i 0)) w2 (by omega) (run_enter Try.func167 rfl rfl) (fun i W hi hW => ?_)).mono ?_
    · exact holds1 i _ _ L H L' H' _ _ _ _ n dl sh dl' sh' W (c1.out.after hW).c0 (c1.out.after hW).c1 (c2.out.after hW).c0 (c2.out.after hW).c1 ((HhL.out.after cb.out).after hW) ((HhH.out.after cb.out).after hW) ((HhL'.out.after cb.out).after hW) ((HhH'.out.after cb.out).after hW) hi
    rintro e w3 ⟨rfl, hb'⟩
    clear kc10 kc11 kc20 kc21
    replace cb := hideP (bstep cb.out hb')
    clear hb'
    go_wp2
    go_ret
    exact ⟨by rw [hb.out]; rfl, cb.out⟩
theorem has1 (i : Nat) (g g' : Nat) (L H P : Option Addr) (lo hi p : List Int) (n dl sh c : Nat) (w : World) (h1 : w.cell? ⟨g, 0, none⟩ = some (.slice L n dl)) (h2 : w.cell? ⟨g, 1, none⟩ = some (.slice H n sh))
    (h3 : w.cell? ⟨g', 0, none⟩ = some (.slice P n c))
    (hL : Arr w w.heap.size L n (i64s lo)) (hH : Arr w w.heap.size H n (i64s hi)) (hP : Arr w w.heap.size P n (i64s p)) (hi0 : i < n) :
    Calls Try.prog 164 (#[.int .i64 i] ++ #[.pointer (some ⟨g, 0, none⟩), .pointer (some ⟨g', 0, none⟩)]) w fun e w' => e = .returned (.bool (decide (lo.getD i 0 ≤ p.getD i 0) && decide (p.getD i 0 ≤ hi.getD i 0))) ∧ ∃ nq, w.drewN nq = w' := by
  obtain ⟨b, off, rfl, hb, hc⟩ := hL (by omega)
  obtain ⟨b', off', rfl, hb', hc'⟩ := hH (by omega)
  obtain ⟨b1, off1, rfl, hb1, hc1⟩ := hP (by omega)
  have k1 := hc i hi0
  have k2 := hc' i hi0
  have k3 := hc1 i hi0
  unfold i64s at k1 k2 k3
  obtain ⟨x, ex⟩ : ∃ x, x = lo.getD i 0 := ⟨_, rfl⟩
  obtain ⟨y, ey⟩ : ∃ y, y = p.getD i 0 := ⟨_, rfl⟩
  obtain ⟨v, ev⟩ : ∃ y, y = hi.getD i 0 := ⟨_, rfl⟩
  rw [← ex] at k1 ⊢
  rw [← ev] at k2 ⊢
  rw [← ey] at k3 ⊢
  have i0 : (0 : Int) ≤ (i : Int) := by omega
  have i1 : (i : Int) < (n : Int) := by omega
  clear hc hc' hc1 hL hH hP ex ey ev
  by_cases hxy : x ≤ y
  · have t : decide (x ≤ y) = true := by simp [hxy]
    rw [t]
    clear hxy
    go_enter Try.func164, Try.ntmps164
    go_wp2
    go_quiet (fail)
    go_wp2
    go_ret
    exact ⟨by simp, ⟨_, rfl⟩⟩
  · have t : decide (x ≤ y) = false := by simp; omega
    rw [t]
    clear hxy
    go_enter Try.func164, Try.ntmps164
    go_wp2
    go_quiet (fail)
    go_wp2
    go_ret
    exact ⟨by simp, ⟨_, rfl⟩⟩
set_option maxHeartbeats 1000000 in
theorem has_any (L H P : Option Addr) (lo hi p : List Int) (dl sh c : Nat) (w : World) (hL : Arr w w.heap.size L lo.length (i64s lo)) (hH : Arr w w.heap.size H hi.length (i64s hi)) (hP : Arr w w.heap.size P p.length (i64s p)) :
    Calls Try.prog 100 #[.agg #[.slice L lo.length dl, .slice H hi.length sh], .slice P p.length c] w fun e w' => e = .returned (.bool (hasB lo hi p)) ∧ Below w.heap.size w w' := by
  have t1 := fun W h h' => right_any L H lo hi dl sh p.length W h h'
  obtain ⟨o, ho⟩ : ∃ o, o = rightB lo hi p.length := ⟨_, rfl⟩
  have hb := hideP (show hasB lo hi p = (o && (List.range p.length).all fun i => decide (lo.getD i 0 ≤ p.getD i 0) && decide (p.getD i 0 ≤ hi.getD i 0)) by unfold hasB; rw [ho])
  have hfacts : o = true → p.length ≤ 8 ∧ lo.length = p.length ∧ hi.length = p.length := fun h => by
    rw [ho] at h; have := rightB_len h; omega
  rw [← ho] at t1
  have HF := hideP hfacts
  clear ho hfacts
  have Ht1 := hideP t1; have HhL := hideP hL; have HhH := hideP hH; have HhP := hideP hP; clear t1 hL hH hP
  go_enter Try.func100, Try.ntmps100
  go_wp2_with fail
  obtain ⟨w1, hw1⟩ : ∃ w1, w1 = (w.alloc (Obj.cells #[.slice L lo.length dl, .slice H hi.length sh] 33)).alloc (Obj.cells #[.slice P p.length c] 31) := ⟨_, rfl⟩
  have c1 := hideP (show Two w1 w.heap.size 33 (.slice L lo.length dl) (.slice H hi.length sh) by rw [hw1]; exact (Two.new _ _ _ _).alloc _)
  have c2 := hideP (show One w1 (w.heap.size + 1) 31 (.slice P p.length c) by rw [hw1]; exact One.new' _ _ _ _ (by simp))
  have cb := hideP (show Below w.heap.size w w1 by rw [hw1]; exact (below_new _ _).alloc (by simp) _)
  rw [← hw1]
  clear hw1
  refine (Ht1.out w1 (HhL.out.after cb.out) (HhH.out.after cb.out)).mono ?_
  rintro e w2 ⟨rfl, hb'⟩
  replace c1 := hideP (c1.out.after hb')
  replace c2 := hideP (c2.out.after hb')
  replace cb := hideP (bstep cb.out hb')
  clear hb'
  cases o
  · go_wp2
    go_ret
    exact ⟨by rw [hb.out]; rfl, cb.out⟩
  · obtain ⟨h8, e1, e2⟩ := HF.out rfl
    obtain ⟨n, hn⟩ : ∃ n, n = p.length := ⟨_, rfl⟩
    rw [← hn] at h8 e1 e2 hb HhP c2 ⊢
    rw [e1] at HhL c1
    rw [e2] at HhH c1
    rw [e1, e2]
    clear e1 e2 hn HF
    have kc20 := c2.out.c0
    go_wp2_with fail
    refine (all_any n _ 164 #[.pointer (some ⟨w.heap.size, 0, none⟩), .pointer (some ⟨w.heap.size + 1, 0, none⟩)] rfl (fun i => decide (lo.getD i 0 ≤ p.getD i 0) && decide (p.getD i 0 ≤ hi.getD i 0)) w2 (by omega) (run_enter Try.func164 rfl rfl) (fun i W hi hW => ?_)).mono ?_
    · exact has1 i _ _ L H P _ _ _ n dl sh c W (c1.out.after hW).c0 (c1.out.after hW).c1 (c2.out.after hW).c0 ((HhL.out.after cb.out).after hW) ((HhH.out.after cb.out).after hW) ((HhP.out.after cb.out).after hW) hi
    rintro e w3 ⟨rfl, hb'⟩
    clear kc20
    replace cb := hideP (bstep cb.out hb')
    clear hb'
    go_wp2
    go_ret
    exact ⟨by rw [hb.out]; rfl, cb.out⟩
end Go.Proofs.Ytglmohcnmpbfmaa
namespace Go.Proofs.Ytglmohcnmpbfmaa
open Go.RowKit
theorem hasB_of {lo hi q : List Int} (h : hasB lo hi q = true) : lo.length = q.length ∧ hi.length = q.length ∧ ∀ i, i < q.length → lo.getD i 0 ≤ q.getD i 0 ∧ q.getD i 0 ≤ hi.getD i 0 := by
  unfold hasB at h
  simp only [Bool.and_eq_true] at h
  have h1 := rightB_len h.1
  refine ⟨by omega, by omega, fun i hi' => ?_⟩
  have := List.all_eq_true.1 h.2 i (by simpa using hi')
  simpa using this
theorem getD_drop (l : List Int) (i : Nat) : (l.drop 1).getD i 0 = l.getD (i + 1) 0 := by simp [List.getD, List.getElem?_drop, Nat.add_comm]
theorem gap_le_apart (x y lo hi : Int) (h1 : lo ≤ y) (h2 : y ≤ hi) : gap x lo hi ≤ apart x y := by
  unfold gap apart
  (repeat' split) <;> omega
/-- no point of a box has a lesser key than the least one -/
theorem least_le (K col : Int) (at_ lo hi q : List Int) (hB : leastB K col at_.length lo hi = true) (hq : hasB lo hi q = true) : leastN K col at_ lo hi ≤ keyN K col at_ q := by
  obtain ⟨e1, e2, hh⟩ := hasB_of hq
  unfold leastB at hB
  simp only [Bool.and_eq_true] at hB
  obtain ⟨d1, d8, hK⟩ := ordB_of hB.2
  unfold leastN keyN
  rcases hK with ⟨rfl, h, _⟩ | ⟨rfl, _, h, _⟩ | ⟨rfl, _, h, _⟩ | ⟨rfl, _, h, _⟩
  · have := hh col.toNat (by omega); simp only [show ¬ (0 : Int) = 2 by decide, show ¬ (0 : Int) = 3 by decide, if_false]; omega
  · have := hh col.toNat (by omega); simp only [show ¬ (1 : Int) = 2 by decide, show ¬ (1 : Int) = 3 by decide, if_false]; omega
  · have := hh col.toNat (by omega); simp only [if_true]; omega
  · simp only [show ¬ (3 : Int) = 2 by decide, if_false, if_true]
    rw [e1, dpt_comm]
    refine sides_mono _ _ _ fun i hi' => ?_
    rw [getD_drop, getD_drop, getD_drop]
    have := hh (i + 1) (by omega)
    exact gap_le_apart _ _ _ _ this.1 this.2
/-- what is ahead of a box's least key is ahead of each of its points -/
theorem beyond_ahead (K col : Int) (at_ lo hi p q : List Int) (hb : beyondB K col at_ lo hi p = true) (hq : hasB lo hi q = true) : aheadO K col at_ p q = true := by
  unfold beyondB at hb
  simp only [Bool.and_eq_true, decide_eq_true_eq] at hb
  obtain ⟨⟨⟨h1, h2⟩, h3⟩, h4⟩ := hb
  obtain ⟨e1, e2, hh⟩ := hasB_of hq
  have hle := least_le K col at_ lo hi q h1 hq
  have h0 := hh 0 (by have := (leastB_len h1).1; omega)
  have h5 : ordB K col at_.length q.length = true := by rw [← e1, ← h3]; exact h2
  unfold aheadO
  rw [h2, h5]
  simp only [Bool.true_and, Bool.and_eq_true, decide_eq_true_eq]
  refine ⟨by omega, ?_⟩
  unfold aheadB at h4 ⊢
  simp only [decide_eq_true_eq] at h4 ⊢
  omega
/-- the point of a box that is nearest -/
def nearF (K col : Int) (at_ lo hi : List Int) (i : Nat) : Int :=
  if K = 2 then (if (i : Int) = col then hi.getD i 0 else lo.getD i 0) else if K = 3 then (if i = 0 then lo.getD 0 0 else clamp (at_.getD (i - 1) 0) (lo.getD i 0) (hi.getD i 0)) else lo.getD i 0
end Go.Proofs.Ytglmohcnmpbfmaa
namespace Go.Proofs.Ytglmohcnmpbfmaa
open Go.RowKit
theorem rightB_of {lo hi : List Int} {d : Nat} (h1 : 1 ≤ d) (h8 : d ≤ 8) (hl : lo.length = d) (hh : hi.length = d) (h : ∀ i, i < d → lo.getD i 0 ≤ hi.getD i 0) : rightB lo hi d = true := by
  unfold rightB leAll
  simp only [Bool.and_eq_true, decide_eq_true_eq, List.all_eq_true, List.mem_range]
  exact ⟨⟨⟨⟨by omega, by omega⟩, by omega⟩, by omega⟩, fun i hi' => h i (by omega)⟩
theorem rightB_le {lo hi : List Int} {d : Int} (h : rightB lo hi d = true) : ∀ i, i < lo.length → lo.getD i 0 ≤ hi.getD i 0 := fun i hi' => by
  have := (rightB_len h).2.2.2.2
  unfold leAll at this
  have := List.all_eq_true.1 this i (by simpa using hi')
  simpa using this
theorem hasB_mk {lo hi p : List Int} (h : rightB lo hi p.length = true) (hp : ∀ i, i < p.length → lo.getD i 0 ≤ p.getD i 0 ∧ p.getD i 0 ≤ hi.getD i 0) : hasB lo hi p = true := by
  unfold hasB
  simp only [h, Bool.true_and, List.all_eq_true, List.mem_range, Bool.and_eq_true, decide_eq_true_eq]
  exact hp
def wantB (alo ahi blo bhi : List Int) : Bool := rightB alo ahi alo.length && rightB blo bhi alo.length && hasB alo ahi blo && hasB alo ahi bhi
theorem holds_want (alo ahi blo bhi : List Int) : holdsB alo ahi blo bhi = wantB alo ahi blo bhi := by
  rw [Bool.eq_iff_iff]
  unfold holdsB bothB wantB
  simp only [Bool.and_eq_true, List.all_eq_true, List.mem_range, decide_eq_true_eq]
  constructor
  · rintro ⟨⟨h1, h2⟩, h3⟩
    have e1 := rightB_len h1
    have e2 := rightB_len h2
    have l2 := rightB_le h2
    refine ⟨⟨⟨h1, h2⟩, hasB_mk (by rwa [show (blo.length : Int) = alo.length by omega]) fun i hi => ?_⟩, hasB_mk (by rwa [show (bhi.length : Int) = alo.length by omega]) fun i hi => ?_⟩
    · have := h3 i (by omega); have := l2 i hi; omega
    · have := h3 i (by omega); have := l2 i (by omega); omega
  · rintro ⟨⟨⟨h1, h2⟩, h3⟩, h4⟩
    obtain ⟨a1, a2, a3⟩ := hasB_of h3
    obtain ⟨b1, b2, b3⟩ := hasB_of h4
    exact ⟨⟨h1, h2⟩, fun i hi => ⟨(a3 i (by omega)).1, (b3 i (by omega)).2⟩⟩
end Go.Proofs.Ytglmohcnmpbfmaa
namespace Go.Proofs.Ytglmohcnmpbfmaa
open Go.RowKit

theorem Own.at {w : World} {base : Nat} {R : Option Addr} {s n : Nat} {l : List Int} (h : Own w base R s l) (hn : l.length = n) (h0 : 0 < n) : ∃ g, R = some ⟨g, 0, none⟩ ∧ base ≤ g ∧ g < w.heap.size := by
  obtain ⟨g, cap, hv, hb, hl⟩ := World.ownsRow.form h (by omega)
  injection hv with h1
  exact ⟨g, h1, hb, hl⟩
theorem Own.store {w : World} {base g : Nat} {s : Nat} {l : List Int} (h : Own w base (some ⟨g, 0, none⟩) s l) (k : Nat) (z : Int) : Own (w.setCell ⟨g, k, none⟩ (.int .i64 z)) base (some ⟨g, 0, none⟩) s (l.set k z) := by
  have := (World.ownsRow.stored h k (.int .i64 z)).1
  unfold Own
  rw [List.length_set, List.map_set]
  exact this
theorem Own.other {w : World} {base : Nat} {R : Option Addr} {s : Nat} {l : List Int} {a : Addr} (h : Own w base R s l) (ha : (Value.slice R l.length s).ownBlock ≠ some a.block) (v : Value) : Own (w.setCell a v) base R s l := by
  refine ⟨h.1, h.2.imp id ?_⟩
  rintro ⟨g, cap, cur, hv, hg, hh, r⟩
  refine ⟨g, cap, cur, hv, hg, (Below.heap_setCell _ _ _ _ ?_).trans hh, r⟩
  rw [hv] at ha
  intro e
  apply ha
  rw [← e]
  rfl
theorem Own.fz {w : World} {base g : Nat} {s : Nat} {l : List Int} (h : Own w base (some ⟨g, 0, none⟩) s l) (j : Nat) : w.frozen? ⟨g, j, none⟩ = false := World.ownsRow.frozenAt h j

theorem Own.cell {w : World} {base g : Nat} {s : Nat} {l : List Int} (h : Own w base (some ⟨g, 0, none⟩) s l) (j : Nat) (hj : j < l.length) : w.cell? ⟨g, j, none⟩ = some (.int .i64 (l.getD j 0)) := by
  rw [World.ownsRow.cellAt h j (by omega)]
  simp [List.getD, List.getElem?_map, List.getElem?_eq_getElem hj]
def mx (a b : Int) : Int := if a < b then b else a
def mn (a b : Int) : Int := if b < a then b else a
/-- the first k numbers are those of f -/
def upTo (l : List Int) (f : Nat → Int) (k : Nat) : Prop := ∀ i, i < k → l.getD i 0 = f i
theorem upTo_set {l : List Int} {f : Nat → Int} {k : Nat} (h : upTo l f k) (hk : k < l.length) : upTo (l.set k (f k)) f (k + 1) := fun i hi => by
  unfold List.getD
  rw [List.getElem?_set]
  by_cases e : k = i
  · subst e; simp [hk]
  · simp [e]
    have := h i (by omega)
    unfold List.getD at this
    exact this
theorem upTo_all {l : List Int} {f : Nat → Int} {n : Nat} (h : upTo l f n) (hl : l.length = n) : l = (List.range n).map f := by
  refine List.ext_getElem? fun i => ?_
  rcases Nat.lt_or_ge i n with hi | hi
  · have := h i hi
    simp only [List.getElem?_map, List.getElem?_range hi, Option.map_some]
    unfold List.getD at this
    rw [List.getElem?_eq_getElem (by omega)] at this ⊢
    simpa using this
  · simp [hl, hi]

/-- the sides of the box of both -/
def cutLo (lo lo' : List Int) : List Int := (List.range lo.length).map fun i => mx (lo.getD i 0) (lo'.getD i 0)
def cutHi (hi hi' : List Int) : List Int := (List.range hi.length).map fun i => mn (hi.getD i 0) (hi'.getD i 0)
/-- the end of a function with a box in a variable and a second result -/
theorem ret_box2 {fn : Func} {p q : Tmp} {a : Act} {w : World} {R : Ending → World → Prop} (h : fn.results = #[.cell p 33, .tmp q]) {g : Nat} {x y v : Value}
    (hp : a.tmps.getD p undef = .pointer (some ⟨g, 0, none⟩)) (hq : a.tmps.getD q undef = v) (hg : w.heap[g]? = some (.cells #[x, y] 33 (0, 0))) (hd : a.defers = []) (hR : R (.returned (.tuple #[.agg #[x, y], v])) w) : bodyPost Try.prog fn R .ret a w := by
  refine bodyPost_ret (v := .tuple #[.agg #[x, y], v]) ?_ hd hR
  rw [results_cell_tmp h, hp, hq]
  simp [asAddr, run_loadVar_row w g 33 33 #[x, y] (0, 0) _ hg Try.underlying33 rfl (by kernel_rfl)]
set_option maxRecDepth 100000 in
set_option maxHeartbeats 4000000 in
theorem cut_in (L H L' H' : Option Addr) (lo hi lo' hi' : List Int) (dl sh dl' sh' : Nat) (w : World) (hL : Arr w w.heap.size L lo.length (i64s lo)) (hH : Arr w w.heap.size H hi.length (i64s hi))
    (hL' : Arr w w.heap.size L' lo'.length (i64s lo')) (hH' : Arr w w.heap.size H' hi'.length (i64s hi')) (hm : meetsB lo hi lo' hi' = true) :
    Calls Try.prog 105 #[.agg #[.slice L lo.length dl, .slice H hi.length sh], .agg #[.slice L' lo'.length dl', .slice H' hi'.length sh']] w fun e w' => ∃ R s R' s', e = .returned (.tuple #[.agg #[.slice R lo.length s, .slice R' lo.length s'], .bool true]) ∧ Below w.heap.size w w' ∧ Own w' w.heap.size R s (cutLo lo lo') ∧ Own w' w.heap.size R' s' (cutHi hi hi') ∧ Sep (.slice R lo.length s) (.slice R' lo.length s') := by
  have hfacts : lo.length ≤ 8 ∧ 1 ≤ lo.length ∧ hi.length = lo.length ∧ lo'.length = lo.length ∧ hi'.length = lo.length := by
    unfold meetsB bothB at hm
    simp only [Bool.and_eq_true] at hm
    have h1 := rightB_len hm.1.1
    have h2 := rightB_len hm.1.2
    omega
  obtain ⟨h8, h1, e1, e2, e3⟩ := hfacts
  have tM := fun W h h' h'' h3 => meets_any L H L' H' lo hi lo' hi' dl sh dl' sh' W h h' h'' h3
  have tC := fun W h h' => copied_any L H lo hi dl sh W h h' (by omega) (by omega)
  rw [hm] at tM
  obtain ⟨n, hn⟩ : ∃ n, n = lo.length := ⟨_, rfl⟩
  have hlo : cutLo lo lo' = (List.range n).map fun i => mx (lo.getD i 0) (lo'.getD i 0) := by rw [hn]; rfl
  have hhi : cutHi hi hi' = (List.range n).map fun i => mn (hi.getD i 0) (hi'.getD i 0) := by rw [hn, ← e1]; rfl
  rw [← hn] at h8 h1 e1 e2 e3 hL tM tC ⊢
  rw [e1] at hH tM tC ⊢
  rw [e2] at hL' tM ⊢
  rw [e3] at hH' tM ⊢
  have hn' := hn.symm
  have Hhn' := hideP hn'; have He1 := hideP e1; have Hhlo := hideP hlo; have Hhhi := hideP hhi; clear hn' e1 hlo hhi
  clear hm hn e2 e3
  have HhL := hideP hL; have HhH := hideP hH; have HhL' := hideP hL'; have HhH' := hideP hH'; have HtM := hideP tM; have HtC := hideP tC; clear hL hH hL' hH' tM tC
  go_enter Try.func105, Try.ntmps105
  go_wp2_with fail
  obtain ⟨w1, hw1⟩ : ∃ w1, w1 = ((w.alloc (Obj.cells #[.slice L n dl, .slice H n sh] 33)).alloc (Obj.cells #[.slice L' n dl', .slice H' n sh'] 33)).alloc (Obj.cells #[.slice none 0 0, .slice none 0 0] 33) := ⟨_, rfl⟩
  have c1 := hideP (show Two w1 w.heap.size 33 (.slice L n dl) (.slice H n sh) by rw [hw1]; exact ((Two.new _ _ _ _).alloc _).alloc _)
  have c2 := hideP (show Two w1 (w.heap.size + 1) 33 (.slice L' n dl') (.slice H' n sh') by rw [hw1]; exact (Two.new' _ _ _ _ _ (by simp)).alloc _)
  have c3 := hideP (show Two w1 (w.heap.size + 1 + 1) 33 (.slice none 0 0) (.slice none 0 0) by rw [hw1]; exact Two.new' _ _ _ _ _ (by simp))
  have cb := hideP (show Below w.heap.size w w1 by rw [hw1]; exact ((below_new _ _).alloc (by simp) _).alloc (by simp; omega) _)
  rw [← hw1]
  clear hw1
  have kc10 := c1.out.c0; have kc11 := c1.out.c1
  have kc20 := c2.out.c0; have kc21 := c2.out.c1
  go_wp2_with fail
  refine (HtM.out w1 (HhL.out.after cb.out) (HhH.out.after cb.out) (HhL'.out.after cb.out) (HhH'.out.after cb.out)).mono ?_
  rintro e w2 ⟨rfl, hb⟩
  clear kc10 kc11 kc20 kc21
  replace c1 := hideP (c1.out.after hb)
  replace c2 := hideP (c2.out.after hb)
  replace c3 := hideP (c3.out.after hb)
  replace cb := hideP (bstep cb.out hb)
  clear hb
  have kc10 := c1.out.c0; have kc11 := c1.out.c1
  have kc20 := c2.out.c0; have kc21 := c2.out.c1
  go_wp2_with fail
  refine (HtC.out w2 (HhL.out.after cb.out) (HhH.out.after cb.out)).mono ?_
  rintro e w3 ⟨R, s, R', s', rfl, hb, o1, o2, sp⟩
  clear kc10 kc11 kc20 kc21
  have b2 := hideP c3.out.lt
  obtain ⟨B, hB⟩ : ∃ B, B = w2.heap.size := ⟨_, rfl⟩
  rw [← hB] at o1 o2 b2
  replace c1 := hideP (c1.out.after hb)
  replace c2 := hideP (c2.out.after hb)
  replace c3 := hideP (c3.out.after hb)
  replace cb := hideP (bstep cb.out hb)
  clear hb
  obtain ⟨gR, rfl, r1, r2⟩ := o1.at Hhn'.out h1
  obtain ⟨gR', rfl, r3, r4⟩ := o2.at He1.out h1
  have r5 : gR' ≠ gR := fun e => by
    subst e
    rcases sp with h | h
    · cases h
    · exact h rfl
  have Ho1 := hideP o1; have Ho2 := hideP o2; clear o1 o2
  clear sp hB
  go_wp2_with fail
  obtain ⟨v3, hv_⟩ : ∃ v, v = w3.alloc (Obj.cells #[.slice (some ⟨gR, 0, none⟩) n s, .slice (some ⟨gR', 0, none⟩) n s'] 33) := ⟨_, rfl⟩
  obtain ⟨g6, hg_⟩ : ∃ g, g = w3.heap.size := ⟨_, rfl⟩
  have hb_ : Below w3.heap.size w3 v3 := by rw [hv_]; exact below_new _ _
  have c6 := hideP (show Two v3 g6 33 (.slice (some ⟨gR, 0, none⟩) n s) (.slice (some ⟨gR', 0, none⟩) n s') by rw [hv_, hg_]; exact Two.new _ _ _ _)
  have Gc6 := hideP (show w3.heap.size ≤ g6 from Nat.le_of_eq hg_.symm)
  replace c1 := hideP (c1.out.after hb_)
  replace c2 := hideP (c2.out.after hb_)
  replace c3 := hideP (c3.out.after hb_)
  replace cb := hideP (bstep cb.out hb_)
  rw [← hv_, ← hg_]
  replace Ho1 := hideP (Ho1.out.ext (Ext.of_below hb_))
  replace Ho2 := hideP (Ho2.out.ext (Ext.of_below hb_))
  clear hv_ hg_ hb_
  have lt6 := hideP (show gR < g6 ∧ gR' < g6 ∧ w.heap.size + 1 + 1 < gR ∧ w.heap.size + 1 + 1 < gR' by have := b2.out; have := Gc6.out; omega)
  clear r1 r2 r3 r4
  have R5 := hideP r5
  clear r5
  go_loopw [18] (fun v18 wr => ∃ (k : Nat) (l1 l2 : List Int), k ≤ n ∧ v18 = .int .i64 k ∧ Hid (l1.length = n ∧ l2.length = n ∧ upTo l1 (fun i => mx (lo.getD i 0) (lo'.getD i 0)) k ∧ upTo l2 (fun i => mn (hi.getD i 0) (hi'.getD i 0)) k ∧
    Own wr B (some ⟨gR, 0, none⟩) s l1 ∧ Own wr B (some ⟨gR', 0, none⟩) s' l2) ∧ Hid (Two wr w.heap.size 33 (.slice L n dl) (.slice H n sh) ∧ Two wr (w.heap.size + 1) 33 (.slice L' n dl') (.slice H' n sh') ∧ Two wr (w.heap.size + 1 + 1) 33 (.slice none 0 0) (.slice none 0 0) ∧
    Two wr g6 33 (.slice (some ⟨gR, 0, none⟩) n s) (.slice (some ⟨gR', 0, none⟩) n s') ∧ Below w.heap.size w wr)) (fun v18 _ => n - (intOf v18).toNat)
  case atStart => exact ⟨0, lo, hi, by omega, rfl, ⟨Hhn'.out, He1.out, fun i hi => by omega, fun i hi => by omega, Ho1.out, Ho2.out⟩, c1.out, c2.out, c3.out, c6.out, cb.out⟩
  case round =>
    obtain ⟨k, l1, l2, hk, rfl, hV, hW⟩ := hrel
    clear c1 c2 c3 c6 cb Ho1 Ho2
    by_cases hlt : k < n
    · have t' : decide ((k : Int) < n) = true := by simp; omega
      obtain ⟨b, off, rfl, hb, hc⟩ := (HhL.out.below hW.out.2.2.2.2) (by omega)
      obtain ⟨b', off', rfl, hb', hc'⟩ := (HhH.out.below hW.out.2.2.2.2) (by omega)
      obtain ⟨b1, off1, rfl, hb1, hc1⟩ := (HhL'.out.below hW.out.2.2.2.2) (by omega)
      obtain ⟨b2', off2, rfl, hb2, hc2⟩ := (HhH'.out.below hW.out.2.2.2.2) (by omega)
      have k1 := hc k hlt
      have k2 := hc' k hlt
      have k3 := hc1 k hlt
      have k4 := hc2 k hlt
      unfold i64s at k1 k2 k3 k4
      obtain ⟨x, ex⟩ : ∃ x, x = lo.getD k 0 := ⟨_, rfl⟩
      obtain ⟨y, ey⟩ : ∃ y, y = hi.getD k 0 := ⟨_, rfl⟩
      obtain ⟨u, eu⟩ : ∃ y, y = lo'.getD k 0 := ⟨_, rfl⟩
      obtain ⟨v, ev⟩ : ∃ y, y = hi'.getD k 0 := ⟨_, rfl⟩
      rw [← ex] at k1
      rw [← ey] at k2
      rw [← eu] at k3
      rw [← ev] at k4
      obtain ⟨m, hm⟩ : ∃ m, m = mx x u := ⟨_, rfl⟩
      obtain ⟨m', hm'⟩ : ∃ m, m = mn y v := ⟨_, rfl⟩
      have tm : (if x < u then u else x) = m := hm.symm
      have tm' : (if v < y then v else y) = m' := hm'.symm
      rw [ex, eu] at hm
      rw [ey, ev] at hm'
      have Hhm := hideP hm; have Hhm' := hideP hm'; have Hhb := hideP hb; have Hhb' := hideP hb'; have Hhb1 := hideP hb1; have Hhb2 := hideP hb2; clear hm hm' hb hb' hb1 hb2
      clear ex ey eu ev hc hc' hc1 hc2
      have q10 := hW.out.1.c0
      have q11 := hW.out.1.c1
      have q20 := hW.out.2.1.c0
      have q21 := hW.out.2.1.c1
      have q60 := hW.out.2.2.2.1.c0
      have q61 := hW.out.2.2.2.1.c1
      have lt := lt6.out
      have nb : ∀ j, j < w.heap.size → ¬ (j = gR ∨ j = gR') := fun j hj => by omega
      have nA : ¬ (w.heap.size = gR ∨ w.heap.size = gR') := by omega
      have nB : ¬ (w.heap.size + 1 = gR ∨ w.heap.size + 1 = gR') := by omega
      have n6 : ¬ (g6 = gR ∨ g6 = gR') := by omega
      have hW0_ := hW
      have NB := hideP nb
      have N3 := hideP (And.intro nA (And.intro nB n6))
      clear lt nb nA nB n6
      go_wp2
      refine wp_region_mut (S := fun k => k = gR ∨ k = gR') 32 (.q 0 (.q 1 (.q 2 (.q 3 (.q 4 (.q 5 (.q 6 (.q 7 (.q 8 (.q 9 (.q 10 (.q 11 (.q 12 (.q 13 (.q 14 (.q 15 (.q 16 (.q 17 (.q 18 (.q 19 (.q 20 (.q 21 (.q 22 (.q 23 (.q 24 (.q 25 (.q 26 (.q 27 (.q 28 (.l 29 (.q 30 (.l 31 .nil)))))))))))))))))))))))))))))))) (by kernel_rfl) (by kernel_rfl) ?_
      simp only [pickT, nthO_zero, nthO_succ]
      iterate 29 (refine wpM_valK (by rfl) (fun K hK => ?_); apply Exists.intro; refine ⟨fun W hW => ?_, ?_⟩; (focus (have hs1 := hW.cell k1 (NB.out _ Hhb.out); have hs2 := hW.cell k2 (NB.out _ Hhb'.out); have hs3 := hW.cell k3 (NB.out _ Hhb1.out); have hs4 := hW.cell k4 (NB.out _ Hhb2.out); have hs5 := hW.cell q10 N3.out.1; have hs6 := hW.cell q11 N3.out.1; have hs7 := hW.cell q20 N3.out.2.1; have hs8 := hW.cell q21 N3.out.2.1; have hs9 := hW.cell q60 N3.out.2.2; have hs10 := hW.cell q61 N3.out.2.2; go_simp; (try rfl); done)); go_simp; refine hK _ ?_; clear hK K)
      refine wpM_storeK (by rfl) (fun W hW => ⟨W.setCell ⟨gR, k, none⟩ (.int .i64 m), ⟨?_, But.set _ _ _ (.inl rfl)⟩, fun K hK => ?_⟩)
      · have o1 := hV.out.2.2.2.2.1.ext hW.drew_left
        have hs1 := o1.cell k (by rw [hV.out.1]; exact hlt)
        have hs2 := o1.fz k
        clear o1
        go_simp
      go_simp
      refine hK _ ?_
      clear hK K
      have lt := lt6.out
      have o1 := hideP ((hV.out.2.2.2.2.1.ext hW.drew_left).store k m)
      have o2 := hideP ((hV.out.2.2.2.2.2.ext hW.drew_left).other (a := ⟨gR, k, none⟩) (by simp [Value.ownBlock]; exact R5.out) (.int .i64 m))
      have c1 := hideP ((hW0_.out.1.ext hW.drew_left).setOther (a := ⟨gR, k, none⟩) (by simp; omega) (.int .i64 m))
      have c2 := hideP ((hW0_.out.2.1.ext hW.drew_left).setOther (a := ⟨gR, k, none⟩) (by simp; omega) (.int .i64 m))
      have c3 := hideP ((hW0_.out.2.2.1.ext hW.drew_left).setOther (a := ⟨gR, k, none⟩) (by simp; omega) (.int .i64 m))
      have c6 := hideP ((hW0_.out.2.2.2.1.ext hW.drew_left).setOther (a := ⟨gR, k, none⟩) (by simp; omega) (.int .i64 m))
      have cb := hideP ((below_ext hW0_.out.2.2.2.2 hW.drew_left).setCell (p := ⟨gR, k, none⟩) (by simp; omega) (.int .i64 m))
      obtain ⟨w4, hw4⟩ : ∃ v, v = W.setCell ⟨gR, k, none⟩ (.int .i64 m) := ⟨_, rfl⟩
      rw [← hw4] at o1 o2 c1 c2 c3 c6 cb ⊢
      have V := hideP (And.intro hV.out.1 (And.intro hV.out.2.1 (And.intro hV.out.2.2.1 hV.out.2.2.2.1)))
      clear hw4 hW W hV hW0_ q10 q11 q20 q21 q60 q61 k1 k2 k3 k4 lt
      refine wpM_valK (by rfl) (fun K hK => ?_); apply Exists.intro; refine ⟨fun W hW => ?_, ?_⟩; (focus (go_simp; (try rfl); done)); go_simp; refine hK _ ?_; clear hK K
      refine wpM_storeK (by rfl) (fun W hW => ⟨W.setCell ⟨gR', k, none⟩ (.int .i64 m'), ⟨?_, But.set _ _ _ (.inr rfl)⟩, fun K hK => ?_⟩)
      · have o1 := o2.out.ext hW
        have hs1 := o1.cell k (by rw [V.out.2.1]; exact hlt)
        have hs2 := o1.fz k
        clear o1
        go_simp
      go_simp
      refine hK _ ?_
      clear hK K
      refine wpM_nil (fun W2 hW2 => ?_)
      simp only [List.drop_succ_cons, List.drop_zero, List.drop_nil]
      have lt := lt6.out
      replace o1 := hideP (((o1.out.ext hW).other (a := ⟨gR', k, none⟩) (by simp [Value.ownBlock]; exact Ne.symm R5.out) (.int .i64 m')).ext hW2)
      replace o2 := hideP (((o2.out.ext hW).store k m').ext hW2)
      replace c1 := hideP (((c1.out.ext hW).setOther (a := ⟨gR', k, none⟩) (by simp; omega) (.int .i64 m')).ext hW2)
      replace c2 := hideP (((c2.out.ext hW).setOther (a := ⟨gR', k, none⟩) (by simp; omega) (.int .i64 m')).ext hW2)
      replace c3 := hideP (((c3.out.ext hW).setOther (a := ⟨gR', k, none⟩) (by simp; omega) (.int .i64 m')).ext hW2)
      replace c6 := hideP (((c6.out.ext hW).setOther (a := ⟨gR', k, none⟩) (by simp; omega) (.int .i64 m')).ext hW2)
      replace cb := hideP (below_ext ((below_ext cb.out hW).setCell (p := ⟨gR', k, none⟩) (by simp; omega) (.int .i64 m')) hW2)
      clear hW hW2 lt
      go_wp2
      go_roundw
      case rel =>
        refine ⟨k + 1, l1.set k m, l2.set k m', by omega, by go_num, ⟨by rw [List.length_set]; exact V.out.1, by rw [List.length_set]; exact V.out.2.1, ?_, ?_, o1.out, o2.out⟩, c1.out, c2.out, c3.out, c6.out, cb.out⟩
        · rw [Hhm.out]; exact upTo_set V.out.2.2.1 (by rw [V.out.1]; exact hlt)
        · rw [Hhm'.out]; exact upTo_set V.out.2.2.2 (by rw [V.out.2.1]; exact hlt)
      case measure => simp [intOf]; omega
    · have t' : decide ((k : Int) < n) = false := by simp; omega
      obtain rfl : k = n := by omega
      have e1 := upTo_all hV.out.2.2.1 hV.out.1
      have e2 := upTo_all hV.out.2.2.2.1 hV.out.2.1
      rw [← Hhlo.out] at e1
      rw [← Hhhi.out] at e2
      have o1 := hideP hV.out.2.2.2.2.1
      have o2 := hideP hV.out.2.2.2.2.2
      rw [e1] at o1
      rw [e2] at o2
      have c3 := hideP hW.out.2.2.1
      have c6 := hideP hW.out.2.2.2.1
      have cb := hideP hW.out.2.2.2.2
      have lt := hideP lt6.out
      clear hV hW e1 e2 lt6
      have f0 := c3.out.fz 0
      have f1 := c3.out.fz 1
      have kc30 := c3.out.c0; have kc31 := c3.out.c1
      have kc60 := c6.out.c0; have kc61 := c6.out.c1
      go_wp2
      refine ret_box2 rfl rfl rfl (c3.out.set2 _ _) rfl ?_
      have h2 := b2.out
      have h3 := lt.out
      refine ⟨some ⟨gR, 0, none⟩, s, some ⟨gR', 0, none⟩, s', rfl, (cb.out.setCell (p := ⟨w.heap.size + 1 + 1, 0, none⟩) (by simp; omega) _).setCell (p := ⟨w.heap.size + 1 + 1, 1, none⟩) (by simp; omega) _, ?_, ?_, ?_⟩
      · exact (own_setCell (own_setCell o1.out (by simp; omega) _) (by simp; omega) _).mono (by omega)
      · exact (own_setCell (own_setCell o2.out (by simp; omega) _) (by simp; omega) _).mono (by omega)
      · exact .inr (by simp [Value.ownBlock]; exact Ne.symm R5.out)
end Go.Proofs.Ytglmohcnmpbfmaa
