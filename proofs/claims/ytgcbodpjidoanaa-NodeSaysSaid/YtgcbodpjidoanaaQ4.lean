/- Small steps from world to world. Contracts of package box: all, Right. Contracts of package box: slices.Clone of a row, copied. Contracts of package box: both, Meets, Holds. -/
import Derived.Laws.OwnMore
import Derived.Lib.SliceRun
import Derived.Test.YtgcbodpjidoanaaQ2
import Derived.Test.YtgcbodpjidoanaaQ3
set_option linter.unusedVariables false
set_option linter.unusedSimpArgs false
namespace Go.Proofs.Ytgcbodpjidoanaa
open Go.RowKit
theorem bstep {w w1 w2 : World} (h : Below w.heap.size w w1) (k : Below w1.heap.size w1 w2) : Below w.heap.size w w2 := h.trans (k.mono h.size)
theorem two_set0 {w : World} {g : Nat} {t : TypeId} {x y : Value} (h : Two w g t x y) (u : Value) : Two (w.setCell ⟨g, 0, none⟩ u) g t u y := by
  unfold Two at *
  simp [World.setCell, Array.getElem?_modify, h]
theorem two_set1 {w : World} {g : Nat} {t : TypeId} {x y : Value} (h : Two w g t x y) (u : Value) : Two (w.setCell ⟨g, 1, none⟩ u) g t x u := by
  unfold Two at *
  simp [World.setCell, Array.getElem?_modify, h]
theorem cell_below {B : Nat} {w w' : World} {a : Addr} {v : Value} (h : Below B w w') (hb : a.block < B) (hc : w.cell? a = some v) : w'.cell? a = some v :=
  (World.cell?_of_block (w := w) (h.block a.block hb)).trans hc
/-- two rows of the call's own don't share a block -/
def Sep (v u : Value) : Prop := v.ownBlock = none ∨ v.ownBlock ≠ u.ownBlock
theorem Sep.symm {v u : Value} (h : Sep v u) : Sep u v := by
  unfold Sep at *
  rcases h with h | h
  · rcases hu : u.ownBlock with _ | b
    · exact .inl rfl
    · right; rw [h]; simp
  · exact .inr (Ne.symm h)
theorem Sep.after {w : World} {base : Nat} {e : TypeId} {size n : Nat} {v u u' : Value} {xs : List Value} (h : Sep v u) (hv : w.ownsRow base e size v n xs) (hat : u'.ownBlock = u.ownBlock ∨ u'.ownBlock = some w.heap.size) : Sep v u' := by
  unfold Sep at *
  rcases hat with hat | hat
  · rw [hat]; exact h
  · rcases hb : v.ownBlock with _ | b
    · exact .inl rfl
    · right
      have := (hv.lt b hb).2
      rw [hat]
      intro hh
      injection hh with hh
      omega
end Go.Proofs.Ytgcbodpjidoanaa
namespace Go.Proofs.Ytgcbodpjidoanaa
open Go.RowKit

theorem range_all_succ (f : Nat → Bool) (k : Nat) : (List.range (k + 1)).all f = ((List.range k).all f && f k) := by simp [List.range_succ]
theorem range_all_false (f : Nat → Bool) (n k : Nat) (hk : k < n) (h : f k = false) : (List.range n).all f = false := by
  rw [List.all_eq_false]
  exact ⟨k, by simpa using hk, by simp [h]⟩

theorem all_any (n : Nat) (fv : Value) (fn : Nat) (caps : Array Value) (hfv : fv = .func (.func fn) #[] caps) (f : Nat → Bool) (w : World) (hn : n ≤ 1000000)
    (henter : ∀ args W, (callFunc fn args).run Try.prog W = .ok (.enter fn args) W)
    (hside : ∀ (i : Nat) (W : World), i < n → Below w.heap.size w W → Calls Try.prog fn (#[.int .i64 i] ++ caps) W fun e W' => e = .returned (.bool (f i)) ∧ ∃ nq, W.drewN nq = W') :
    Calls Try.prog 179 #[.int .i64 n, fv] w fun e w' => e = .returned (.bool ((List.range n).all f)) ∧ Below w.heap.size w w' := by
  subst hfv
  have HS := hideP hside
  clear hside
  go_enter Try.func179, Try.ntmps179
  go_wp2
  go_loopw [7] (fun v7 wr => ∃ k : Nat, k ≤ n ∧ v7 = .int .i64 k ∧ Hid ((List.range k).all f = true ∧ Below w.heap.size w wr)) (fun v7 _ => n - (intOf v7).toNat)
  case atStart => exact ⟨0, by omega, rfl, rfl, Below.refl _ _⟩
  case round =>
    obtain ⟨k, hk, rfl, hW⟩ := hrel
    by_cases hlt : k < n
    · have t : decide ((k : Int) < n) = true := by simp; omega
      go_wp2_with fail
      refine (HS.out k wr hlt hW.out.2).mono ?_
      rintro e w1 ⟨rfl, nq, hw1⟩
      have hbel : Below w.heap.size w w1 := by rw [← hw1]; exact below_drewN hW.out.2 _
      clear hw1
      obtain ⟨b, hb⟩ : ∃ b, b = f k := ⟨_, rfl⟩
      rw [← hb]
      have HB := hideP hb; have BL := hideP hbel
      clear hb hbel
      cases b
      · have hf := hideP (range_all_false f n k hlt HB.out.symm)
        go_wp2
        go_ret
        exact ⟨by rw [hf.out]; rfl, BL.out⟩
      · have hf := hideP (show (List.range (k + 1)).all f = true by rw [range_all_succ, hW.out.1, ← HB.out]; rfl)
        clear hW
        go_wp2
        go_roundw
        case rel => exact ⟨k + 1, by omega, by go_num, hf.out, BL.out⟩
        case measure => simp [intOf]; omega
    · have t : decide ((k : Int) < n) = false := by simp; omega
      have hf := hideP (show (List.range n).all f = true by rw [show n = k by omega]; exact hW.out.1)
      go_wp2
      go_ret
      exact ⟨by rw [hf.out]; rfl, hW.out.2⟩

/-- on each side the lesser number is not greater -/
def leAll (lo hi : List Int) (n : Nat) : Bool := (List.range n).all fun i => decide (lo.getD i 0 ≤ hi.getD i 0)
def rightB (lo hi : List Int) (d : Int) : Bool := decide (1 ≤ d) && decide (d ≤ 8) && decide ((lo.length : Int) = d) && decide ((hi.length : Int) = d) && leAll lo hi lo.length
theorem rightB_len {lo hi : List Int} {d : Int} (h : rightB lo hi d = true) : 1 ≤ d ∧ d ≤ 8 ∧ (lo.length : Int) = d ∧ (hi.length : Int) = d ∧ leAll lo hi lo.length = true := by
  unfold rightB at h
  simpa [and_assoc] using h

theorem right1 (i : Nat) (g : Nat) (L H : Option Addr) (lo hi : List Int) (n m d s : Nat) (w : World) (h1 : w.cell? ⟨g, 0, none⟩ = some (.slice L n d)) (h2 : w.cell? ⟨g, 1, none⟩ = some (.slice H m s))
    (hL : Arr w w.heap.size L n (i64s lo)) (hH : Arr w w.heap.size H m (i64s hi)) (hi0 : i < n) (hi' : i < m) :
    Calls Try.prog 180 (#[.int .i64 i] ++ #[.pointer (some ⟨g, 0, none⟩)]) w fun e w' => e = .returned (.bool (decide (lo.getD i 0 ≤ hi.getD i 0))) ∧ ∃ nq, w.drewN nq = w' := by
  obtain ⟨b, off, rfl, hb, hc⟩ := hL (by omega)
  obtain ⟨b', off', rfl, hb', hc'⟩ := hH (by omega)
  have k1 := hc i hi0
  have k2 := hc' i hi'
  unfold i64s at k1 k2
  obtain ⟨x, ex⟩ : ∃ x, x = lo.getD i 0 := ⟨_, rfl⟩
  obtain ⟨y, ey⟩ : ∃ y, y = hi.getD i 0 := ⟨_, rfl⟩
  rw [← ex] at k1 ⊢
  rw [← ey] at k2 ⊢
  have i0 : (0 : Int) ≤ (i : Int) := by omega
  have i1 : (i : Int) < (n : Int) := by omega
  have i2 : (i : Int) < (m : Int) := by omega
  clear hc hc' hL hH ex ey
  go_enter Try.func180, Try.ntmps180
  go_wp2
  go_quiet (fail)
  go_wp2
  go_ret
  exact ⟨rfl, ⟨_, rfl⟩⟩

set_option maxHeartbeats 1000000 in
theorem right_any (L H : Option Addr) (lo hi : List Int) (dl sh : Nat) (d : Int) (w : World) (hL : Arr w w.heap.size L lo.length (i64s lo)) (hH : Arr w w.heap.size H hi.length (i64s hi)) :
    Calls Try.prog 102 #[.agg #[.slice L lo.length dl, .slice H hi.length sh], .int .i64 d] w fun e w' => e = .returned (.bool (rightB lo hi d)) ∧ Below w.heap.size w w' := by
  have HL := hideP hL; have HH := hideP hH
  clear hL hH
  by_cases h1 : 1 ≤ d
  case neg =>
    have hr := hideP (show rightB lo hi d = false by simp [rightB, h1])
    have t : decide (d < 1) = true := by simp; omega
    go_enter Try.func102, Try.ntmps102
    go_wp2
    go_ret
    exact ⟨by rw [hr.out]; rfl, below_new _ _⟩
  have t1 : decide (d < 1) = false := by simp; omega
  by_cases h2 : d ≤ 8
  case neg =>
    have hr := hideP (show rightB lo hi d = false by simp [rightB, h2])
    have t : decide (8 < d) = true := by simp; omega
    go_enter Try.func102, Try.ntmps102
    go_wp2
    go_ret
    exact ⟨by rw [hr.out]; rfl, below_new _ _⟩
  have t2 : decide (8 < d) = false := by simp; omega
  by_cases h3 : (lo.length : Int) = d
  case neg =>
    have hr := hideP (show rightB lo hi d = false by simp [rightB, h3])
    have t : ((lo.length : Int) != d) = true := by simp [h3]
    clear h3
    go_enter Try.func102, Try.ntmps102
    go_wp2
    go_ret
    exact ⟨by rw [hr.out]; rfl, below_new _ _⟩
  have t3 : ((lo.length : Int) != d) = false := by simp [h3]
  by_cases h4 : (hi.length : Int) = d
  case neg =>
    have hr := hideP (show rightB lo hi d = false by simp [rightB, h4])
    have t : ((hi.length : Int) != d) = true := by simp [h4]
    clear h3 h4
    go_enter Try.func102, Try.ntmps102
    go_wp2
    go_ret
    exact ⟨by rw [hr.out]; rfl, below_new _ _⟩
  have t4 : ((hi.length : Int) != d) = false := by simp [h4]
  obtain ⟨n, hn⟩ : ∃ n, n = lo.length := ⟨_, rfl⟩
  have hm : hi.length = n := by omega
  obtain rfl : d = n := by omega
  have hr := hideP (show rightB lo hi n = leAll lo hi n by unfold rightB; simp only [decide_true, Bool.true_and, hn ▸ h1, h2, ← hn, hm, decide_eq_true h1])
  have h8 : n ≤ 8 := by omega
  rw [hm] at HH t4 ⊢
  rw [← hn] at HL t3 ⊢
  clear h1 h2 h3 h4 hn hm
  go_enter Try.func102, Try.ntmps102
  go_wp2_with fail
  obtain ⟨w1, hw1⟩ : ∃ w1, w1 = w.alloc (Obj.cells #[.slice L n dl, .slice H n sh] 41) := ⟨_, rfl⟩
  have c1 := hideP (show Two w1 w.heap.size 41 (.slice L n dl) (.slice H n sh) by rw [hw1]; exact Two.new _ _ _ _)
  have cb := hideP (show Below w.heap.size w w1 by rw [hw1]; exact below_new _ _)
  rw [← hw1]
  clear hw1
  refine (all_any n _ 180 #[.pointer (some ⟨w.heap.size, 0, none⟩)] rfl (fun i => decide (lo.getD i 0 ≤ hi.getD i 0)) w1 (by omega) (run_enter Try.func180 rfl rfl) (fun i W hi hW => ?_)).mono ?_
  · exact right1 i _ L H _ _ n n dl sh W (c1.out.after hW).c0 (c1.out.after hW).c1 ((HL.out.after cb.out).after hW) ((HH.out.after cb.out).after hW) hi hi
  rintro e w2 ⟨rfl, hb⟩
  replace cb := hideP (bstep cb.out hb)
  clear hb
  go_wp2
  go_ret
  exact ⟨by rw [hr.out]; rfl, cb.out⟩
end Go.Proofs.Ytgcbodpjidoanaa
namespace Go.Proofs.Ytgcbodpjidoanaa
open Go.RowKit
theorem info_i64 : (Try.prog.info? 2).map (fun i => (i.zero, i.size, i.bytes)) = some (some (.int .i64 0), 1, 8) := by kernel_rfl
/-- a row of the call's own -/
def Own (w : World) (base : Nat) (R : Option Addr) (s : Nat) (l : List Int) : Prop := w.ownsRow base 2 1 (.slice R l.length s) l.length (l.map (Value.int .i64))
theorem Own.arr {w : World} {base : Nat} {R : Option Addr} {s : Nat} {l : List Int} (h : Own w base R s l) : Arr w w.heap.size R l.length (i64s l) :=
  Arr.of_own h fun i hi => by unfold i64s; simp [List.getD, List.getElem?_map, List.getElem?_eq_getElem hi]
theorem map_i64s (l : List Int) : (List.range l.length).map (i64s l) = l.map (Value.int .i64) := by
  refine List.ext_getElem? fun i => ?_
  rcases Nat.lt_or_ge i l.length with h | h
  · simp [List.getElem?_map, List.getElem?_range h, i64s, List.getD, List.getElem?_eq_getElem h]
  · simp [h]
theorem Own.mono {w : World} {base base' : Nat} {R : Option Addr} {s : Nat} {l : List Int} (h : Own w base R s l) (hb : base' ≤ base) : Own w base' R s l :=
  ⟨h.1, h.2.imp id fun ⟨g, cap, cur, hv, hg, r⟩ => ⟨g, cap, cur, hv, Nat.le_trans hb hg, r⟩⟩
theorem Own.ext {w W : World} {base : Nat} {R : Option Addr} {s : Nat} {l : List Int} (h : Own w base R s l) (hW : Ext w W) : Own W base R s l := ownsRow_ext h hW

set_option maxRecDepth 100000 in
set_option maxHeartbeats 1000000 in
theorem clone_any (A : Option Addr) (l : List Int) (c : Nat) (w : World) (hA : Arr w w.heap.size A l.length (i64s l)) (hn : l.length ≤ 17592186043904) :
    Calls Try.prog 108 #[.slice A l.length c] w fun e w' => ∃ R s, e = .returned (.slice R l.length s) ∧ Below w.heap.size w w' ∧ Own w' w.heap.size R s l := by
  obtain ⟨i0, hi0, hz0, hz1, hz2⟩ := info_parts info_i64
  have qT : ∀ (w : World) (a : Option Addr) (n c n' c' : Nat), (binOp .eql 39 (.slice a n c) (.slice none n' c')).run Try.prog w = .ok (.bool a.isNone) w := fun w a n c n' c' => Lib.run_eql_slice_nil w _ _ a n c n' c' Try.underlying39
  rcases A with _ | ad
  · have h0 : l.length = 0 := by
      rcases Nat.eq_zero_or_pos l.length with h | h
      · exact h
      · obtain ⟨_, _, h, _⟩ := hA h; cases h
    obtain rfl : l = [] := List.length_eq_zero_iff.1 h0
    clear h0 hA
    go_enter Try.func108, Try.ntmps108
    go_wp2
    go_ret
    exact ⟨none, 0, rfl, Below.refl _ _, World.ownsRow_nil _ _ _ _⟩
  · have HA := hideP hA
    clear hA
    obtain ⟨n, hn'⟩ : ∃ n, n = l.length := ⟨_, rfl⟩
    have HN := hideP hn'
    rw [← hn'] at hn HA ⊢
    clear hn'
    go_enter Try.func108, Try.ntmps108
    have hown := World.ownsRow_lit (base := w.heap.size) (e := 2) (size := 1) w #[] 0 (Nat.le_refl _) (Nat.zero_le _) rfl
    have aA := HA.out.after (below_new w (Obj.cells #[] 2))
    have b1 : w.heap.size ≤ (w.alloc (Obj.cells #[] 2)).heap.size := by simp
    go_wp2_with (at_builtin; refine wpList_append_arr (w.alloc (Obj.cells #[] 2)) rfl (.tmp 5) (.tmp 6) 39 rfl w.heap.size 2 i0 _ 8 Try.underlying39 hi0 hz0 hz1 hz2 rfl (.slice (some ⟨w.heap.size, 0, none⟩) 0 0) 0 _ rfl hown _ (some ad) n c (i64s l) rfl aA (fun _ => rfl) (by unfold maxLen; omega) (by omega) b1 ?_; intro A3 c3 w3 hown3 hg3 hat3)
    go_ret
    refine ⟨A3, c3, rfl, (below_new _ _).trans (below_own hown hg3 (Nat.le_refl _) b1), ?_⟩
    unfold Own
    rw [← HN.out, ← map_i64s, ← HN.out]
    simpa using hown3
theorem own_setCell {w : World} {base : Nat} {R : Option Addr} {s : Nat} {l : List Int} {a : Addr} (h : Own w base R s l) (ha : a.block < base) (v : Value) : Own (w.setCell a v) base R s l := by
  refine ⟨h.1, h.2.imp id ?_⟩
  rintro ⟨g, cap, cur, hv, hg, hh, r⟩
  exact ⟨g, cap, cur, hv, hg, (Below.heap_setCell _ _ _ _ (by omega)).trans hh, r⟩
theorem sep_fresh {W W2 : World} {base : Nat} {R R' : Option Addr} {s s' : Nat} {l l' : List Int} (h1 : Own W base R s l) (h2 : Own W2 W.heap.size R' s' l') : Sep (.slice R' l'.length s') (.slice R l.length s) := by
  unfold Sep
  rcases hb : (Value.slice R' l'.length s').ownBlock with _ | b
  · exact .inl rfl
  · right
    have h3 := (World.ownsRow.lt h2 b hb).1
    intro hh
    have := (World.ownsRow.lt h1 b hh.symm).2
    omega

/-- the end of a function whose one result is a box in a variable -/
theorem ret_box {fn : Func} {p : Tmp} {a : Act} {w : World} {R : Ending → World → Prop} (h : fn.results = #[.cell p 41]) {g : Nat} {x y : Value}
    (hp : a.tmps.getD p undef = .pointer (some ⟨g, 0, none⟩)) (hg : w.heap[g]? = some (.cells #[x, y] 41 (0, 0))) (hd : a.defers = []) (hR : R (.returned (.agg #[x, y])) w) : bodyPost Try.prog fn R .ret a w :=
  bodyPost_ret (results_cell_row h _ w g 41 #[x, y] (0, 0) _ hp hg Try.underlying41 rfl (by kernel_rfl)) hd hR

set_option maxRecDepth 100000 in
set_option maxHeartbeats 1000000 in
theorem copied_any (L H : Option Addr) (lo hi : List Int) (dl sh : Nat) (w : World) (hL : Arr w w.heap.size L lo.length (i64s lo)) (hH : Arr w w.heap.size H hi.length (i64s hi)) (hn : lo.length ≤ 17592186043904) (hm : hi.length ≤ 17592186043904) :
    Calls Try.prog 182 #[.agg #[.slice L lo.length dl, .slice H hi.length sh]] w fun e w' => ∃ R s R' s', e = .returned (.agg #[.slice R lo.length s, .slice R' hi.length s']) ∧ Below w.heap.size w w' ∧ Own w' w.heap.size R s lo ∧ Own w' w.heap.size R' s' hi ∧ Sep (.slice R lo.length s) (.slice R' hi.length s') := by
  have t1 := fun W h => clone_any L lo dl W h hn
  have t2 := fun W h => clone_any H hi sh W h hm
  obtain ⟨n, hn'⟩ : ∃ n, n = lo.length := ⟨_, rfl⟩
  obtain ⟨m, hm'⟩ : ∃ n, n = hi.length := ⟨_, rfl⟩
  have HN := hideP hn'; have HM := hideP hm'
  rw [← hn'] at hn hL t1 ⊢
  rw [← hm'] at hm hH t2 ⊢
  clear hn' hm'
  have HhL := hideP hL; have HhH := hideP hH; have Ht1 := hideP t1; have Ht2 := hideP t2; clear hL hH t1 t2
  go_enter Try.func182, Try.ntmps182
  go_wp2
  obtain ⟨w1, hw1⟩ : ∃ w1, w1 = (w.alloc (Obj.cells #[.slice L n dl, .slice H m sh] 41)).alloc (Obj.cells #[.slice none 0 0, .slice none 0 0] 41) := ⟨_, rfl⟩
  have c1 := hideP (show Two w1 w.heap.size 41 (.slice L n dl) (.slice H m sh) by rw [hw1]; exact (Two.new _ _ _ _).alloc _)
  have c2 := hideP (show Two w1 (w.heap.size + 1) 41 (.slice none 0 0) (.slice none 0 0) by rw [hw1]; exact Two.new' _ _ _ _ _ (by simp))
  have cb := hideP (show Below w.heap.size w w1 by rw [hw1]; exact (below_new _ _).alloc (by simp) _)
  rw [← hw1]
  clear hw1
  have kc10 := c1.out.c0; have kc11 := c1.out.c1
  refine wp_region_fork 7 (.q 0 (.q 1 (.q 3 (.q 4 (.l 2 (.l 5 (.q 6 .nil))))))) (by kernel_rfl) (by kernel_rfl) ?_
  simp only [pickT, nthO_zero, nthO_succ]
  iterate 4 (refine wpT_valK (by rfl) (fun K hK => ?_); apply Exists.intro; refine ⟨fun W hW => ?_, ?_⟩; (focus (have hs0 := hW.cell kc10; have hs1 := hW.cell kc11; go_simp; (try rfl); done)); go_simp; refine hK _ ?_; clear hK K)
  refine wpT_loudK 108 #[.slice L n dl] (by rfl) (fun W => by go_simp) (fun W hW => (Ht1.out W (HhL.out.after (below_ext cb.out hW.drew_left))).mono ?_)
  rintro e w2 ⟨R, s, rfl, hb, hown⟩
  refine ⟨_, rfl, Ext.of_below hb, fun K hK => ?_⟩
  go_simp
  refine hK _ ?_
  clear hK K
  have c3 := hideP ((c2.out.ext hW.drew_left).after hb)
  have cb2 := hideP (bstep (below_ext cb.out hW.drew_left) hb)
  have o1 := hideP hown
  have s1 := hideP (c2.out.ext hW.drew_left).lt
  clear hb hown hW c1 c2 cb kc10 kc11 w1
  refine wpT_loudK 108 #[.slice H m sh] (by rfl) (fun W => by go_simp) (fun W2 hW => (Ht2.out W2 (HhH.out.after (below_ext cb2.out hW))).mono ?_)
  rintro e w3 ⟨R', s', rfl, hb, hown⟩
  refine ⟨_, rfl, Ext.of_below hb, fun K hK => ?_⟩
  go_simp
  refine hK _ ?_
  clear hK K
  have o2 := hideP hown
  have s2 := hideP (c3.out.ext hW).lt
  replace c3 := hideP ((c3.out.ext hW).after hb)
  replace cb2 := hideP (bstep (below_ext cb2.out hW) hb)
  have o1' := hideP (o1.out.ext hW)
  have sp := hideP (sep_fresh o1'.out o2.out)
  replace o1 := hideP (o1'.out.ext (Ext.of_below hb))
  clear hb hown hW o1'
  refine wpT_valK (by rfl) (fun K hK => ?_); apply Exists.intro; refine ⟨fun W hW => ?_, ?_⟩; (focus (go_simp; (try rfl); done)); go_simp; refine hK _ ?_; clear hK K
  refine wpT_nil (fun W3 hW => ?_)
  simp only [List.drop_succ_cons, List.drop_zero, List.drop_nil]
  replace o1 := hideP (o1.out.ext hW)
  replace o2 := hideP (o2.out.ext hW)
  replace c3 := hideP (c3.out.ext hW)
  replace cb2 := hideP (below_ext cb2.out hW)
  clear hW
  have f0 := c3.out.fz 0
  have f1 := c3.out.fz 1
  have kc30 := c3.out.c0; have kc31 := c3.out.c1
  go_wp2
  refine ret_box rfl rfl (c3.out.set2 _ _) rfl ?_
  have h1 := s1.out
  have h2 := s2.out
  refine ⟨R, s, R', s', rfl, (cb2.out.setCell (p := ⟨w.heap.size + 1, 0, none⟩) (by simp) _).setCell (p := ⟨w.heap.size + 1, 1, none⟩) (by simp) _, ?_, ?_, ?_⟩
  · exact (own_setCell (own_setCell o1.out (by simp; omega) _) (by simp; omega) _).mono (by omega)
  · exact (own_setCell (own_setCell o2.out (by simp; omega) _) (by simp; omega) _).mono (by omega)
  · rw [HN.out, HM.out]; exact sp.out.symm
end Go.Proofs.Ytgcbodpjidoanaa
namespace Go.Proofs.Ytgcbodpjidoanaa
open Go.RowKit

def bothB (alo ahi blo bhi : List Int) : Bool := rightB alo ahi alo.length && rightB blo bhi alo.length
def meetsB (alo ahi blo bhi : List Int) : Bool := bothB alo ahi blo bhi && (List.range alo.length).all fun i => decide (alo.getD i 0 ≤ bhi.getD i 0) && decide (blo.getD i 0 ≤ ahi.getD i 0)
end Go.Proofs.Ytgcbodpjidoanaa
