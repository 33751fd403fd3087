/- Contracts of package dist: Apart, Gap, Add, Sum, Cmp. Contracts of package dist: isPoint, total, Between, ToBox. Plain laws of distances: the same both ways, 0 just of the same point, by a third point no shorter; of boxes. Contracts of the document's package for chapter 4: SameRow, Same. -/
import Derived.Test.YtiicdnbhphgieaaProg
import Derived.Laws.Rows
import Derived.Laws.Externs
import Derived.Laws.StructEq
import Derived.Laws.ResultCell
import Derived.Test.YtiicdnbhphgieaaK2
import Derived.Test.YtiicdnbhphgieaaK3
import Derived.Test.YtiicdnbhphgieaaK4
import Derived.Test.YtiicdnbhphgieaaK5
set_option linter.unusedVariables false
set_option linter.unusedSimpArgs false
namespace Go.Proofs.Ytiicdnbhphgieaa
open Go.RowKit

/-- how far two numbers are apart -/
def apart (a b : Int) : Nat := (a - b).natAbs
def gap (x lo hi : Int) : Nat := if x < lo then apart x lo else if hi < x then apart x hi else 0
/-- a distance's value: high and low word -/
def dvp (h l : Nat) : Value := .agg #[.int .u64 h, .int .u64 l]
def dv (D : Nat) : Value := dvp (D / 18446744073709551616) (D % 18446744073709551616)
def I64 (z : Int) : Prop := -9223372036854775808 ≤ z ∧ z ≤ 9223372036854775807
theorem apart_lt {a b : Int} (ha : I64 a) (hb : I64 b) : apart a b < 18446744073709551616 := by unfold apart I64 at *; omega
theorem gap_lt {x l h : Int} (hx : I64 x) (hl : I64 l) (hh : I64 h) : gap x l h < 18446744073709551616 := by
  unfold gap
  split
  · exact apart_lt hx hl
  · split
    · exact apart_lt hx hh
    · omega

end Go.Proofs.Ytiicdnbhphgieaa
namespace Go.Proofs.Ytiicdnbhphgieaa
open Go.RowKit

def isPt (n : Nat) : Bool := decide (1 ≤ n) && decide (n ≤ 8)
theorem info_u64' : (Try.prog.info? 155).map (fun i => (i.zero, i.size, i.bytes)) = some (some (.int .u64 0), 1, 8) := by kernel_rfl

theorem run_enter {f : FuncId} {fn : Func} (hf : Try.prog.funcs[f]? = some fn) (hn : (fn.name == "runtime.NumGoroutine") = false) (hb : fn.body.isNone = false) (args : Array Value) (w : World) : (callFunc f args).run Try.prog w = .ok (.enter f args) w := by
  have h1 : (fn.name = "runtime.NumGoroutine") = False := by simpa using hn
  simp [callFunc, hf, h1, hb, program, Sem.run]
  intro h; simp [h] at hb

/-- what the sides say, from 0 on -/
def sides (f : Nat → Nat) (k : Nat) : List Nat := (List.range k).map f

def IsI' (l : List Int) : Prop := ∀ i, I64 (l.getD i 0)
theorem sides_le (f : Nat → Nat) (n : Nat) (hf : ∀ i, i < n → f i < 18446744073709551616) : (sides f n).sum ≤ n * 18446744073709551615 := by
  induction n with
  | zero => simp [sides]
  | succ n ih =>
    have h1 := ih (fun i hi => hf i (by omega))
    have h2 := hf n (by omega)
    have h3 : (sides f (n + 1)).sum = (sides f n).sum + f n := by simp [sides, List.range_succ]
    omega
/-- the distance of two points of n numbers -/
def dpt (p q : List Int) (n : Nat) : Nat := (sides (fun i => apart (p.getD i 0) (q.getD i 0)) n).sum
def dbox (p lo hi : List Int) (n : Nat) : Nat := (sides (fun i => gap (p.getD i 0) (lo.getD i 0) (hi.getD i 0)) n).sum
theorem dpt_lt (p q : List Int) (n : Nat) (hp : IsI p) (hq : IsI q) (hn : n ≤ 8) : dpt p q n < 147573952589676412928 := by
  have := sides_le (fun i => apart (p.getD i 0) (q.getD i 0)) n (fun i _ => apart_lt (hp i) (hq i))
  unfold dpt; omega
theorem dbox_lt (p lo hi : List Int) (n : Nat) (hp : IsI p) (hq : IsI lo) (hr : IsI hi) (hn : n ≤ 8) : dbox p lo hi n < 147573952589676412928 := by
  have := sides_le (fun i => gap (p.getD i 0) (lo.getD i 0) (hi.getD i 0)) n (fun i _ => gap_lt (hp i) (hq i) (hr i))
  unfold dbox; omega

end Go.Proofs.Ytiicdnbhphgieaa
namespace Go.Proofs.Ytiicdnbhphgieaa
open Go.RowKit

theorem sides_succ (f : Nat → Nat) (k : Nat) : (sides f (k + 1)).sum = (sides f k).sum + f k := by simp [sides, List.range_succ]
theorem sides_congr (f g : Nat → Nat) : ∀ k, (∀ i, i < k → f i = g i) → (sides f k).sum = (sides g k).sum
  | 0, _ => rfl
  | k + 1, h => by rw [sides_succ, sides_succ, sides_congr f g k fun i hi => h i (by omega), h k (by omega)]
theorem sides_mono (f g : Nat → Nat) : ∀ k, (∀ i, i < k → f i ≤ g i) → (sides f k).sum ≤ (sides g k).sum
  | 0, _ => Nat.le_refl _
  | k + 1, h => by rw [sides_succ, sides_succ]; have := sides_mono f g k fun i hi => h i (by omega); have := h k (by omega); omega
theorem sides_add (f g : Nat → Nat) : ∀ k, (sides (fun i => f i + g i) k).sum = (sides f k).sum + (sides g k).sum
  | 0 => rfl
  | k + 1 => by rw [sides_succ, sides_succ, sides_succ, sides_add f g k]; omega
theorem sides_zero (f : Nat → Nat) : ∀ k, (sides f k).sum = 0 ↔ ∀ i, i < k → f i = 0
  | 0 => by simp [sides]
  | k + 1 => by
    rw [sides_succ]
    constructor
    · intro h i hi
      have h1 := (sides_zero f k).1 (by omega)
      rcases Nat.lt_or_ge i k with h2 | h2
      · exact h1 i h2
      · obtain rfl : i = k := by omega
        omega
    · intro h
      rw [(sides_zero f k).2 fun i hi => h i (by omega), h k (by omega)]
theorem dpt_comm (p q : List Int) (n : Nat) : dpt p q n = dpt q p n := sides_congr _ _ n fun i _ => by unfold apart; omega
/-- the first k numbers are the same -/
def eqTo (p q : List Int) (k : Nat) : Bool := (List.range k).all fun i => p.getD i 0 == q.getD i 0
theorem eqTo_succ (p q : List Int) (k : Nat) : eqTo p q (k + 1) = (eqTo p q k && (p.getD k 0 == q.getD k 0)) := by simp [eqTo, List.range_succ]
theorem eqTo_iff (p q : List Int) (k : Nat) : eqTo p q k = true ↔ ∀ i, i < k → p.getD i 0 = q.getD i 0 := by simp [eqTo]
theorem dpt_zero (p q : List Int) (n : Nat) : dpt p q n = 0 ↔ eqTo p q n = true := by
  rw [eqTo_iff]
  unfold dpt
  rw [sides_zero]
  constructor
  · intro h i hi; have := h i hi; unfold apart at this; omega
  · intro h i hi; have := h i hi; show apart _ _ = 0; unfold apart; omega
theorem dpt_tri (p q r : List Int) (n : Nat) : dpt p q n ≤ dpt p r n + dpt r q n := by
  unfold dpt
  rw [← sides_add]
  exact sides_mono _ _ n fun i _ => by unfold apart; omega
/-- the nearest number of a side -/
def clamp (x lo hi : Int) : Int := if hi < if x < lo then lo else x then hi else if x < lo then lo else x
theorem gap_le (x y lo hi : Int) (h : lo ≤ hi) : gap x lo hi ≤ apart x (clamp y lo hi) := by
  unfold gap apart clamp
  (repeat' split) <;> omega
theorem gap_eq (x lo hi : Int) (h : lo ≤ hi) : gap x lo hi = apart x (clamp x lo hi) := by
  unfold gap apart clamp
  (repeat' split) <;> omega
/-- side by side -/
def clamps (q lo hi : List Int) (k : Nat) : List Int := (List.range k).map fun i => clamp (q.getD i 0) (lo.getD i 0) (hi.getD i 0)
theorem clamps_len (q lo hi : List Int) (k : Nat) : (clamps q lo hi k).length = k := by simp [clamps]
theorem clamps_get (q lo hi : List Int) (k i : Nat) (h : i < k) : (clamps q lo hi k).getD i 0 = clamp (q.getD i 0) (lo.getD i 0) (hi.getD i 0) := by simp [clamps, List.getD, List.getElem?_map, List.getElem?_range h]
theorem clamp_I {q lo hi : Int} (h1 : I64 q) (h2 : I64 lo) (h3 : I64 hi) : I64 (clamp q lo hi) := by unfold clamp I64 at *; (repeat' split) <;> omega
theorem clamps_I (q lo hi : List Int) (k : Nat) (h1 : IsI q) (h2 : IsI lo) (h3 : IsI hi) : IsI (clamps q lo hi k) := fun i => by
  rcases Nat.lt_or_ge i k with h | h
  · rw [clamps_get _ _ _ _ _ h]; exact clamp_I (h1 i) (h2 i) (h3 i)
  · rw [getD_out _ _ _ (by rw [clamps_len]; omega)]; omega
theorem dbox_le (p q lo hi : List Int) (n : Nat) (h : ∀ i, i < n → lo.getD i 0 ≤ hi.getD i 0) : dbox p lo hi n ≤ dpt p (clamps q lo hi n) n :=
  sides_mono _ _ n fun i hi' => by rw [clamps_get _ _ _ _ _ hi']; exact gap_le _ _ _ _ (h i hi')
theorem dbox_eq (p lo hi : List Int) (n : Nat) (h : ∀ i, i < n → lo.getD i 0 ≤ hi.getD i 0) : dbox p lo hi n = dpt p (clamps p lo hi n) n :=
  sides_congr _ _ n fun i hi' => by rw [clamps_get _ _ _ _ _ hi']; exact gap_eq _ _ _ (h i hi')
/-- the way by a third point, as the law reckons it -/
theorem third (C D : Nat) (hC : C < 147573952589676412928) (hD : D < 147573952589676412928) :
    (C + D % 18446744073709551616) % 340282366920938463463374607431768211456 = C + D % 18446744073709551616 ∧
    IntKind.u64.wrap (((C + D % 18446744073709551616) / 18446744073709551616 : Nat) + (D / 18446744073709551616 : Nat) : Int) = ((C + D) / 18446744073709551616 : Nat) ∧
    (C + D % 18446744073709551616) % 18446744073709551616 = (C + D) % 18446744073709551616 := by
  refine ⟨by omega, ?_, by omega⟩
  simp only [IntKind.wrap, IntKind.signed, IntKind.bits]
  simp
  omega
end Go.Proofs.Ytiicdnbhphgieaa
namespace Go.Proofs.Ytiicdnbhphgieaa
open Go.RowKit
theorem eqTo_all {p q : List Int} (h : q.length = p.length) : eqTo p q p.length = decide (p = q) := by
  rw [Bool.eq_iff_iff, eqTo_iff, decide_eq_true_iff]
  constructor
  · intro he
    refine List.ext_getElem? fun i => ?_
    rcases Nat.lt_or_ge i p.length with hi | hi
    · have := he i hi
      unfold List.getD at this
      rw [List.getElem?_eq_getElem hi, List.getElem?_eq_getElem (by omega)] at this ⊢
      simpa using this
    · simp [hi, h]
  · intro he; subst he; intros; rfl

set_option maxRecDepth 100000 in
set_option maxHeartbeats 1000000 in
theorem sameRow_any (A B : Option Addr) (p q : List Int) (c d : Nat) (w : World) (hA : Arr w w.heap.size A p.length (i64s p)) (hB : Arr w w.heap.size B q.length (i64s q)) (hn : p.length ≤ 17592186043904) :
    Calls Try.prog 73 #[.slice A p.length c, .slice B q.length d] w fun e w' => e = .returned (.bool (decide (p = q))) ∧ Below w.heap.size w w' := by
  by_cases hl : q.length = p.length
  case neg =>
    have t : ((p.length : Int) != q.length) = true := by simp; omega
    have hr := hideP (show decide (p = q) = false by simp; intro h; subst h; exact hl rfl)
    clear hl
    go_enter Try.func73, Try.ntmps73
    go_wp2
    go_ret
    exact ⟨by rw [hr.out]; rfl, Below.refl _ _⟩
  have hr := hideP (eqTo_all hl)
  rw [hl] at hB ⊢
  obtain ⟨n, hn'⟩ : ∃ n, n = p.length := ⟨_, rfl⟩
  rw [← hn'] at hA hB hn hr ⊢
  clear hl hn'
  have HhA := hideP hA; have HhB := hideP hB; clear hA hB
  go_enter Try.func73, Try.ntmps73
  go_wp2
  go_loopw [5] (fun v5 wr => ∃ k : Nat, k ≤ n ∧ v5 = .int .i64 k ∧ Hid (eqTo p q k = true ∧ Below w.heap.size w wr)) (fun v5 _ => n - (intOf v5).toNat)
  case atStart => exact ⟨0, by omega, rfl, rfl, Below.refl _ _⟩
  case round =>
    obtain ⟨k, hk, rfl, hW⟩ := hrel
    by_cases hlt : k < n
    · have t' : decide ((k : Int) < n) = true := by simp; omega
      obtain ⟨b, off, rfl, hb, hc⟩ := (HhA.out.below hW.out.2) (by omega)
      obtain ⟨b', off', rfl, hb', hc'⟩ := (HhB.out.below hW.out.2) (by omega)
      have k1 := hc k hlt
      have k2 := hc' k hlt
      unfold i64s at k1 k2
      have hst := eqTo_succ p q k
      have hfl := fun h : eqTo p q (k + 1) = false => (show eqTo p q n = false by
        have : ¬ eqTo p q n = true := fun h2 => by
          rw [eqTo_iff] at h2
          have : eqTo p q (k + 1) = true := by rw [eqTo_iff]; exact fun i hi => h2 i (by omega)
          rw [h] at this; cases this
        simpa using this)
      obtain ⟨x, ex⟩ : ∃ x, x = p.getD k 0 := ⟨_, rfl⟩
      obtain ⟨y, ey⟩ : ∃ y, y = q.getD k 0 := ⟨_, rfl⟩
      rw [← ex] at k1 hst
      rw [← ey] at k2 hst
      rw [hW.out.1, Bool.true_and] at hst
      clear ex ey hc hc' hb hb'
      by_cases hxy : x = y
      · subst hxy
        have t : (x != x) = false := by simp
        have hs := hideP (show eqTo p q (k + 1) = true by rw [hst]; simp)
        clear hst hfl
        go_wp2
        refine wp_region_eager 9 [(true, 0), (true, 1), (true, 2), (true, 3), (true, 4), (true, 5), (true, 6), (true, 7), (true, 8)] (by kernel_rfl) (by kernel_rfl) ?_
        simp only [pick, List.map_cons, List.map_nil, nthO_zero, nthO_succ]
        repeat (first
          | (refine wpPlan_skipK (by rfl) (fun K hK => ?_); go_simp; refine hK _ ?_; clear hK K)
          | (refine wpPlan_valK (by rfl) (fun K hK => ?_); apply Exists.intro; refine ⟨fun W hW => ?_, ?_⟩; (focus (have hs0 := hW.cell k1; have hs1 := hW.cell k2; go_simp; (try rfl); done)); go_simp; refine hK _ ?_; clear hK K))
        refine wpPlan_nil (fun W1 hW0 => ?_)
        simp only [List.drop_succ_cons, List.drop_zero, List.drop_nil]
        have fb := hideP (below_ext hW.out.2 hW0.drew_left)
        clear hW hW0 k1 k2
        go_wp2
        go_roundw
        case rel => exact ⟨k + 1, by omega, by go_num, hs.out, fb.out⟩
        case measure => simp [intOf]; omega
      · have t : (x != y) = true := by simp [hxy]
        have hs := hideP (hfl (by rw [hst]; simp [hxy]))
        clear hst hfl hxy
        go_wp2
        refine wp_region_eager 9 [(true, 0), (true, 1), (true, 2), (true, 3), (true, 4), (true, 5), (true, 6), (true, 7), (true, 8)] (by kernel_rfl) (by kernel_rfl) ?_
        simp only [pick, List.map_cons, List.map_nil, nthO_zero, nthO_succ]
        repeat (first
          | (refine wpPlan_skipK (by rfl) (fun K hK => ?_); go_simp; refine hK _ ?_; clear hK K)
          | (refine wpPlan_valK (by rfl) (fun K hK => ?_); apply Exists.intro; refine ⟨fun W hW => ?_, ?_⟩; (focus (have hs0 := hW.cell k1; have hs1 := hW.cell k2; go_simp; (try rfl); done)); go_simp; refine hK _ ?_; clear hK K))
        refine wpPlan_nil (fun W1 hW0 => ?_)
        simp only [List.drop_succ_cons, List.drop_zero, List.drop_nil]
        have fb := hideP (below_ext hW.out.2 hW0.drew_left)
        clear hW hW0 k1 k2
        go_wp2
        go_ret
        exact ⟨by rw [← hr.out, hs.out]; rfl, fb.out⟩
    · have t' : decide ((k : Int) < n) = false := by simp; omega
      obtain rfl : k = n := by omega
      go_wp2
      go_ret
      exact ⟨by rw [← hr.out, hW.out.1]; rfl, hW.out.2⟩

set_option maxRecDepth 100000 in
set_option maxHeartbeats 1000000 in
theorem same_any (L H L' H' : Option Addr) (lo hi lo' hi' : List Int) (dl sh dl' sh' : Nat) (w : World) (hL : Arr w w.heap.size L lo.length (i64s lo)) (hH : Arr w w.heap.size H hi.length (i64s hi))
    (hL' : Arr w w.heap.size L' lo'.length (i64s lo')) (hH' : Arr w w.heap.size H' hi'.length (i64s hi')) (hn : lo.length ≤ 17592186043904) (hm : hi.length ≤ 17592186043904) :
    Calls Try.prog 95 #[.agg #[.slice L lo.length dl, .slice H hi.length sh], .agg #[.slice L' lo'.length dl', .slice H' hi'.length sh']] w fun e w' => e = .returned (.bool (decide (lo = lo' ∧ hi = hi'))) ∧ Below w.heap.size w w' := by
  have t1 := fun W h h' => sameRow_any L L' lo lo' dl dl' W h h' hn
  have t2 := fun W h h' => sameRow_any H H' hi hi' sh sh' W h h' hm
  obtain ⟨p, hp⟩ : ∃ p, p = decide (lo = lo') := ⟨_, rfl⟩
  obtain ⟨q, hq⟩ : ∃ p, p = decide (hi = hi') := ⟨_, rfl⟩
  have hb := hideP (show decide (lo = lo' ∧ hi = hi') = (p && q) by rw [hp, hq]; simp)
  rw [← hp] at t1
  rw [← hq] at t2
  clear hp hq hn hm
  have Ht1 := hideP t1; have Ht2 := hideP t2; have HhL := hideP hL; have HhH := hideP hH; have HhL' := hideP hL'; have HhH' := hideP hH'; clear t1 t2 hL hH hL' hH'
  go_enter Try.func95, Try.ntmps95
  go_wp2_with fail
  obtain ⟨w1, hw1⟩ : ∃ w1, w1 = (w.alloc (Obj.cells #[.slice L lo.length dl, .slice H hi.length sh] 79)).alloc (Obj.cells #[.slice L' lo'.length dl', .slice H' hi'.length sh'] 79) := ⟨_, rfl⟩
  have c1 := hideP (show Two w1 w.heap.size 79 (.slice L lo.length dl) (.slice H hi.length sh) by rw [hw1]; exact (Two.new _ _ _ _).alloc _)
  have c2 := hideP (show Two w1 (w.heap.size + 1) 79 (.slice L' lo'.length dl') (.slice H' hi'.length sh') by rw [hw1]; exact Two.new' _ _ _ _ _ (by simp))
  have cb := hideP (show Below w.heap.size w w1 by rw [hw1]; exact (below_new _ _).alloc (by simp) _)
  rw [← hw1]
  clear hw1
  have kc10 := c1.out.c0; have kc11 := c1.out.c1
  have kc20 := c2.out.c0; have kc21 := c2.out.c1
  refine (Ht1.out w1 (HhL.out.after cb.out) (HhL'.out.after cb.out)).mono ?_
  rintro e w2 ⟨rfl, hb'⟩
  clear kc10 kc11 kc20 kc21
  replace c1 := hideP (c1.out.after hb')
  replace c2 := hideP (c2.out.after hb')
  replace cb := hideP (bstep cb.out hb')
  clear hb'
  cases p
  · go_wp2
    go_ret
    exact ⟨by rw [hb.out]; rfl, cb.out⟩
  · skip
    have kc10 := c1.out.c0; have kc11 := c1.out.c1
    have kc20 := c2.out.c0; have kc21 := c2.out.c1
    go_wp2_with fail
    refine (Ht2.out w2 (HhH.out.after cb.out) (HhH'.out.after cb.out)).mono ?_
    rintro e w3 ⟨rfl, hb'⟩
    clear kc10 kc11 kc20 kc21
    replace cb := hideP (bstep cb.out hb')
    clear hb'
    go_wp2
    go_ret
    exact ⟨by rw [hb.out]; rfl, cb.out⟩
end Go.Proofs.Ytiicdnbhphgieaa
