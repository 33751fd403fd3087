/- ObB -/
import Derived.Test.YtglmohcnmpbfmaaObA
import Derived.Test.YtglmohcnmpbfmaaBase
set_option linter.unusedVariables false
set_option linter.unusedSimpArgs false
namespace Go.Proofs.Ytglmohcnmpbfmaa
open Go.RowKit
/-- a block of three cells -/
def Three (w : World) (g : Nat) (t : TypeId) (x y z : Value) : Prop := w.heap[g]? = some (.cells #[x, y, z] t (0, 0))
section
variable {w w' : World} {g : Nat} {t : TypeId} {x y z : Value}
theorem Three.c0 (h : Three w g t x y z) : w.cell? ⟨g, 0, none⟩ = some x := by rw [cell_of_row w g 0 _ t (0, 0) h]; rfl
theorem Three.c1 (h : Three w g t x y z) : w.cell? ⟨g, 1, none⟩ = some y := by rw [cell_of_row w g 1 _ t (0, 0) h]; rfl
theorem Three.c2 (h : Three w g t x y z) : w.cell? ⟨g, 2, none⟩ = some z := by rw [cell_of_row w g 2 _ t (0, 0) h]; rfl
theorem Three.fz (h : Three w g t x y z) (i : Nat) : w.frozen? ⟨g, i, none⟩ = false := frozen_of_row w g i _ t h
theorem Three.lt (h : Three w g t x y z) : g < w.heap.size := (Array.getElem?_eq_some_iff.1 h).1
theorem Three.below {B : Nat} (h : Three w g t x y z) (hb : Below B w w') (hB : g < B) : Three w' g t x y z := (hb.block g hB).trans h
theorem Three.after (h : Three w g t x y z) (hb : Below w.heap.size w w') : Three w' g t x y z := h.below hb h.lt
theorem Three.setOther (h : Three w g t x y z) {a : Addr} (ha : g ≠ a.block) (v : Value) : Three (w.setCell a v) g t x y z := (Below.heap_setCell _ _ _ _ ha).trans h
theorem Three.alloc (h : Three w g t x y z) (o : Obj) : Three (w.alloc o) g t x y z := (Below.heap_alloc _ _ _ h.lt).trans h
theorem Three.new (w : World) (t : TypeId) (x y z : Value) : Three (w.alloc (.cells #[x, y, z] t)) w.heap.size t x y z := heap_alloc_new _ _
theorem Three.new' (w : World) (t : TypeId) (x y z : Value) (g : Nat) (h : w.heap.size = g) : Three (w.alloc (.cells #[x, y, z] t)) g t x y z := by subst h; exact heap_alloc_new _ _
theorem Three.ext {W : World} (h : Three w g t x y z) (hW : Ext w W) : Three W g t x y z := (hW.block g h.lt).trans h
end

/-- which orders are right -/
def ordB (K col : Int) (n : Nat) (d : Int) : Bool :=
  decide (1 ≤ d ∧ d ≤ 8 ∧ ((K = 0 ∧ col = 0 ∧ n = 0) ∨ (K = 1 ∧ 1 ≤ col ∧ col < d ∧ n = 0) ∨ (K = 2 ∧ 0 ≤ col ∧ col < d ∧ n = 0) ∨ (K = 3 ∧ col = 0 ∧ 2 ≤ d ∧ (n : Int) = d - 1)))

set_option maxHeartbeats 4000000 in
theorem ord_any (K col : Int) (A : Option Addr) (n c : Nat) (d : Int) (w : World) (hd : I64 d) :
    Calls Try.prog 96 #[.agg #[.int .u8 K, .int .i64 col, .slice A n c], .int .i64 d] w fun e w' => e = .returned (.bool (ordB K col n d)) ∧ Below w.heap.size w w' := by
  obtain ⟨r, hr⟩ : ∃ r, r = ordB K col n d := ⟨_, rfl⟩
  rw [← hr]
  have HR := hideP hr
  unfold I64 at hd
  clear hr
  go_enter Try.func96, Try.ntmps96
  go_wp2
  all_goals go_ret
  all_goals refine ⟨ret_bool ?_, below_new _ _⟩
  all_goals (rw [HR.out, Bool.eq_iff_iff]; unfold ordB; simp only [Bool.false_eq_true, false_iff, true_iff, beq_iff_eq, decide_eq_true_eq]; (try simp only [beq_iff_eq, beq_eq_false_iff_ne, ne_eq] at *); omega)
set_option maxHeartbeats 4000000 in
theorem rord_any (K col : Int) (A : Option Addr) (n c : Nat) (d : Int) (w : World) (hd : I64 d) :
    Calls Try.prog 97 #[.agg #[.int .u8 K, .int .i64 col, .slice A n c], .int .i64 d] w fun e w' => e = .returned (.bool (ordB K col n d)) ∧ Below w.heap.size w w' := by
  obtain ⟨r, hr⟩ : ∃ r, r = ordB K col n d := ⟨_, rfl⟩
  rw [← hr]
  have HR := hideP hr
  unfold I64 at hd
  clear hr
  go_enter Try.func97, Try.ntmps97
  go_wp2
  all_goals go_ret
  all_goals refine ⟨ret_bool ?_, below_new _ _⟩
  all_goals (rw [HR.out, Bool.eq_iff_iff]; unfold ordB; simp only [Bool.false_eq_true, false_iff, true_iff, beq_iff_eq, decide_eq_true_eq]; (try simp only [beq_iff_eq, beq_eq_false_iff_ne, ne_eq] at *); omega)
end Go.Proofs.Ytglmohcnmpbfmaa
namespace Go.Proofs.Ytglmohcnmpbfmaa
open Go.RowKit
def pl (z : Int) : Nat := (z + 9223372036854775808).toNat
def rbit (p : List Int) (i : Nat) : Nat := pl (p.getD (i % p.length) 0) / 2 ^ (63 - i / p.length) % 2
def cutF (f : Nat → Nat) (n i : Nat) : Nat := if i < n then f i else 0
def byteOf (f : Nat → Nat) (j : Nat) : Nat := f (8*j) * 128 + f (8*j+1) * 64 + f (8*j+2) * 32 + f (8*j+3) * 16 + f (8*j+4) * 8 + f (8*j+5) * 4 + f (8*j+6) * 2 + f (8*j+7)
def bitAt (l : List Nat) (i : Nat) : Nat := l.getD (i / 8) 0 / 2 ^ (7 - i % 8) % 2
def code (p : List Int) : List Nat := (List.range (8 * p.length)).map (byteOf (rbit p))

theorem xor63 (x : Nat) (hx : x < 9223372036854775808) : x ^^^ 9223372036854775808 = x + 9223372036854775808 := by
  have e63 : (9223372036854775808 : Nat) = 2 ^ 63 := by decide
  rw [e63, Nat.add_comm, show 2 ^ 63 + x = 2 ^ 63 * 1 + x from by omega, Nat.two_pow_add_eq_or_of_lt (by omega)]
  refine Nat.eq_of_testBit_eq fun i => ?_
  rw [Nat.testBit_xor, Nat.testBit_or, Nat.mul_one, Nat.testBit_two_pow]
  by_cases hi : 63 = i
  · subst hi; rw [Nat.testBit_lt_two_pow (by omega)]; rfl
  · simp [hi]
def codeCell (p : List Int) (n j : Nat) : Value := .int .u8 (byteOf (cutF (rbit p) n) j : Nat)
def hornN (f : Nat → Nat) : Nat → Nat
  | 0 => 0
  | k + 1 => 2 * hornN f k + f k
/-- the point of a code: number k of d -/
def ptNum (c : List Nat) (d k : Nat) : Int := (hornN (fun b => bitAt c (b * d + k)) 64 : Int) - 9223372036854775808
def ptVals (c : List Nat) (d n : Nat) : List Value := (List.range n).map fun k => .int .i64 (ptNum c d k)
end Go.Proofs.Ytglmohcnmpbfmaa
namespace Go.Proofs.Ytglmohcnmpbfmaa
open Go.RowKit
theorem xor_key (x : Int) (hx : I64 x) : bits BinOp.xor IntKind.u64 (IntKind.u64.wrap x) 9223372036854775808 = ((x + 9223372036854775808).toNat : Nat) := by
  unfold I64 at hx
  obtain ⟨u, hu⟩ : ∃ u : Nat, IntKind.u64.wrap x = (u : Int) ∧ u < 18446744073709551616 ∧ (u : Int) = x % 18446744073709551616 := by
    refine ⟨(x % 18446744073709551616).toNat, ?_, by omega, by omega⟩
    rw [IntKind.wrap_u64]; omega
  rw [hu.1]
  have := bits_xor_u64_nat u 9223372036854775808 hu.2.1 (by decide)
  rw [show ((9223372036854775808 : Nat) : Int) = 9223372036854775808 from rfl] at this
  rw [this]
  by_cases h : u < 9223372036854775808
  · rw [xor63 u h]; omega
  · obtain ⟨y, hy⟩ : ∃ y, u = y + 9223372036854775808 := ⟨u - 9223372036854775808, by omega⟩
    have hyl : y < 9223372036854775808 := by omega
    rw [hy, ← xor63 y hyl, Nat.xor_assoc, Nat.xor_self, Nat.xor_zero]
    omega
theorem dv_small (n : Nat) (h : n < 18446744073709551616) : dv n = .agg #[.int .u64 0, .int .u64 (n : Nat)] := by
  unfold dv dvp
  rw [Nat.div_eq_of_lt h, Nat.mod_eq_of_lt h]; rfl
theorem up_any (x : Int) (w : World) (hx : I64 x) : Calls Try.prog 190 #[.int .i64 x] w fun e w' => e = .returned (dv (x + 9223372036854775808).toNat) ∧ Below w.heap.size w w' := by
  rw [dv_small _ (by unfold I64 at hx; omega)]
  have t := xor_key x hx
  obtain ⟨u, hu⟩ : ∃ u, u = (x + 9223372036854775808).toNat := ⟨_, rfl⟩
  rw [← hu] at t ⊢
  clear hu
  go_enter Try.func190, Try.ntmps190
  go_wp2
  refine ret_dist rfl rfl (heap_alloc_new _ _) rfl ?_
  exact ⟨rfl, below_new _ _⟩
theorem down_any (x : Int) (w : World) (hx : I64 x) : Calls Try.prog 188 #[.int .i64 x] w fun e w' => e = .returned (dv (9223372036854775807 - x).toNat) ∧ Below w.heap.size w w' := by
  rw [dv_small _ (by unfold I64 at hx; omega)]
  have t : IntKind.u64.wrap (9223372036854775807 - IntKind.u64.wrap x) = ((9223372036854775807 - x).toNat : Nat) := by
    unfold I64 at hx
    rw [IntKind.wrap_u64, IntKind.wrap_u64]; omega
  obtain ⟨u, hu⟩ : ∃ u, u = (9223372036854775807 - x).toNat := ⟨_, rfl⟩
  rw [← hu] at t ⊢
  clear hu
  go_enter Try.func188, Try.ntmps188
  go_wp2
  refine ret_dist rfl rfl (heap_alloc_new _ _) rfl ?_
  exact ⟨rfl, below_new _ _⟩
/-- is a key with an id ahead of another one? -/
def aheadB (a b : Nat) (id other : Int) : Bool := decide (a < b ∨ (a = b ∧ id < other))
theorem ahead_any (a b : Nat) (id other : Int) (w : World) (ha : a < 340282366920938463463374607431768211456) (hb : b < 340282366920938463463374607431768211456) :
    Calls Try.prog 169 #[dv a, .int .i64 id, dv b, .int .i64 other] w fun e w' => e = .returned (.bool (aheadB a b id other)) ∧ Below w.heap.size w w' := by
  have tC := fun W => dist_cmp a b W ha hb
  obtain ⟨r, hr⟩ : ∃ r : Int, r = if a < b then -1 else if b < a then 1 else 0 := ⟨_, rfl⟩
  rw [← hr] at tC
  have hres : (r = -1 ∧ aheadB a b id other = true) ∨ (r = 1 ∧ aheadB a b id other = false) ∨ (r = 0 ∧ aheadB a b id other = decide (id < other)) := by
    rw [hr]
    unfold aheadB
    rcases Nat.lt_trichotomy a b with h | h | h
    · left; simp [h]
    · right; right; subst h; simp
    · right; left; simp [Nat.lt_asymm h, h]; exact fun e => absurd h (by rw [e]; exact Nat.lt_irrefl _)
  unfold dv dvp at tC ⊢
  obtain ⟨h1, e1⟩ : ∃ h, h = a / 18446744073709551616 := ⟨_, rfl⟩
  obtain ⟨l1, e2⟩ : ∃ l, l = a % 18446744073709551616 := ⟨_, rfl⟩
  obtain ⟨h2, e3⟩ : ∃ h, h = b / 18446744073709551616 := ⟨_, rfl⟩
  obtain ⟨l2, e4⟩ : ∃ l, l = b % 18446744073709551616 := ⟨_, rfl⟩
  rw [← e1, ← e2, ← e3, ← e4] at tC ⊢
  clear hr ha hb e1 e2 e3 e4
  have HtC := hideP tC; clear tC
  obtain ⟨q, hq⟩ : ∃ q, q = aheadB a b id other := ⟨_, rfl⟩
  rw [← hq] at hres ⊢
  clear hq
  have go : ∀ r q, ((r = -1 ∧ q = true) ∨ (r = 1 ∧ q = false) ∨ (r = 0 ∧ q = decide (id < other))) → Hid (∀ (W : World), Calls Try.prog 220 #[.agg #[.int .u64 h1, .int .u64 l1], .agg #[.int .u64 h2, .int .u64 l2]] W fun e w' => e = .returned (.int .i64 r) ∧ Below W.heap.size W w') →
      Calls Try.prog 169 #[.agg #[.int .u64 h1, .int .u64 l1], .int .i64 id, .agg #[.int .u64 h2, .int .u64 l2], .int .i64 other] w fun e w' => e = .returned (.bool q) ∧ Below w.heap.size w w' := by
    intro r q hres HtC
    rcases hres with ⟨rfl, rfl⟩ | ⟨rfl, rfl⟩ | ⟨rfl, rfl⟩
    all_goals
      go_enter Try.func169, Try.ntmps169
      go_wp2_with fail
      have bw := hideP (((below_new w (Obj.cells #[.int .u64 h1, .int .u64 l1] 165))).alloc (by simp) (Obj.cells #[.int .u64 h2, .int .u64 l2] 165))
      refine (HtC.out _).mono ?_
      rintro e w2 ⟨rfl, hb⟩
      replace bw := hideP (bstep bw.out hb)
      clear hb
      go_wp2
      go_ret
      exact ⟨rfl, bw.out⟩
  exact go r q hres HtC
end Go.Proofs.Ytglmohcnmpbfmaa
namespace Go.Proofs.Ytglmohcnmpbfmaa
open Go.RowKit
def keyN (K col : Int) (at_ p : List Int) : Nat :=
  if K = 2 then (9223372036854775807 - p.getD col.toNat 0).toNat else if K = 3 then dpt (p.drop 1) at_ (p.length - 1) else (p.getD col.toNat 0 + 9223372036854775808).toNat
theorem IsI.drop {p : List Int} (h : IsI p) : IsI (p.drop 1) := fun i => by
  have := h (i + 1)
  simpa [List.getD, List.getElem?_drop] using this
theorem Arr.drop {w : World} {B n b off : Nat} {p : List Int} (h : Arr w B (some ⟨b, off, none⟩) n (i64s p)) : Arr w B (some ⟨b, off + 1, none⟩) (n - 1) (i64s (p.drop 1)) := fun hn => by
  obtain ⟨b', off', e, hb, hc⟩ := h (by omega)
  injection e with e
  injection e with e1 e2
  subst e1 e2
  refine ⟨_, _, rfl, hb, fun i hi => ?_⟩
  have := hc (i + 1) (by omega)
  rw [show off + 1 + i = off + (i + 1) by omega, this]
  unfold i64s
  simp [List.getD, List.getElem?_drop]
theorem ordB_of {K col : Int} {m : Nat} {d : Int} (h : ordB K col m d = true) : 1 ≤ d ∧ d ≤ 8 ∧ ((K = 0 ∧ col = 0 ∧ m = 0) ∨ (K = 1 ∧ 1 ≤ col ∧ col < d ∧ m = 0) ∨ (K = 2 ∧ 0 ≤ col ∧ col < d ∧ m = 0) ∨ (K = 3 ∧ col = 0 ∧ 2 ≤ d ∧ (m : Int) = d - 1)) := by
  unfold ordB at h
  simpa using h
theorem keyN_lt (K col : Int) (at_ p : List Int) (hp : IsI p) (ha : IsI at_) (hn : p.length ≤ 8) : keyN K col at_ p < 147573952589676412928 := by
  have h := hp col.toNat
  have h2 := dpt_lt (p.drop 1) at_ (p.length - 1) hp.drop ha (by omega)
  unfold keyN
  split
  · omega
  · split
    · exact h2
    · omega

set_option maxRecDepth 100000 in
set_option maxHeartbeats 1000000 in
theorem key_no (K col : Int) (A Q : Option Addr) (at_ p : List Int) (ca c : Nat) (w : World) (hn : p.length ≤ 9223372036854775807) (hB : ordB K col at_.length p.length = false) :
    Calls Try.prog 126 #[.agg #[.int .u8 K, .int .i64 col, .slice A at_.length ca], .slice Q p.length c] w fun e w' => e = .returned (.tuple #[dv 0, .int .i64 1]) ∧ Below w.heap.size w w' := by
  have t := fun W => ord_any K col A at_.length ca p.length W (by unfold I64; omega)
  rw [hB] at t
  have e0 : dv 0 = .agg #[.int .u64 0, .int .u64 0] := rfl
  rw [e0]
  clear hB e0
  have Ht := hideP t; clear t
  go_enter Try.func126, Try.ntmps126
  go_wp2_with fail
  obtain ⟨w1, hw1⟩ : ∃ w1, w1 = (w.alloc (Obj.cells #[.int .u8 K, .int .i64 col, .slice A at_.length ca] 62)).alloc (Obj.cells #[.int .u64 0, .int .u64 0] 165) := ⟨_, rfl⟩
  have c2 := hideP (show Two w1 (w.heap.size + 1) 165 (.int .u64 0) (.int .u64 0) by rw [hw1]; exact Two.new' _ _ _ _ _ (by simp))
  have cb := hideP (show Below w.heap.size w w1 by rw [hw1]; exact (below_new _ _).alloc (by simp) _)
  rw [← hw1]
  clear hw1
  refine (Ht.out w1).mono ?_
  rintro e w2 ⟨rfl, hb⟩
  replace c2 := hideP (c2.out.after hb)
  replace cb := hideP (bstep cb.out hb)
  clear hb
  have f0 := c2.out.fz 0
  have f1 := c2.out.fz 1
  have kc20 := c2.out.c0; have kc21 := c2.out.c1
  go_wp2
  refine ret_dist2 rfl rfl rfl (c2.out.set2 _ _) rfl ?_
  exact ⟨rfl, (cb.out.setCell (p := ⟨w.heap.size + 1, 0, none⟩) (by simp) _).setCell (p := ⟨w.heap.size + 1, 1, none⟩) (by simp) _⟩

set_option maxRecDepth 100000 in
set_option maxHeartbeats 4000000 in
theorem key_in (K col : Int) (A Q : Option Addr) (at_ p : List Int) (ca c : Nat) (w : World) (hA : Arr w w.heap.size A at_.length (i64s at_)) (hQ : Arr w w.heap.size Q p.length (i64s p)) (hp : IsI p) (ha : IsI at_) (hc : p.length ≤ c)
    (hB : ordB K col at_.length p.length = true) :
    Calls Try.prog 126 #[.agg #[.int .u8 K, .int .i64 col, .slice A at_.length ca], .slice Q p.length c] w fun e w' => e = .returned (.tuple #[dv (keyN K col at_ p), .int .i64 0]) ∧ Below w.heap.size w w' := by
  obtain ⟨d1, d8, hK⟩ := ordB_of hB
  have t := fun W => ord_any K col A at_.length ca p.length W (by unfold I64; omega)
  rw [hB] at t
  obtain ⟨j, rfl⟩ : ∃ j : Nat, col = (j : Int) := ⟨col.toNat, by omega⟩
  have hkey : keyN K j at_ p = if K = 2 then (9223372036854775807 - p.getD j 0).toNat else if K = 3 then dpt (p.drop 1) at_ (p.length - 1) else (p.getD j 0 + 9223372036854775808).toNat := by unfold keyN; simp
  rw [hkey]
  obtain ⟨b, off, rfl, hb, hcl⟩ := hQ (by omega)
  have tB := fun W h h' => between_in (some ⟨b, off + 1, none⟩) A (p.drop 1) at_ (p.length - 1) (c - 1) ca W h h' hp.drop ha
  have hQ2 := hQ.drop
  obtain ⟨n, hn⟩ : ∃ n, n = p.length := ⟨_, rfl⟩
  obtain ⟨m, hm⟩ : ∃ m, m = at_.length := ⟨_, rfl⟩
  rw [← hn] at d1 d8 hK t tB hQ2 hc hcl ⊢
  rw [← hm] at hK t hA ⊢
  have k1 : (j : Int) < n → w.cell? ⟨b, off + j, none⟩ = some (.int .i64 (p.getD j 0)) := fun h => hcl j (by omega)
  have hx := hp j
  obtain ⟨x, ex⟩ : ∃ x, x = p.getD j 0 := ⟨_, rfl⟩
  rw [← ex] at k1 hx ⊢
  have Hx : I64 x := hx
  clear hB hkey hcl hQ hn hm ex hx
  have j0 : (0 : Int) ≤ (j : Int) := by omega
  have Ht := hideP t; have HhA := hideP hA; have HhQ2 := hideP hQ2; have HtB := hideP tB; have HHx := hideP Hx; have Hhb := hideP hb; have Hk1 := hideP k1; clear t hA hQ2 tB Hx hb k1
  rcases hK with ⟨rfl, h, z⟩ | ⟨rfl, z', h, z⟩ | ⟨rfl, z', h, z⟩ | ⟨rfl, z', h, z⟩
  · have j1 : (j : Int) < n := by omega
    clear h d1 z
    go_enter Try.func126, Try.ntmps126
    go_wp2_with fail
    obtain ⟨w1, hw1⟩ : ∃ w1, w1 = (w.alloc (Obj.cells #[.int .u8 0, .int .i64 j, .slice A m ca] 62)).alloc (Obj.cells #[.int .u64 0, .int .u64 0] 165) := ⟨_, rfl⟩
    have c1 := hideP (show Three w1 w.heap.size 62 (.int .u8 0) (.int .i64 j) (.slice A m ca) by rw [hw1]; exact (Three.new _ _ _ _ _).alloc _)
    have c2 := hideP (show Two w1 (w.heap.size + 1) 165 (.int .u64 0) (.int .u64 0) by rw [hw1]; exact Two.new' _ _ _ _ _ (by simp))
    have cb := hideP (show Below w.heap.size w w1 by rw [hw1]; exact (below_new _ _).alloc (by simp) _)
    rw [← hw1]
    clear hw1
    refine (Ht.out w1).mono ?_
    rintro e w2 ⟨rfl, hb_⟩
    replace c1 := hideP (c1.out.after hb_)
    replace c2 := hideP (c2.out.after hb_)
    replace cb := hideP (bstep cb.out hb_)
    clear hb_
    have q0 := c1.out.c0
    have q1 := c1.out.c1
    have q2 := c1.out.c2
    have k1' := cell_below cb.out Hhb.out (Hk1.out j1)
    go_wp2_with fail
    refine (up_any x w2 HHx.out).mono ?_
    rintro e w3 ⟨rfl, hb_⟩
    replace c2 := hideP (c2.out.after hb_)
    replace cb := hideP (bstep cb.out hb_)
    clear hb_
    clear q0 q1 q2
    unfold dv dvp
    obtain ⟨h, e1⟩ : ∃ h, h = (x + 9223372036854775808).toNat / 18446744073709551616 := ⟨_, rfl⟩
    obtain ⟨l, e2⟩ : ∃ h, h = (x + 9223372036854775808).toNat % 18446744073709551616 := ⟨_, rfl⟩
    rw [← e1, ← e2]
    have E1 := hideP e1
    have E2 := hideP e2
    clear e1 e2
    have f0 := c2.out.fz 0
    have f1 := c2.out.fz 1
    have kc20 := c2.out.c0; have kc21 := c2.out.c1
    go_wp2
    refine ret_dist2 rfl rfl rfl (c2.out.set2 _ _) rfl ?_
    refine ⟨by rw [E1.out, E2.out]; rfl, (cb.out.setCell (p := ⟨w.heap.size + 1, 0, none⟩) (by simp) _).setCell (p := ⟨w.heap.size + 1, 1, none⟩) (by simp) _⟩
  · have j1 : (j : Int) < n := by omega
    clear h d1 z z'
    go_enter Try.func126, Try.ntmps126
    go_wp2_with fail
    obtain ⟨w1, hw1⟩ : ∃ w1, w1 = (w.alloc (Obj.cells #[.int .u8 1, .int .i64 j, .slice A m ca] 62)).alloc (Obj.cells #[.int .u64 0, .int .u64 0] 165) := ⟨_, rfl⟩
    have c1 := hideP (show Three w1 w.heap.size 62 (.int .u8 1) (.int .i64 j) (.slice A m ca) by rw [hw1]; exact (Three.new _ _ _ _ _).alloc _)
    have c2 := hideP (show Two w1 (w.heap.size + 1) 165 (.int .u64 0) (.int .u64 0) by rw [hw1]; exact Two.new' _ _ _ _ _ (by simp))
    have cb := hideP (show Below w.heap.size w w1 by rw [hw1]; exact (below_new _ _).alloc (by simp) _)
    rw [← hw1]
    clear hw1
    refine (Ht.out w1).mono ?_
    rintro e w2 ⟨rfl, hb_⟩
    replace c1 := hideP (c1.out.after hb_)
    replace c2 := hideP (c2.out.after hb_)
    replace cb := hideP (bstep cb.out hb_)
    clear hb_
    have q0 := c1.out.c0
    have q1 := c1.out.c1
    have q2 := c1.out.c2
    have k1' := cell_below cb.out Hhb.out (Hk1.out j1)
    go_wp2_with fail
    refine (up_any x w2 HHx.out).mono ?_
    rintro e w3 ⟨rfl, hb_⟩
    replace c2 := hideP (c2.out.after hb_)
    replace cb := hideP (bstep cb.out hb_)
    clear hb_
    clear q0 q1 q2
    unfold dv dvp
    obtain ⟨h, e1⟩ : ∃ h, h = (x + 9223372036854775808).toNat / 18446744073709551616 := ⟨_, rfl⟩
    obtain ⟨l, e2⟩ : ∃ h, h = (x + 9223372036854775808).toNat % 18446744073709551616 := ⟨_, rfl⟩
    rw [← e1, ← e2]
    have E1 := hideP e1
    have E2 := hideP e2
    clear e1 e2
    have f0 := c2.out.fz 0
    have f1 := c2.out.fz 1
    have kc20 := c2.out.c0; have kc21 := c2.out.c1
    go_wp2
    refine ret_dist2 rfl rfl rfl (c2.out.set2 _ _) rfl ?_
    refine ⟨by rw [E1.out, E2.out]; rfl, (cb.out.setCell (p := ⟨w.heap.size + 1, 0, none⟩) (by simp) _).setCell (p := ⟨w.heap.size + 1, 1, none⟩) (by simp) _⟩
  · have j1 : (j : Int) < n := by omega
    clear h d1 z z'
    go_enter Try.func126, Try.ntmps126
    go_wp2_with fail
    obtain ⟨w1, hw1⟩ : ∃ w1, w1 = (w.alloc (Obj.cells #[.int .u8 2, .int .i64 j, .slice A m ca] 62)).alloc (Obj.cells #[.int .u64 0, .int .u64 0] 165) := ⟨_, rfl⟩
    have c1 := hideP (show Three w1 w.heap.size 62 (.int .u8 2) (.int .i64 j) (.slice A m ca) by rw [hw1]; exact (Three.new _ _ _ _ _).alloc _)
    have c2 := hideP (show Two w1 (w.heap.size + 1) 165 (.int .u64 0) (.int .u64 0) by rw [hw1]; exact Two.new' _ _ _ _ _ (by simp))
    have cb := hideP (show Below w.heap.size w w1 by rw [hw1]; exact (below_new _ _).alloc (by simp) _)
    rw [← hw1]
    clear hw1
    refine (Ht.out w1).mono ?_
    rintro e w2 ⟨rfl, hb_⟩
    replace c1 := hideP (c1.out.after hb_)
    replace c2 := hideP (c2.out.after hb_)
    replace cb := hideP (bstep cb.out hb_)
    clear hb_
    have q0 := c1.out.c0
    have q1 := c1.out.c1
    have q2 := c1.out.c2
    have k1' := cell_below cb.out Hhb.out (Hk1.out j1)
    go_wp2_with fail
    refine (down_any x w2 HHx.out).mono ?_
    rintro e w3 ⟨rfl, hb_⟩
    replace c2 := hideP (c2.out.after hb_)
    replace cb := hideP (bstep cb.out hb_)
    clear hb_
    clear q0 q1 q2
    unfold dv dvp
    obtain ⟨h, e1⟩ : ∃ h, h = (9223372036854775807 - x).toNat / 18446744073709551616 := ⟨_, rfl⟩
    obtain ⟨l, e2⟩ : ∃ h, h = (9223372036854775807 - x).toNat % 18446744073709551616 := ⟨_, rfl⟩
    rw [← e1, ← e2]
    have E1 := hideP e1
    have E2 := hideP e2
    clear e1 e2
    have f0 := c2.out.fz 0
    have f1 := c2.out.fz 1
    have kc20 := c2.out.c0; have kc21 := c2.out.c1
    go_wp2
    refine ret_dist2 rfl rfl rfl (c2.out.set2 _ _) rfl ?_
    refine ⟨by rw [E1.out, E2.out]; rfl, (cb.out.setCell (p := ⟨w.heap.size + 1, 0, none⟩) (by simp) _).setCell (p := ⟨w.heap.size + 1, 1, none⟩) (by simp) _⟩
  · obtain rfl : m = n - 1 := by omega
    have h1 : 1 ≤ n - 1 := by omega
    have h8 : n - 1 ≤ 8 := by omega
    have t1 : (1 : Int) ≤ n := by omega
    have t2 : (n : Int) ≤ c := by omega
    have t3 : ¬ c = 1 := by omega
    have HB := hideP (fun W h h' => HtB.out W h h' h1 h8)
    unfold dv dvp at HB
    show Calls _ _ _ _ fun e w' => e = .returned (.tuple #[dv (dpt (p.drop 1) at_ (n - 1)), .int .i64 0]) ∧ _
    unfold dv dvp
    obtain ⟨h0, e1⟩ : ∃ h, h = dpt (p.drop 1) at_ (n - 1) / 18446744073709551616 := ⟨_, rfl⟩
    obtain ⟨l0, e2⟩ : ∃ h, h = dpt (p.drop 1) at_ (n - 1) % 18446744073709551616 := ⟨_, rfl⟩
    rw [← e1, ← e2] at HB ⊢
    obtain ⟨m, hm⟩ : ∃ m, m = n - 1 := ⟨_, rfl⟩
    rw [← hm] at HhA Ht ⊢
    replace HB := hideP (show ∀ W, Arr W W.heap.size (some ⟨b, off + 1, none⟩) (n - 1) (i64s (p.drop 1)) → Arr W W.heap.size A m (i64s at_) → Calls Try.prog 189 #[.slice (some ⟨b, off + 1, none⟩) (n - 1) (c - 1), .slice A m ca] W fun e w' => e = .returned (.tuple #[.agg #[.int .u64 h0, .int .u64 l0], .int .i64 0]) ∧ Below W.heap.size W w' from by rw [hm]; exact HB.out)
    clear e1 e2 z z' h HtB hm h1 h8
    go_enter Try.func126, Try.ntmps126
    go_wp2_with fail
    obtain ⟨w1, hw1⟩ : ∃ w1, w1 = (w.alloc (Obj.cells #[.int .u8 3, .int .i64 j, .slice A m ca] 62)).alloc (Obj.cells #[.int .u64 0, .int .u64 0] 165) := ⟨_, rfl⟩
    have c1 := hideP (show Three w1 w.heap.size 62 (.int .u8 3) (.int .i64 j) (.slice A m ca) by rw [hw1]; exact (Three.new _ _ _ _ _).alloc _)
    have c2 := hideP (show Two w1 (w.heap.size + 1) 165 (.int .u64 0) (.int .u64 0) by rw [hw1]; exact Two.new' _ _ _ _ _ (by simp))
    have cb := hideP (show Below w.heap.size w w1 by rw [hw1]; exact (below_new _ _).alloc (by simp) _)
    rw [← hw1]
    clear hw1
    refine (Ht.out w1).mono ?_
    rintro e w2 ⟨rfl, hb_⟩
    replace c1 := hideP (c1.out.after hb_)
    replace c2 := hideP (c2.out.after hb_)
    replace cb := hideP (bstep cb.out hb_)
    clear hb_
    have q0 := c1.out.c0
    have q1 := c1.out.c1
    have q2 := c1.out.c2
    go_wp2
    refine wp_region_eager 7 [(true, 0), (true, 1), (true, 2), (true, 3), (true, 4), (true, 5), (true, 6)] (by kernel_rfl) (by kernel_rfl) ?_
    simp only [pick, List.map_cons, List.map_nil, nthO_zero, nthO_succ]
    repeat (first
      | (refine wpPlan_skipK (by rfl) (fun K hK => ?_); go_simp; refine hK _ ?_; clear hK K)
      | (refine wpPlan_valK (by rfl) (fun K hK => ?_); apply Exists.intro; refine ⟨fun W hW => ?_, ?_⟩; (focus (have hs0 := hW.cell q2; go_simp; (try rfl); done)); go_simp; refine hK _ ?_; clear hK K)
      | (refine wpPlan_callK (.tuple #[.agg #[.int .u64 h0, .int .u64 l0], .int .i64 0]) 189 #[.slice (some ⟨b, off + 1, none⟩) (n - 1) (c - 1), .slice A m ca] (by rfl) ?_ (fun W hW => (HB.out W (HhQ2.out.after (below_ext cb.out hW.drew_left)) (HhA.out.after (below_ext cb.out hW.drew_left))).mono fun e w' h => ⟨h.1, Ext.of_below h.2⟩) (fun K hK => ?_); (focus (intro W; go_simp; done)); go_simp; refine hK _ ?_; clear hK K))
    refine wpPlan_nil (fun w3 hW0 => ?_)
    simp only [List.drop_succ_cons, List.drop_zero, List.drop_nil]
    replace c2 := hideP (c2.out.ext hW0.drew_left)
    replace cb := hideP (below_ext cb.out hW0.drew_left)
    clear hW0 q0 q1 q2
    have f0 := c2.out.fz 0
    have f1 := c2.out.fz 1
    have kc20 := c2.out.c0; have kc21 := c2.out.c1
    go_wp2
    refine ret_dist2 rfl rfl rfl (c2.out.set2 _ _) rfl ?_
    exact ⟨rfl, (cb.out.setCell (p := ⟨w.heap.size + 1, 0, none⟩) (by simp) _).setCell (p := ⟨w.heap.size + 1, 1, none⟩) (by simp) _⟩
end Go.Proofs.Ytglmohcnmpbfmaa
namespace Go.Proofs.Ytglmohcnmpbfmaa
open Go.RowKit

theorem rapart_any (a b : Int) (w : World) (ha : I64 a) (hb : I64 b) : Calls Try.prog 221 #[.int .i64 a, .int .i64 b] w fun e w' => e = .returned (.int .u64 (apart a b)) ∧ w = w' := by
  have key : IntKind.u64.wrap (IntKind.u64.wrap (if b < a then a else b) - IntKind.u64.wrap (if b < a then b else a)) = (apart a b : Int) := by
    unfold apart; unfold I64 at ha hb; simp only [IntKind.wrap, IntKind.signed, IntKind.bits]; split <;> simp <;> omega
  obtain ⟨x, hx⟩ : ∃ x, x = apart a b := ⟨_, rfl⟩
  rw [← hx] at key ⊢
  unfold I64 at ha hb
  clear hx
  by_cases h : b < a
  · rw [if_pos h, if_pos h] at key
    have key' := hideP key; clear key
    have t : decide (b < a) = true := by simp [h]
    go_enter Try.func221, Try.ntmps221
    go_wp2
    go_ret
    exact ⟨ret_int key'.out, rfl⟩
  · rw [if_neg h, if_neg h] at key
    have key' := hideP key; clear key
    have t : decide (b < a) = false := by simp [h]
    go_enter Try.func221, Try.ntmps221
    go_wp2
    go_ret
    exact ⟨ret_int key'.out, rfl⟩
theorem rless_any (a b : Nat) (w : World) (ha : a < 340282366920938463463374607431768211456) (hb : b < 340282366920938463463374607431768211456) :
    Calls Try.prog 108 #[dv a, dv b] w fun e w' => e = .returned (.bool (decide (a < b))) ∧ Below w.heap.size w w' := by
  obtain ⟨r, hr⟩ : ∃ r : Bool, r = decide (a < b) := ⟨_, rfl⟩
  rw [← hr]
  unfold dv dvp
  obtain ⟨h, hh⟩ : ∃ h, h = a / 18446744073709551616 := ⟨_, rfl⟩
  obtain ⟨l, hl⟩ : ∃ l, l = a % 18446744073709551616 := ⟨_, rfl⟩
  obtain ⟨h', hh'⟩ : ∃ h, h = b / 18446744073709551616 := ⟨_, rfl⟩
  obtain ⟨l', hl'⟩ : ∃ l, l = b % 18446744073709551616 := ⟨_, rfl⟩
  rw [← hh, ← hl, ← hh', ← hl']
  have key1 : h ≠ h' → decide (h < h') = r := fun hne => by
    rw [hr, decide_eq_decide]; omega
  have key2 : h = h' → decide (l < l') = r := fun he => by
    rw [hr, decide_eq_decide]; omega
  have K1 := hideP key1; have K2 := hideP key2
  clear hh hl hh' hl' hr key1 key2 ha hb
  by_cases e : h = h'
  · have t : ((h : Int) != (h' : Int)) = false := by simp [e]
    have E := hideP e; clear e
    go_enter Try.func108, Try.ntmps108
    go_wp2
    go_ret
    exact ⟨ret_bool (K2.out E.out), ((Below.refl _ _).alloc (Nat.le_refl _) _).alloc (by simp) _⟩
  · have t : ((h : Int) != (h' : Int)) = true := by simp; omega
    have E := hideP e; clear e
    go_enter Try.func108, Try.ntmps108
    go_wp2
    go_ret
    exact ⟨ret_bool (K1.out E.out), ((Below.refl _ _).alloc (Nat.le_refl _) _).alloc (by simp) _⟩
/-- a number's digit k to the base 2^32 -/
def dgt (D k : Nat) : Nat := D / 4294967296 ^ k % 4294967296
def cry (D x k : Nat) : Nat := (D % 4294967296 ^ k + x % 4294967296 ^ k) / 4294967296 ^ k
theorem dg_lt (D k : Nat) : dgt D k < 4294967296 := Nat.mod_lt _ (by decide)
theorem cry_le (D x k : Nat) : cry D x k ≤ 1 := by
  unfold cry
  have hp : 0 < 4294967296 ^ k := Nat.pow_pos (by decide)
  have h1 := Nat.mod_lt D hp
  have h2 := Nat.mod_lt x hp
  generalize 4294967296 ^ k = M at *
  have : (D % M + x % M) / M < 2 := by rw [Nat.div_lt_iff_lt_mul hp]; omega
  omega
theorem dg_step (D x k : Nat) : (dgt D k + dgt x k + cry D x k) % 4294967296 = dgt (D + x) k ∧ (dgt D k + dgt x k + cry D x k) / 4294967296 = cry D x (k + 1) := by
  unfold dgt cry
  rw [Nat.pow_succ]
  have hp : 0 < 4294967296 ^ k := Nat.pow_pos (by decide)
  generalize 4294967296 ^ k = M at *
  have eD := Nat.div_add_mod D M
  have ex := Nat.div_add_mod x M
  have hD := Nat.mod_lt D hp
  have hx := Nat.mod_lt x hp
  generalize D / M = a at *
  generalize D % M = r at *
  generalize x / M = b at *
  generalize x % M = s at *
  subst eD ex
  have e1 : (M * a + r + (M * b + s)) / M = a + b + (r + s) / M := by
    rw [show M * a + r + (M * b + s) = (r + s) + M * (a + b) by rw [Nat.mul_add]; omega, Nat.add_mul_div_left _ _ hp]; omega
  have e2 : (M * a + r) % (M * 4294967296) = M * (a % 4294967296) + r := by
    rw [Nat.mod_mul, Nat.mul_add_mod, Nat.mod_eq_of_lt hD, Nat.mul_add_div hp, Nat.div_eq_of_lt hD, Nat.add_zero]; omega
  have e3 : (M * b + s) % (M * 4294967296) = M * (b % 4294967296) + s := by
    rw [Nat.mod_mul, Nat.mul_add_mod, Nat.mod_eq_of_lt hx, Nat.mul_add_div hp, Nat.div_eq_of_lt hx, Nat.add_zero]; omega
  rw [e1, e2, e3]
  refine ⟨by omega, ?_⟩
  rw [show M * (a % 4294967296) + r + (M * (b % 4294967296) + s) = (r + s) + M * (a % 4294967296 + b % 4294967296) by rw [Nat.mul_add]; omega, ← Nat.div_div_eq_div_mul, Nat.add_mul_div_left _ _ hp]
  congr 1; omega
theorem dg_sum (D : Nat) : dgt D 2 + 4294967296 * dgt D 3 = D % 340282366920938463463374607431768211456 / 18446744073709551616 ∧ dgt D 0 + 4294967296 * dgt D 1 = D % 340282366920938463463374607431768211456 % 18446744073709551616 := by
  unfold dgt
  simp only [Nat.reducePow]
  omega
/-- the ref's four digits, k of them turned -/
def dgc (D x k : Nat) (j : Nat) : Value := .int .u64 (if j < k then dgt (D + x) j else dgt D j : Nat)
def dgx (x : Nat) (j : Nat) : Value := .int .u64 (dgt x j : Nat)

set_option maxRecDepth 100000 in
set_option maxHeartbeats 2000000 in
theorem rsum_any (A : Option Addr) (l : List Nat) (c : Nat) (w : World) (hA : Arr w w.heap.size A l.length (u64s l)) (hl : ∀ i, l.getD i 0 < 18446744073709551616) (hn : l.length ≤ 17592186043904) :
    Calls Try.prog 222 #[.slice A l.length c] w fun e w' => e = .returned (dv (l.sum % 340282366920938463463374607431768211456)) ∧ Below w.heap.size w w' := by
  have HA := hideP hA; have HL := hideP hl
  clear hA hl
  go_enter Try.func222, Try.ntmps222
  go_wp2
  obtain ⟨g, hg⟩ : ∃ g, g = w.heap.size := ⟨_, rfl⟩
  obtain ⟨w0, hw0⟩ : ∃ w0, w0 = (w.alloc (Obj.cells #[.int .u64 0, .int .u64 0] 165)).alloc (Obj.cells #[.int .u64 0, .int .u64 0, .int .u64 0, .int .u64 0] 163) := ⟨_, rfl⟩
  have r0 : Two w0 g 165 (.int .u64 (0 : Nat)) (.int .u64 (0 : Nat)) := by rw [hw0, hg]; exact (Two.new _ _ _ _).alloc _
  have r1 : Blk w0 (g + 1) 163 4 (fun j => .int .u64 (dgt 0 j : Nat)) := by
    rw [hw0, hg]
    refine ⟨_, heap_alloc2_new _ _ _, Nat.le_refl _, fun i hi => ?_⟩
    have e : ∀ j, dgt 0 j = 0 := fun j => by simp [dgt]
    simp only [e]
    rcases (by omega : i = 0 ∨ i = 1 ∨ i = 2 ∨ i = 3) with rfl | rfl | rfl | rfl <;> rfl
  have rb : Below w.heap.size w w0 := by rw [hw0]; exact ((Below.refl _ _).alloc (Nat.le_refl _) _).alloc (by simp) _
  rw [← hw0, ← hg]
  clear hw0
  have HG := hideP hg
  clear hg
  go_loopw [4] (fun v4 wr => ∃ i D : Nat, i ≤ l.length ∧ v4 = .int .i64 i ∧ Hid (D = (l.take i).sum) ∧
    Hid (Two wr g 165 (.int .u64 (0 : Nat)) (.int .u64 (0 : Nat)) ∧ Blk wr (g + 1) 163 4 (fun j => .int .u64 (dgt D j : Nat)) ∧ Below w.heap.size w wr)) (fun v4 _ => l.length - (intOf v4).toNat)
  case atStart => exact ⟨0, 0, by omega, rfl, rfl, r0, r1, rb⟩
  case round =>
    obtain ⟨i, D, hi, rfl, hD, hW⟩ := hrel
    clear r0 r1 rb
    by_cases hlt : i < l.length
    · have t : decide ((i : Int) < l.length) = true := by simp; omega
      obtain ⟨b, off, rfl, hb, hc⟩ := (HA.out.below hW.out.2.2) (by omega)
      have k1 := hc i hlt
      unfold u64s at k1
      have hx := HL.out i
      obtain ⟨x, ex⟩ : ∃ x, x = l.getD i 0 := ⟨_, rfl⟩
      rw [← ex] at k1 hx
      have EX := hideP ex
      clear hc ex
      have i0 : (0 : Int) ≤ (i : Int) := by omega
      have i1 : (i : Int) < (l.length : Int) := by omega
      go_wp2
      refine wp_region_still_tail 10 (by kernel_rfl) (by kernel_rfl) ?_
      simp only [List.take_succ_cons, List.take_zero, List.drop_succ_cons, List.drop_zero]
      repeat (refine wpStill_step (fun K hK => ?_); go_simp; (try go_ints); (try (simp only [IntWalk.iteOmega]; go_simp)); refine hK _ ?_; clear hK K)
      refine wpStill_nil ?_
      clear k1 i0 i1
      go_wp2
      obtain ⟨w1, hw1⟩ : ∃ w1, w1 = (wr.alloc (Obj.cells #[.int .u64 ((x : Int) % 4294967296), .int .u64 ((x : Int) / 4294967296), .int .u64 0, .int .u64 0] 163)).drew := ⟨_, rfl⟩
      obtain ⟨g2, hg2⟩ : ∃ g2, g2 = wr.heap.size := ⟨_, rfl⟩
      have b1 : Two w1 g 165 (.int .u64 (0 : Nat)) (.int .u64 (0 : Nat)) := by rw [hw1]; exact hW.out.1.alloc _
      have b2 : Blk w1 (g + 1) 163 4 (dgc D x 0) := by rw [hw1]; exact (hW.out.2.1.alloc _).congr fun j _ => by unfold dgc; rw [if_neg (by omega)]
      have b3 : Blk w1 g2 163 4 (dgx x) := by
        rw [hw1, hg2]
        refine ⟨_, heap_alloc_new _ _, Nat.le_refl _, fun j hj => ?_⟩
        unfold dgx dgt
        rcases (by omega : j = 0 ∨ j = 1 ∨ j = 2 ∨ j = 3) with rfl | rfl | rfl | rfl
        · simp
        · simp; omega
        · simp; omega
        · simp; omega
      have b4 : Below w.heap.size w w1 := by rw [hw1]; exact (hW.out.2.2.alloc hW.out.2.2.size _).drew
      have hlt2 : g + 1 < g2 := by rw [hg2]; exact hW.out.2.1.lt
      rw [← hw1, ← hg2]
      have HX := hideP hx
      clear hw1 hg2 hW hx
      obtain ⟨wo, hwo⟩ : ∃ wo : World, wo = w1 := ⟨_, rfl⟩
      go_loopw [6, 7] (fun v6 v7 wr => ∃ k c : Nat, k ≤ 4 ∧ v6 = .int .u64 c ∧ v7 = .int .i64 k ∧ Hid (c = cry D x k) ∧
        Hid (Two wr g 165 (.int .u64 (0 : Nat)) (.int .u64 (0 : Nat)) ∧ Blk wr (g + 1) 163 4 (dgc D x k) ∧ Blk wr g2 163 4 (dgx x) ∧ Below w.heap.size w wr)) (fun _ v7 _ => 4 - (intOf v7).toNat)
      case atStart => exact ⟨0, 0, by omega, rfl, rfl, by simp [Hid, cry, Nat.mod_one], b1, b2, b3, b4⟩
      case round =>
        obtain ⟨k, c', hk, rfl, rfl, hcr, hW⟩ := hrel
        clear b1 b2 b3 b4 hwo
        by_cases hk4 : k < 4
        · have t2 : decide ((k : Int) < 4) = true := by simp; omega
          have c1 := hW.out.2.1.cell (i := k) hk4
          have c2 := hW.out.2.2.1.cell (i := k) hk4
          have f1 := hW.out.2.1.frozen k
          unfold dgc at c1
          unfold dgx at c2
          rw [if_neg (Nat.lt_irrefl k)] at c1
          have l1 := dg_lt D k
          have l2 := dg_lt x k
          have l3 := cry_le D x k
          rw [← hcr.out] at l3
          have st := dg_step D x k
          rw [← hcr.out] at st
          obtain ⟨u, eu⟩ : ∃ u, u = dgt D k := ⟨_, rfl⟩
          obtain ⟨v, ev⟩ : ∃ v, v = dgt x k := ⟨_, rfl⟩
          rw [← eu] at c1 l1 st
          rw [← ev] at c2 l2 st
          have HST := hideP st
          clear eu ev st
          have i0 : (0 : Int) ≤ (k : Int) := by omega
          have i1 : (k : Int) < 4 := by omega
          go_wp2
          go_quiet (fail)
          go_wp2
          go_roundw
          case rel =>
            refine ⟨k + 1, cry D x (k + 1), by omega, ?_, by go_num, rfl, ?_, ?_, ?_, ?_⟩
            · rw [← HST.out.2]; rfl
            · exact (hW.out.1.drewN nq).setOther (by simp) _
            · refine ((hW.out.2.1.drewN nq).set k _).congr fun j hj => ?_
              unfold dgc
              by_cases e : j = k
              · subst e
                rw [if_pos rfl, if_pos (by omega), ← HST.out.1]; rfl
              · rw [if_neg e]
                by_cases e2 : j < k
                · rw [if_pos e2, if_pos (by omega)]
                · rw [if_neg e2, if_neg (by omega)]
            · exact (hW.out.2.2.1.drewN nq).setOther (by simp; omega) _
            · have := HG.out
              exact (below_drewN hW.out.2.2.2 nq).setCell (p := ⟨g + 1, k, none⟩) (by simp; omega) _
          case measure => simp [intOf]; omega
        · obtain rfl : k = 4 := by omega
          go_wp2
          go_roundw
          case rel =>
            refine ⟨i + 1, D + x, by omega, by go_num, ?_, hW.out.1, hW.out.2.1.congr fun j hj => ?_, hW.out.2.2.2⟩
            · simp only [Hid]
              rw [hD.out, List.take_add_one, List.sum_append, List.getElem?_eq_getElem hlt, EX.out]
              simp [List.getD, List.getElem?_eq_getElem hlt]
            · unfold dgc; rw [if_pos hj]
          case measure => simp [intOf]; omega
    · have t : decide ((i : Int) < l.length) = false := by simp; omega
      have e : i = l.length := by omega
      have hDl : D = l.sum := by rw [hD.out, e, List.take_length]
      have hs := dg_sum D
      have c0 := hW.out.2.1.cell (i := 0) (by omega)
      have c1 := hW.out.2.1.cell (i := 1) (by omega)
      have c2 := hW.out.2.1.cell (i := 2) (by omega)
      have c3 := hW.out.2.1.cell (i := 3) (by omega)
      have l0 := dg_lt D 0
      have l1 := dg_lt D 1
      have l2 := dg_lt D 2
      have l3 := dg_lt D 3
      obtain ⟨d0, e0⟩ : ∃ u, u = dgt D 0 := ⟨_, rfl⟩
      obtain ⟨d1, e1⟩ : ∃ u, u = dgt D 1 := ⟨_, rfl⟩
      obtain ⟨d2, e2⟩ : ∃ u, u = dgt D 2 := ⟨_, rfl⟩
      obtain ⟨d3, e3⟩ : ∃ u, u = dgt D 3 := ⟨_, rfl⟩
      rw [← e0] at c0 l0 hs
      rw [← e1] at c1 l1 hs
      rw [← e2] at c2 l2 hs
      rw [← e3] at c3 l3 hs
      rw [hDl] at hs
      have HS := hideP hs
      have f0 := hW.out.1.fz 0
      have f1 := hW.out.1.fz 1
      have p0 := hW.out.1.c0
      have p1 := hW.out.1.c1
      clear e0 e1 e2 e3 hs e hDl
      go_wp2
      refine wp_region_still_tail 17 (by kernel_rfl) (by kernel_rfl) ?_
      simp only [List.take_succ_cons, List.take_zero, List.drop_succ_cons, List.drop_zero]
      repeat (refine wpStill_step (fun K hK => ?_); go_simp; (try go_ints); (try (simp only [IntWalk.iteOmega]; go_simp)); refine hK _ ?_; clear hK K)
      refine wpStill_nil ?_
      go_wp2
      refine ret_dist rfl rfl (g := g) (hW.out.1.set2 _ _) rfl ?_
      refine ⟨?_, ?_⟩
      · unfold dv dvp; rw [← HS.out.1, ← HS.out.2]; rfl
      · have := HG.out
        exact ((hW.out.2.2.setCell (p := ⟨g, 0, none⟩) (by simp; omega) _).setCell (p := ⟨g, 1, none⟩) (by simp; omega) _).drew
end Go.Proofs.Ytglmohcnmpbfmaa
namespace Go.Proofs.Ytglmohcnmpbfmaa
open Go.RowKit
/-- the sides, summed, are less than 2^128 -/
theorem sides_small (f : Nat → Nat) (n : Nat) (hn : n ≤ 8) (hf : ∀ i, i < n → f i < 18446744073709551616) : (sides f n).sum % 340282366920938463463374607431768211456 = (sides f n).sum :=
  Nat.mod_eq_of_lt (Nat.lt_of_le_of_lt (sides_le f n hf) (Nat.lt_of_le_of_lt (Nat.mul_le_mul_right _ hn) (by decide)))

set_option maxRecDepth 100000 in
set_option maxHeartbeats 2000000 in
theorem rbetween_in (A B : Option Addr) (p q : List Int) (n c d : Nat) (w : World) (hA : Arr w w.heap.size A n (i64s p)) (hB : Arr w w.heap.size B n (i64s q)) (hp : IsI p) (hq : IsI q) (h1 : 1 ≤ n) (h8 : n ≤ 8) :
    Calls Try.prog 170 #[.slice A n c, .slice B n d] w fun e w' => e = .returned (.tuple #[dv (dpt p q n), .bool true]) ∧ Below w.heap.size w w' := by
  obtain ⟨i0, hi0, hz0, hz1, hz2⟩ := info_parts info_u64'
  obtain ⟨f, ef⟩ : ∃ f : Nat → Nat, f = fun i => apart (p.getD i 0) (q.getD i 0) := ⟨_, rfl⟩
  have hf : ∀ i, f i < 18446744073709551616 := fun i => by rw [ef]; exact apart_lt (hp i) (hq i)
  have hD : dpt p q n = (sides f n).sum % 340282366920938463463374607431768211456 := by rw [sides_small f n h8 (fun i _ => hf i), ef]; rfl
  rw [hD]
  have HP := hideP hp; have HQ := hideP hq; have HA := hideP hA; have HB := hideP hB; have EF := hideP ef; have HF := hideP hf
  have t1 : decide ((n : Int) < 1) = false := by simp; omega
  have t2 : decide ((8 : Int) < n) = false := by simp; omega
  clear hp hq hA hB ef hf hD
  go_enter Try.func170, Try.ntmps170
  go_wp2
  obtain ⟨g, hg⟩ : ∃ g, g = w.heap.size := ⟨_, rfl⟩
  obtain ⟨w0, hw0⟩ : ∃ w0, w0 = w.alloc (Obj.cells #[.int .u64 0, .int .u64 0] 165) := ⟨_, rfl⟩
  have r0 : Two w0 g 165 (.int .u64 (0 : Nat)) (.int .u64 (0 : Nat)) := by rw [hw0, hg]; exact heap_alloc_new _ _
  have rb : Below w.heap.size w w0 := by rw [hw0]; exact (Below.refl _ _).alloc (Nat.le_refl _) _
  rw [← hw0, ← hg]
  clear hw0
  have HG := hideP hg
  clear hg
  have hown0 : w0.ownsRow (g + 1) 163 1 (.slice none 0 0) 0 [] := World.ownsRow_nil _ _ _ _
  go_loopw [6, 7] (fun v6 v7 wr => ∃ (k s : Nat) (R : Option Addr), k ≤ n ∧ v7 = .int .i64 k ∧ v6 = .slice R k s ∧
    Hid (wr.ownsRow (g + 1) 163 1 (.slice R k s) k ((sides f k).map fun (x : Nat) => Value.int .u64 x) ∧ Two wr g 165 (.int .u64 (0 : Nat)) (.int .u64 (0 : Nat)) ∧ Below w.heap.size w wr)) (fun _ v7 _ => n - (intOf v7).toNat)
  case atStart => exact ⟨0, 0, none, by omega, rfl, rfl, hown0, r0, rb⟩
  case round =>
    obtain ⟨k, s, R, hk, rfl, rfl, hW⟩ := hrel
    clear r0 rb hown0
    by_cases hlt : k < n
    · have t : decide ((k : Int) < n) = true := by simp; omega
      obtain ⟨b, off, rfl, hb, hc⟩ := (HA.out.below hW.out.2.2) (by omega)
      obtain ⟨b', off', rfl, hb', hc'⟩ := (HB.out.below hW.out.2.2) (by omega)
      have k1 := hc k hlt
      have k2 := hc' k hlt
      unfold i64s at k1 k2
      have z1 := HP.out k
      have z2 := HQ.out k
      have hx : f k = apart (p.getD k 0) (q.getD k 0) := by rw [EF.out]
      obtain ⟨x, ex⟩ : ∃ x, x = p.getD k 0 := ⟨_, rfl⟩
      obtain ⟨y, ey⟩ : ∃ y, y = q.getD k 0 := ⟨_, rfl⟩
      rw [← ex] at k1 z1 hx
      rw [← ey] at k2 z2 hx
      have Z1 : I64 x := z1
      have Z2 : I64 y := z2
      have hlx := apart_lt Z1 Z2
      have HX := hideP hx
      have j0 : (0 : Int) ≤ (k : Int) := by omega
      have j1 : (k : Int) < (n : Int) := by omega
      clear ex ey hc hc' hx
      go_wp2
      refine wp_region_eager 11 [(true, 0), (true, 1), (true, 2), (true, 3), (true, 4), (true, 5), (true, 6), (true, 7), (true, 8), (true, 9), (false, 10)] (by kernel_rfl) (by kernel_rfl) ?_
      simp only [pick, List.map_cons, List.map_nil, nthO_zero, nthO_succ]
      repeat (first
        | (refine wpPlan_valK (by rfl) (fun K hK => ?_); apply Exists.intro; refine ⟨fun W hW => ?_, ?_⟩; (focus (have hs1 := hW.cell k1; have hs2 := hW.cell k2; go_simp; (try rfl); done)); go_simp; refine hK _ ?_; clear hK K)
        | (refine wpPlan_callK (.int .u64 (apart x y)) 221 #[.int .i64 x, .int .i64 y] (by rfl) (fun W => by go_simp) (fun W hW => (rapart_any x y W Z1 Z2).mono fun e w' h => ⟨h.1, by rw [← h.2]; exact Ext.refl _⟩) (fun K hK => ?_); go_simp; refine hK _ ?_; clear hK K))
      refine wpPlan_buildK (by rfl) (fun W hW2 => ?_)
      refine ⟨.slice (some ⟨W.heap.size, 0, none⟩) 1 1, W.alloc (.cells #[.int .u64 (apart x y)] 163), ⟨by go_simp, Ext.alloc _ _⟩, fun K hK => ?_⟩
      go_simp
      refine hK _ ?_
      clear hK K
      refine wpPlan_nil (fun W2 hW3 => ?_)
      simp only [List.drop_succ_cons, List.drop_zero, List.drop_nil]
      have hX : Ext wr W2 := (hW2.drew_left.trans (Ext.alloc _ _)).trans hW3
      have AX : Arr W2 W2.heap.size (some ⟨W.heap.size, 0, none⟩) 1 (fun _ => .int .u64 (apart x y)) := by
        refine Arr.ext (w := W.alloc (.cells #[.int .u64 (apart x y)] 163)) (fun _ => ⟨W.heap.size, 0, rfl, by simp, fun i hi => ?_⟩) hW3
        obtain rfl : i = 0 := by omega
        exact (One.new W _ _).c0
      have hown := ownsRow_ext hW.out.1 hX
      have HT := hideP (hW.out.2.1.ext hX)
      have HBL := hideP (below_ext hW.out.2.2 hX)
      have hg1 : g + 1 ≤ W2.heap.size := by have := HT.out.lt; omega
      clear hW hW2 hW3 hX k1 k2 j0 j1
      go_wp2_with (at_builtin; refine wpList_append_arr W2 rfl (.tmp 30) (.tmp 40) 287 rfl (g + 1) 163 i0 _ 8 Try.underlying287 hi0 hz0 hz1 hz2 rfl (.slice R k s) k ((sides f k).map fun (x : Nat) => Value.int .u64 x) rfl hown W2.heap.size (some ⟨W.heap.size, 0, none⟩) 1 1 (fun _ => .int .u64 (apart x y)) rfl AX (fun _ => rfl) (by unfold maxLen; omega) (by omega) hg1 ?_; intro A3 c3 w3 hown3 hg3 hat3)
      go_roundw
      case rel =>
        refine ⟨k + 1, c3, A3, by omega, by go_num, rfl, ?_, ?_, ?_⟩
        · have : (sides f (k + 1)).map (fun (x : Nat) => Value.int .u64 x) = (sides f k).map (fun (x : Nat) => Value.int .u64 x) ++ (List.range 1).map (fun _ => Value.int .u64 (apart x y)) := by
            simp [sides, List.range_succ, HX.out]
          rw [this]
          exact hown3
        · exact HT.out.below (below_own hown hg3 (Nat.le_refl _) hg1) (by omega)
        · have := HG.out
          exact HBL.out.trans ((below_own hown hg3 (by omega) HBL.out.size))
      case measure => simp [intOf]; omega
    · have t : decide ((k : Int) < n) = false := by simp; omega
      have e : k = n := by omega
      have hl : k = (sides f k).length := by simp [sides]
      have hA : Arr wr wr.heap.size R (sides f k).length (u64s (sides f k)) := by
        rw [← hl]
        refine Arr.of_own hW.out.1 fun i hi => ?_
        unfold u64s
        simp [List.getD, sides, List.getElem?_map, List.getElem?_range hi]
      have hsum := rsum_any R (sides f k) s wr hA (fun i => by
        by_cases hi : i < k
        · have := HF.out i
          simp [sides, List.getD, List.getElem?_map, List.getElem?_range hi]; exact this
        · rw [getD_out _ _ _ (by simp [sides]; omega)]; decide) (by rw [← hl]; omega)
      rw [← hl, e] at hsum
      have HSUM := hideP hsum
      have E := hideP e
      clear hsum hA hl e
      rw [E.out] at hW ⊢
      go_wp2_with fail
      refine HSUM.out.mono ?_
      obtain ⟨u, hu⟩ : ∃ u, u = (sides f n).sum % 340282366920938463463374607431768211456 / 18446744073709551616 := ⟨_, rfl⟩
      obtain ⟨v, hv⟩ : ∃ v, v = (sides f n).sum % 340282366920938463463374607431768211456 % 18446744073709551616 := ⟨_, rfl⟩
      unfold dv dvp
      rw [← hu, ← hv]
      rintro e1 w1 ⟨rfl, hb1⟩
      have r1 := hW.out.2.1.after hb1
      have hbel := hW.out.2.2.trans (hb1.mono hW.out.2.2.size)
      have f0 := r1.fz 0
      have f1 := r1.fz 1
      have p0 := r1.c0
      have p1 := r1.c1
      have HU := hideP hu; have HV := hideP hv
      have R1 := hideP r1; have HB' := hideP hbel
      clear r1 hbel hb1 hu hv
      go_wp2
      refine ret_dist2 rfl rfl rfl (R1.out.set2 _ _) rfl ?_
      refine ⟨?_, ?_⟩
      · unfold dv dvp; rw [← HU.out, ← HV.out]; rfl
      · have := HG.out
        exact (HB'.out.setCell (p := ⟨g, 0, none⟩) (by simp; omega) _).setCell (p := ⟨g, 1, none⟩) (by simp; omega) _

end Go.Proofs.Ytglmohcnmpbfmaa
namespace Go.Proofs.Ytglmohcnmpbfmaa
open Go.RowKit
set_option maxRecDepth 100000 in
set_option maxHeartbeats 1000000 in
theorem rkey_no (K col : Int) (A Q : Option Addr) (at_ p : List Int) (ca c : Nat) (w : World) (hn : p.length ≤ 9223372036854775807) (hB : ordB K col at_.length p.length = false) :
    Calls Try.prog 107 #[.agg #[.int .u8 K, .int .i64 col, .slice A at_.length ca], .slice Q p.length c] w fun e w' => e = .returned (.tuple #[dv 0, .bool false]) ∧ Below w.heap.size w w' := by
  have t := fun W => rord_any K col A at_.length ca p.length W (by unfold I64; omega)
  rw [hB] at t
  have e0 : dv 0 = .agg #[.int .u64 0, .int .u64 0] := rfl
  rw [e0]
  clear hB e0
  have Ht := hideP t; clear t
  go_enter Try.func107, Try.ntmps107
  go_wp2_with fail
  obtain ⟨w1, hw1⟩ : ∃ w1, w1 = (w.alloc (Obj.cells #[.int .u8 K, .int .i64 col, .slice A at_.length ca] 62)).alloc (Obj.cells #[.int .u64 0, .int .u64 0] 165) := ⟨_, rfl⟩
  have c2 := hideP (show Two w1 (w.heap.size + 1) 165 (.int .u64 0) (.int .u64 0) by rw [hw1]; exact Two.new' _ _ _ _ _ (by simp))
  have cb := hideP (show Below w.heap.size w w1 by rw [hw1]; exact (below_new _ _).alloc (by simp) _)
  rw [← hw1]
  clear hw1
  refine (Ht.out w1).mono ?_
  rintro e w2 ⟨rfl, hb⟩
  replace c2 := hideP (c2.out.after hb)
  replace cb := hideP (bstep cb.out hb)
  clear hb
  have f0 := c2.out.fz 0
  have f1 := c2.out.fz 1
  have kc20 := c2.out.c0; have kc21 := c2.out.c1
  go_wp2
  refine ret_dist2 rfl rfl rfl (c2.out.set2 _ _) rfl ?_
  exact ⟨rfl, (cb.out.setCell (p := ⟨w.heap.size + 1, 0, none⟩) (by simp) _).setCell (p := ⟨w.heap.size + 1, 1, none⟩) (by simp) _⟩

set_option maxRecDepth 100000 in
set_option maxHeartbeats 4000000 in
theorem rkey_in (K col : Int) (A Q : Option Addr) (at_ p : List Int) (ca c : Nat) (w : World) (hA : Arr w w.heap.size A at_.length (i64s at_)) (hQ : Arr w w.heap.size Q p.length (i64s p)) (hp : IsI p) (ha : IsI at_) (hc : p.length ≤ c)
    (hB : ordB K col at_.length p.length = true) :
    Calls Try.prog 107 #[.agg #[.int .u8 K, .int .i64 col, .slice A at_.length ca], .slice Q p.length c] w fun e w' => e = .returned (.tuple #[dv (keyN K col at_ p), .bool true]) ∧ Below w.heap.size w w' := by
  obtain ⟨d1, d8, hK⟩ := ordB_of hB
  have t := fun W => rord_any K col A at_.length ca p.length W (by unfold I64; omega)
  rw [hB] at t
  obtain ⟨j, rfl⟩ : ∃ j : Nat, col = (j : Int) := ⟨col.toNat, by omega⟩
  have hkey : keyN K j at_ p = if K = 2 then (9223372036854775807 - p.getD j 0).toNat else if K = 3 then dpt (p.drop 1) at_ (p.length - 1) else (p.getD j 0 + 9223372036854775808).toNat := by unfold keyN; simp
  rw [hkey]
  obtain ⟨b, off, rfl, hb, hcl⟩ := hQ (by omega)
  have tB := fun W h h' => rbetween_in (some ⟨b, off + 1, none⟩) A (p.drop 1) at_ (p.length - 1) (c - 1) ca W h h' hp.drop ha
  have hQ2 := hQ.drop
  obtain ⟨n, hn⟩ : ∃ n, n = p.length := ⟨_, rfl⟩
  obtain ⟨m, hm⟩ : ∃ m, m = at_.length := ⟨_, rfl⟩
  rw [← hn] at d1 d8 hK t tB hQ2 hc hcl ⊢
  rw [← hm] at hK t hA ⊢
  have k1 : (j : Int) < n → w.cell? ⟨b, off + j, none⟩ = some (.int .i64 (p.getD j 0)) := fun h => hcl j (by omega)
  have hx := hp j
  obtain ⟨x, ex⟩ : ∃ x, x = p.getD j 0 := ⟨_, rfl⟩
  rw [← ex] at k1 hx ⊢
  have Hx : I64 x := hx
  clear hB hkey hcl hQ hn hm ex hx
  have j0 : (0 : Int) ≤ (j : Int) := by omega
  have Ht := hideP t; have HhA := hideP hA; have HhQ2 := hideP hQ2; have HtB := hideP tB; have HHx := hideP Hx; have Hhb := hideP hb; have Hk1 := hideP k1; clear t hA hQ2 tB Hx hb k1
  rcases hK with ⟨rfl, h, z⟩ | ⟨rfl, z', h, z⟩ | ⟨rfl, z', h, z⟩ | ⟨rfl, z', h, z⟩
  · have j1 : (j : Int) < n := by omega
    clear h d1 z
    show Calls _ _ _ _ fun e w' => e = .returned (.tuple #[dv (x + 9223372036854775808).toNat, .bool true]) ∧ _
    rw [dv_small _ (by have := HHx.out; unfold I64 at this; omega)]
    have tw : IntKind.u64.wrap (IntKind.u64.wrap x + 9223372036854775808) = ((x + 9223372036854775808).toNat : Nat) := by
      have := HHx.out; unfold I64 at this
      rw [IntKind.wrap_u64, IntKind.wrap_u64]; omega
    obtain ⟨u, hu⟩ : ∃ u, u = (x + 9223372036854775808).toNat := ⟨_, rfl⟩
    rw [← hu] at tw ⊢
    clear hu
    go_enter Try.func107, Try.ntmps107
    go_wp2_with fail
    obtain ⟨w1, hw1⟩ : ∃ w1, w1 = (w.alloc (Obj.cells #[.int .u8 0, .int .i64 j, .slice A m ca] 62)).alloc (Obj.cells #[.int .u64 0, .int .u64 0] 165) := ⟨_, rfl⟩
    have c1 := hideP (show Three w1 w.heap.size 62 (.int .u8 0) (.int .i64 j) (.slice A m ca) by rw [hw1]; exact (Three.new _ _ _ _ _).alloc _)
    have c2 := hideP (show Two w1 (w.heap.size + 1) 165 (.int .u64 0) (.int .u64 0) by rw [hw1]; exact Two.new' _ _ _ _ _ (by simp))
    have cb := hideP (show Below w.heap.size w w1 by rw [hw1]; exact (below_new _ _).alloc (by simp) _)
    rw [← hw1]
    clear hw1
    refine (Ht.out w1).mono ?_
    rintro e w2 ⟨rfl, hb_⟩
    replace c1 := hideP (c1.out.after hb_)
    replace c2 := hideP (c2.out.after hb_)
    replace cb := hideP (bstep cb.out hb_)
    clear hb_
    have q0 := c1.out.c0
    have q1 := c1.out.c1
    have q2 := c1.out.c2
    have k1' := cell_below cb.out Hhb.out (Hk1.out j1)
    have f0 := c2.out.fz 0
    have f1 := c2.out.fz 1
    have kc20 := c2.out.c0; have kc21 := c2.out.c1
    go_wp2
    refine ret_dist2 rfl rfl rfl (c2.out.set2 _ _) rfl ?_
    exact ⟨rfl, (cb.out.setCell (p := ⟨w.heap.size + 1, 0, none⟩) (by simp) _).setCell (p := ⟨w.heap.size + 1, 1, none⟩) (by simp) _⟩
  · have j1 : (j : Int) < n := by omega
    clear h d1 z z'
    show Calls _ _ _ _ fun e w' => e = .returned (.tuple #[dv (x + 9223372036854775808).toNat, .bool true]) ∧ _
    rw [dv_small _ (by have := HHx.out; unfold I64 at this; omega)]
    have tw : IntKind.u64.wrap (IntKind.u64.wrap x + 9223372036854775808) = ((x + 9223372036854775808).toNat : Nat) := by
      have := HHx.out; unfold I64 at this
      rw [IntKind.wrap_u64, IntKind.wrap_u64]; omega
    obtain ⟨u, hu⟩ : ∃ u, u = (x + 9223372036854775808).toNat := ⟨_, rfl⟩
    rw [← hu] at tw ⊢
    clear hu
    go_enter Try.func107, Try.ntmps107
    go_wp2_with fail
    obtain ⟨w1, hw1⟩ : ∃ w1, w1 = (w.alloc (Obj.cells #[.int .u8 1, .int .i64 j, .slice A m ca] 62)).alloc (Obj.cells #[.int .u64 0, .int .u64 0] 165) := ⟨_, rfl⟩
    have c1 := hideP (show Three w1 w.heap.size 62 (.int .u8 1) (.int .i64 j) (.slice A m ca) by rw [hw1]; exact (Three.new _ _ _ _ _).alloc _)
    have c2 := hideP (show Two w1 (w.heap.size + 1) 165 (.int .u64 0) (.int .u64 0) by rw [hw1]; exact Two.new' _ _ _ _ _ (by simp))
    have cb := hideP (show Below w.heap.size w w1 by rw [hw1]; exact (below_new _ _).alloc (by simp) _)
    rw [← hw1]
    clear hw1
    refine (Ht.out w1).mono ?_
    rintro e w2 ⟨rfl, hb_⟩
    replace c1 := hideP (c1.out.after hb_)
    replace c2 := hideP (c2.out.after hb_)
    replace cb := hideP (bstep cb.out hb_)
    clear hb_
    have q0 := c1.out.c0
    have q1 := c1.out.c1
    have q2 := c1.out.c2
    have k1' := cell_below cb.out Hhb.out (Hk1.out j1)
    have f0 := c2.out.fz 0
    have f1 := c2.out.fz 1
    have kc20 := c2.out.c0; have kc21 := c2.out.c1
    go_wp2
    refine ret_dist2 rfl rfl rfl (c2.out.set2 _ _) rfl ?_
    exact ⟨rfl, (cb.out.setCell (p := ⟨w.heap.size + 1, 0, none⟩) (by simp) _).setCell (p := ⟨w.heap.size + 1, 1, none⟩) (by simp) _⟩
  · have j1 : (j : Int) < n := by omega
    clear h d1 z z'
    show Calls _ _ _ _ fun e w' => e = .returned (.tuple #[dv (9223372036854775807 - x).toNat, .bool true]) ∧ _
    rw [dv_small _ (by have := HHx.out; unfold I64 at this; omega)]
    have tw : IntKind.u64.wrap (IntKind.u64.wrap x + 9223372036854775808) = ((x + 9223372036854775808).toNat : Nat) := by
      have := HHx.out; unfold I64 at this
      rw [IntKind.wrap_u64, IntKind.wrap_u64]; omega
    have tw2 : IntKind.u64.wrap (18446744073709551615 - ((x + 9223372036854775808).toNat : Nat)) = ((9223372036854775807 - x).toNat : Nat) := by
      have := HHx.out; unfold I64 at this
      rw [IntKind.wrap_u64]; omega
    obtain ⟨v, hv⟩ : ∃ u, u = (9223372036854775807 - x).toNat := ⟨_, rfl⟩
    rw [← hv] at tw2 ⊢
    clear hv
    obtain ⟨u, hu⟩ : ∃ u, u = (x + 9223372036854775808).toNat := ⟨_, rfl⟩
    rw [← hu] at tw tw2
    clear hu
    go_enter Try.func107, Try.ntmps107
    go_wp2_with fail
    obtain ⟨w1, hw1⟩ : ∃ w1, w1 = (w.alloc (Obj.cells #[.int .u8 2, .int .i64 j, .slice A m ca] 62)).alloc (Obj.cells #[.int .u64 0, .int .u64 0] 165) := ⟨_, rfl⟩
    have c1 := hideP (show Three w1 w.heap.size 62 (.int .u8 2) (.int .i64 j) (.slice A m ca) by rw [hw1]; exact (Three.new _ _ _ _ _).alloc _)
    have c2 := hideP (show Two w1 (w.heap.size + 1) 165 (.int .u64 0) (.int .u64 0) by rw [hw1]; exact Two.new' _ _ _ _ _ (by simp))
    have cb := hideP (show Below w.heap.size w w1 by rw [hw1]; exact (below_new _ _).alloc (by simp) _)
    rw [← hw1]
    clear hw1
    refine (Ht.out w1).mono ?_
    rintro e w2 ⟨rfl, hb_⟩
    replace c1 := hideP (c1.out.after hb_)
    replace c2 := hideP (c2.out.after hb_)
    replace cb := hideP (bstep cb.out hb_)
    clear hb_
    have q0 := c1.out.c0
    have q1 := c1.out.c1
    have q2 := c1.out.c2
    have k1' := cell_below cb.out Hhb.out (Hk1.out j1)
    have f0 := c2.out.fz 0
    have f1 := c2.out.fz 1
    have kc20 := c2.out.c0; have kc21 := c2.out.c1
    go_wp2
    refine ret_dist2 rfl rfl rfl (c2.out.set2 _ _) rfl ?_
    exact ⟨rfl, (cb.out.setCell (p := ⟨w.heap.size + 1, 0, none⟩) (by simp) _).setCell (p := ⟨w.heap.size + 1, 1, none⟩) (by simp) _⟩
  · obtain rfl : m = n - 1 := by omega
    have h1 : 1 ≤ n - 1 := by omega
    have h8 : n - 1 ≤ 8 := by omega
    have t1 : (1 : Int) ≤ n := by omega
    have t2 : (n : Int) ≤ c := by omega
    have t3 : ¬ c = 1 := by omega
    have HB := hideP (fun W h h' => HtB.out W h h' h1 h8)
    unfold dv dvp at HB
    show Calls _ _ _ _ fun e w' => e = .returned (.tuple #[dv (dpt (p.drop 1) at_ (n - 1)), .bool true]) ∧ _
    unfold dv dvp
    obtain ⟨h0, e1⟩ : ∃ h, h = dpt (p.drop 1) at_ (n - 1) / 18446744073709551616 := ⟨_, rfl⟩
    obtain ⟨l0, e2⟩ : ∃ h, h = dpt (p.drop 1) at_ (n - 1) % 18446744073709551616 := ⟨_, rfl⟩
    rw [← e1, ← e2] at HB ⊢
    obtain ⟨m, hm⟩ : ∃ m, m = n - 1 := ⟨_, rfl⟩
    rw [← hm] at HhA Ht ⊢
    replace HB := hideP (show ∀ W, Arr W W.heap.size (some ⟨b, off + 1, none⟩) (n - 1) (i64s (p.drop 1)) → Arr W W.heap.size A m (i64s at_) → Calls Try.prog 170 #[.slice (some ⟨b, off + 1, none⟩) (n - 1) (c - 1), .slice A m ca] W fun e w' => e = .returned (.tuple #[.agg #[.int .u64 h0, .int .u64 l0], .bool true]) ∧ Below W.heap.size W w' from by rw [hm]; exact HB.out)
    clear e1 e2 z z' h HtB hm h1 h8
    go_enter Try.func107, Try.ntmps107
    go_wp2_with fail
    obtain ⟨w1, hw1⟩ : ∃ w1, w1 = (w.alloc (Obj.cells #[.int .u8 3, .int .i64 j, .slice A m ca] 62)).alloc (Obj.cells #[.int .u64 0, .int .u64 0] 165) := ⟨_, rfl⟩
    have c1 := hideP (show Three w1 w.heap.size 62 (.int .u8 3) (.int .i64 j) (.slice A m ca) by rw [hw1]; exact (Three.new _ _ _ _ _).alloc _)
    have c2 := hideP (show Two w1 (w.heap.size + 1) 165 (.int .u64 0) (.int .u64 0) by rw [hw1]; exact Two.new' _ _ _ _ _ (by simp))
    have cb := hideP (show Below w.heap.size w w1 by rw [hw1]; exact (below_new _ _).alloc (by simp) _)
    rw [← hw1]
    clear hw1
    refine (Ht.out w1).mono ?_
    rintro e w2 ⟨rfl, hb_⟩
    replace c1 := hideP (c1.out.after hb_)
    replace c2 := hideP (c2.out.after hb_)
    replace cb := hideP (bstep cb.out hb_)
    clear hb_
    have q0 := c1.out.c0
    have q1 := c1.out.c1
    have q2 := c1.out.c2
    go_wp2
    refine wp_region_eager 7 [(true, 0), (true, 1), (true, 2), (true, 3), (true, 4), (true, 5), (true, 6)] (by kernel_rfl) (by kernel_rfl) ?_
    simp only [pick, List.map_cons, List.map_nil, nthO_zero, nthO_succ]
    repeat (first
      | (refine wpPlan_skipK (by rfl) (fun K hK => ?_); go_simp; refine hK _ ?_; clear hK K)
      | (refine wpPlan_valK (by rfl) (fun K hK => ?_); apply Exists.intro; refine ⟨fun W hW => ?_, ?_⟩; (focus (have hs0 := hW.cell q2; go_simp; (try rfl); done)); go_simp; refine hK _ ?_; clear hK K)
      | (refine wpPlan_callK (.tuple #[.agg #[.int .u64 h0, .int .u64 l0], .bool true]) 170 #[.slice (some ⟨b, off + 1, none⟩) (n - 1) (c - 1), .slice A m ca] (by rfl) ?_ (fun W hW => (HB.out W (HhQ2.out.after (below_ext cb.out hW.drew_left)) (HhA.out.after (below_ext cb.out hW.drew_left))).mono fun e w' h => ⟨h.1, Ext.of_below h.2⟩) (fun K hK => ?_); (focus (intro W; go_simp; done)); go_simp; refine hK _ ?_; clear hK K))
    refine wpPlan_nil (fun w3 hW0 => ?_)
    simp only [List.drop_succ_cons, List.drop_zero, List.drop_nil]
    replace c2 := hideP (c2.out.ext hW0.drew_left)
    replace cb := hideP (below_ext cb.out hW0.drew_left)
    clear hW0 q0 q1 q2
    have f0 := c2.out.fz 0
    have f1 := c2.out.fz 1
    have kc20 := c2.out.c0; have kc21 := c2.out.c1
    go_wp2
    refine ret_dist2 rfl rfl rfl (c2.out.set2 _ _) rfl ?_
    exact ⟨rfl, (cb.out.setCell (p := ⟨w.heap.size + 1, 0, none⟩) (by simp) _).setCell (p := ⟨w.heap.size + 1, 1, none⟩) (by simp) _⟩
end Go.Proofs.Ytglmohcnmpbfmaa
namespace Go.Proofs.Ytglmohcnmpbfmaa
open Go.RowKit
/-- is row p ahead of row q? -/
def aheadO (K col : Int) (at_ p q : List Int) : Bool :=
  ordB K col at_.length p.length && ordB K col at_.length q.length && decide (p.length = q.length) && aheadB (keyN K col at_ p) (keyN K col at_ q) (p.getD 0 0) (q.getD 0 0)
/-- a row's key, 0 if there is none -/
def keyD (K col : Int) (at_ p : List Int) : Nat := if ordB K col at_.length p.length = true then keyN K col at_ p else 0
theorem keyD_lt (K col : Int) (at_ p : List Int) (hp : IsI p) (ha : IsI at_) : keyD K col at_ p < 340282366920938463463374607431768211456 := by
  unfold keyD
  split
  · rename_i h
    have := (ordB_of h).2.1
    exact Nat.lt_trans (keyN_lt K col at_ p hp ha (by omega)) (by decide)
  · decide
theorem ordB_len {K col : Int} {m n : Nat} (h : ordB K col m n = true) : 1 ≤ n := by have := (ordB_of h).1; omega

theorem key_any (K col : Int) (A : Option Addr) (at_ : List Int) (ca : Nat) (ha : IsI at_) (Q : Option Addr) (p : List Int) (c : Nat) (hp : IsI p) (hn : p.length ≤ 9223372036854775807) (hc : p.length ≤ c) :
    ∃ er : Int, ((er = 0 ∧ ordB K col at_.length p.length = true) ∨ (er = 1 ∧ ordB K col at_.length p.length = false)) ∧ ∀ w, Arr w w.heap.size A at_.length (i64s at_) → Arr w w.heap.size Q p.length (i64s p) →
      Calls Try.prog 126 #[.agg #[.int .u8 K, .int .i64 col, .slice A at_.length ca], .slice Q p.length c] w fun e w' => e = .returned (.tuple #[dv (keyD K col at_ p), .int .i64 er]) ∧ Below w.heap.size w w' := by
  by_cases h : ordB K col at_.length p.length = true
  · refine ⟨0, .inl ⟨rfl, h⟩, fun w hA hQ => ?_⟩
    have := key_in K col A Q at_ p ca c w hA hQ hp ha hc h
    unfold keyD
    rw [if_pos h]
    exact this
  · have h' : ordB K col at_.length p.length = false := by simpa using h
    refine ⟨1, .inr ⟨rfl, h'⟩, fun w hA hQ => ?_⟩
    have := key_no K col A Q at_ p ca c w hn h'
    unfold keyD
    rw [if_neg h]
    exact this
set_option maxRecDepth 100000 in
set_option maxHeartbeats 4000000 in
theorem aheadO_any (K col : Int) (A P Q : Option Addr) (at_ p q : List Int) (ca c d : Nat) (w : World) (hA : Arr w w.heap.size A at_.length (i64s at_)) (hP : Arr w w.heap.size P p.length (i64s p)) (hQ : Arr w w.heap.size Q q.length (i64s q))
    (ha : IsI at_) (hp : IsI p) (hq : IsI q) (hn : p.length ≤ 9223372036854775807) (hm : q.length ≤ 9223372036854775807) (hc : p.length ≤ c) (hd : q.length ≤ d) :
    Calls Try.prog 127 #[.agg #[.int .u8 K, .int .i64 col, .slice A at_.length ca], .slice P p.length c, .slice Q q.length d] w fun e w' => e = .returned (.bool (aheadO K col at_ p q)) ∧ Below w.heap.size w w' := by
  obtain ⟨e1, hE1, t1⟩ := key_any K col A at_ ca ha P p c hp hn hc
  obtain ⟨e2, hE2, t2⟩ := key_any K col A at_ ca ha Q q d hq hm hd
  have t3 := fun W => ahead_any (keyD K col at_ p) (keyD K col at_ q) (p.getD 0 0) (q.getD 0 0) W (keyD_lt K col at_ p hp ha) (keyD_lt K col at_ q hq ha)
  obtain ⟨z, hz⟩ : ∃ z, z = aheadB (keyD K col at_ p) (keyD K col at_ q) (p.getD 0 0) (q.getD 0 0) := ⟨_, rfl⟩
  rw [← hz] at t3
  obtain ⟨r, hr⟩ : ∃ r, r = aheadO K col at_ p q := ⟨_, rfl⟩
  rw [← hr]
  have hcase : (e1 = 1 ∧ r = false) ∨ (e1 = 0 ∧ e2 = 1 ∧ r = false) ∨ (e1 = 0 ∧ e2 = 0 ∧ p.length ≠ q.length ∧ r = false) ∨ (e1 = 0 ∧ e2 = 0 ∧ p.length = q.length ∧ 1 ≤ p.length ∧ r = z) := by
    rw [hr, hz]
    unfold aheadO keyD
    rcases hE1 with ⟨h1, h2⟩ | ⟨h1, h2⟩ <;> rcases hE2 with ⟨h3, h4⟩ | ⟨h3, h4⟩
    · by_cases hl : p.length = q.length
      · right; right; right
        exact ⟨h1, h3, hl, ordB_len h2, by rw [if_pos h2, if_pos h4, h2, h4]; simp [hl]⟩
      · right; right; left
        exact ⟨h1, h3, hl, by simp [hl]⟩
    · right; left; exact ⟨h1, h3, by simp [h4]⟩
    · left; exact ⟨h1, by simp [h2]⟩
    · left; exact ⟨h1, by simp [h2]⟩
  unfold dv dvp at t1 t2 t3
  obtain ⟨h1, g1⟩ : ∃ h, h = keyD K col at_ p / 18446744073709551616 := ⟨_, rfl⟩
  obtain ⟨l1, g2⟩ : ∃ l, l = keyD K col at_ p % 18446744073709551616 := ⟨_, rfl⟩
  obtain ⟨h2, g3⟩ : ∃ h, h = keyD K col at_ q / 18446744073709551616 := ⟨_, rfl⟩
  obtain ⟨l2, g4⟩ : ∃ l, l = keyD K col at_ q % 18446744073709551616 := ⟨_, rfl⟩
  rw [← g1, ← g2] at t1 t3
  rw [← g3, ← g4] at t2 t3
  obtain ⟨m, hm'⟩ : ∃ m, m = at_.length := ⟨_, rfl⟩
  rw [← hm'] at t1 t2 hA ⊢
  obtain ⟨x, hx⟩ : ∃ x, x = p.getD 0 0 := ⟨_, rfl⟩
  obtain ⟨y, hy⟩ : ∃ x, x = q.getD 0 0 := ⟨_, rfl⟩
  rw [← hx, ← hy] at t3
  obtain ⟨np, hnp⟩ : ∃ n, n = p.length := ⟨_, rfl⟩
  obtain ⟨nq, hnq⟩ : ∃ n, n = q.length := ⟨_, rfl⟩
  rw [← hnp] at hcase t1 hP ⊢
  rw [← hnq] at hcase t2 hQ ⊢
  clear hr hz g1 g2 g3 g4 hE1 hE2 hm' hn hm hc hd ha hp hq hnp hnq
  have Ht1 := hideP t1; have Ht2 := hideP t2; have Ht3 := hideP t3; have HhA := hideP hA; have HhP := hideP hP; have HhQ := hideP hQ; have Hhx := hideP hx; have Hhy := hideP hy; clear t1 t2 t3 hA hP hQ hx hy
  have pre : ∀ r : Bool, (∀ w1 : World, ∀ g2 g3 : Nat, Hid (Below w.heap.size w w1) → True) → True := fun _ _ => trivial
  clear pre
  rcases hcase with ⟨rfl, rfl⟩ | ⟨rfl, rfl, rfl⟩ | ⟨rfl, rfl, hne, rfl⟩ | ⟨rfl, rfl, heq, hpos, rfl⟩
  case' inr.inr.inl => have tl : ((np : Int) == nq) = false := by simp; omega
  case' inr.inr.inl => clear hne
  case' inr.inr.inr =>
    obtain rfl := heq
    have j0 : (0 : Int) < np := by omega
    have jn : 0 < np := by omega
    obtain ⟨b, off, rfl, hb, hcl⟩ := HhP.out (by omega)
    obtain ⟨b', off', rfl, hb', hcl'⟩ := HhQ.out (by omega)
    have u1 := hcl 0 (by omega)
    have u2 := hcl' 0 (by omega)
    rw [Nat.add_zero] at u1 u2
    unfold i64s at u1 u2
    rw [← Hhx.out] at u1
    rw [← Hhy.out] at u2
    have Hu1 := hideP u1; have Hu2 := hideP u2; have Hhb := hideP hb; have Hhb' := hideP hb'; clear u1 u2 hb hb'
    clear hcl hcl' hpos
  all_goals
    go_enter Try.func127, Try.ntmps127
    go_wp2_with fail
    obtain ⟨w1, hw1⟩ : ∃ w1, w1 = w.alloc (Obj.cells #[.int .u8 K, .int .i64 col, .slice A m ca] 62) := ⟨_, rfl⟩
    have c1 := hideP (show Three w1 w.heap.size 62 (.int .u8 K) (.int .i64 col) (.slice A m ca) by rw [hw1]; exact Three.new _ _ _ _ _)
    have cb := hideP (show Below w.heap.size w w1 by rw [hw1]; exact below_new _ _)
    rw [← hw1]
    clear hw1
    refine (Ht1.out w1 (HhA.out.after cb.out) (HhP.out.after cb.out)).mono ?_
    rintro e w2 ⟨rfl, hb_⟩
    replace c1 := hideP (c1.out.after hb_)
    replace cb := hideP (bstep cb.out hb_)
    clear hb_
    have q0 := (c1.out.alloc (Obj.cells #[.int .u64 h1, .int .u64 l1] 165)).c0
    have q1 := (c1.out.alloc (Obj.cells #[.int .u64 h1, .int .u64 l1] 165)).c1
    have q2 := (c1.out.alloc (Obj.cells #[.int .u64 h1, .int .u64 l1] 165)).c2
    go_wp2_with fail
    clear q0 q1 q2
    obtain ⟨v2, hv_⟩ : ∃ v, v = w2.alloc (Obj.cells #[.int .u64 h1, .int .u64 l1] 165) := ⟨_, rfl⟩
    obtain ⟨g2, hg_⟩ : ∃ g, g = w2.heap.size := ⟨_, rfl⟩
    have hb_ : Below w2.heap.size w2 v2 := by rw [hv_]; exact below_new _ _
    have x2 := hideP (show Two v2 g2 165 (.int .u64 h1) (.int .u64 l1) by rw [hv_, hg_]; exact Two.new _ _ _ _)
    have Gx2 := hideP (show w2.heap.size ≤ g2 from Nat.le_of_eq hg_.symm)
    replace c1 := hideP (c1.out.after hb_)
    replace cb := hideP (bstep cb.out hb_)
    rw [← hv_, ← hg_]
    clear hv_ hg_ hb_
    refine (Ht2.out v2 (HhA.out.after cb.out) (HhQ.out.after cb.out)).mono ?_
    rintro e w3 ⟨rfl, hb_⟩
    replace x2 := hideP (x2.out.after hb_)
    replace cb := hideP (bstep cb.out hb_)
    clear hb_
    go_wp2
    obtain ⟨v3, hv_⟩ : ∃ v, v = w3.alloc (Obj.cells #[.int .u64 h2, .int .u64 l2] 165) := ⟨_, rfl⟩
    obtain ⟨g3, hg_⟩ : ∃ g, g = w3.heap.size := ⟨_, rfl⟩
    have hb_ : Below w3.heap.size w3 v3 := by rw [hv_]; exact below_new _ _
    have x3 := hideP (show Two v3 g3 165 (.int .u64 h2) (.int .u64 l2) by rw [hv_, hg_]; exact Two.new _ _ _ _)
    have Gx3 := hideP (show w3.heap.size ≤ g3 from Nat.le_of_eq hg_.symm)
    replace x2 := hideP (x2.out.after hb_)
    replace cb := hideP (bstep cb.out hb_)
    rw [← hv_, ← hg_]
    clear hv_ hg_ hb_
    have kx20 := x2.out.c0; have kx21 := x2.out.c1
    have kx30 := x3.out.c0; have kx31 := x3.out.c1
  · have v1 := cell_below cb.out Hhb.out Hu1.out
    have v2 := cell_below cb.out Hhb'.out Hu2.out
    refine wp_region_eager 25 [(true, 0), (true, 1), (true, 2), (true, 3), (true, 4), (true, 5), (true, 6), (true, 7), (true, 8), (true, 9), (true, 10), (true, 11), (true, 12), (true, 13), (true, 14), (true, 15), (true, 16), (true, 17), (true, 18), (true, 19), (true, 20), (true, 21), (true, 22), (true, 23), (true, 24)] (by kernel_rfl) (by kernel_rfl) ?_
    simp only [pick, List.map_cons, List.map_nil, nthO_zero, nthO_succ]
    repeat (first
      | (refine wpPlan_skipK (by rfl) (fun K hK => ?_); go_simp; refine hK _ ?_; clear hK K)
      | (refine wpPlan_valK (by rfl) (fun K hK => ?_); apply Exists.intro; refine ⟨fun W hW => ?_, ?_⟩; (focus (have hs0 := hW.cell kx20; have hs1 := hW.cell kx21; have hs2 := hW.cell kx30; have hs3 := hW.cell kx31; have hs4 := hW.cell v1; have hs5 := hW.cell v2; go_simp; (try rfl); done)); go_simp; refine hK _ ?_; clear hK K)
      | (refine wpPlan_callK (.bool r) 169 #[.agg #[.int .u64 h1, .int .u64 l1], .int .i64 x, .agg #[.int .u64 h2, .int .u64 l2], .int .i64 y] (by rfl) ?_ (fun W hW => (Ht3.out W).mono fun e w' h => ⟨h.1, Ext.of_below h.2⟩) (fun K hK => ?_); (focus (intro W; go_simp; done)); go_simp; refine hK _ ?_; clear hK K))
    refine wpPlan_nil (fun w4 hW0 => ?_)
    simp only [List.drop_succ_cons, List.drop_zero, List.drop_nil]
    replace cb := hideP (below_ext cb.out hW0.drew_left)
    clear hW0
    go_wp2
    go_ret
    exact ⟨rfl, cb.out⟩
  all_goals
    refine wp_region_eager 25 [(true, 0), (true, 1), (true, 2), (true, 3), (true, 4), (true, 5), (true, 6), (true, 7), (true, 8), (true, 9), (true, 10), (true, 11), (true, 12), (true, 13), (true, 14), (true, 15), (true, 16), (true, 17), (true, 18), (true, 19), (true, 20), (true, 21), (true, 22), (true, 23), (true, 24)] (by kernel_rfl) (by kernel_rfl) ?_
    simp only [pick, List.map_cons, List.map_nil, nthO_zero, nthO_succ]
    repeat (first
      | (refine wpPlan_skipK (by rfl) (fun K hK => ?_); go_simp; refine hK _ ?_; clear hK K)
      | (refine wpPlan_valK (by rfl) (fun K hK => ?_); apply Exists.intro; refine ⟨fun W hW => ?_, ?_⟩; (focus (have hs0 := hW.cell kx20; have hs1 := hW.cell kx21; have hs2 := hW.cell kx30; have hs3 := hW.cell kx31; go_simp; (try rfl); done)); go_simp; refine hK _ ?_; clear hK K))
    refine wpPlan_nil (fun w4 hW0 => ?_)
    simp only [List.drop_succ_cons, List.drop_zero, List.drop_nil]
    replace cb := hideP (below_ext cb.out hW0.drew_left)
    clear hW0
    go_wp2
    go_ret
    exact ⟨rfl, cb.out⟩
end Go.Proofs.Ytglmohcnmpbfmaa
namespace Go.Proofs.Ytglmohcnmpbfmaa
open Go.RowKit
theorem zcase (D E h1 l1 h2 l2 : Nat) (x y : Int) (z s : Bool) (g1 : h1 = D / 18446744073709551616) (g2 : l1 = D % 18446744073709551616) (g3 : h2 = E / 18446744073709551616) (g4 : l2 = E % 18446744073709551616)
    (hz : z = aheadB D E x y) (hs : s = decide (D < E)) : (h1 = h2 ∧ l1 = l2 ∧ z = decide (x < y)) ∨ (h1 = h2 ∧ ¬ l1 = l2 ∧ z = s) ∨ (¬ h1 = h2 ∧ z = s) := by
  have hDE : D = E ↔ h1 = h2 ∧ l1 = l2 := by
    constructor
    · intro h; subst h; exact ⟨g1.trans g3.symm, g2.trans g4.symm⟩
    · rintro ⟨a, b⟩
      rw [g1, g3] at a
      rw [g2, g4] at b
      rw [← Nat.div_add_mod D 18446744073709551616, ← Nat.div_add_mod E 18446744073709551616, a, b]
  rw [hz, hs]
  unfold aheadB
  by_cases h : D = E
  · left
    obtain ⟨a, b⟩ := hDE.1 h
    refine ⟨a, b, ?_⟩
    simp [h]
  · right
    have : decide (D < E ∨ D = E ∧ x < y) = decide (D < E) := by simp [h]
    rw [this]
    by_cases a : h1 = h2
    · left; exact ⟨a, fun b => h (hDE.2 ⟨a, b⟩), rfl⟩
    · right; exact ⟨a, rfl⟩

theorem rkey_any (K col : Int) (A : Option Addr) (at_ : List Int) (ca : Nat) (ha : IsI at_) (Q : Option Addr) (p : List Int) (c : Nat) (hp : IsI p) (hn : p.length ≤ 9223372036854775807) (hc : p.length ≤ c) :
    ∃ er : Bool, ((er = true ∧ ordB K col at_.length p.length = true) ∨ (er = false ∧ ordB K col at_.length p.length = false)) ∧ ∀ w, Arr w w.heap.size A at_.length (i64s at_) → Arr w w.heap.size Q p.length (i64s p) →
      Calls Try.prog 107 #[.agg #[.int .u8 K, .int .i64 col, .slice A at_.length ca], .slice Q p.length c] w fun e w' => e = .returned (.tuple #[dv (keyD K col at_ p), .bool er]) ∧ Below w.heap.size w w' := by
  by_cases h : ordB K col at_.length p.length = true
  · refine ⟨true, .inl ⟨rfl, h⟩, fun w hA hQ => ?_⟩
    have := rkey_in K col A Q at_ p ca c w hA hQ hp ha hc h
    unfold keyD
    rw [if_pos h]
    exact this
  · have h' : ordB K col at_.length p.length = false := by simpa using h
    refine ⟨false, .inr ⟨rfl, h'⟩, fun w hA hQ => ?_⟩
    have := rkey_no K col A Q at_ p ca c w hn h'
    unfold keyD
    rw [if_neg h]
    exact this
set_option maxRecDepth 100000 in
set_option maxHeartbeats 4000000 in
theorem raheadO_any (K col : Int) (A P Q : Option Addr) (at_ p q : List Int) (ca c d : Nat) (w : World) (hA : Arr w w.heap.size A at_.length (i64s at_)) (hP : Arr w w.heap.size P p.length (i64s p)) (hQ : Arr w w.heap.size Q q.length (i64s q))
    (ha : IsI at_) (hp : IsI p) (hq : IsI q) (hn : p.length ≤ 9223372036854775807) (hm : q.length ≤ 9223372036854775807) (hc : p.length ≤ c) (hd : q.length ≤ d) :
    Calls Try.prog 38 #[.agg #[.int .u8 K, .int .i64 col, .slice A at_.length ca], .slice P p.length c, .slice Q q.length d] w fun e w' => e = .returned (.bool (aheadO K col at_ p q)) ∧ Below w.heap.size w w' := by
  obtain ⟨e1, hE1, t1⟩ := rkey_any K col A at_ ca ha P p c hp hn hc
  obtain ⟨e2, hE2, t2⟩ := rkey_any K col A at_ ca ha Q q d hq hm hd
  have t3 := fun W => rless_any (keyD K col at_ p) (keyD K col at_ q) W (keyD_lt K col at_ p hp ha) (keyD_lt K col at_ q hq ha)
  obtain ⟨D, hD⟩ : ∃ D, D = keyD K col at_ p := ⟨_, rfl⟩
  obtain ⟨E, hE⟩ : ∃ D, D = keyD K col at_ q := ⟨_, rfl⟩
  obtain ⟨z, hz⟩ : ∃ z, z = aheadB D E (p.getD 0 0) (q.getD 0 0) := ⟨_, rfl⟩
  obtain ⟨r, hr⟩ : ∃ r, r = aheadO K col at_ p q := ⟨_, rfl⟩
  rw [← hr]
  have hcase : (e1 = false ∧ r = false) ∨ (e1 = true ∧ e2 = false ∧ r = false) ∨ (e1 = true ∧ e2 = true ∧ p.length ≠ q.length ∧ r = false) ∨ (e1 = true ∧ e2 = true ∧ p.length = q.length ∧ 1 ≤ p.length ∧ r = z) := by
    rw [hr, hz, hD, hE]
    unfold aheadO keyD
    rcases hE1 with ⟨h1, h2⟩ | ⟨h1, h2⟩ <;> rcases hE2 with ⟨h3, h4⟩ | ⟨h3, h4⟩
    · by_cases hl : p.length = q.length
      · right; right; right
        exact ⟨h1, h3, hl, ordB_len h2, by rw [if_pos h2, if_pos h4, h2, h4]; simp [hl]⟩
      · right; right; left
        exact ⟨h1, h3, hl, by simp [hl]⟩
    · right; left; exact ⟨h1, h3, by simp [h4]⟩
    · left; exact ⟨h1, by simp [h2]⟩
    · left; exact ⟨h1, by simp [h2]⟩
  rw [← hD, ← hE] at t3
  rw [← hD] at t1
  rw [← hE] at t2
  unfold dv dvp at t1 t2 t3
  obtain ⟨h1, g1⟩ : ∃ h, h = D / 18446744073709551616 := ⟨_, rfl⟩
  obtain ⟨l1, g2⟩ : ∃ l, l = D % 18446744073709551616 := ⟨_, rfl⟩
  obtain ⟨h2, g3⟩ : ∃ h, h = E / 18446744073709551616 := ⟨_, rfl⟩
  obtain ⟨l2, g4⟩ : ∃ l, l = E % 18446744073709551616 := ⟨_, rfl⟩
  rw [← g1, ← g2] at t1 t3
  rw [← g3, ← g4] at t2 t3
  obtain ⟨m, hm'⟩ : ∃ m, m = at_.length := ⟨_, rfl⟩
  rw [← hm'] at t1 t2 hA ⊢
  obtain ⟨x, hx⟩ : ∃ x, x = p.getD 0 0 := ⟨_, rfl⟩
  obtain ⟨y, hy⟩ : ∃ x, x = q.getD 0 0 := ⟨_, rfl⟩
  rw [← hx, ← hy] at hz
  obtain ⟨s, hs⟩ : ∃ s, s = decide (D < E) := ⟨_, rfl⟩
  rw [← hs] at t3
  have hzc : (h1 = h2 ∧ l1 = l2 ∧ z = decide (x < y)) ∨ (h1 = h2 ∧ ¬ l1 = l2 ∧ z = s) ∨ (¬ h1 = h2 ∧ z = s) := zcase D E h1 l1 h2 l2 x y z s g1 g2 g3 g4 hz hs
  obtain ⟨np, hnp⟩ : ∃ n, n = p.length := ⟨_, rfl⟩
  obtain ⟨nq, hnq⟩ : ∃ n, n = q.length := ⟨_, rfl⟩
  rw [← hnp] at hcase t1 hP ⊢
  rw [← hnq] at hcase t2 hQ ⊢
  clear hr hz hs hD hE g1 g2 g3 g4 hE1 hE2 hm' hn hm hc hd ha hp hq hnp hnq
  have Ht1 := hideP t1; have Ht2 := hideP t2; have Ht3 := hideP t3; have HhA := hideP hA; have HhP := hideP hP; have HhQ := hideP hQ; have Hhx := hideP hx; have Hhy := hideP hy; clear t1 t2 t3 hA hP hQ hx hy
  rcases hcase with ⟨rfl, rfl⟩ | ⟨rfl, rfl, rfl⟩ | ⟨rfl, rfl, hne, rfl⟩ | ⟨rfl, rfl, heq, hpos, rfl⟩
  case' inr.inr.inl => have tl : ((np : Int) != nq) = true := by simp; omega
  case' inr.inr.inl => clear hne
  case' inr.inr.inr =>
    obtain rfl := heq
    have j0 : (0 : Int) < np := by omega
    have jn : 0 < np := by omega
    obtain ⟨b, off, rfl, hb, hcl⟩ := HhP.out (by omega)
    obtain ⟨b', off', rfl, hb', hcl'⟩ := HhQ.out (by omega)
    have u1 := hcl 0 (by omega)
    have u2 := hcl' 0 (by omega)
    rw [Nat.add_zero] at u1 u2
    unfold i64s at u1 u2
    rw [← Hhx.out] at u1
    rw [← Hhy.out] at u2
    have Hu1 := hideP u1; have Hu2 := hideP u2; have Hhb := hideP hb; have Hhb' := hideP hb'; clear u1 u2 hb hb'
    clear hcl hcl' hpos
  all_goals
    go_enter Try.func38, Try.ntmps38
    go_wp2_with fail
    obtain ⟨w1, hw1⟩ : ∃ w1, w1 = w.alloc (Obj.cells #[.int .u8 K, .int .i64 col, .slice A m ca] 62) := ⟨_, rfl⟩
    have c1 := hideP (show Three w1 w.heap.size 62 (.int .u8 K) (.int .i64 col) (.slice A m ca) by rw [hw1]; exact Three.new _ _ _ _ _)
    have cb := hideP (show Below w.heap.size w w1 by rw [hw1]; exact below_new _ _)
    rw [← hw1]
    clear hw1
    refine (Ht1.out w1 (HhA.out.after cb.out) (HhP.out.after cb.out)).mono ?_
    rintro e w2 ⟨rfl, hb_⟩
    replace c1 := hideP (c1.out.after hb_)
    replace cb := hideP (bstep cb.out hb_)
    clear hb_
    have q0 := (c1.out.alloc (Obj.cells #[.int .u64 h1, .int .u64 l1] 165)).c0
    have q1 := (c1.out.alloc (Obj.cells #[.int .u64 h1, .int .u64 l1] 165)).c1
    have q2 := (c1.out.alloc (Obj.cells #[.int .u64 h1, .int .u64 l1] 165)).c2
    go_wp2_with fail
    clear q0 q1 q2
    obtain ⟨v2, hv_⟩ : ∃ v, v = w2.alloc (Obj.cells #[.int .u64 h1, .int .u64 l1] 165) := ⟨_, rfl⟩
    obtain ⟨g2, hg_⟩ : ∃ g, g = w2.heap.size := ⟨_, rfl⟩
    have hb_ : Below w2.heap.size w2 v2 := by rw [hv_]; exact below_new _ _
    have x2 := hideP (show Two v2 g2 165 (.int .u64 h1) (.int .u64 l1) by rw [hv_, hg_]; exact Two.new _ _ _ _)
    have Gx2 := hideP (show w2.heap.size ≤ g2 from Nat.le_of_eq hg_.symm)
    replace c1 := hideP (c1.out.after hb_)
    replace cb := hideP (bstep cb.out hb_)
    rw [← hv_, ← hg_]
    clear hv_ hg_ hb_
    refine (Ht2.out v2 (HhA.out.after cb.out) (HhQ.out.after cb.out)).mono ?_
    rintro e w3 ⟨rfl, hb_⟩
    replace x2 := hideP (x2.out.after hb_)
    replace cb := hideP (bstep cb.out hb_)
    clear hb_
  · have x2' := x2.out.alloc (Obj.cells #[.int .u64 h2, .int .u64 l2] 165)
    have x3' := Two.new w3 165 (.int .u64 h2) (.int .u64 l2)
    have kx20 := x2'.c0; have kx21 := x2'.c1; have kx30 := x3'.c0; have kx31 := x3'.c1
    have v1 : (w3.alloc (Obj.cells #[.int .u64 h2, .int .u64 l2] 165)).cell? ⟨b, off, none⟩ = some (.int .i64 x) := cell_below (cb.out.alloc cb.out.size _) Hhb.out Hu1.out
    have v2 : (w3.alloc (Obj.cells #[.int .u64 h2, .int .u64 l2] 165)).cell? ⟨b', off', none⟩ = some (.int .i64 y) := cell_below (cb.out.alloc cb.out.size _) Hhb'.out Hu2.out
    replace cb := hideP (cb.out.alloc cb.out.size (Obj.cells #[.int .u64 h2, .int .u64 l2] 165))
    clear x2' x3'
    rcases hzc with ⟨rfl, rfl, rfl⟩ | ⟨rfl, hne, rfl⟩ | ⟨hne, rfl⟩
    · go_wp2
      refine wp_region_eager 8 [(true, 0), (true, 1), (true, 2), (true, 3), (true, 4), (true, 5), (true, 6), (true, 7)] (by kernel_rfl) (by kernel_rfl) ?_
      simp only [pick, List.map_cons, List.map_nil, nthO_zero, nthO_succ]
      repeat (first
        | (refine wpPlan_skipK (by rfl) (fun K hK => ?_); go_simp; refine hK _ ?_; clear hK K)
        | (refine wpPlan_valK (by rfl) (fun K hK => ?_); apply Exists.intro; refine ⟨fun W hW => ?_, ?_⟩; (focus (have hs0 := hW.cell v1; have hs1 := hW.cell v2; go_simp; (try rfl); done)); go_simp; refine hK _ ?_; clear hK K))
      refine wpPlan_nil (fun w4 hW0 => ?_)
      simp only [List.drop_succ_cons, List.drop_zero, List.drop_nil]
      replace cb := hideP (below_ext cb.out hW0.drew_left)
      clear hW0
      go_wp2
      go_ret
      exact ⟨rfl, cb.out⟩
    all_goals
      go_wp2_with fail
      refine (Ht3.out _).mono ?_
      rintro e w4 ⟨rfl, hb_⟩
      replace cb := hideP (bstep cb.out hb_)
      clear hb_
      clear kx20 kx21 kx30 kx31 v1 v2
      go_wp2
      go_ret
      exact ⟨rfl, cb.out⟩
  all_goals
    go_wp2
    go_ret
    exact ⟨rfl, cb.out.alloc cb.out.size _⟩
end Go.Proofs.Ytglmohcnmpbfmaa
