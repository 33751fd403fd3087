/- The small steps of a walk, each said once: what is shown by reckoning is shown where the lemma is used. Values seen from afar: what a value holds, whatever blocks it lies in; objects that a call owns; what a step may do to either. No program in sight. -/
import Derived.WalkKit
import Derived.WalkSpells
import Derived.WalkLawsBesides
import Derived.Laws.Rows
import Derived.Deep.MidRow
import Derived.Maps.AppendAt
import Derived.Orders
import Derived.Below
import Derived.Maps.OwnOps
import Derived.Maps.OwnSet

set_option linter.unusedVariables false
set_option linter.unusedSimpArgs false
namespace Go.Proofs.YtedokpgkjcnoiaaGreat
theorem ob {p q : Prop} (hq : q) (hp : p := by first | omega | rfl | exact Nat.le_of_ble_eq_true rfl | exact fun i hi => ⟨_, rfl⟩ | fail) : p ∧ q := ⟨hp, hq⟩
theorem ob2 {p q : Prop} (hq : q) (hp : p := by first | (show _ * 1 ≤ 140737488355328; omega) | (show _ * 8 ≤ 140737488355328; omega) | (show _ * 24 ≤ 140737488355328; omega) | (show _ * 16 ≤ 140737488355328; omega) | (show _ * 32 ≤ 140737488355328; omega) | (show _ * 120 ≤ 140737488355328; omega) | (show _ * 280 ≤ 140737488355328; omega) | (show _ * 72 ≤ 140737488355328; omega) | (show _ * 48 ≤ 140737488355328; omega) | (dsimp only; omega) | fail) : p ∧ q := ⟨hp, hq⟩
theorem ob3 {p q : Prop} (hq : q) (hp : p := by first | (dsimp only; omega) | fail) : p ∧ q := ⟨hp, hq⟩
theorem ob4 {p q : Prop} (hq : q) (hp : p := by first | (simp at *; omega) | fail) : p ∧ q := ⟨hp, hq⟩
theorem bl : (∀ (p : Prop) [Decidable p], (decide p = true) = p) ∧ (∀ (p : Prop) [Decidable p], (decide p = false) ↔ ¬ p) ∧ (∀ (b : Bool), ((!b) = true) = (b = false)) ∧ (∀ (b : Bool), ((!b) = false) = (b = true)) ∧ (∀ (a b : Bool), (bif true then a else b) = a) ∧ (∀ (a b : Bool), (bif false then a else b) = b) :=
 ⟨fun _ _ => decide_eq_true_eq, fun _ _ => decide_eq_false_iff_not, fun _ => Bool.not_eq_true' _, fun _ => Bool.not_eq_false' _, fun _ _ => rfl, fun _ _ => rfl⟩
theorem cl1 {X : Prop} (h : False := by first | (simp at hq; done) | fail) : X := h.elim
theorem cl2 {X : Prop} (h : False := by first | omega | (simp at hq; omega) | fail) : X := h.elim
theorem cl3 {X : Prop} (h : False := by first | (simp at *; omega) | (simp_all; done) | fail) : X := h.elim
theorem sm {X : Prop} (h : X := by first | exact trivial | exact rfl | exact fun _ _ => rfl | (intro i hi; rcases i with _ | _ | i <;> first | rfl | (exfalso; omega) | (simp at hi; done) | (simp at hi; omega)) | (exact fun _ _ => by simp) | fail) : X := h
end Go.Proofs.YtedokpgkjcnoiaaGreat
namespace Go.Proofs.YtedokpgkjcnoiaaGreat
open Go.RowKit

/-! ### The words -/
/-- what lies for good: an exact value; a slice of n elements of sz cells; a pointer to cells -/
inductive DV where
 | v (x : Value)
 | sl (sz n : Nat) (f : Nat → List DV)
 | p (cs : List DV)
 | fn (f : Fn) (cs : List DV)
instance : Inhabited DV := ⟨.v default⟩
/-- what a slot holds -/
inductive AV where
 | any
 | d (x : DV)
 | dp (cs : List DV)
 | ptr (o g : Nat) (i : Nat) (j : Nat)
 | own (o g : Nat)
 | win (o g a sz n : Nat)
 | agg (cs : List AV)
 | fn (f : Fn) (first caps : List AV)
 | tup (cs : List AV)
instance : Inhabited AV := ⟨.any⟩
/-- an object of the call's own: a row of elements (a slice of its own), a variable -/
inductive Ob where
 | row (ty sz g : Nat) (fz : Bool) (n : Nat) (f : Nat → List DV)
 | box (ty : Nat) (cs : List AV)
 | mp (ok : Value → Prop) (L : List (Value × DV))
def Ob.gen : Ob → Nat | .row _ _ g _ _ _ => g | .box _ _ => 0 | .mp _ _ => 0
/-- how large an element is, and whether it is a map -/
def Ob.sz : Ob → Nat × Bool | .row _ sz _ _ _ _ => (sz, false) | .box _ cs => (cs.length, false) | .mp _ _ => (0, true)
/-- the value by which an object is known -/
def vof : Bool → Value → Value
 | false, v => v
 | true, .slice (some a) _ _ => .map (some a.block)
 | true, v => v
def Ob.free : Ob → Bool | .row _ _ _ fz _ _ => !fz | .box _ _ => true | .mp _ _ => true
def Ob.rowk : Ob → Bool | .row _ _ _ _ _ _ => true | _ => false
abbrev OH := List (Nat × Ob)
def look : OH → Nat → Option Ob
 | [], _ => none
 | (k, b) :: r, o => match Nat.beq k o with
  | true => some b
  | false => look r o
def setH : OH → Nat → Ob → OH
 | [], o, b => [(o, b)]
 | (k, x) :: r, o, b => match Nat.beq k o with
  | true => (o, b) :: r
  | false => match Nat.blt o k with
   | true => (o, b) :: (k, x) :: r
   | false => (k, x) :: setH r o b
theorem beq_nat_iff (a b : Nat) : Nat.beq a b = true ↔ a = b := by
 constructor
 ·exact Nat.eq_of_beq_eq_true
 ·rintro rfl; exact Nat.beq_refl _
theorem beq_nat_false (a b : Nat) : Nat.beq a b = false ↔ a ≠ b := by
 rw [← Bool.not_eq_true, beq_nat_iff]
theorem look_setH (o : Nat) (b : Ob) (x : Nat) : ∀ H : OH, look (setH H o b) x = if o = x then some b else look H x
 | [] => by
  unfold setH look
  split <;> rename_i h
  ·rw [if_pos ((beq_nat_iff _ _).1 h)]
  ·rw [if_neg ((beq_nat_false _ _).1 h)]; rfl
 | (k, c) :: r => by
  have ih := look_setH o b x r
  unfold setH
  split <;> rename_i h
  ·have hk := (beq_nat_iff _ _).1 h
   subst hk
   simp only [look]
   split <;> rename_i h2
   ·rw [if_pos ((beq_nat_iff _ _).1 h2)]
   ·rw [if_neg ((beq_nat_false _ _).1 h2)]
  ·have hk := (beq_nat_false _ _).1 h
   split
   ·simp only [look]
    split <;> rename_i h2
    ·rw [if_pos ((beq_nat_iff _ _).1 h2)]
    ·rw [if_neg ((beq_nat_false _ _).1 h2)]
   ·simp only [look]
    split <;> rename_i h2
    ·have := (beq_nat_iff _ _).1 h2
     rw [if_neg (by omega)]
    ·exact ih
theorem blt_iff (a b : Nat) : Nat.blt a b = true ↔ a < b := by simp [Nat.blt]; exact Nat.succ_le_iff
theorem blt_false (a b : Nat) : Nat.blt a b = false ↔ b ≤ a := by rw [← Bool.not_eq_true, blt_iff]; omega
theorem setH_comm (o p : Nat) (b c : Ob) (h : o ≠ p) : ∀ H : OH, setH (setH H o b) p c = setH (setH H p c) o b := by
 intro H
 induction H with
 | nil =>
  simp only [setH]
  rw [show Nat.beq o p = false from (beq_nat_false _ _).2 h, show Nat.beq p o = false from (beq_nat_false _ _).2 (Ne.symm h)]
  rcases Nat.lt_or_gt_of_ne h with q | q
  ·rw [show Nat.blt p o = false from (blt_false _ _).2 (by omega), show Nat.blt o p = true from (blt_iff _ _).2 q]
  ·rw [show Nat.blt p o = true from (blt_iff _ _).2 q, show Nat.blt o p = false from (blt_false _ _).2 (by omega)]
 | cons kx r ih =>
  obtain ⟨k, x⟩ := kx
  have E : ∀ a b : Nat, a = b → Nat.beq a b = true := fun a b h => (beq_nat_iff _ _).2 h
  have F : ∀ a b : Nat, a ≠ b → Nat.beq a b = false := fun a b h => (beq_nat_false _ _).2 h
  have L : ∀ a b : Nat, a < b → Nat.blt a b = true := fun a b h => (blt_iff _ _).2 h
  have G : ∀ a b : Nat, b ≤ a → Nat.blt a b = false := fun a b h => (blt_false _ _).2 h
  rcases Nat.lt_trichotomy k o with h1 | h1 | h1 <;> rcases Nat.lt_trichotomy k p with h2 | h2 | h2
  ·simp only [setH, F k o (by omega), F k p (by omega), G o k (by omega), G p k (by omega), ih]
  ·subst h2; simp only [setH, F k o (by omega), E k k rfl, G o k (by omega)]
  ·simp only [setH, F k o (by omega), F k p (by omega), G o k (by omega), L p k (by omega), F p o (by omega), G o p (by omega)]
  ·subst h1; simp only [setH, F k p (by omega), E k k rfl, G p k (by omega)]
  ·omega
  ·subst h1; simp only [setH, F k p (by omega), E k k rfl, L p k (by omega), F p k (by omega), G k p (by omega)]
  ·simp only [setH, F k o (by omega), F k p (by omega), L o k (by omega), G p k (by omega), F o p (by omega), G p o (by omega)]
  ·subst h2; simp only [setH, F k o (by omega), E k k rfl, L o k (by omega), F o k (by omega), G k o (by omega)]
  ·rcases Nat.lt_or_gt_of_ne h with q | q
   ·simp only [setH, F k o (by omega), F k p (by omega), L o k (by omega), L p k (by omega), F o p (by omega), F p o (by omega), G p o (by omega), L o p q]
   ·simp only [setH, F k o (by omega), F k p (by omega), L o k (by omega), L p k (by omega), F o p (by omega), F p o (by omega), L p o q, G o p (by omega)]

/-! ### What a value holds -/
inductive RD (W : World) (N : Nat → Prop) : DV → Value → Prop where
  | v (x : Value) : RD W N (.v x) x
  | sl (sz n : Nat) (f : Nat → List DV) (A : Option Addr) (b off c : Nat) (u : Nat → Nat → Value)
      (hA : 0 < n → A = some ⟨b, off, none⟩ ∧ N b) (hc : n ≤ c)
      (hl : ∀ i, i < n → (f i).length = sz)
      (hu : ∀ i j, i < n → j < sz → W.cell? ⟨b, off + i * sz + j, none⟩ = some (u i j) ∧ (u i j).oneCell' = true)
      (hr : ∀ i j, i < n → j < sz → RD W N ((f i).getD j default) (u i j)) : RD W N (.sl sz n f) (.slice A n c)
  | p (cs : List DV) (b off : Nat) (u : Nat → Value) (hb : N b) (hu : ∀ j, j < cs.length → W.cell? ⟨b, off + j, none⟩ = some (u j) ∧ (u j).oneCell' = true)
      (hr : ∀ j, j < cs.length → RD W N (cs.getD j default) (u j)) : RD W N (.p cs) (.pointer (some ⟨b, off, none⟩))
  | fn (f : Fn) (cs : List DV) (us : List Value) (hl : cs.length = us.length) (hr : ∀ j, j < cs.length → RD W N (cs.getD j default) (us.getD j undef)) : RD W N (.fn f cs) (.func f #[] us.toArray)
theorem RD.mono {W W' : World} {N N' : Nat → Prop} (h : ∀ b, N b → N' b ∧ W'.heap[b]? = W.heap[b]?) {x : DV} {v : Value} (r : RD W N x v) : RD W' N' x v := by
 induction r with
 | v x => exact .v x
 | sl sz n f A b off c u hA hc hl hu hr ih =>
  refine .sl sz n f A b off c u (fun hn => ⟨(hA hn).1, (h b (hA hn).2).1⟩) hc hl (fun i j hi hj => ?_) ih
  exact ⟨(World.cell?_of_block (w := W) (a := ⟨b, off + i * sz + j, none⟩) (h b (hA (by omega)).2).2).trans (hu i j hi hj).1, (hu i j hi hj).2⟩
 | fn f cs us hl hr ih => exact .fn f cs us hl ih
 | p cs b off u hb hu hr ih =>
  exact .p cs b off u (h b hb).1 (fun j hj => ⟨(World.cell?_of_block (w := W) (a := ⟨b, off + j, none⟩) (h b hb).2).trans (hu j hj).1, (hu j hj).2⟩) ih

structure Kp (S : Nat → Prop) (w W : World) : Prop where
 size : w.heap.size ≤ W.heap.size
 block : ∀ k, k < w.heap.size → ¬ S k → W.heap[k]? = w.heap[k]?
 os : W.os = w.os
 tape : W.tape = w.tape
 output : W.output = w.output
theorem Kp.refl (S : Nat → Prop) (w : World) : Kp S w w := ⟨Nat.le_refl _, fun _ _ _ => rfl, rfl, rfl, rfl⟩
theorem Kp.trans {S : Nat → Prop} {a b c : World} (h : Kp S a b) (k : Kp S b c) : Kp S a c :=
 ⟨Nat.le_trans h.size k.size, fun i hi hs => (k.block i (Nat.lt_of_lt_of_le hi h.size) hs).trans (h.block i hi hs), k.os.trans h.os, k.tape.trans h.tape, k.output.trans h.output⟩

/-- the call: blocks that what came in lies in; blocks that came in with leave to be written; the world at its beginning -/
structure Env where
 A : Nat → Prop
 S : Nat → Prop
 W0 : World
structure Cx where
 E : Env
 W : World
 H : OH
 vl : Nat → Value
def Cx.N (C : Cx) (b : Nat) : Prop := (C.E.A b ∨ C.E.S b ∨ C.E.W0.heap.size ≤ b) ∧ b < C.W.heap.size ∧ ∀ o ob, look C.H o = some ob → ob.free = true → (C.vl o).ownBlock ≠ some b
/-- the words that a cell may hold -/
def Rb (C : Cx) : AV → Value → Prop
 | .any, _ => True
 | .d x, v => RD C.W C.N x v
 | .dp cs, v => ∃ (b off : Nat) (u : Nat → Value), v = .pointer (some ⟨b, off, none⟩) ∧ C.N b ∧ ∀ j, j < cs.length → (C.W.cell? ⟨b, off + j, none⟩ = some (u j) ∧ (u j).oneCell' = true) ∧ RD C.W C.N (cs.getD j default) (u j)
 | .ptr o g i j, v => ∃ ob, look C.H o = some ob ∧ g ≤ ob.gen ∧ (g = ob.gen → ∃ b n c, C.vl o = .slice (some ⟨b, 0, none⟩) n c ∧ v = .pointer (some ⟨b, i * ob.sz.1 + j, none⟩))
 | .own o g, v => ∃ ob, look C.H o = some ob ∧ g ≤ ob.gen ∧ (g = ob.gen → v = vof ob.sz.2 (C.vl o))
 | .win o g a sz n, v => ∃ ob, look C.H o = some ob ∧ g ≤ ob.gen ∧ (g = ob.gen → ∃ b N c A c', C.vl o = .slice (some ⟨b, 0, none⟩) N c ∧ n ≤ c' ∧ v = .slice A n c' ∧ (0 < n → A = some ⟨b, a * sz, none⟩))
 | _, _ => False
def Rbs (C : Cx) (cs : List AV) (us : List Value) : Prop := cs.length = us.length ∧ ∀ j, j < cs.length → Rb C (cs.getD j .any) (us.getD j undef)
def R1 (C : Cx) : AV → Value → Prop
 | .agg cs, v => ∃ us : List Value, v = .agg us.toArray ∧ Rbs C cs us
 | .fn f first caps, v => ∃ us ws : List Value, v = .func f us.toArray ws.toArray ∧ Rbs C first us ∧ Rbs C caps ws
 | a, v => Rb C a v
def Rv (C : Cx) : AV → Value → Prop
 | .tup cs, v => ∃ us : List Value, v = .tuple us.toArray ∧ cs.length = us.length ∧ ∀ j, j < cs.length → R1 C (cs.getD j .any) (us.getD j undef)
 | a, v => R1 C a v
/-- an object as it lies -/
def OK (C : Cx) (o : Nat) : Ob → Prop
 | .row ty sz g fz n f => ∃ us : List Value, C.W.ownsRow 0 ty sz (C.vl o) n us ∧ (∀ i, i < n → (f i).length = sz) ∧ (∀ u ∈ us, u.oneCell' = true) ∧ ∀ i j, i < n → j < sz → RD C.W C.N ((f i).getD j default) (us.getD (i * sz + j) undef)
 | .box ty cs => ∃ b us, C.vl o = .slice (some ⟨b, 0, none⟩) 1 1 ∧ C.W.heap[b]? = some (.cells us.toArray ty (0, 0)) ∧ Rbs C cs us
 | .mp ok L => ∃ b es clock, C.vl o = .slice (some ⟨b, 0, none⟩) 1 1 ∧ C.W.heap[b]? = some (.map es clock) ∧ Go.MapKept.Stamped es clock ∧ (∀ x ∈ es.toList, ok x.key) ∧ L.map Prod.fst = es.toList.map (fun e => e.key) ∧ ∀ i, i < L.length → RD C.W C.N (L.getD i default).2 ((es.toList.map (fun e => e.val)).getD i undef)
structure Gam (C : Cx) : Prop where
 ok : ∀ o b, look C.H o = some b → OK C o b
 ap : ∀ o o' b b' k, look C.H o = some b → look C.H o' = some b' → o ≠ o' → (C.vl o).ownBlock = some k → (C.vl o').ownBlock ≠ some k
 kp : Kp C.E.S C.E.W0 C.W
 mu : ∀ o b k, look C.H o = some b → (C.vl o).ownBlock = some k → C.E.S k ∨ C.E.W0.heap.size ≤ k
/-- what a step keeps -/
structure Fr (C C' : Cx) : Prop where
 n : ∀ b, C.N b → C'.N b ∧ C'.W.heap[b]? = C.W.heap[b]?
 h : ∀ o ob, look C.H o = some ob → ∃ ob', look C'.H o = some ob' ∧ ((ob'.gen = ob.gen ∧ ob'.sz = ob.sz ∧ C'.vl o = C.vl o) ∨ ob.gen < ob'.gen)
theorem Fr.refl (C : Cx) : Fr C C := ⟨fun b h => ⟨h, rfl⟩, fun o ob h => ⟨ob, h, .inl ⟨rfl, rfl, rfl⟩⟩⟩
theorem Fr.trans {C D F : Cx} (h : Fr C D) (k : Fr D F) : Fr C F := by
 refine ⟨fun b hb => ⟨(k.n b (h.n b hb).1).1, (k.n b (h.n b hb).1).2.trans (h.n b hb).2⟩, fun o ob ho => ?_⟩
 obtain ⟨ob1, h1, h2⟩ := h.h o ob ho
 obtain ⟨ob2, h3, h4⟩ := k.h o ob1 h1
 refine ⟨ob2, h3, ?_⟩
 rcases h2 with ⟨a, b, c⟩ | h2 <;> rcases h4 with ⟨a', b', c'⟩ | h4
 ·exact .inl ⟨a'.trans a, b'.trans b, c'.trans c⟩
 ·exact .inr (by omega)
 ·exact .inr (by omega)
 ·exact .inr (by omega)
section
variable {C C' : Cx}
theorem RD.fr (h : Fr C C') {x : DV} {v : Value} (r : RD C.W C.N x v) : RD C'.W C'.N x v := r.mono h.n
theorem Rb.fr (h : Fr C C') : ∀ {a : AV} {v : Value}, Rb C a v → Rb C' a v
 | .any, _, _ => trivial
 | .d x, v, r => RD.fr h r
 | .dp cs, v, ⟨b, off, u, hv, hb, hc⟩ => ⟨b, off, u, hv, (h.n b hb).1, fun j hj => ⟨⟨(World.cell?_of_block (w := C.W) (a := ⟨b, off + j, none⟩) (h.n b hb).2).trans (hc j hj).1.1, (hc j hj).1.2⟩, RD.fr h (hc j hj).2⟩⟩
 | .ptr o g i j, v, ⟨ob, h1, h2, h3⟩ => by
  obtain ⟨ob', k1, k2⟩ := h.h o ob h1
  rcases k2 with ⟨a, b, c⟩ | k2
  ·refine ⟨ob', k1, by omega, fun e => ?_⟩
   obtain ⟨b', n, c', e1, e2⟩ := h3 (e.trans a)
   exact ⟨b', n, c', by rw [c, e1], by rw [b, e2]⟩
  ·exact ⟨ob', k1, by omega, fun e => by omega⟩
 | .own o g, v, ⟨ob, h1, h2, h3⟩ => by
  obtain ⟨ob', k1, k2⟩ := h.h o ob h1
  rcases k2 with ⟨a, b, c⟩ | k2
  ·exact ⟨ob', k1, by omega, fun e => by rw [b, c]; exact h3 (e.trans a)⟩
  ·exact ⟨ob', k1, by omega, fun e => by omega⟩
 | .win o g a sz n, v, ⟨ob, h1, h2, h3⟩ => by
  obtain ⟨ob', k1, k2⟩ := h.h o ob h1
  rcases k2 with ⟨a, b, c⟩ | k2
  ·exact ⟨ob', k1, by omega, fun e => by rw [c]; exact h3 (e.trans a)⟩
  ·exact ⟨ob', k1, by omega, fun e => by omega⟩
 | .agg _, _, h => h.elim
 | .fn _ _ _, _, h => h.elim
 | .tup _, _, h => h.elim
theorem Rbs.fr (h : Fr C C') {cs : List AV} {us : List Value} (r : Rbs C cs us) : Rbs C' cs us := ⟨r.1, fun j hj => (r.2 j hj).fr h⟩
theorem R1.fr (h : Fr C C') : ∀ {a : AV} {v : Value}, R1 C a v → R1 C' a v
 | .agg cs, v, ⟨us, e, r⟩ => ⟨us, e, r.fr h⟩
 | .fn f x y, v, ⟨us, ws, e, r, s⟩ => ⟨us, ws, e, r.fr h, s.fr h⟩
 | .any, _, _ => trivial
 | .d x, v, r => Rb.fr (a := .d x) h r
 | .dp x, v, r => Rb.fr (a := .dp x) h r
 | .ptr a b c d, v, r => Rb.fr (a := .ptr a b c d) h r
 | .own a b, v, r => Rb.fr (a := .own a b) h r
 | .win a b c d e, v, r => Rb.fr (a := .win a b c d e) h r
 | .tup _, _, r => r.elim
theorem Rv.fr (h : Fr C C') : ∀ {a : AV} {v : Value}, Rv C a v → Rv C' a v
 | .tup cs, v, ⟨us, e, l, r⟩ => ⟨us, e, l, fun j hj => (r j hj).fr h⟩
 | .agg cs, v, r => R1.fr (a := .agg cs) h r
 | .fn f x y, v, r => R1.fr (a := .fn f x y) h r
 | .any, _, _ => trivial
 | .d x, v, r => R1.fr (a := .d x) h r
 | .dp x, v, r => R1.fr (a := .dp x) h r
 | .ptr a b c d, v, r => R1.fr (a := .ptr a b c d) h r
 | .own a b, v, r => R1.fr (a := .own a b) h r
 | .win a b c d e, v, r => R1.fr (a := .win a b c d e) h r
/-- an object whose block and value stand as they were -/
theorem OK.fr (h : Fr C C') {o : Nat} {b : Ob} (hv : C'.vl o = C.vl o) (hb : ∀ k, (C.vl o).ownBlock = some k → C'.W.heap[k]? = C.W.heap[k]?) (r : OK C o b) : OK C' o b := by
 cases b with
 | row ty sz g fz n f =>
  obtain ⟨us, h1, h2, h4, h3⟩ := r
  refine ⟨us, ?_, h2, h4, fun i j hi hj => (h3 i j hi hj).fr h⟩
  rw [hv]
  refine ⟨h1.1, h1.2.imp id ?_⟩
  rintro ⟨g, cap, cur, e, hb', hh, r⟩
  exact ⟨g, cap, cur, e, hb', (hb g (by rw [e]; rfl)).trans hh, r⟩
 | box ty cs =>
  obtain ⟨k, us, e, hh, r⟩ := r
  exact ⟨k, us, by rw [hv]; exact e, (hb k (by rw [e]; rfl)).trans hh, r.fr h⟩
 | mp ok L =>
  obtain ⟨k, es, clock, e, hh, r1, r2, r3, r4⟩ := r
  exact ⟨k, es, clock, by rw [hv]; exact e, (hb k (by rw [e]; rfl)).trans hh, r1, r2, r3, fun i hi => (r4 i hi).fr h⟩
theorem OK.lt {o : Nat} {b : Ob} (r : OK C o b) {k : Nat} (hk : (C.vl o).ownBlock = some k) : k < C.W.heap.size := by
 cases b with
 | row ty sz g fz n f => obtain ⟨us, h1, _⟩ := r; exact (h1.lt k hk).2
 | box ty cs =>
  obtain ⟨k', us, e, hh, _⟩ := r
  rw [e] at hk
  obtain rfl : k' = k := by simpa [Value.ownBlock] using hk
  exact (Array.getElem?_eq_some_iff.1 hh).1
 | mp ok L =>
  obtain ⟨k', es, clock, e, hh, _⟩ := r
  rw [e] at hk
  obtain rfl : k' = k := by simpa [Value.ownBlock] using hk
  exact (Array.getElem?_eq_some_iff.1 hh).1
end
end Go.Proofs.YtedokpgkjcnoiaaGreat
