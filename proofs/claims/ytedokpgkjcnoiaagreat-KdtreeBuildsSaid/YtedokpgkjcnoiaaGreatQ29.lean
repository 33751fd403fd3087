/- A law on regions that draw their order, with calls in them: ONE walk serves every order, if each operation is either QUIET (it yields one value in every world that holds what the world at hand holds) or LOUD and forced: when it comes up nothing else may. A tail of operations that all others precede (a store) goes as it stands. -/
import Derived.StillTail
import Derived.Test.YtedokpgkjcnoiaaGreatQ28
set_option linter.unusedVariables false
set_option linter.unusedSimpArgs false
namespace Go.Proofs.YtedokpgkjcnoiaaGreat
open Go.RowKit

/-- all that w holds W holds too -/
structure Ext (w W : World) : Prop where
 size : w.heap.size ≤ W.heap.size
 block : ∀ k, k < w.heap.size → W.heap[k]? = w.heap[k]?
 os : W.os = w.os
 tape : W.tape = w.tape
 output : W.output = w.output
theorem Ext.refl (w : World) : Ext w w := ⟨Nat.le_refl _, fun _ _ => rfl, rfl, rfl, rfl⟩
theorem Ext.trans {a b c : World} (h : Ext a b) (k : Ext b c) : Ext a c :=
 ⟨Nat.le_trans h.size k.size, fun i hi => (k.block i (Nat.lt_of_lt_of_le hi h.size)).trans (h.block i hi), k.os.trans h.os, k.tape.trans h.tape, k.output.trans h.output⟩
theorem Ext.of_below {w W : World} (h : Below w.heap.size w W) : Ext w W := ⟨h.size, h.block, h.os, h.tape, h.output⟩
theorem Ext.below {w W : World} (h : Ext w W) : Below w.heap.size w W := ⟨h.os, h.tape, h.output, h.size, h.block⟩
theorem Ext.alloc (w : World) (o : Obj) : Ext w (w.alloc o) := ⟨by simp, fun k hk => Below.heap_alloc w o k hk, rfl, rfl, rfl⟩
theorem Ext.drew {w W : World} (h : Ext w W) : Ext w W.drew := ⟨h.size, h.block, h.os, h.tape, h.output⟩
theorem Ext.drewN {w W : World} (h : Ext w W) (n : Nat) : Ext w (W.drewN n) := ⟨h.size, h.block, h.os, h.tape, h.output⟩
theorem Ext.drew_left {w W : World} (h : Ext w.drew W) : Ext w W := ⟨h.size, h.block, h.os, h.tape, h.output⟩
theorem Ext.cell {w W : World} (h : Ext w W) {p : Addr} {v : Value} (hc : w.cell? p = some v) : W.cell? p = some v :=
 (World.cell?_of_block (w := w) (h.block p.block (World.block_lt_of_cell? w p hc))).trans hc
theorem ownsRow_ext {w W : World} {base : Nat} {e : TypeId} {size n : Nat} {v : Value} {xs : List Value} (h : w.ownsRow base e size v n xs) (hW : Ext w W) : W.ownsRow base e size v n xs := by
 refine ⟨h.1, h.2.imp id ?_⟩
 rintro ⟨g, cap, cur, hv, hb, hh, r⟩
 exact ⟨g, cap, cur, hv, hb, (hW.block g (Array.getElem?_eq_some_iff.1 hh).1).trans hh, r⟩
theorem Two.ext {w W : World} {g : Nat} {t : TypeId} {x y : Value} (h : Two w g t x y) (hW : Ext w W) : Two W g t x y := (hW.block g h.lt).trans h
theorem One.ext {w W : World} {g : Nat} {t : TypeId} {x : Value} (h : One w g t x) (hW : Ext w W) : One W g t x := (hW.block g h.lt).trans h
theorem below_ext {w w1 W : World} (h : Below w.heap.size w w1) (hW : Ext w1 W) : Below w.heap.size w W := h.trans (hW.below.mono h.size)
theorem Arr.ext {w W : World} {A : Option Addr} {n : Nat} {f : Nat → Value} (h : Arr w w.heap.size A n f) (hW : Ext w W) : Arr W W.heap.size A n f := h.after hW.below

section
variable {P : Program} {ops : Array Oper} {md : Region.Mode}

/-- no way out but the plain one -/
def QF : Exit → Act → World → Prop := fun _ _ _ => False

theorem Oper.wp_toQ {o : Oper} {a : Act} {w : World} {K : Act → World → Prop} {Q : Exit → Act → World → Prop} (h : o.wp P a w K QF) : o.wp P a w K Q := by
 unfold Oper.wp at *
 generalize (execOp a.eval o).run P w = r at *
 cases r with
 | ok n w' =>
  cases n <;> simp only [Oper.upon] at h ⊢ <;> try exact h
  case enter f args =>
   exact Calls.mono h fun e w'' he => by
    cases e with
    | returned v => exact he
    | panicked c => exact he.elim
    | outgrown => obtain ⟨_, _, h⟩ := he; exact h.elim
 | halt x w' =>
  cases x <;> simp only [Oper.upon] at h ⊢ <;> first | exact h | exact (h : False).elim

/-- operation i comes up; it leaves all memory that was there as it was -/
def eOp (P : Program) (ops : Array Oper) (i : Nat) (K : Act → World → Prop) (a : Act) (w : World) : Prop :=
 match ops[i]? with
 | none => K a w
 | some o => if Region.wanted o (yielded ops a.tmps) then o.wp P a w (fun a' w' => Ext w w' ∧ K a' w') QF else K (a.put o.dst undef) w

theorem eOp_mono {i : Nat} {a : Act} {w : World} {K K' : Act → World → Prop} (h : ∀ a w, K a w → K' a w) (hh : eOp P ops i K a w) : eOp P ops i K' a w := by
 unfold eOp at *
 split
 ·exact h _ _ (by simpa [*] using hh)
 ·rename_i o ho
  simp only [ho] at hh
  split
  ·rename_i hw; simp only [hw, if_true] at hh; exact Oper.wp_mono (fun a w h2 => ⟨h2.1, h _ _ h2.2⟩) hh
  ·rename_i hw; simp only [hw] at hh; exact h _ _ hh

theorem wpOp_of_eOp {Q : Exit → Act → World → Prop} {i : Nat} {a : Act} {w : World} {K K' : Act → World → Prop} (h : ∀ a w, K a w → K' a w) (hh : eOp P ops i K a w) : wpOp P ops Q i K' a w := by
 unfold eOp at hh
 unfold wpOp
 split
 ·rename_i ho; simp only [ho] at hh; exact h _ _ hh
 ·rename_i o ho
  simp only [ho] at hh
  split
  ·rename_i hw; simp only [hw, if_true] at hh; exact .inl (Oper.wp_mono (fun a w h2 => h _ _ h2.2) (Oper.wp_toQ hh))
  ·rename_i hw; simp only [hw] at hh; exact h _ _ hh

/-- what is asked of a quiet operation's run in the world W -/
def qUpon (P : Program) (W : World) (v : Value) : Result Next → Prop
 | .ok (.value u) w' => w' = W ∧ u = v
 | .ok .skip w' => w' = W ∧ v = undef
 | .ok (.enter f args) w' => w' = W ∧ Calls P f args W (fun e w2 => e = .returned v ∧ Ext W w2)
 | _ => False

def Sil (P : Program) (ops : Array Oper) (o : Oper) (v : Value) (a : Act) (w : World) : Prop :=
 (Region.wanted o (yielded ops a.tmps) = true ∧ ∀ W, Ext w W → qUpon P W v ((execOp a.eval o).run P W)) ∨ (Region.wanted o (yielded ops a.tmps) = false ∧ v = undef)

theorem Sil.later {o : Oper} {v : Value} {a : Act} {w w' : World} (h : Sil P ops o v a w) (hw : Ext w w') : Sil P ops o v a w' :=
 h.imp (fun ⟨h1, h2⟩ => ⟨h1, fun W hW => h2 W (hw.trans hW)⟩) id
theorem Sil.of_same {o : Oper} {v : Value} {a a' : Act} {w : World} (h : Sil P ops o v a w) (he : execOp a'.eval o = execOp a.eval o)
    (hw : Region.wanted o (yielded ops a'.tmps) = Region.wanted o (yielded ops a.tmps)) : Sil P ops o v a' w := by
  unfold Sil at *
  rw [he, hw]
  exact h

theorem Sil.eOp {i : Nat} {o : Oper} {v : Value} {a : Act} {w : World} (hi : ops[i]? = some o) (hy : Sil P ops o v a w) {K : Act → World → Prop} (h : ∀ w', Ext w w' → K (a.put o.dst v) w') : eOp P ops i K a w := by
 unfold Go.Proofs.YtedokpgkjcnoiaaGreat.eOp
 simp only [hi]
 rcases hy with ⟨hw, hv⟩ | ⟨hw, rfl⟩
 ·have h0 := hv w (Ext.refl w)
  simp only [hw, if_true, Oper.wp]
  generalize (execOp a.eval o).run P w = r at h0
  cases r with
  | ok n w' =>
   cases n <;> simp only [qUpon] at h0 <;> simp only [Oper.upon]
   case value u => obtain ⟨rfl, rfl⟩ := h0; exact ⟨Ext.refl _, h _ (Ext.refl _)⟩
   case skip => obtain ⟨rfl, rfl⟩ := h0; exact ⟨Ext.refl _, h _ (Ext.refl _)⟩
   case enter f args =>
    obtain ⟨rfl, hc⟩ := h0
    exact hc.mono fun e w2 ⟨he, hx⟩ => by subst he; exact ⟨hx, h _ hx⟩
  | halt x w' => simp only [qUpon] at h0
 ·simp only [hw, Bool.false_eq_true, if_false]
  exact h _ (Ext.refl _)

theorem put_defers (a : Act) (x : Option Tmp) (v : Value) (d : List Deferred) : ({ a.put x v with defers := d } : Act) = ({ a with defers := d } : Act).put x v := by cases x <;> rfl
theorem defers_put (a : Act) (x : Option Tmp) (v : Value) : (a.put x v).defers = a.defers := by cases x <;> rfl
theorem eOp_put {j : Nat} {oi oj : Oper} {v : Value} (hj : ops[j]? = some oj) (hap : oi.apart ops oj = true) (hsi : ∀ cs b, oi.op ≠ .select cs b) (hsj : ∀ cs b, oj.op ≠ .select cs b)
    {K : Act → World → Prop} {a : Act} {w : World} (hy : Sil P ops oi v a w) (h : eOp P ops j K (a.put oi.dst v) w) :
    eOp P ops j (fun a' w' => Sil P ops oi v a' w' ∧ K (a'.put oi.dst v) w') a w := by
  obtain ⟨h1, h2, h3⟩ := Oper.apart_spec hap
  have keep : ∀ (a : Act) (w : World), Sil P ops oi v a w → ∀ u, Sil P ops oi v (a.put oj.dst u) w := fun a w hy u =>
    hy.of_same (execOp_put oi hsi a oj.dst u h3) (wanted_put oi a oj.dst u h3)
  unfold eOp at *
  simp only [hj] at *
  rw [wanted_put oj a oi.dst v h1] at h
  split
  · rename_i hw
    simp only [hw, if_true] at h
    unfold Oper.wp at *
    rw [execOp_put oj hsj a oi.dst v h1] at h
    generalize (execOp a.eval oj).run P w = r at *
    cases r with
    | ok n w' =>
      cases n <;> simp only [Oper.upon] at h ⊢
      case value u => exact ⟨h.1, keep a w' (hy.later h.1) u, by rw [← Act.put_comm a v u h2]; exact h.2⟩
      case skip => exact ⟨h.1, keep a w' (hy.later h.1) undef, by rw [← Act.put_comm a v undef h2]; exact h.2⟩
      case defer d =>
        have hd : Sil P ops oi v ({ a with defers := d :: a.defers } : Act) w' := (hy.later h.1).of_same rfl rfl
        refine ⟨h.1, keep _ w' hd undef, ?_⟩
        have h4 := h.2
        rw [defers_put, put_defers, Act.put_comm _ v undef h2] at h4
        exact h4
      case enter f args =>
        exact Calls.mono h fun e w2 he => by
          cases e with
          | returned u => exact ⟨he.1, keep a w2 (hy.later he.1) u, by rw [← Act.put_comm a v u h2]; exact he.2⟩
          | panicked c => exact he
          | outgrown => exact he
      case row row args =>
        exact Rows.mono h fun u w2 he => ⟨he.1, keep a w2 (hy.later he.1) u, by rw [← Act.put_comm a v u h2]; exact he.2⟩
      all_goals exact h
    | halt x w' => cases x <;> simp only [Oper.upon] at h ⊢ <;> exact h
  · rename_i hw
    simp only [hw] at h
    exact ⟨keep a w hy _, by rw [← Act.put_comm a v undef h2]; exact h⟩

/-- whatever comes up, of the first n operations; in every world that may have come about -/
def wpEL (P : Program) (md : Region.Mode) (ops : Array Oper) (n : Nat) (L : Array Bool → Act → World → Prop) : Nat → Array Bool → Act → World → Prop
 | 0, listed, a, w => ∀ W, Ext w W → L listed a W
 | f + 1, listed, a, w => Region.ready md ops listed ≠ [] ∧ ∀ i ∈ Region.ready md ops listed, i < n ∧ ∀ W, Ext w W → eOp P ops i (wpEL P md ops n L f (listed.setIfInBounds i true)) a W

theorem wpEL_later {n : Nat} {L : Array Bool → Act → World → Prop} : ∀ {f : Nat} {listed : Array Bool} {a : Act} {w w' : World}, wpEL P md ops n L f listed a w → Ext w w' → wpEL P md ops n L f listed a w'
 | 0, _, _, _, _, h, hw => fun W hW => h W (hw.trans hW)
 | _ + 1, _, _, _, _, h, hw => ⟨h.1, fun i hi => ⟨(h.2 i hi).1, fun W hW => (h.2 i hi).2 W (hw.trans hW)⟩⟩

theorem wpAny_of_EL {n g : Nat} {L : Array Bool → Act → World → Prop} {Q : Exit → Act → World → Prop} (hL : ∀ listed a w, L listed a w → wpAny P md ops Q g listed a w) :
    ∀ (f : Nat) (listed : Array Bool) (a : Act) (w : World), wpEL P md ops n L f listed a w → wpAny P md ops Q (f + g) listed a w
  | 0, listed, a, w, h => by rw [Nat.zero_add]; exact hL _ _ _ (h w (Ext.refl w))
  | f + 1, listed, a, w, h => by
    rw [show f + 1 + g = (f + g) + 1 by omega]
    exact ⟨fun h0 => absurd h0 h.1, fun i hi => wpOp_of_eOp (fun a' w' h' => wpAny_of_EL hL f _ a' w' h') ((h.2 i hi).2 w (Ext.refl w))⟩

theorem wpEL_first {n i : Nat} {oi : Oper} {v : Value} {L : Array Bool → Act → World → Prop} (hi : ops[i]? = some oi) (hsel : ∀ (j : Nat) (o : Oper) cs b, ops[j]? = some o → o.op ≠ .select cs b)
    (hjn : ∀ listed, HeadInv md ops n listed → listed.getD i true = false → ∀ j ∈ Region.ready md ops listed, j < n) (hin : i < n)
    (hdone : ∀ listed a w, L listed a w → ∀ j ∈ Region.ready md ops listed, n ≤ j) :
    ∀ (f : Nat) (listed : Array Bool) (a : Act) (w : World), HeadInv md ops n listed →
      (∀ j oj, ops[j]? = some oj → j ≠ i → listed.getD j true = false → (∀ e ∈ oj.after, Region.binds md e = true → e.on ≠ i) → oi.apart ops oj = true) →
      i ∈ Region.ready md ops listed → Sil P ops oi v a w →
      wpEL P md ops n L f (listed.setIfInBounds i true) (a.put oi.dst v) w → wpEL P md ops n L (f + 1) listed a w := by
  intro f
  induction f with
  | zero =>
    intro listed a w inv _ hr hy H
    have hun := (mem_ready.1 hr).1
    refine ⟨fun h => (by rw [h] at hr; cases hr), fun j hj => ?_⟩
    have hjn' := hjn listed inv hun j hj
    refine ⟨hjn', fun W hW => ?_⟩
    by_cases hji : j = i
    · subst hji
      exact (hy.later hW).eOp hi fun w' hw' W' hW' => H W' ((hW.trans hw').trans hW')
    · have := hdone _ _ _ (H w (Ext.refl w)) j (ready_mono hj hji)
      omega
  | succ f ih =>
    intro listed a w inv hfree hr hy H
    have hun := (mem_ready.1 hr).1
    refine ⟨fun h => (by rw [h] at hr; cases hr), fun j hj => ?_⟩
    have hjn' := hjn listed inv hun j hj
    refine ⟨hjn', fun W hW => ?_⟩
    by_cases hji : j = i
    · subst hji
      exact (hy.later hW).eOp hi fun w' hw' => wpEL_later H (hW.trans hw')
    · have h1 := (H.2 j (ready_mono hj hji)).2 W hW
      obtain ⟨hjun, oj, hoj, hall⟩ := mem_ready.1 hj
      have hnot : ∀ e ∈ oj.after, Region.binds md e = true → e.on ≠ i := fun e he hb heq => by
        have h1 := hall e he hb
        rw [heq] at h1
        rcases Nat.lt_or_ge i listed.size with h' | h'
        · simp [h'] at hun h1; rw [hun] at h1; cases h1
        · simp [Array.getElem?_eq_none h'] at h1
      have h2 := eOp_put hoj (hfree j oj hoj hji hjun hnot) (fun cs b => hsel i oi cs b hi) (fun cs b => hsel j oj cs b hoj) (hy.later hW) h1
      have hfree' : ∀ k ok, ops[k]? = some ok → k ≠ i → (listed.setIfInBounds j true).getD k true = false →
          (∀ e ∈ ok.after, Region.binds md e = true → e.on ≠ i) → oi.apart ops ok = true := fun k ok hk hki hun' hno => by
        refine hfree k ok hk hki ?_ hno
        by_cases hjk : j = k
        · subst hjk; exact hjun
        · rw [getD_set_ne true hjk] at hun'; exact hun'
      refine eOp_mono (fun a' w' h3 => ih (listed.setIfInBounds j true) a' w' (inv.set hj hjn') hfree' (ready_mono hr (Ne.symm hji)) h3.1 ?_) h2
      rw [Array.setIfInBounds_comm _ _ hji]
      exact h3.2

/-! ### The plan: which operation is taken when; true: quiet, false: loud -/
def planB (md : Region.Mode) (ops : Array Oper) (n g : Nat) : List (Bool × Nat) → Array Bool → Bool
 | [], listed => if n < ops.size then Region.seqB md ops g n listed else (Region.ready md ops listed).isEmpty
 | (s, i) :: r, listed => decide (i < n) && (if s then (Region.ready md ops listed).contains i && Region.free md ops listed i else decide (Region.ready md ops listed = [i])) && planB md ops n g r (listed.setIfInBounds i true)

def wpFlat (P : Program) (ops : Array Oper) (Lq : Act → World → Prop) : List (Bool × Nat) → Act → World → Prop
 | [], a, w => ∀ W, Ext w W → Lq a W
 | (true, i) :: r, a, w => match ops[i]? with
  | none => False
  | some o => if Region.wanted o (yielded ops a.tmps) then ∃ v, (∀ W, Ext w W → qUpon P W v ((execOp a.eval o).run P W)) ∧ wpFlat P ops Lq r (a.put o.dst v) w else wpFlat P ops Lq r (a.put o.dst undef) w
 | (false, i) :: r, a, w => ∀ W, Ext w W → eOp P ops i (wpFlat P ops Lq r) a W

theorem wpEL_of_flat {n g : Nat} {Lq : Act → World → Prop} (hsel : Region.noSelect ops = true)
    (hjn : ∀ i, i < n → ∀ listed, HeadInv md ops n listed → listed.getD i true = false → ∀ j ∈ Region.ready md ops listed, j < n)
    (hdone : ∀ listed, planB md ops n g [] listed = true → ∀ j ∈ Region.ready md ops listed, n ≤ j) :
    ∀ (r : List (Bool × Nat)) (listed : Array Bool) (a : Act) (w : World), HeadInv md ops n listed → planB md ops n g r listed = true → wpFlat P ops Lq r a w →
      wpEL P md ops n (fun listed' a' w' => planB md ops n g [] listed' = true ∧ Lq a' w') r.length listed a w
  | [], listed, a, w, inv, hB, h => fun W hW => ⟨hB, h W hW⟩
  | (s, i) :: r, listed, a, w, inv, hB, h => by
    simp only [planB, Bool.and_eq_true, decide_eq_true_eq] at hB
    obtain ⟨⟨hin, hs⟩, hB'⟩ := hB
    cases s
    · simp only [Bool.false_eq_true, if_false, decide_eq_true_eq] at hs
      refine ⟨by rw [hs]; simp, fun j hj => ?_⟩
      rw [hs] at hj
      have hji : j = i := by simpa using hj
      subst hji
      refine ⟨hin, fun W hW => eOp_mono (fun a' w' h' => wpEL_of_flat hsel hjn hdone r _ a' w' (inv.set (by rw [hs]; simp) hin) hB' h') (h W hW)⟩
    · simp only [if_true, Bool.and_eq_true] at hs
      obtain ⟨hr, hf⟩ := hs
      have hr' : i ∈ Region.ready md ops listed := by simpa using hr
      obtain ⟨_, oi, hoi, _⟩ := mem_ready.1 hr'
      simp only [wpFlat, hoi] at h
      have inv' := inv.set hr' hin
      by_cases hw : Region.wanted oi (yielded ops a.tmps) = true
      · simp only [hw, if_true] at h
        obtain ⟨v, h1, h2⟩ := h
        exact wpEL_first hoi (Region.noSelect_spec hsel) (hjn i hin) hin (fun listed' a' w' hL => hdone listed' hL.1) r.length listed a w inv (Region.free_spec hoi hf) hr' (.inl ⟨hw, h1⟩)
          (wpEL_of_flat hsel hjn hdone r _ _ w inv' hB' h2)
      · simp only [hw] at h
        exact wpEL_first (v := undef) hoi (Region.noSelect_spec hsel) (hjn i hin) hin (fun listed' a' w' hL => hdone listed' hL.1) r.length listed a w inv (Region.free_spec hoi hf) hr' (.inr ⟨by simpa using hw, rfl⟩)
          (wpEL_of_flat hsel hjn hdone r _ _ w inv' hB' h)

/-! ### The plan with the operations written out -/
def nthO : List Oper → Nat → Oper
 | [], _ => default
 | x :: _, 0 => x
 | _ :: xs, n + 1 => nthO xs n
theorem nthO_zero (x : Oper) (xs : List Oper) : nthO (x :: xs) 0 = x := rfl
theorem nthO_succ (x : Oper) (xs : List Oper) (n : Nat) : nthO (x :: xs) (n + 1) = nthO xs n := rfl
theorem nthO_get : ∀ (l : List Oper) (i : Nat), i < l.length → l[i]? = some (nthO l i)
 | [], _, h => absurd h (by simp)
 | _ :: _, 0, _ => rfl
 | _ :: xs, n + 1, h => by
  rw [List.getElem?_cons_succ]
  exact nthO_get xs n (by simpa using h)
def pick (l : List Oper) (r : List (Bool × Nat)) : List (Bool × Oper) := r.map fun x => (x.1, nthO l x.2)

/-- what is behind it is not reckoned out -/
structure Held (p : Prop) : Prop where
 out : p

def wpPlan (P : Program) (ops : Array Oper) (Lq : Act → World → Prop) : List (Bool × Oper) → Act → World → Prop
 | [], a, w => ∀ W, Ext w W → Lq a W
 | (true, o) :: r, a, w => if Region.wanted o (yielded ops a.tmps) then ∃ v, (∀ W, Ext w W → qUpon P W v ((execOp a.eval o).run P W)) ∧ Held (wpPlan P ops Lq r (a.put o.dst v) w) else Held (wpPlan P ops Lq r (a.put o.dst undef) w)
 | (false, o) :: r, a, w => ∀ W, Ext w W → if Region.wanted o (yielded ops a.tmps) then o.wp P a W (fun a' w' => Ext W w' ∧ wpPlan P ops Lq r a' w') QF else Held (wpPlan P ops Lq r (a.put o.dst undef) W)

theorem wpFlat_of_plan {l : List Oper} {Lq : Act → World → Prop} : ∀ (r : List (Bool × Nat)), (∀ x ∈ r, x.2 < l.length) → ∀ (a : Act) (w : World), wpPlan P l.toArray Lq (pick l r) a w → wpFlat P l.toArray Lq r a w
 | [], _, a, w, h => h
 | (s, i) :: r, hr, a, w, h => by
  have hi : l.toArray[i]? = some (nthO l i) := by
   have := nthO_get l i (hr (s, i) (by simp))
   simpa using this
  have ih : ∀ (a : Act) (w : World), wpPlan P l.toArray Lq (pick l r) a w → wpFlat P l.toArray Lq r a w := wpFlat_of_plan r fun x hx => hr x (by simp [hx])
  cases s
  ·simp only [pick, List.map_cons, wpPlan] at h
   simp only [wpFlat]
   intro W hW
   have h1 := h W hW
   unfold eOp
   simp only [hi]
   split
   ·rename_i hw
    simp only [hw, if_true] at h1
    exact Oper.wp_mono (fun a' w' h2 => ⟨h2.1, ih a' w' h2.2⟩) h1
   ·rename_i hw
    simp only [hw] at h1
    exact ih _ _ h1.out
  ·simp only [pick, List.map_cons, wpPlan] at h
   simp only [wpFlat, hi]
   split
   ·rename_i hw
    simp only [hw, if_true] at h
    obtain ⟨v, h1, h2⟩ := h
    exact ⟨v, h1, ih _ _ h2.out⟩
   ·rename_i hw
    simp only [hw] at h
    exact ih _ _ h.out

/-- the whole check, by the kernel -/
def eagerB (l : List Oper) (n : Nat) (r : List (Bool × Nat)) : Bool :=
 Region.noSelect l.toArray && decide (n ≤ l.length) && decide (r.length = n) && (r.all fun x => decide (x.2 < l.length)) &&
 (if n < l.length then Region.sinkB .any l.toArray n && Region.chainB .any l.toArray n else true) && planB .any l.toArray n (l.length - n) r (Array.replicate l.length false)

/-- ONE WALK SERVES EVERY ORDER. r: the plan over the first n operations; what is left (a tail that all of them precede) goes in its order. -/
theorem wp_region_eager {id : Nat} {Q : Exit → Act → World → Prop} {a : Act} {w : World} {l : List Oper} (n : Nat) (r : List (Bool × Nat)) (hm : P.follows .mixedOrders = true) (hB : eagerB l n r = true)
    (h : wpPlan P l.toArray (fun a' w' => wpList P l.toArray Q (l.drop n) a' w') (pick l r) a w.drew) : (Code.region id l.toArray true).wp P Q a w := by
  simp only [eagerB, Bool.and_eq_true, decide_eq_true_eq] at hB
  obtain ⟨⟨⟨⟨⟨hsel, hn⟩, hlen⟩, hall⟩, htail⟩, hplan⟩ := hB
  have hsz : l.toArray.size = l.length := by simp
  have hplan' : planB .any l.toArray n (l.length - n) r (Array.replicate l.toArray.size false) = true := by rw [hsz]; exact hplan
  have inv0 : HeadInv .any l.toArray n (Array.replicate l.toArray.size false) :=
    ⟨by simp, fun j oj _ hl => (by rw [getD_replicate_false] at hl; cases hl), fun t _ ht => getD_in (by simpa using ht) (getD_replicate_false _ _)⟩
  have hfl := wpFlat_of_plan (P := P) r (fun x hx => by have := List.all_eq_true.1 hall x hx; simpa using this) a w.drew h
  have hjn : ∀ i, i < n → ∀ listed, HeadInv .any l.toArray n listed → listed.getD i true = false → ∀ j ∈ Region.ready .any l.toArray listed, j < n := fun i hi listed inv hun j hj => by
    by_cases hlt : n < l.length
    · rw [if_pos hlt] at htail
      simp only [Bool.and_eq_true] at htail
      rcases Nat.lt_or_ge j n with h1 | h1
      · exact h1
      · exact absurd hj (tail_waits htail.1 htail.2 (by rw [hsz]; exact hlt) inv _ i rfl hi hun j h1)
    · obtain ⟨_, oj, hoj, _⟩ := mem_ready.1 hj
      have := (Array.getElem?_eq_some_iff.1 hoj).1
      rw [hsz] at this; omega
  have hdone : ∀ listed, planB .any l.toArray n (l.length - n) [] listed = true → ∀ j ∈ Region.ready .any l.toArray listed, n ≤ j := fun listed hp j hj => by
    simp only [planB] at hp
    split at hp
    · exact seqB_ready hp j hj
    · simp only [List.isEmpty_iff] at hp
      rw [hp] at hj; cases hj
  have hEL := wpEL_of_flat (P := P) (g := l.length - n) hsel hjn hdone r _ a w.drew inv0 hplan' hfl
  refine wp_region_any hm ?_
  have := wpAny_of_EL (Q := Q) (g := l.length - n) (fun listed a' w' hL => by
    obtain ⟨hp, hq⟩ := hL
    by_cases hlt : n < l.length
    · simp only [planB, hsz, if_pos hlt] at hp
      have := wpAny_of_seq (md := .any) (Q' := Q) (l.drop n) n listed a' w' (fun j => by simp [List.getElem?_drop]) (by rw [List.length_drop]; exact hp) hq
      rwa [List.length_drop] at this
    · simp only [planB, hsz, if_neg hlt, List.isEmpty_iff] at hp
      have hnl : n = l.length := by omega
      subst hnl
      rw [List.drop_length] at hq
      rw [Nat.sub_self]
      exact ⟨hp, hq⟩) _ _ _ _ hEL
  rw [hlen, show n + (l.length - n) = l.toArray.size by rw [hsz]; omega] at this
  exact this

/-! ### The steps of the walk -/
section
variable {Lq : Act → World → Prop} {r : List (Bool × Oper)} {a : Act} {w : World} {o : Oper}
theorem wpPlan_nil (h : ∀ W, Ext w W → Lq a W) : wpPlan P ops Lq [] a w := h
/-- a quiet operation, what follows behind a variable -/
theorem wpPlan_val (v : Value) (hw : Region.wanted o (yielded ops a.tmps) = true) (hv : ∀ W, Ext w W → (execOp a.eval o).run P W = .ok (.value v) W) (h : wpPlan P ops Lq r (a.put o.dst v) w) : wpPlan P ops Lq ((true, o) :: r) a w := by
 simp only [wpPlan, hw, if_true]
 exact ⟨v, fun W hW => by rw [hv W hW]; exact ⟨rfl, rfl⟩, ⟨h⟩⟩
theorem wpPlan_skip (hw : Region.wanted o (yielded ops a.tmps) = false) (h : wpPlan P ops Lq r (a.put o.dst undef) w) : wpPlan P ops Lq ((true, o) :: r) a w := by
 simp only [wpPlan, hw, Bool.false_eq_true, if_false]
 exact ⟨h⟩
/-- a quiet call: one value, in every later world -/
theorem wpPlan_call (v : Value) (f : FuncId) (args : Array Value) (hw : Region.wanted o (yielded ops a.tmps) = true) (hv : ∀ W, (execOp a.eval o).run P W = .ok (.enter f args) W)
    (hc : ∀ W, Ext w W → Calls P f args W fun e w2 => e = .returned v ∧ Ext W w2) (h : wpPlan P ops Lq r (a.put o.dst v) w) : wpPlan P ops Lq ((true, o) :: r) a w := by
  simp only [wpPlan, hw, if_true]
  exact ⟨v, fun W hW => by rw [hv W]; exact ⟨rfl, hc W hW⟩, ⟨h⟩⟩
theorem wpPlan_valK (hw : Region.wanted o (yielded ops a.tmps) = true) (h : ∀ K : Act → Prop, (∀ a, wpPlan P ops Lq r a w → K a) → ∃ v, (∀ W, Ext w W → (execOp a.eval o).run P W = .ok (.value v) W) ∧ K (a.put o.dst v)) : wpPlan P ops Lq ((true, o) :: r) a w := by
 obtain ⟨v, h1, h2⟩ := h _ fun _ h => h
 exact wpPlan_val v hw h1 h2
theorem wpPlan_skipK (hw : Region.wanted o (yielded ops a.tmps) = false) (h : ∀ K : Act → Prop, (∀ a, wpPlan P ops Lq r a w → K a) → K (a.put o.dst undef)) : wpPlan P ops Lq ((true, o) :: r) a w :=
 wpPlan_skip hw (h _ fun _ h => h)
theorem wpPlan_callK (v : Value) (f : FuncId) (args : Array Value) (hw : Region.wanted o (yielded ops a.tmps) = true) (hv : ∀ W, (execOp a.eval o).run P W = .ok (.enter f args) W)
    (hc : ∀ W, Ext w W → Calls P f args W fun e w2 => e = .returned v ∧ Ext W w2) (h : ∀ K : Act → Prop, (∀ a, wpPlan P ops Lq r a w → K a) → K (a.put o.dst v)) : wpPlan P ops Lq ((true, o) :: r) a w :=
  wpPlan_call v f args hw hv hc (h _ fun _ h => h)
/-- a loud operation that yields a value and a later world -/
theorem wpPlan_build (hw : Region.wanted o (yielded ops a.tmps) = true) (h : ∀ W, Ext w W → ∃ v w', (execOp a.eval o).run P W = .ok (.value v) w' ∧ Ext W w' ∧ wpPlan P ops Lq r (a.put o.dst v) w') : wpPlan P ops Lq ((false, o) :: r) a w := by
 intro W hW
 obtain ⟨v, w', h1, h2, h3⟩ := h W hW
 simp only [hw, if_true, Oper.wp, h1, Oper.upon]
 exact ⟨h2, h3⟩
theorem wpPlan_buildK (hw : Region.wanted o (yielded ops a.tmps) = true) (h : ∀ W, Ext w W → ∃ v w', ((execOp a.eval o).run P W = .ok (.value v) w' ∧ Ext W w') ∧ (∀ K : Act → Prop, (∀ a, wpPlan P ops Lq r a w' → K a) → K (a.put o.dst v))) : wpPlan P ops Lq ((false, o) :: r) a w :=
 wpPlan_build hw fun W hW => by
  obtain ⟨v, w', h1, h3⟩ := h W hW
  exact ⟨v, w', h1.1, h1.2, h3 _ fun _ h => h⟩
end
end
end Go.Proofs.YtedokpgkjcnoiaaGreat
