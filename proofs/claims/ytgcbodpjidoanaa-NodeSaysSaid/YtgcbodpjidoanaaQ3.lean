/- Contracts of package dist: isPoint, total, Between, ToBox. The law on regions that draw their order, with a plan that may fork: where several operations may come up and none is quiet, each of them is walked. -/
import Derived.Laws.ResultCell
import Derived.Test.YtgcbodpjidoanaaQ1
import Derived.Test.YtgcbodpjidoanaaQ2
set_option linter.unusedVariables false
set_option linter.unusedSimpArgs false
namespace Go.Proofs.Ytgcbodpjidoanaa
open Go.RowKit

def isPt (n : Nat) : Bool := decide (1 ≤ n) && decide (n ≤ 8)
theorem run_enter {f : FuncId} {fn : Func} (hf : Try.prog.funcs[f]? = some fn) (hn : (fn.name == "runtime.NumGoroutine") = false) (hb : fn.body.isNone = false) (args : Array Value) (w : World) : (callFunc f args).run Try.prog w = .ok (.enter f args) w := by
  have h1 : (fn.name = "runtime.NumGoroutine") = False := by simpa using hn
  simp [callFunc, hf, h1, hb, program, Sem.run]
  intro h; simp [h] at hb

/-- what the sides say, from 0 on -/
def sides (f : Nat → Nat) (k : Nat) : List Nat := (List.range k).map f

def IsI' (l : List Int) : Prop := ∀ i, I64 (l.getD i 0)
/-- the distance of two points of n numbers -/
def dpt (p q : List Int) (n : Nat) : Nat := (sides (fun i => apart (p.getD i 0) (q.getD i 0)) n).sum
def dbox (p lo hi : List Int) (n : Nat) : Nat := (sides (fun i => gap (p.getD i 0) (lo.getD i 0) (hi.getD i 0)) n).sum
end Go.Proofs.Ytgcbodpjidoanaa
namespace Go.Proofs.Ytgcbodpjidoanaa
open Go.RowKit

/-- a plan: q: a quiet operation, l: a loud one, alt: either of two plans -/
inductive Tr where
  | nil : Tr
  | q (i : Nat) (t : Tr) : Tr
  | l (i : Nat) (t : Tr) : Tr
  | alt (t u : Tr) : Tr
def Tr.heads : Tr → List Nat
  | .l i _ => [i]
  | .alt t u => t.heads ++ u.heads
  | _ => []
def Tr.deep : Tr → Nat → Bool
  | .nil, n => n == 0
  | .q _ t, n + 1 => t.deep n
  | .l _ t, n + 1 => t.deep n
  | .alt t u, n => t.deep n && u.deep n
  | _, _ => false
def Tr.within (m : Nat) : Tr → Bool
  | .nil => true
  | .q i t => decide (i < m) && t.within m
  | .l i t => decide (i < m) && t.within m
  | .alt t u => t.within m && u.within m

section
variable {P : Program} {ops : Array Oper} {md : Region.Mode}
def treeB (md : Region.Mode) (ops : Array Oper) (n g : Nat) : Tr → Bool → Array Bool → Bool
  | .nil, top, listed => top && planB md ops n g [] listed
  | .q i t, top, listed => top && (decide (i < n) && ((Region.ready md ops listed).contains i && Region.free md ops listed i)) && treeB md ops n g t true (listed.setIfInBounds i true)
  | .l i t, top, listed => decide (i < n) && (!top || decide (Region.ready md ops listed = [i])) && ((Region.ready md ops listed).contains i && treeB md ops n g t true (listed.setIfInBounds i true))
  | .alt t u, top, listed => (!top || decide (Region.ready md ops listed = (Tr.alt t u).heads)) && (treeB md ops n g t false listed && treeB md ops n g u false listed)

/-- the plan with the operations written out -/
inductive TO where
  | nil : TO
  | q (o : Oper) (t : TO) : TO
  | l (o : Oper) (t : TO) : TO
  | alt (t u : TO) : TO
def pickT (l : List Oper) : Tr → TO
  | .nil => .nil
  | .q i t => .q (nthO l i) (pickT l t)
  | .l i t => .l (nthO l i) (pickT l t)
  | .alt t u => .alt (pickT l t) (pickT l u)

def wpT (P : Program) (ops : Array Oper) (Lq : Act → World → Prop) : TO → Act → World → Prop
  | .nil, a, w => ∀ W, Ext w W → Lq a W
  | .q o t, a, w => if Region.wanted o (yielded ops a.tmps) then ∃ v, (∀ W, Ext w W → qUpon P W v ((execOp a.eval o).run P W)) ∧ Held (wpT P ops Lq t (a.put o.dst v) w) else Held (wpT P ops Lq t (a.put o.dst undef) w)
  | .l o t, a, w => ∀ W, Ext w W → if Region.wanted o (yielded ops a.tmps) then o.wp P a W (fun a' w' => Ext W w' ∧ wpT P ops Lq t a' w') QF else Held (wpT P ops Lq t (a.put o.dst undef) W)
  | .alt t u, a, w => Held (wpT P ops Lq t a w) ∧ Held (wpT P ops Lq u a w)

theorem wpEL_of_tree {l : List Oper} {n g : Nat} {Lq : Act → World → Prop} (hsel : Region.noSelect l.toArray = true)
    (hjn : ∀ i, i < n → ∀ listed, HeadInv md l.toArray n listed → listed.getD i true = false → ∀ j ∈ Region.ready md l.toArray listed, j < n)
    (hdone : ∀ listed, planB md l.toArray n g [] listed = true → ∀ j ∈ Region.ready md l.toArray listed, n ≤ j) :
    ∀ (t : Tr) (f : Nat) (listed : Array Bool) (a : Act) (w : World), t.deep f = true → t.within l.length = true → HeadInv md l.toArray n listed → wpT P l.toArray Lq (pickT l t) a w →
      (treeB md l.toArray n g t true listed = true → wpEL P md l.toArray n (fun listed' a' w' => planB md l.toArray n g [] listed' = true ∧ Lq a' w') f listed a w) ∧
      (treeB md l.toArray n g t false listed = true → ∃ f', f = f' + 1 ∧ t.heads ≠ [] ∧ ∀ i ∈ t.heads, i < n ∧ ∀ W, Ext w W → eOp P l.toArray i (wpEL P md l.toArray n (fun listed' a' w' => planB md l.toArray n g [] listed' = true ∧ Lq a' w') f' (listed.setIfInBounds i true)) a W) := by
  intro t
  induction t with
  | nil =>
    intro f listed a w hd hin inv h
    have hf : f = 0 := by simpa [Tr.deep] using hd
    subst hf
    refine ⟨fun hB => fun W hW => ⟨by simpa [treeB] using hB, h W hW⟩, fun hB => by simp [treeB] at hB⟩
  | q i t ih =>
    intro f listed a w hd hin inv h
    rcases f with _ | f
    · simp [Tr.deep] at hd
    simp only [Tr.within, Bool.and_eq_true, decide_eq_true_eq] at hin
    refine ⟨fun hB => ?_, fun hB => by simp [treeB] at hB⟩
    simp only [treeB, Bool.true_and, Bool.and_eq_true, decide_eq_true_eq] at hB
    obtain ⟨⟨hi, hr, hf⟩, hB'⟩ := hB
    have hr' : i ∈ Region.ready md l.toArray listed := by simpa using hr
    have hoi : l.toArray[i]? = some (nthO l i) := by
      have := nthO_get l i hin.1
      simpa using this
    have inv' := inv.set hr' hi
    simp only [pickT, wpT] at h
    by_cases hw : Region.wanted (nthO l i) (yielded l.toArray a.tmps) = true
    · simp only [hw, if_true] at h
      obtain ⟨v, h1, h2⟩ := h
      exact wpEL_first hoi (Region.noSelect_spec hsel) (hjn i hi) hi (fun listed' a' w' hL => hdone listed' hL.1) f listed a w inv (Region.free_spec hoi hf) hr' (.inl ⟨hw, h1⟩)
        ((ih f _ _ w (by simpa [Tr.deep] using hd) hin.2 inv' h2.out).1 hB')
    · simp only [hw] at h
      exact wpEL_first (v := undef) hoi (Region.noSelect_spec hsel) (hjn i hi) hi (fun listed' a' w' hL => hdone listed' hL.1) f listed a w inv (Region.free_spec hoi hf) hr' (.inr ⟨by simpa using hw, rfl⟩)
        ((ih f _ _ w (by simpa [Tr.deep] using hd) hin.2 inv' h.out).1 hB')
  | l i t ih =>
    intro f listed a w hd hin inv h
    rcases f with _ | f
    · simp [Tr.deep] at hd
    simp only [Tr.within, Bool.and_eq_true, decide_eq_true_eq] at hin
    have hoi : l.toArray[i]? = some (nthO l i) := by
      have := nthO_get l i hin.1
      simpa using this
    have key : ∀ hi : i < n, i ∈ Region.ready md l.toArray listed → treeB md l.toArray n g t true (listed.setIfInBounds i true) = true →
        ∀ W, Ext w W → eOp P l.toArray i (wpEL P md l.toArray n (fun listed' a' w' => planB md l.toArray n g [] listed' = true ∧ Lq a' w') f (listed.setIfInBounds i true)) a W := by
      intro hi hr hB' W hW
      have ih' := fun a' w' h' => (ih f (listed.setIfInBounds i true) a' w' (by simpa [Tr.deep] using hd) hin.2 (inv.set hr hi) h').1 hB'
      simp only [pickT, wpT] at h
      have h1 := h W hW
      unfold eOp
      simp only [hoi]
      split
      · rename_i hw
        simp only [hw, if_true] at h1
        exact Oper.wp_mono (fun a' w' h2 => ⟨h2.1, ih' a' w' h2.2⟩) h1
      · rename_i hw
        simp only [hw] at h1
        exact ih' _ _ h1.out
    constructor
    · intro hB
      simp only [treeB, Bool.not_true, Bool.false_or, Bool.and_eq_true, decide_eq_true_eq] at hB
      obtain ⟨⟨hi, hrd⟩, hr, hB'⟩ := hB
      have hr' : i ∈ Region.ready md l.toArray listed := by simpa using hr
      refine ⟨by rw [hrd]; simp, fun j hj => ?_⟩
      rw [hrd] at hj
      have hji : j = i := by simpa using hj
      subst hji
      exact ⟨hi, key hi hr' hB'⟩
    · intro hB
      simp only [treeB, Bool.not_false, Bool.true_or, Bool.and_true, Bool.and_eq_true, decide_eq_true_eq] at hB
      obtain ⟨hi, hr, hB'⟩ := hB
      have hr' : i ∈ Region.ready md l.toArray listed := by simpa using hr
      refine ⟨f, rfl, by simp [Tr.heads], fun j hj => ?_⟩
      have hji : j = i := by simpa [Tr.heads] using hj
      subst hji
      exact ⟨hi, key hi hr' hB'⟩
  | alt t u iht ihu =>
    intro f listed a w hd hin inv h
    simp only [Tr.deep, Bool.and_eq_true] at hd
    simp only [Tr.within, Bool.and_eq_true] at hin
    simp only [pickT, wpT] at h
    have h2 : treeB md l.toArray n g t false listed = true → treeB md l.toArray n g u false listed = true → ∃ f', f = f' + 1 ∧ (Tr.alt t u).heads ≠ [] ∧ ∀ i ∈ (Tr.alt t u).heads, i < n ∧ ∀ W, Ext w W → eOp P l.toArray i (wpEL P md l.toArray n (fun listed' a' w' => planB md l.toArray n g [] listed' = true ∧ Lq a' w') f' (listed.setIfInBounds i true)) a W := by
      intro ht hu
      obtain ⟨f', e1, ne1, k1⟩ := (iht f listed a w hd.1 hin.1 inv h.1.out).2 ht
      obtain ⟨f'', e2, ne2, k2⟩ := (ihu f listed a w hd.2 hin.2 inv h.2.out).2 hu
      obtain rfl : f' = f'' := by omega
      refine ⟨f', e1, by simp [Tr.heads, ne1], fun i hi => ?_⟩
      rcases List.mem_append.1 (show i ∈ t.heads ++ u.heads from hi) with h | h
      · exact k1 i h
      · exact k2 i h
    constructor
    · intro hB
      simp only [treeB, Bool.not_true, Bool.false_or, Bool.and_eq_true, decide_eq_true_eq] at hB
      obtain ⟨hrd, ht, hu⟩ := hB
      obtain ⟨f', rfl, ne, k⟩ := h2 ht hu
      refine ⟨by rw [hrd]; exact ne, fun j hj => ?_⟩
      rw [hrd] at hj
      exact k j hj
    · intro hB
      simp only [treeB, Bool.not_false, Bool.true_or, Bool.true_and, Bool.and_eq_true] at hB
      exact h2 hB.1 hB.2

/-- the whole check, by the kernel -/
def forkB (l : List Oper) (n : Nat) (t : Tr) : Bool :=
  Region.noSelect l.toArray && decide (n ≤ l.length) && t.deep n && t.within l.length &&
  (if n < l.length then Region.sinkB .any l.toArray n && Region.chainB .any l.toArray n else true) && treeB .any l.toArray n (l.length - n) t true (Array.replicate l.length false)

theorem wp_region_fork {id : Nat} {Q : Exit → Act → World → Prop} {a : Act} {w : World} {l : List Oper} (n : Nat) (t : Tr) (hm : P.follows .mixedOrders = true) (hB : forkB l n t = true)
    (h : wpT P l.toArray (fun a' w' => wpList P l.toArray Q (l.drop n) a' w') (pickT l t) a w.drew) : (Code.region id l.toArray true).wp P Q a w := by
  simp only [forkB, Bool.and_eq_true, decide_eq_true_eq] at hB
  obtain ⟨⟨⟨⟨⟨hsel, hn⟩, hdeep⟩, hwi⟩, htail⟩, hplan⟩ := hB
  have hsz : l.toArray.size = l.length := by simp
  have hplan' : treeB .any l.toArray n (l.length - n) t true (Array.replicate l.toArray.size false) = true := by rw [hsz]; exact hplan
  have inv0 : HeadInv .any l.toArray n (Array.replicate l.toArray.size false) :=
    ⟨by simp, fun j oj _ hl => (by rw [getD_replicate_false] at hl; cases hl), fun t _ ht => getD_in (by simpa using ht) (getD_replicate_false _ _)⟩
  have hjn : ∀ i, i < n → ∀ listed, HeadInv .any l.toArray n listed → listed.getD i true = false → ∀ j ∈ Region.ready .any l.toArray listed, j < n := fun i hi listed inv hun j hj => by
    by_cases hlt : n < l.length
    · rw [if_pos hlt] at htail
      simp only [Bool.and_eq_true] at htail
      rcases Nat.lt_or_ge j n with h1 | h1
      · exact h1
      · exact absurd hj (tail_waits htail.1 htail.2 (by rw [hsz]; exact hlt) inv _ i rfl hi hun j h1)
    · obtain ⟨_, oj, hoj, _⟩ := mem_ready.1 hj
      have := (Array.getElem?_eq_some_iff.1 hoj).1
      rw [hsz] at this; omega
  have hdone : ∀ listed, planB .any l.toArray n (l.length - n) [] listed = true → ∀ j ∈ Region.ready .any l.toArray listed, n ≤ j := fun listed hp j hj => by
    simp only [planB] at hp
    split at hp
    · exact seqB_ready hp j hj
    · simp only [List.isEmpty_iff] at hp
      rw [hp] at hj; cases hj
  have hEL := (wpEL_of_tree (P := P) (g := l.length - n) hsel hjn hdone t n _ a w.drew hdeep hwi inv0 h).1 hplan'
  refine wp_region_any hm ?_
  have := wpAny_of_EL (Q := Q) (g := l.length - n) (fun listed a' w' hL => by
    obtain ⟨hp, hq⟩ := hL
    by_cases hlt : n < l.length
    · simp only [planB, hsz, if_pos hlt] at hp
      have := wpAny_of_seq (md := .any) (Q' := Q) (l.drop n) n listed a' w' (fun j => by simp [List.getElem?_drop]) (by rw [List.length_drop]; exact hp) hq
      rwa [List.length_drop] at this
    · simp only [planB, hsz, if_neg hlt, List.isEmpty_iff] at hp
      have hnl : n = l.length := by omega
      subst hnl
      rw [List.drop_length] at hq
      rw [Nat.sub_self]
      exact ⟨hp, hq⟩) _ _ _ _ hEL
  rw [show n + (l.length - n) = l.toArray.size by rw [hsz]; omega] at this
  exact this

/-! ### The steps of the walk -/
section
variable {Lq : Act → World → Prop} {r : TO} {a : Act} {w : World} {o : Oper}
theorem wpT_nil (h : ∀ W, Ext w W → Lq a W) : wpT P ops Lq .nil a w := h
theorem wpT_valK (hw : Region.wanted o (yielded ops a.tmps) = true) (h : ∀ K : Act → Prop, (∀ a, wpT P ops Lq r a w → K a) → ∃ v, (∀ W, Ext w W → (execOp a.eval o).run P W = .ok (.value v) W) ∧ K (a.put o.dst v)) : wpT P ops Lq (.q o r) a w := by
  obtain ⟨v, hv, h2⟩ := h _ fun _ h => h
  simp only [wpT, hw, if_true]
  exact ⟨v, fun W hW => by rw [hv W hW]; exact ⟨rfl, rfl⟩, ⟨h2⟩⟩
/-- a loud call: whatever it returns -/
theorem wpT_loudK (f : FuncId) (args : Array Value) (hw : Region.wanted o (yielded ops a.tmps) = true) (hv : ∀ W, (execOp a.eval o).run P W = .ok (.enter f args) W)
    (hc : ∀ W, Ext w W → Calls P f args W fun e w2 => ∃ v, e = .returned v ∧ Ext W w2 ∧ (∀ K : Act → Prop, (∀ a, wpT P ops Lq r a w2 → K a) → K (a.put o.dst v))) : wpT P ops Lq (.l o r) a w := by
  intro W hW
  simp only [hw, if_true, Oper.wp, hv W, Oper.upon]
  exact (hc W hW).mono fun e w2 ⟨v, he, hx, hp⟩ => by subst he; exact ⟨hx, hp _ fun _ h => h⟩
end
end
end Go.Proofs.Ytgcbodpjidoanaa
