/- The law on regions that draw their order, with a plan that may fork: where several operations may come up and none is quiet, each of them is walked. Small steps from world to world. Contracts of package box: all, Right. Contracts of package box: slices.Clone of a row, copied. Contracts of package box: both, Meets, Holds. -/
import Derived.Laws.OwnMore
import Derived.Lib.SliceRun
import Derived.Test.YtgcbodpjidoanaaK2
import Derived.Test.YtgcbodpjidoanaaK3
set_option linter.unusedVariables false
set_option linter.unusedSimpArgs false
namespace Go.Proofs.Ytgcbodpjidoanaa
open Go.RowKit

/-- a plan: q: a quiet operation, l: a loud one, alt: either of two plans -/
inductive Tr where
  | nil : Tr
  | q (i : Nat) (t : Tr) : Tr
  | l (i : Nat) (t : Tr) : Tr
  | alt (t u : Tr) : Tr
def Tr.heads : Tr → List Nat
  | .l i _ => [i]
  | .alt t u => t.heads ++ u.heads
  | _ => []
def Tr.deep : Tr → Nat → Bool
  | .nil, n => n == 0
  | .q _ t, n + 1 => t.deep n
  | .l _ t, n + 1 => t.deep n
  | .alt t u, n => t.deep n && u.deep n
  | _, _ => false
def Tr.within (m : Nat) : Tr → Bool
  | .nil => true
  | .q i t => decide (i < m) && t.within m
  | .l i t => decide (i < m) && t.within m
  | .alt t u => t.within m && u.within m

section
variable {P : Program} {ops : Array Oper} {md : Region.Mode}
def treeB (md : Region.Mode) (ops : Array Oper) (n g : Nat) : Tr → Bool → Array Bool → Bool
  | .nil, top, listed => top && planB md ops n g [] listed
  | .q i t, top, listed => top && (decide (i < n) && ((Region.ready md ops listed).contains i && Region.free md ops listed i)) && treeB md ops n g t true (listed.setIfInBounds i true)
  | .l i t, top, listed => decide (i < n) && (!top || decide (Region.ready md ops listed = [i])) && ((Region.ready md ops listed).contains i && treeB md ops n g t true (listed.setIfInBounds i true))
  | .alt t u, top, listed => (!top || decide (Region.ready md ops listed = (Tr.alt t u).heads)) && (treeB md ops n g t false listed && treeB md ops n g u false listed)

/-- the plan with the operations written out -/
inductive TO where
  | nil : TO
  | q (o : Oper) (t : TO) : TO
  | l (o : Oper) (t : TO) : TO
  | alt (t u : TO) : TO
def pickT (l : List Oper) : Tr → TO
  | .nil => .nil
  | .q i t => .q (nthO l i) (pickT l t)
  | .l i t => .l (nthO l i) (pickT l t)
  | .alt t u => .alt (pickT l t) (pickT l u)

def wpT (P : Program) (ops : Array Oper) (Lq : Act → World → Prop) : TO → Act → World → Prop
  | .nil, a, w => ∀ W, Ext w W → Lq a W
  | .q o t, a, w => if Region.wanted o (yielded ops a.tmps) then ∃ v, (∀ W, Ext w W → qUpon P W v ((execOp a.eval o).run P W)) ∧ Held (wpT P ops Lq t (a.put o.dst v) w) else Held (wpT P ops Lq t (a.put o.dst undef) w)
  | .l o t, a, w => ∀ W, Ext w W → if Region.wanted o (yielded ops a.tmps) then o.wp P a W (fun a' w' => Ext W w' ∧ wpT P ops Lq t a' w') QF else Held (wpT P ops Lq t (a.put o.dst undef) W)
  | .alt t u, a, w => Held (wpT P ops Lq t a w) ∧ Held (wpT P ops Lq u a w)

theorem wpEL_of_tree {l : List Oper} {n g : Nat} {Lq : Act → World → Prop} (hsel : Region.noSelect l.toArray = true)
    (hjn : ∀ i, i < n → ∀ listed, HeadInv md l.toArray n listed → listed.getD i true = false → ∀ j ∈ Region.ready md l.toArray listed, j < n)
    (hdone : ∀ listed, planB md l.toArray n g [] listed = true → ∀ j ∈ Region.ready md l.toArray listed, n ≤ j) :
    ∀ (t : Tr) (f : Nat) (listed : Array Bool) (a : Act) (w : World), t.deep f = true → t.within l.length = true → HeadInv md l.toArray n listed → wpT P l.toArray Lq (pickT l t) a w →
      (treeB md l.toArray n g t true listed = true → wpEL P md l.toArray n (fun listed' a' w' => planB md l.toArray n g [] listed' = true ∧ Lq a' w') f listed a w) ∧
      (treeB md l.toArray n g t false listed = true → ∃ f', f = f' + 1 ∧ t.heads ≠ [] ∧ ∀ i ∈ t.heads, i < n ∧ ∀ W, Ext w W → eOp P l.toArray i (wpEL P md l.toArray n (fun listed' a' w' => planB md l.toArray n g [] listed' = true ∧ Lq a' w') f' (listed.setIfInBounds i true)) a W) := by
  intro t
  induction t with
  | nil =>
    intro f listed a w hd hin inv h
    have hf : f = 0 := by simpa [Tr.deep] using hd
    subst hf
    refine ⟨fun hB => fun W hW => ⟨by simpa [treeB] using hB, h W hW⟩, fun hB => by simp [treeB] at hB⟩
  | q i t ih =>
    intro f listed a w hd hin inv h
    rcases f with _ | f
    · simp [Tr.deep] at hd
    simp only [Tr.within, Bool.and_eq_true, decide_eq_true_eq] at hin
    refine ⟨fun hB => ?_, fun hB => by simp [treeB] at hB⟩
    simp only [treeB, Bool.true_and, Bool.and_eq_true, decide_eq_true_eq] at hB
    obtain ⟨⟨hi, hr, hf⟩, hB'⟩ := hB
    have hr' : i ∈ Region.ready md l.toArray listed := by simpa using hr
    have hoi : l.toArray[i]? = some (nthO l i) := by
      have := nthO_get l i hin.1
      simpa using this
    have inv' := inv.set hr' hi
    simp only [pickT, wpT] at h
    by_cases hw : Region.wanted (nthO l i) (yielded l.toArray a.tmps) = true
    · simp only [hw, if_true] at h
      obtain ⟨v, h1, h2⟩ := h
      exact wpEL_first hoi (Region.noSelect_spec hsel) (hjn i hi) hi (fun listed' a' w' hL => hdone listed' hL.1) f listed a w inv (Region.free_spec hoi hf) hr' (.inl ⟨hw, h1⟩)
        ((ih f _ _ w (by simpa [Tr.deep] using hd) hin.2 inv' h2.out).1 hB')
    · simp only [hw] at h
      exact wpEL_first (v := undef) hoi (Region.noSelect_spec hsel) (hjn i hi) hi (fun listed' a' w' hL => hdone listed' hL.1) f listed a w inv (Region.free_spec hoi hf) hr' (.inr ⟨by simpa using hw, rfl⟩)
        ((ih f _ _ w (by simpa [Tr.deep] using hd) hin.2 inv' h.out).1 hB')
  | l i t ih =>
    intro f listed a w hd hin inv h
    rcases f with _ | f
    · simp [Tr.deep] at hd
    simp only [Tr.within, Bool.and_eq_true, decide_eq_true_eq] at hin
    have hoi : l.toArray[i]? = some (nthO l i) := by
      have := nthO_get l i hin.1
      simpa using this
    have key : ∀ hi : i < n, i ∈ Region.ready md l.toArray listed → treeB md l.toArray n g t true (listed.setIfInBounds i true) = true →
        ∀ W, Ext w W → eOp P l.toArray i (wpEL P md l.toArray n (fun listed' a' w' => planB md l.toArray n g [] listed' = true ∧ Lq a' w') f (listed.setIfInBounds i true)) a W := by
      intro hi hr hB' W hW
      have ih' := fun a' w' h' => (ih f (listed.setIfInBounds i true) a' w' (by simpa [Tr.deep] using hd) hin.2 (inv.set hr hi) h').1 hB'
      simp only [pickT, wpT] at h
      have h1 := h W hW
      unfold eOp
      simp only [hoi]
      split
      · rename_i hw
        simp only [hw, if_true] at h1
        exact Oper.wp_mono (fun a' w' h2 => ⟨h2.1, ih' a' w' h2.2⟩) h1
      · rename_i hw
        simp only [hw] at h1
        exact ih' _ _ h1.out
    constructor
    · intro hB
      simp only [treeB, Bool.not_true, Bool.false_or, Bool.and_eq_true, decide_eq_true_eq] at hB
      obtain ⟨⟨hi, hrd⟩, hr, hB'⟩ := hB
      have hr' : i ∈ Region.ready md l.toArray listed := by simpa using hr
      refine ⟨by rw [hrd]; simp, fun j hj => ?_⟩
      rw [hrd] at hj
      have hji : j = i := by simpa using hj
      subst hji
      exact ⟨hi, key hi hr' hB'⟩
    · intro hB
      simp only [treeB, Bool.not_false, Bool.true_or, Bool.and_true, Bool.and_eq_true, decide_eq_true_eq] at hB
      obtain ⟨hi, hr, hB'⟩ := hB
      have hr' : i ∈ Region.ready md l.toArray listed := by simpa using hr
      refine ⟨f, rfl, by simp [Tr.heads], fun j hj => ?_⟩
      have hji : j = i := by simpa [Tr.heads] using hj
      subst hji
      exact ⟨hi, key hi hr' hB'⟩
  | alt t u iht ihu =>
    intro f listed a w hd hin inv h
    simp only [Tr.deep, Bool.and_eq_true] at hd
    simp only [Tr.within, Bool.and_eq_true] at hin
    simp only [pickT, wpT] at h
    have h2 : treeB md l.toArray n g t false listed = true → treeB md l.toArray n g u false listed = true → ∃ f', f = f' + 1 ∧ (Tr.alt t u).heads ≠ [] ∧ ∀ i ∈ (Tr.alt t u).heads, i < n ∧ ∀ W, Ext w W → eOp P l.toArray i (wpEL P md l.toArray n (fun listed' a' w' => planB md l.toArray n g [] listed' = true ∧ Lq a' w') f' (listed.setIfInBounds i true)) a W := by
      intro ht hu
      obtain ⟨f', e1, ne1, k1⟩ := (iht f listed a w hd.1 hin.1 inv h.1.out).2 ht
      obtain ⟨f'', e2, ne2, k2⟩ := (ihu f listed a w hd.2 hin.2 inv h.2.out).2 hu
      obtain rfl : f' = f'' := by omega
      refine ⟨f', e1, by simp [Tr.heads, ne1], fun i hi => ?_⟩
      rcases List.mem_append.1 (show i ∈ t.heads ++ u.heads from hi) with h | h
      · exact k1 i h
      · exact k2 i h
    constructor
    · intro hB
      simp only [treeB, Bool.not_true, Bool.false_or, Bool.and_eq_true, decide_eq_true_eq] at hB
      obtain ⟨hrd, ht, hu⟩ := hB
      obtain ⟨f', rfl, ne, k⟩ := h2 ht hu
      refine ⟨by rw [hrd]; exact ne, fun j hj => ?_⟩
      rw [hrd] at hj
      exact k j hj
    · intro hB
      simp only [treeB, Bool.not_false, Bool.true_or, Bool.true_and, Bool.and_eq_true] at hB
      exact h2 hB.1 hB.2

/-- the whole check, by the kernel -/
def forkB (l : List Oper) (n : Nat) (t : Tr) : Bool :=
  Region.noSelect l.toArray && decide (n ≤ l.length) && t.deep n && t.within l.length &&
  (if n < l.length then Region.sinkB .any l.toArray n && Region.chainB .any l.toArray n else true) && treeB .any l.toArray n (l.length - n) t true (Array.replicate l.length false)

theorem wp_region_fork {id : Nat} {Q : Exit → Act → World → Prop} {a : Act} {w : World} {l : List Oper} (n : Nat) (t : Tr) (hm : P.follows .mixedOrders = true) (hB : forkB l n t = true)
    (h : wpT P l.toArray (fun a' w' => wpList P l.toArray Q (l.drop n) a' w') (pickT l t) a w.drew) : (Code.region id l.toArray true).wp P Q a w := by
  simp only [forkB, Bool.and_eq_true, decide_eq_true_eq] at hB
  obtain ⟨⟨⟨⟨⟨hsel, hn⟩, hdeep⟩, hwi⟩, htail⟩, hplan⟩ := hB
  have hsz : l.toArray.size = l.length := by simp
  have hplan' : treeB .any l.toArray n (l.length - n) t true (Array.replicate l.toArray.size false) = true := by rw [hsz]; exact hplan
  have inv0 : HeadInv .any l.toArray n (Array.replicate l.toArray.size false) :=
    ⟨by simp, fun j oj _ hl => (by rw [getD_replicate_false] at hl; cases hl), fun t _ ht => getD_in (by simpa using ht) (getD_replicate_false _ _)⟩
  have hjn : ∀ i, i < n → ∀ listed, HeadInv .any l.toArray n listed → listed.getD i true = false → ∀ j ∈ Region.ready .any l.toArray listed, j < n := fun i hi listed inv hun j hj => by
    by_cases hlt : n < l.length
    · rw [if_pos hlt] at htail
      simp only [Bool.and_eq_true] at htail
      rcases Nat.lt_or_ge j n with h1 | h1
      · exact h1
      · exact absurd hj (tail_waits htail.1 htail.2 (by rw [hsz]; exact hlt) inv _ i rfl hi hun j h1)
    · obtain ⟨_, oj, hoj, _⟩ := mem_ready.1 hj
      have := (Array.getElem?_eq_some_iff.1 hoj).1
      rw [hsz] at this; omega
  have hdone : ∀ listed, planB .any l.toArray n (l.length - n) [] listed = true → ∀ j ∈ Region.ready .any l.toArray listed, n ≤ j := fun listed hp j hj => by
    simp only [planB] at hp
    split at hp
    · exact seqB_ready hp j hj
    · simp only [List.isEmpty_iff] at hp
      rw [hp] at hj; cases hj
  have hEL := (wpEL_of_tree (P := P) (g := l.length - n) hsel hjn hdone t n _ a w.drew hdeep hwi inv0 h).1 hplan'
  refine wp_region_any hm ?_
  have := wpAny_of_EL (Q := Q) (g := l.length - n) (fun listed a' w' hL => by
    obtain ⟨hp, hq⟩ := hL
    by_cases hlt : n < l.length
    · simp only [planB, hsz, if_pos hlt] at hp
      have := wpAny_of_seq (md := .any) (Q' := Q) (l.drop n) n listed a' w' (fun j => by simp [List.getElem?_drop]) (by rw [List.length_drop]; exact hp) hq
      rwa [List.length_drop] at this
    · simp only [planB, hsz, if_neg hlt, List.isEmpty_iff] at hp
      have hnl : n = l.length := by omega
      subst hnl
      rw [List.drop_length] at hq
      rw [Nat.sub_self]
      exact ⟨hp, hq⟩) _ _ _ _ hEL
  rw [show n + (l.length - n) = l.toArray.size by rw [hsz]; omega] at this
  exact this

/-! ### The steps of the walk -/
section
variable {Lq : Act → World → Prop} {r : TO} {a : Act} {w : World} {o : Oper}
theorem wpT_nil (h : ∀ W, Ext w W → Lq a W) : wpT P ops Lq .nil a w := h
theorem wpT_alt {t u : TO} (ht : wpT P ops Lq t a w) (hu : wpT P ops Lq u a w) : wpT P ops Lq (.alt t u) a w := ⟨⟨ht⟩, ⟨hu⟩⟩
theorem wpT_valK (hw : Region.wanted o (yielded ops a.tmps) = true) (h : ∀ K : Act → Prop, (∀ a, wpT P ops Lq r a w → K a) → ∃ v, (∀ W, Ext w W → (execOp a.eval o).run P W = .ok (.value v) W) ∧ K (a.put o.dst v)) : wpT P ops Lq (.q o r) a w := by
  obtain ⟨v, hv, h2⟩ := h _ fun _ h => h
  simp only [wpT, hw, if_true]
  exact ⟨v, fun W hW => by rw [hv W hW]; exact ⟨rfl, rfl⟩, ⟨h2⟩⟩
theorem wpT_skipK (hw : Region.wanted o (yielded ops a.tmps) = false) (h : ∀ K : Act → Prop, (∀ a, wpT P ops Lq r a w → K a) → K (a.put o.dst undef)) : wpT P ops Lq (.q o r) a w := by
  simp only [wpT, hw, Bool.false_eq_true, if_false]
  exact ⟨h _ fun _ h => h⟩
theorem wpT_skipK' (hw : Region.wanted o (yielded ops a.tmps) = false) (h : ∀ W, Ext w W → ∀ K : Act → Prop, (∀ a, wpT P ops Lq r a W → K a) → K (a.put o.dst undef)) : wpT P ops Lq (.l o r) a w := by
  intro W hW
  simp only [hw, Bool.false_eq_true, if_false]
  exact ⟨h W hW _ fun _ h => h⟩
theorem wpT_callK (v : Value) (f : FuncId) (args : Array Value) (hw : Region.wanted o (yielded ops a.tmps) = true) (hv : ∀ W, (execOp a.eval o).run P W = .ok (.enter f args) W)
    (hc : ∀ W, Ext w W → Calls P f args W fun e w2 => e = .returned v ∧ Ext W w2) (h : ∀ K : Act → Prop, (∀ a, wpT P ops Lq r a w → K a) → K (a.put o.dst v)) : wpT P ops Lq (.q o r) a w := by
  simp only [wpT, hw, if_true]
  exact ⟨v, fun W hW => by rw [hv W]; exact ⟨rfl, hc W hW⟩, ⟨h _ fun _ h => h⟩⟩
/-- a loud call: whatever it returns -/
theorem wpT_loudK (f : FuncId) (args : Array Value) (hw : Region.wanted o (yielded ops a.tmps) = true) (hv : ∀ W, (execOp a.eval o).run P W = .ok (.enter f args) W)
    (hc : ∀ W, Ext w W → Calls P f args W fun e w2 => ∃ v, e = .returned v ∧ Ext W w2 ∧ (∀ K : Act → Prop, (∀ a, wpT P ops Lq r a w2 → K a) → K (a.put o.dst v))) : wpT P ops Lq (.l o r) a w := by
  intro W hW
  simp only [hw, if_true, Oper.wp, hv W, Oper.upon]
  exact (hc W hW).mono fun e w2 ⟨v, he, hx, hp⟩ => by subst he; exact ⟨hx, hp _ fun _ h => h⟩
theorem wpT_buildK (hw : Region.wanted o (yielded ops a.tmps) = true) (h : ∀ W, Ext w W → ∃ v w', ((execOp a.eval o).run P W = .ok (.value v) w' ∧ Ext W w') ∧ (∀ K : Act → Prop, (∀ a, wpT P ops Lq r a w' → K a) → K (a.put o.dst v))) : wpT P ops Lq (.l o r) a w := by
  intro W hW
  obtain ⟨v, w', h1, h3⟩ := h W hW
  simp only [hw, if_true, Oper.wp, h1.1, Oper.upon]
  exact ⟨h1.2, h3 _ fun _ h => h⟩
end
end
end Go.Proofs.Ytgcbodpjidoanaa
namespace Go.Proofs.Ytgcbodpjidoanaa
open Go.RowKit
theorem bstep {w w1 w2 : World} (h : Below w.heap.size w w1) (k : Below w1.heap.size w1 w2) : Below w.heap.size w w2 := h.trans (k.mono h.size)
theorem two_set0 {w : World} {g : Nat} {t : TypeId} {x y : Value} (h : Two w g t x y) (u : Value) : Two (w.setCell ⟨g, 0, none⟩ u) g t u y := by
  unfold Two at *
  simp [World.setCell, Array.getElem?_modify, h]
theorem two_set1 {w : World} {g : Nat} {t : TypeId} {x y : Value} (h : Two w g t x y) (u : Value) : Two (w.setCell ⟨g, 1, none⟩ u) g t x u := by
  unfold Two at *
  simp [World.setCell, Array.getElem?_modify, h]
theorem cell_below {B : Nat} {w w' : World} {a : Addr} {v : Value} (h : Below B w w') (hb : a.block < B) (hc : w.cell? a = some v) : w'.cell? a = some v :=
  (World.cell?_of_block (w := w) (h.block a.block hb)).trans hc
/-- two rows of the call's own don't share a block -/
def Sep (v u : Value) : Prop := v.ownBlock = none ∨ v.ownBlock ≠ u.ownBlock
theorem Sep.symm {v u : Value} (h : Sep v u) : Sep u v := by
  unfold Sep at *
  rcases h with h | h
  · rcases hu : u.ownBlock with _ | b
    · exact .inl rfl
    · right; rw [h]; simp
  · exact .inr (Ne.symm h)
theorem Sep.after {w : World} {base : Nat} {e : TypeId} {size n : Nat} {v u u' : Value} {xs : List Value} (h : Sep v u) (hv : w.ownsRow base e size v n xs) (hat : u'.ownBlock = u.ownBlock ∨ u'.ownBlock = some w.heap.size) : Sep v u' := by
  unfold Sep at *
  rcases hat with hat | hat
  · rw [hat]; exact h
  · rcases hb : v.ownBlock with _ | b
    · exact .inl rfl
    · right
      have := (hv.lt b hb).2
      rw [hat]
      intro hh
      injection hh with hh
      omega
end Go.Proofs.Ytgcbodpjidoanaa
namespace Go.Proofs.Ytgcbodpjidoanaa
open Go.RowKit

theorem range_all_succ (f : Nat → Bool) (k : Nat) : (List.range (k + 1)).all f = ((List.range k).all f && f k) := by simp [List.range_succ]
theorem range_all_false (f : Nat → Bool) (n k : Nat) (hk : k < n) (h : f k = false) : (List.range n).all f = false := by
  rw [List.all_eq_false]
  exact ⟨k, by simpa using hk, by simp [h]⟩

theorem all_any (n : Nat) (fv : Value) (fn : Nat) (caps : Array Value) (hfv : fv = .func (.func fn) #[] caps) (f : Nat → Bool) (w : World) (hn : n ≤ 1000000)
    (henter : ∀ args W, (callFunc fn args).run Try.prog W = .ok (.enter fn args) W)
    (hside : ∀ (i : Nat) (W : World), i < n → Below w.heap.size w W → Calls Try.prog fn (#[.int .i64 i] ++ caps) W fun e W' => e = .returned (.bool (f i)) ∧ ∃ nq, W.drewN nq = W') :
    Calls Try.prog 179 #[.int .i64 n, fv] w fun e w' => e = .returned (.bool ((List.range n).all f)) ∧ Below w.heap.size w w' := by
  subst hfv
  have HS := hideP hside
  clear hside
  go_enter Try.func179, Try.ntmps179
  go_wp2
  go_loopw [7] (fun v7 wr => ∃ k : Nat, k ≤ n ∧ v7 = .int .i64 k ∧ Hid ((List.range k).all f = true ∧ Below w.heap.size w wr)) (fun v7 _ => n - (intOf v7).toNat)
  case atStart => exact ⟨0, by omega, rfl, rfl, Below.refl _ _⟩
  case round =>
    obtain ⟨k, hk, rfl, hW⟩ := hrel
    by_cases hlt : k < n
    · have t : decide ((k : Int) < n) = true := by simp; omega
      go_wp2_with fail
      refine (HS.out k wr hlt hW.out.2).mono ?_
      rintro e w1 ⟨rfl, nq, hw1⟩
      have hbel : Below w.heap.size w w1 := by rw [← hw1]; exact below_drewN hW.out.2 _
      clear hw1
      obtain ⟨b, hb⟩ : ∃ b, b = f k := ⟨_, rfl⟩
      rw [← hb]
      have HB := hideP hb; have BL := hideP hbel
      clear hb hbel
      cases b
      · have hf := hideP (range_all_false f n k hlt HB.out.symm)
        go_wp2
        go_ret
        exact ⟨by rw [hf.out]; rfl, BL.out⟩
      · have hf := hideP (show (List.range (k + 1)).all f = true by rw [range_all_succ, hW.out.1, ← HB.out]; rfl)
        clear hW
        go_wp2
        go_roundw
        case rel => exact ⟨k + 1, by omega, by go_num, hf.out, BL.out⟩
        case measure => simp [intOf]; omega
    · have t : decide ((k : Int) < n) = false := by simp; omega
      have hf := hideP (show (List.range n).all f = true by rw [show n = k by omega]; exact hW.out.1)
      go_wp2
      go_ret
      exact ⟨by rw [hf.out]; rfl, hW.out.2⟩

/-- on each side the lesser number is not greater -/
def leAll (lo hi : List Int) (n : Nat) : Bool := (List.range n).all fun i => decide (lo.getD i 0 ≤ hi.getD i 0)
def rightB (lo hi : List Int) (d : Int) : Bool := decide (1 ≤ d) && decide (d ≤ 8) && decide ((lo.length : Int) = d) && decide ((hi.length : Int) = d) && leAll lo hi lo.length
theorem rightB_len {lo hi : List Int} {d : Int} (h : rightB lo hi d = true) : 1 ≤ d ∧ d ≤ 8 ∧ (lo.length : Int) = d ∧ (hi.length : Int) = d ∧ leAll lo hi lo.length = true := by
  unfold rightB at h
  simpa [and_assoc] using h

theorem right1 (i : Nat) (g : Nat) (L H : Option Addr) (lo hi : List Int) (n m d s : Nat) (w : World) (h1 : w.cell? ⟨g, 0, none⟩ = some (.slice L n d)) (h2 : w.cell? ⟨g, 1, none⟩ = some (.slice H m s))
    (hL : Arr w w.heap.size L n (i64s lo)) (hH : Arr w w.heap.size H m (i64s hi)) (hi0 : i < n) (hi' : i < m) :
    Calls Try.prog 180 (#[.int .i64 i] ++ #[.pointer (some ⟨g, 0, none⟩)]) w fun e w' => e = .returned (.bool (decide (lo.getD i 0 ≤ hi.getD i 0))) ∧ ∃ nq, w.drewN nq = w' := by
  obtain ⟨b, off, rfl, hb, hc⟩ := hL (by omega)
  obtain ⟨b', off', rfl, hb', hc'⟩ := hH (by omega)
  have k1 := hc i hi0
  have k2 := hc' i hi'
  unfold i64s at k1 k2
  obtain ⟨x, ex⟩ : ∃ x, x = lo.getD i 0 := ⟨_, rfl⟩
  obtain ⟨y, ey⟩ : ∃ y, y = hi.getD i 0 := ⟨_, rfl⟩
  rw [← ex] at k1 ⊢
  rw [← ey] at k2 ⊢
  have i0 : (0 : Int) ≤ (i : Int) := by omega
  have i1 : (i : Int) < (n : Int) := by omega
  have i2 : (i : Int) < (m : Int) := by omega
  clear hc hc' hL hH ex ey
  go_enter Try.func180, Try.ntmps180
  go_wp2
  go_quiet (fail)
  go_wp2
  go_ret
  exact ⟨rfl, ⟨_, rfl⟩⟩

set_option maxHeartbeats 1000000 in
theorem right_any (L H : Option Addr) (lo hi : List Int) (dl sh : Nat) (d : Int) (w : World) (hL : Arr w w.heap.size L lo.length (i64s lo)) (hH : Arr w w.heap.size H hi.length (i64s hi)) :
    Calls Try.prog 102 #[.agg #[.slice L lo.length dl, .slice H hi.length sh], .int .i64 d] w fun e w' => e = .returned (.bool (rightB lo hi d)) ∧ Below w.heap.size w w' := by
  have HL := hideP hL; have HH := hideP hH
  clear hL hH
  by_cases h1 : 1 ≤ d
  case neg =>
    have hr := hideP (show rightB lo hi d = false by simp [rightB, h1])
    have t : decide (d < 1) = true := by simp; omega
    go_enter Try.func102, Try.ntmps102
    go_wp2
    go_ret
    exact ⟨by rw [hr.out]; rfl, below_new _ _⟩
  have t1 : decide (d < 1) = false := by simp; omega
  by_cases h2 : d ≤ 8
  case neg =>
    have hr := hideP (show rightB lo hi d = false by simp [rightB, h2])
    have t : decide (8 < d) = true := by simp; omega
    go_enter Try.func102, Try.ntmps102
    go_wp2
    go_ret
    exact ⟨by rw [hr.out]; rfl, below_new _ _⟩
  have t2 : decide (8 < d) = false := by simp; omega
  by_cases h3 : (lo.length : Int) = d
  case neg =>
    have hr := hideP (show rightB lo hi d = false by simp [rightB, h3])
    have t : ((lo.length : Int) != d) = true := by simp [h3]
    clear h3
    go_enter Try.func102, Try.ntmps102
    go_wp2
    go_ret
    exact ⟨by rw [hr.out]; rfl, below_new _ _⟩
  have t3 : ((lo.length : Int) != d) = false := by simp [h3]
  by_cases h4 : (hi.length : Int) = d
  case neg =>
    have hr := hideP (show rightB lo hi d = false by simp [rightB, h4])
    have t : ((hi.length : Int) != d) = true := by simp [h4]
    clear h3 h4
    go_enter Try.func102, Try.ntmps102
    go_wp2
    go_ret
    exact ⟨by rw [hr.out]; rfl, below_new _ _⟩
  have t4 : ((hi.length : Int) != d) = false := by simp [h4]
  obtain ⟨n, hn⟩ : ∃ n, n = lo.length := ⟨_, rfl⟩
  have hm : hi.length = n := by omega
  obtain rfl : d = n := by omega
  have hr := hideP (show rightB lo hi n = leAll lo hi n by unfold rightB; simp only [decide_true, Bool.true_and, hn ▸ h1, h2, ← hn, hm, decide_eq_true h1])
  have h8 : n ≤ 8 := by omega
  rw [hm] at HH t4 ⊢
  rw [← hn] at HL t3 ⊢
  clear h1 h2 h3 h4 hn hm
  go_enter Try.func102, Try.ntmps102
  go_wp2_with fail
  obtain ⟨w1, hw1⟩ : ∃ w1, w1 = w.alloc (Obj.cells #[.slice L n dl, .slice H n sh] 41) := ⟨_, rfl⟩
  have c1 := hideP (show Two w1 w.heap.size 41 (.slice L n dl) (.slice H n sh) by rw [hw1]; exact Two.new _ _ _ _)
  have cb := hideP (show Below w.heap.size w w1 by rw [hw1]; exact below_new _ _)
  rw [← hw1]
  clear hw1
  refine (all_any n _ 180 #[.pointer (some ⟨w.heap.size, 0, none⟩)] rfl (fun i => decide (lo.getD i 0 ≤ hi.getD i 0)) w1 (by omega) (run_enter Try.func180 rfl rfl) (fun i W hi hW => ?_)).mono ?_
  · exact right1 i _ L H _ _ n n dl sh W (c1.out.after hW).c0 (c1.out.after hW).c1 ((HL.out.after cb.out).after hW) ((HH.out.after cb.out).after hW) hi hi
  rintro e w2 ⟨rfl, hb⟩
  replace cb := hideP (bstep cb.out hb)
  clear hb
  go_wp2
  go_ret
  exact ⟨by rw [hr.out]; rfl, cb.out⟩
end Go.Proofs.Ytgcbodpjidoanaa
namespace Go.Proofs.Ytgcbodpjidoanaa
open Go.RowKit
theorem info_i64 : (Try.prog.info? 2).map (fun i => (i.zero, i.size, i.bytes)) = some (some (.int .i64 0), 1, 8) := by kernel_rfl
/-- a row of the call's own -/
def Own (w : World) (base : Nat) (R : Option Addr) (s : Nat) (l : List Int) : Prop := w.ownsRow base 2 1 (.slice R l.length s) l.length (l.map (Value.int .i64))
theorem Own.arr {w : World} {base : Nat} {R : Option Addr} {s : Nat} {l : List Int} (h : Own w base R s l) : Arr w w.heap.size R l.length (i64s l) :=
  Arr.of_own h fun i hi => by unfold i64s; simp [List.getD, List.getElem?_map, List.getElem?_eq_getElem hi]
theorem map_i64s (l : List Int) : (List.range l.length).map (i64s l) = l.map (Value.int .i64) := by
  refine List.ext_getElem? fun i => ?_
  rcases Nat.lt_or_ge i l.length with h | h
  · simp [List.getElem?_map, List.getElem?_range h, i64s, List.getD, List.getElem?_eq_getElem h]
  · simp [h]
theorem Own.mono {w : World} {base base' : Nat} {R : Option Addr} {s : Nat} {l : List Int} (h : Own w base R s l) (hb : base' ≤ base) : Own w base' R s l :=
  ⟨h.1, h.2.imp id fun ⟨g, cap, cur, hv, hg, r⟩ => ⟨g, cap, cur, hv, Nat.le_trans hb hg, r⟩⟩
theorem Own.ext {w W : World} {base : Nat} {R : Option Addr} {s : Nat} {l : List Int} (h : Own w base R s l) (hW : Ext w W) : Own W base R s l := ownsRow_ext h hW

set_option maxRecDepth 100000 in
set_option maxHeartbeats 1000000 in
theorem clone_any (A : Option Addr) (l : List Int) (c : Nat) (w : World) (hA : Arr w w.heap.size A l.length (i64s l)) (hn : l.length ≤ 17592186043904) :
    Calls Try.prog 108 #[.slice A l.length c] w fun e w' => ∃ R s, e = .returned (.slice R l.length s) ∧ Below w.heap.size w w' ∧ Own w' w.heap.size R s l := by
  obtain ⟨i0, hi0, hz0, hz1, hz2⟩ := info_parts info_i64
  have qT : ∀ (w : World) (a : Option Addr) (n c n' c' : Nat), (binOp .eql 39 (.slice a n c) (.slice none n' c')).run Try.prog w = .ok (.bool a.isNone) w := fun w a n c n' c' => Lib.run_eql_slice_nil w _ _ a n c n' c' Try.underlying39
  rcases A with _ | ad
  · have h0 : l.length = 0 := by
      rcases Nat.eq_zero_or_pos l.length with h | h
      · exact h
      · obtain ⟨_, _, h, _⟩ := hA h; cases h
    obtain rfl : l = [] := List.length_eq_zero_iff.1 h0
    clear h0 hA
    go_enter Try.func108, Try.ntmps108
    go_wp2
    go_ret
    exact ⟨none, 0, rfl, Below.refl _ _, World.ownsRow_nil _ _ _ _⟩
  · have HA := hideP hA
    clear hA
    obtain ⟨n, hn'⟩ : ∃ n, n = l.length := ⟨_, rfl⟩
    have HN := hideP hn'
    rw [← hn'] at hn HA ⊢
    clear hn'
    go_enter Try.func108, Try.ntmps108
    have hown := World.ownsRow_lit (base := w.heap.size) (e := 2) (size := 1) w #[] 0 (Nat.le_refl _) (Nat.zero_le _) rfl
    have aA := HA.out.after (below_new w (Obj.cells #[] 2))
    have b1 : w.heap.size ≤ (w.alloc (Obj.cells #[] 2)).heap.size := by simp
    go_wp2_with (at_builtin; refine wpList_append_arr (w.alloc (Obj.cells #[] 2)) rfl (.tmp 5) (.tmp 6) 39 rfl w.heap.size 2 i0 _ 8 Try.underlying39 hi0 hz0 hz1 hz2 rfl (.slice (some ⟨w.heap.size, 0, none⟩) 0 0) 0 _ rfl hown _ (some ad) n c (i64s l) rfl aA (fun _ => rfl) (by unfold maxLen; omega) (by omega) b1 ?_; intro A3 c3 w3 hown3 hg3 hat3)
    go_ret
    refine ⟨A3, c3, rfl, (below_new _ _).trans (below_own hown hg3 (Nat.le_refl _) b1), ?_⟩
    unfold Own
    rw [← HN.out, ← map_i64s, ← HN.out]
    simpa using hown3
theorem own_setCell {w : World} {base : Nat} {R : Option Addr} {s : Nat} {l : List Int} {a : Addr} (h : Own w base R s l) (ha : a.block < base) (v : Value) : Own (w.setCell a v) base R s l := by
  refine ⟨h.1, h.2.imp id ?_⟩
  rintro ⟨g, cap, cur, hv, hg, hh, r⟩
  exact ⟨g, cap, cur, hv, hg, (Below.heap_setCell _ _ _ _ (by omega)).trans hh, r⟩
theorem sep_fresh {W W2 : World} {base : Nat} {R R' : Option Addr} {s s' : Nat} {l l' : List Int} (h1 : Own W base R s l) (h2 : Own W2 W.heap.size R' s' l') : Sep (.slice R' l'.length s') (.slice R l.length s) := by
  unfold Sep
  rcases hb : (Value.slice R' l'.length s').ownBlock with _ | b
  · exact .inl rfl
  · right
    have h3 := (World.ownsRow.lt h2 b hb).1
    intro hh
    have := (World.ownsRow.lt h1 b hh.symm).2
    omega

/-- the end of a function whose one result is a box in a variable -/
theorem ret_box {fn : Func} {p : Tmp} {a : Act} {w : World} {R : Ending → World → Prop} (h : fn.results = #[.cell p 41]) {g : Nat} {x y : Value}
    (hp : a.tmps.getD p undef = .pointer (some ⟨g, 0, none⟩)) (hg : w.heap[g]? = some (.cells #[x, y] 41 (0, 0))) (hd : a.defers = []) (hR : R (.returned (.agg #[x, y])) w) : bodyPost Try.prog fn R .ret a w :=
  bodyPost_ret (results_cell_row h _ w g 41 #[x, y] (0, 0) _ hp hg Try.underlying41 rfl (by kernel_rfl)) hd hR

set_option maxRecDepth 100000 in
set_option maxHeartbeats 1000000 in
theorem copied_any (L H : Option Addr) (lo hi : List Int) (dl sh : Nat) (w : World) (hL : Arr w w.heap.size L lo.length (i64s lo)) (hH : Arr w w.heap.size H hi.length (i64s hi)) (hn : lo.length ≤ 17592186043904) (hm : hi.length ≤ 17592186043904) :
    Calls Try.prog 182 #[.agg #[.slice L lo.length dl, .slice H hi.length sh]] w fun e w' => ∃ R s R' s', e = .returned (.agg #[.slice R lo.length s, .slice R' hi.length s']) ∧ Below w.heap.size w w' ∧ Own w' w.heap.size R s lo ∧ Own w' w.heap.size R' s' hi ∧ Sep (.slice R lo.length s) (.slice R' hi.length s') := by
  have t1 := fun W h => clone_any L lo dl W h hn
  have t2 := fun W h => clone_any H hi sh W h hm
  obtain ⟨n, hn'⟩ : ∃ n, n = lo.length := ⟨_, rfl⟩
  obtain ⟨m, hm'⟩ : ∃ n, n = hi.length := ⟨_, rfl⟩
  have HN := hideP hn'; have HM := hideP hm'
  rw [← hn'] at hn hL t1 ⊢
  rw [← hm'] at hm hH t2 ⊢
  clear hn' hm'
  have HhL := hideP hL; have HhH := hideP hH; have Ht1 := hideP t1; have Ht2 := hideP t2; clear hL hH t1 t2
  go_enter Try.func182, Try.ntmps182
  go_wp2
  obtain ⟨w1, hw1⟩ : ∃ w1, w1 = (w.alloc (Obj.cells #[.slice L n dl, .slice H m sh] 41)).alloc (Obj.cells #[.slice none 0 0, .slice none 0 0] 41) := ⟨_, rfl⟩
  have c1 := hideP (show Two w1 w.heap.size 41 (.slice L n dl) (.slice H m sh) by rw [hw1]; exact (Two.new _ _ _ _).alloc _)
  have c2 := hideP (show Two w1 (w.heap.size + 1) 41 (.slice none 0 0) (.slice none 0 0) by rw [hw1]; exact Two.new' _ _ _ _ _ (by simp))
  have cb := hideP (show Below w.heap.size w w1 by rw [hw1]; exact (below_new _ _).alloc (by simp) _)
  rw [← hw1]
  clear hw1
  have kc10 := c1.out.c0; have kc11 := c1.out.c1
  refine wp_region_fork 7 (.q 0 (.q 1 (.q 3 (.q 4 (.l 2 (.l 5 (.q 6 .nil))))))) (by kernel_rfl) (by kernel_rfl) ?_
  simp only [pickT, nthO_zero, nthO_succ]
  iterate 4 (refine wpT_valK (by rfl) (fun K hK => ?_); apply Exists.intro; refine ⟨fun W hW => ?_, ?_⟩; (focus (have hs0 := hW.cell kc10; have hs1 := hW.cell kc11; go_simp; (try rfl); done)); go_simp; refine hK _ ?_; clear hK K)
  refine wpT_loudK 108 #[.slice L n dl] (by rfl) (fun W => by go_simp) (fun W hW => (Ht1.out W (HhL.out.after (below_ext cb.out hW.drew_left))).mono ?_)
  rintro e w2 ⟨R, s, rfl, hb, hown⟩
  refine ⟨_, rfl, Ext.of_below hb, fun K hK => ?_⟩
  go_simp
  refine hK _ ?_
  clear hK K
  have c3 := hideP ((c2.out.ext hW.drew_left).after hb)
  have cb2 := hideP (bstep (below_ext cb.out hW.drew_left) hb)
  have o1 := hideP hown
  have s1 := hideP (c2.out.ext hW.drew_left).lt
  clear hb hown hW c1 c2 cb kc10 kc11 w1
  refine wpT_loudK 108 #[.slice H m sh] (by rfl) (fun W => by go_simp) (fun W2 hW => (Ht2.out W2 (HhH.out.after (below_ext cb2.out hW))).mono ?_)
  rintro e w3 ⟨R', s', rfl, hb, hown⟩
  refine ⟨_, rfl, Ext.of_below hb, fun K hK => ?_⟩
  go_simp
  refine hK _ ?_
  clear hK K
  have o2 := hideP hown
  have s2 := hideP (c3.out.ext hW).lt
  replace c3 := hideP ((c3.out.ext hW).after hb)
  replace cb2 := hideP (bstep (below_ext cb2.out hW) hb)
  have o1' := hideP (o1.out.ext hW)
  have sp := hideP (sep_fresh o1'.out o2.out)
  replace o1 := hideP (o1'.out.ext (Ext.of_below hb))
  clear hb hown hW o1'
  refine wpT_valK (by rfl) (fun K hK => ?_); apply Exists.intro; refine ⟨fun W hW => ?_, ?_⟩; (focus (go_simp; (try rfl); done)); go_simp; refine hK _ ?_; clear hK K
  refine wpT_nil (fun W3 hW => ?_)
  simp only [List.drop_succ_cons, List.drop_zero, List.drop_nil]
  replace o1 := hideP (o1.out.ext hW)
  replace o2 := hideP (o2.out.ext hW)
  replace c3 := hideP (c3.out.ext hW)
  replace cb2 := hideP (below_ext cb2.out hW)
  clear hW
  have f0 := c3.out.fz 0
  have f1 := c3.out.fz 1
  have kc30 := c3.out.c0; have kc31 := c3.out.c1
  go_wp2
  refine ret_box rfl rfl (c3.out.set2 _ _) rfl ?_
  have h1 := s1.out
  have h2 := s2.out
  refine ⟨R, s, R', s', rfl, (cb2.out.setCell (p := ⟨w.heap.size + 1, 0, none⟩) (by simp) _).setCell (p := ⟨w.heap.size + 1, 1, none⟩) (by simp) _, ?_, ?_, ?_⟩
  · exact (own_setCell (own_setCell o1.out (by simp; omega) _) (by simp; omega) _).mono (by omega)
  · exact (own_setCell (own_setCell o2.out (by simp; omega) _) (by simp; omega) _).mono (by omega)
  · rw [HN.out, HM.out]; exact sp.out.symm
end Go.Proofs.Ytgcbodpjidoanaa
namespace Go.Proofs.Ytgcbodpjidoanaa
open Go.RowKit

def bothB (alo ahi blo bhi : List Int) : Bool := rightB alo ahi alo.length && rightB blo bhi alo.length
set_option maxHeartbeats 1000000 in
theorem both_any (L H L' H' : Option Addr) (lo hi lo' hi' : List Int) (dl sh dl' sh' : Nat) (w : World) (hL : Arr w w.heap.size L lo.length (i64s lo)) (hH : Arr w w.heap.size H hi.length (i64s hi))
    (hL' : Arr w w.heap.size L' lo'.length (i64s lo')) (hH' : Arr w w.heap.size H' hi'.length (i64s hi')) :
    Calls Try.prog 202 #[.agg #[.slice L lo.length dl, .slice H hi.length sh], .agg #[.slice L' lo'.length dl', .slice H' hi'.length sh']] w fun e w' => e = .returned (.bool (bothB lo hi lo' hi')) ∧ Below w.heap.size w w' := by
  have t1 := fun W h h' => right_any L H lo hi dl sh lo.length W h h'
  have t2 := fun W h h' => right_any L' H' lo' hi' dl' sh' lo.length W h h'
  obtain ⟨p, hp⟩ : ∃ p, p = rightB lo hi lo.length := ⟨_, rfl⟩
  obtain ⟨q, hq⟩ : ∃ p, p = rightB lo' hi' lo.length := ⟨_, rfl⟩
  have hb := hideP (show bothB lo hi lo' hi' = (p && q) by unfold bothB; rw [hp, hq])
  rw [← hp] at t1
  rw [← hq] at t2
  clear hp hq
  have Ht1 := hideP t1; have Ht2 := hideP t2; have HhL := hideP hL; have HhH := hideP hH; have HhL' := hideP hL'; have HhH' := hideP hH'; clear t1 t2 hL hH hL' hH'
  go_enter Try.func202, Try.ntmps202
  go_wp2_with fail
  obtain ⟨w1, hw1⟩ : ∃ w1, w1 = (w.alloc (Obj.cells #[.slice L lo.length dl, .slice H hi.length sh] 41)).alloc (Obj.cells #[.slice L' lo'.length dl', .slice H' hi'.length sh'] 41) := ⟨_, rfl⟩
  have c1 := hideP (show Two w1 w.heap.size 41 (.slice L lo.length dl) (.slice H hi.length sh) by rw [hw1]; exact (Two.new _ _ _ _).alloc _)
  have c2 := hideP (show Two w1 (w.heap.size + 1) 41 (.slice L' lo'.length dl') (.slice H' hi'.length sh') by rw [hw1]; exact Two.new' _ _ _ _ _ (by simp))
  have cb := hideP (show Below w.heap.size w w1 by rw [hw1]; exact (below_new _ _).alloc (by simp) _)
  rw [← hw1]
  clear hw1
  refine (Ht1.out w1 (HhL.out.after cb.out) (HhH.out.after cb.out)).mono ?_
  rintro e w2 ⟨rfl, hb'⟩
  replace c1 := hideP (c1.out.after hb')
  replace c2 := hideP (c2.out.after hb')
  replace cb := hideP (bstep cb.out hb')
  clear hb'
  cases p
  · go_wp2
    go_ret
    exact ⟨by rw [hb.out]; rfl, cb.out⟩
  · skip
    have kc10 := c1.out.c0; have kc11 := c1.out.c1
    have kc20 := c2.out.c0; have kc21 := c2.out.c1
    go_wp2_with fail
    refine (Ht2.out w2 (HhL'.out.after cb.out) (HhH'.out.after cb.out)).mono ?_
    rintro e w3 ⟨rfl, hb'⟩
    clear kc10 kc11 kc20 kc21
    replace cb := hideP (bstep cb.out hb')
    clear hb'
    go_wp2
    go_ret
    exact ⟨by rw [hb.out]; rfl, cb.out⟩

def meetsB (alo ahi blo bhi : List Int) : Bool := bothB alo ahi blo bhi && (List.range alo.length).all fun i => decide (alo.getD i 0 ≤ bhi.getD i 0) && decide (blo.getD i 0 ≤ ahi.getD i 0)
theorem two_le (x y u v : Int) (P : Prop) : (decide (x ≤ y) && decide (u ≤ v)) = if x ≤ y then decide (u ≤ v) else false := by by_cases h : x ≤ y <;> simp [h]
theorem meets1 (i : Nat) (g g' : Nat) (L H L' H' : Option Addr) (lo hi lo' hi' : List Int) (n dl sh dl' sh' : Nat) (w : World) (h1 : w.cell? ⟨g, 0, none⟩ = some (.slice L n dl)) (h2 : w.cell? ⟨g, 1, none⟩ = some (.slice H n sh))
    (h1' : w.cell? ⟨g', 0, none⟩ = some (.slice L' n dl')) (h2' : w.cell? ⟨g', 1, none⟩ = some (.slice H' n sh'))
    (hL : Arr w w.heap.size L n (i64s lo)) (hH : Arr w w.heap.size H n (i64s hi)) (hL' : Arr w w.heap.size L' n (i64s lo')) (hH' : Arr w w.heap.size H' n (i64s hi')) (hi0 : i < n) :
    Calls Try.prog 203 (#[.int .i64 i] ++ #[.pointer (some ⟨g, 0, none⟩), .pointer (some ⟨g', 0, none⟩)]) w fun e w' => e = .returned (.bool (decide (lo.getD i 0 ≤ hi'.getD i 0) && decide (lo'.getD i 0 ≤ hi.getD i 0))) ∧ ∃ nq, w.drewN nq = w' := by
  obtain ⟨b, off, rfl, hb, hc⟩ := hL (by omega)
  obtain ⟨b', off', rfl, hb', hc'⟩ := hH (by omega)
  obtain ⟨b1, off1, rfl, hb1, hc1⟩ := hL' (by omega)
  obtain ⟨b2, off2, rfl, hb2, hc2⟩ := hH' (by omega)
  have k1 := hc i hi0
  have k2 := hc' i hi0
  have k3 := hc1 i hi0
  have k4 := hc2 i hi0
  unfold i64s at k1 k2 k3 k4
  obtain ⟨x, ex⟩ : ∃ x, x = lo.getD i 0 := ⟨_, rfl⟩
  obtain ⟨y, ey⟩ : ∃ y, y = hi'.getD i 0 := ⟨_, rfl⟩
  obtain ⟨u, eu⟩ : ∃ x, x = lo'.getD i 0 := ⟨_, rfl⟩
  obtain ⟨v, ev⟩ : ∃ y, y = hi.getD i 0 := ⟨_, rfl⟩
  rw [← ex] at k1 ⊢
  rw [← ev] at k2 ⊢
  rw [← eu] at k3 ⊢
  rw [← ey] at k4 ⊢
  have i0 : (0 : Int) ≤ (i : Int) := by omega
  have i1 : (i : Int) < (n : Int) := by omega
  clear hc hc' hc1 hc2 hL hH hL' hH' ex ey eu ev
  by_cases hxy : x ≤ y
  · have t : decide (x ≤ y) = true := by simp [hxy]
    rw [t]
    clear hxy
    go_enter Try.func203, Try.ntmps203
    go_wp2
    go_quiet (fail)
    go_wp2
    go_ret
    exact ⟨by simp, ⟨_, rfl⟩⟩
  · have t : decide (x ≤ y) = false := by simp; omega
    rw [t]
    clear hxy
    go_enter Try.func203, Try.ntmps203
    go_wp2
    go_quiet (fail)
    go_wp2
    go_ret
    exact ⟨by simp, ⟨_, rfl⟩⟩


set_option maxHeartbeats 1000000 in
theorem meets_any (L H L' H' : Option Addr) (lo hi lo' hi' : List Int) (dl sh dl' sh' : Nat) (w : World) (hL : Arr w w.heap.size L lo.length (i64s lo)) (hH : Arr w w.heap.size H hi.length (i64s hi))
    (hL' : Arr w w.heap.size L' lo'.length (i64s lo')) (hH' : Arr w w.heap.size H' hi'.length (i64s hi')) :
    Calls Try.prog 138 #[.agg #[.slice L lo.length dl, .slice H hi.length sh], .agg #[.slice L' lo'.length dl', .slice H' hi'.length sh']] w fun e w' => e = .returned (.bool (meetsB lo hi lo' hi')) ∧ Below w.heap.size w w' := by
  have t1 := fun W h h' h'' h3 => both_any L H L' H' lo hi lo' hi' dl sh dl' sh' W h h' h'' h3
  have hfacts : bothB lo hi lo' hi' = true → lo.length ≤ 8 ∧ hi.length = lo.length ∧ lo'.length = lo.length ∧ hi'.length = lo.length := fun h => by
    unfold bothB at h
    simp only [Bool.and_eq_true] at h
    have h1 := rightB_len h.1
    have h2 := rightB_len h.2
    omega
  obtain ⟨p, hp⟩ : ∃ p, p = bothB lo hi lo' hi' := ⟨_, rfl⟩
  have hb := hideP (show meetsB lo hi lo' hi' = (p && (List.range lo.length).all fun i => decide (lo.getD i 0 ≤ hi'.getD i 0) && decide (lo'.getD i 0 ≤ hi.getD i 0)) by unfold meetsB; rw [hp])
  rw [← hp] at t1 hfacts
  clear hp
  have HF := hideP hfacts
  clear hfacts
  have Ht1 := hideP t1; have HhL := hideP hL; have HhH := hideP hH; have HhL' := hideP hL'; have HhH' := hideP hH'; clear t1 hL hH hL' hH'
  go_enter Try.func138, Try.ntmps138
  go_wp2_with fail
  obtain ⟨w1, hw1⟩ : ∃ w1, w1 = (w.alloc (Obj.cells #[.slice L lo.length dl, .slice H hi.length sh] 41)).alloc (Obj.cells #[.slice L' lo'.length dl', .slice H' hi'.length sh'] 41) := ⟨_, rfl⟩
  have c1 := hideP (show Two w1 w.heap.size 41 (.slice L lo.length dl) (.slice H hi.length sh) by rw [hw1]; exact (Two.new _ _ _ _).alloc _)
  have c2 := hideP (show Two w1 (w.heap.size + 1) 41 (.slice L' lo'.length dl') (.slice H' hi'.length sh') by rw [hw1]; exact Two.new' _ _ _ _ _ (by simp))
  have cb := hideP (show Below w.heap.size w w1 by rw [hw1]; exact (below_new _ _).alloc (by simp) _)
  rw [← hw1]
  clear hw1
  refine (Ht1.out w1 (HhL.out.after cb.out) (HhH.out.after cb.out) (HhL'.out.after cb.out) (HhH'.out.after cb.out)).mono ?_
  rintro e w2 ⟨rfl, hb'⟩
  replace c1 := hideP (c1.out.after hb')
  replace c2 := hideP (c2.out.after hb')
  replace cb := hideP (bstep cb.out hb')
  clear hb'
  cases p
  · go_wp2
    go_ret
    exact ⟨by rw [hb.out]; rfl, cb.out⟩
  · obtain ⟨h8, e1, e2, e3⟩ := HF.out rfl
    obtain ⟨n, hn⟩ : ∃ n, n = lo.length := ⟨_, rfl⟩
    rw [← hn] at h8 e1 e2 e3 hb HhL c1
    rw [e1] at HhH c1
    rw [e2] at HhL' c2
    rw [e3] at HhH' c2
    rw [e1, e2, e3, ← hn]
    clear e1 e2 e3 hn HF
    have kc10 := c1.out.c0; have kc11 := c1.out.c1
    have kc20 := c2.out.c0; have kc21 := c2.out.c1
    go_wp2_with fail
    refine (all_any n _ 203 #[.pointer (some ⟨w.heap.size, 0, none⟩), .pointer (some ⟨w.heap.size + 1, 0, none⟩)] rfl (fun i => decide (lo.getD i 0 ≤ hi'.getD i 0) && decide (lo'.getD i 0 ≤ hi.getD i 0)) w2 (by omega) (run_enter Try.func203 rfl rfl) (fun i W hi hW => ?_)).mono ?_
    · exact meets1 i _ _ L H L' H' _ _ _ _ n dl sh dl' sh' W (c1.out.after hW).c0 (c1.out.after hW).c1 (c2.out.after hW).c0 (c2.out.after hW).c1 ((HhL.out.after cb.out).after hW) ((HhH.out.after cb.out).after hW) ((HhL'.out.after cb.out).after hW) ((HhH'.out.after cb.out).after hW) hi
    rintro e w3 ⟨rfl, hb'⟩
    clear kc10 kc11 kc20 kc21
    replace cb := hideP (bstep cb.out hb')
    clear hb'
    go_wp2
    go_ret
    exact ⟨by rw [hb.out]; rfl, cb.out⟩
end Go.Proofs.Ytgcbodpjidoanaa
