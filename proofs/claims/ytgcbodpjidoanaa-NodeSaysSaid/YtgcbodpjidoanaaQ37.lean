/- The law on regions that draw their order, where new variables ('Op.alloc') may come up at any time among the loud operations: the plan names only the other operations; the new variables are met at its end, wherever they came. -/
import Derived.Test.YtgcbodpjidoanaaQ5
set_option linter.unusedVariables false
set_option linter.unusedSimpArgs false
namespace Go.Proofs.Ytgcbodpjidoanaa
open Go.RowKit

def altsL : List Tr → Tr
  | [] => .nil
  | [t] => t
  | t :: u :: r => .alt t (altsL (u :: r))
def ordIns (i : Nat) : List Nat → List Nat
  | [] => [i]
  | j :: r => if i ≤ j then i :: j :: r else j :: ordIns i r
def insF (i : Nat) (k : List Nat → Tr) : Nat → List Nat → Tr
  | 0, fl => .l i (k fl)
  | m + 1, fl => altsL ((ordIns i fl).map fun j => if j = i then .l i (k fl) else .l j (insF i k m (fl.filter (· != j))))
def drainF (t2 : Tr) : Nat → List Nat → Tr
  | 0, _ => t2
  | m + 1, fl => altsL (fl.map fun j => .l j (drainF t2 m (fl.filter (· != j))))
/-- the plan with the new variables wherever they may come -/
def weave (t2 : Tr) : Tr → List Nat → Tr
  | .nil, fl => drainF t2 fl.length fl
  | .q i t, fl => .q i (weave t2 t fl)
  | .l i t, fl => insF i (weave t2 t) fl.length fl
  | .alt t u, fl => .alt t u
theorem mem_ordIns {i j : Nat} : ∀ {fl : List Nat}, j ∈ ordIns i fl ↔ j = i ∨ j ∈ fl
  | [] => by simp [ordIns]
  | x :: r => by
    unfold ordIns
    split
    · simp
    · simp only [List.mem_cons, mem_ordIns (fl := r)]
      constructor
      · rintro (h | h | h) <;> simp [h]
      · rintro (h | h | h) <;> simp [h]

section
variable {P : Program} {ops : Array Oper} {Lq : Act → World → Prop} {l : List Oper} {obj : Nat → Obj} {S : Nat → Prop} {t2 : Tr}

theorem wpM_altsL : ∀ {L : List Tr} {a : Act} {w : World}, L ≠ [] → (∀ t ∈ L, wpM S P ops Lq (pickT l t) a w) → wpM S P ops Lq (pickT l (altsL L)) a w
  | [], _, _, h, _ => absurd rfl h
  | [t], _, _, _, h => h t (by simp)
  | t :: u :: r, a, w, _, h => ⟨⟨h t (by simp)⟩, ⟨wpM_altsL (by simp) fun t' ht => h t' (by simp at ht ⊢; exact .inr ht)⟩⟩

/-- the new variables that have come, in the frame -/
def putF (l : List Oper) (σ : Nat → Option Nat) (a : Act) : List Nat → Act
  | [] => a
  | f :: r => match σ f with
    | some p => (putF l σ a r).put (nthO l f).dst (.pointer (some ⟨p, 0, none⟩))
    | none => putF l σ a r
structure FInv (obj : Nat → Obj) (FL : List Nat) (w0 : World) (σ : Nat → Option Nat) (W : World) (iv : List (Nat × Nat)) : Prop where
  done : ∀ f ∈ FL, ∀ p, σ f = some p → w0.heap.size ≤ p ∧ p < W.heap.size ∧ W.heap[p]? = some (obj f) ∧ ∀ x ∈ iv, p < x.1 ∨ x.2 ≤ p
  apart : ∀ f ∈ FL, ∀ g ∈ FL, f ≠ g → ∀ p q, σ f = some p → σ g = some q → p ≠ q
  top : ∀ x ∈ iv, x.2 ≤ W.heap.size
  base : w0.heap.size ≤ W.heap.size
theorem FInv.ext {FL : List Nat} {w0 W W' : World} {σ : Nat → Option Nat} {iv : List (Nat × Nat)} (h : FInv obj FL w0 σ W iv) (hW : Ext W W') : FInv obj FL w0 σ W' iv :=
  ⟨fun f hf p hp => by obtain ⟨h1, h2, h3, h4⟩ := h.done f hf p hp; exact ⟨h1, Nat.lt_of_lt_of_le h2 hW.size, (hW.block p h2).trans h3, h4⟩, h.apart, fun x hx => Nat.le_trans (h.top x hx) hW.size, Nat.le_trans h.base hW.size⟩
theorem FInv.loud {FL : List Nat} {w0 W W' : World} {σ : Nat → Option Nat} {iv : List (Nat × Nat)} (h : FInv obj FL w0 σ W iv) (hW : Ext W W') : FInv obj FL w0 σ W' (iv ++ [(W.heap.size, W'.heap.size)]) :=
  ⟨fun f hf p hp => by
    obtain ⟨h1, h2, h3, h4⟩ := (h.ext hW).done f hf p hp
    refine ⟨h1, h2, h3, fun x hx => ?_⟩
    rcases List.mem_append.1 hx with hx | hx
    · exact h4 x hx
    · have := (h.done f hf p hp).2.1
      obtain rfl : x = (W.heap.size, W'.heap.size) := by simpa using hx
      exact .inl this, h.apart, fun x hx => by
    rcases List.mem_append.1 hx with hx | hx
    · exact (h.ext hW).top x hx
    · obtain rfl : x = (W.heap.size, W'.heap.size) := by simpa using hx
      exact Nat.le_refl _, (h.ext hW).base⟩
def updS (σ : Nat → Option Nat) (j p : Nat) : Nat → Option Nat := fun i => if i = j then some p else σ i
theorem FInv.alloc {FL : List Nat} {w0 W : World} {σ : Nat → Option Nat} {iv : List (Nat × Nat)} (h : FInv obj FL w0 σ W iv) (j : Nat) : FInv obj FL w0 (updS σ j W.heap.size) (W.alloc (obj j)) iv := by
  have hx := Ext.alloc W (obj j)
  have hs : (W.alloc (obj j)).heap.size = W.heap.size + 1 := by simp
  refine ⟨fun f hf p hp => ?_, fun f hf g hg hfg p q hp hq => ?_, (h.ext hx).top, (h.ext hx).base⟩
  · unfold updS at hp
    split at hp
    · rename_i e
      subst e
      obtain rfl : W.heap.size = p := by simpa using hp
      exact ⟨h.base, by omega, heap_alloc_new _ _, fun x hx => .inr (h.top x hx)⟩
    · exact (h.ext hx).done f hf p hp
  · unfold updS at hp hq
    split at hp <;> split at hq
    · omega
    · have := (h.done g hg q hq).2.1
      have : W.heap.size = p := by simpa using hp
      omega
    · have := (h.done f hf p hp).2.1
      have : W.heap.size = q := by simpa using hq
      omega
    · exact h.apart f hf g hg hfg p q hp hq

def wpF (S : Nat → Prop) (t2 : Tr) (P : Program) (ops : Array Oper) (l : List Oper) (obj : Nat → Obj) (FL : List Nat) (w0 : World) (Lq : Act → World → Prop) : TO → List (Nat × Nat) → Act → World → Prop
  | .nil, iv, a, w => ∀ W σ, Ext w W → FInv obj FL w0 σ W iv → (∀ f ∈ FL, ∃ p, σ f = some p) → wpM S P ops Lq (pickT l t2) (putF l σ a FL) W
  | .q o t, iv, a, w => if Region.wanted o (yielded ops a.tmps) then ∃ v, (∀ W, But S w W → qUpon P W v ((execOp a.eval o).run P W)) ∧ Held (wpF S t2 P ops l obj FL w0 Lq t iv (a.put o.dst v) w) else Held (wpF S t2 P ops l obj FL w0 Lq t iv (a.put o.dst undef) w)
  | .l o t, iv, a, w => ∀ W, Ext w W → if Region.wanted o (yielded ops a.tmps) then o.wp P a W (fun a' w' => Ext W w' ∧ wpF S t2 P ops l obj FL w0 Lq t (iv ++ [(W.heap.size, w'.heap.size)]) a' w') QF else Held (wpF S t2 P ops l obj FL w0 Lq t iv (a.put o.dst undef) W)
  | .alt _ _, _, _, _ => False

/-- an operation that makes a new variable -/
structure IsFl (P : Program) (ops : Array Oper) (o : Oper) (ob : Obj) : Prop where
  plain : o.guard = none
  run : ∀ (ρ : Operand → Value) (W : World), (execOp ρ o).run P W = .ok (.value (.pointer (some ⟨W.heap.size, 0, none⟩))) (W.alloc ob)
def apL (ops : Array Oper) (l : List Oper) (FL : List Nat) (o : Oper) : Prop := (∀ f ∈ FL, (nthO l f).apart ops o = true) ∧ ∀ cs b, o.op ≠ .select cs b

theorem putF_put {σ : Nat → Option Nat} {a : Act} {o : Oper} {v : Value} : ∀ {FL : List Nat}, (∀ f ∈ FL, (nthO l f).apart ops o = true) → (putF l σ a FL).put o.dst v = putF l σ (a.put o.dst v) FL
  | [], _ => rfl
  | f :: r, h => by
    have ih := putF_put (σ := σ) (a := a) (o := o) (v := v) (FL := r) fun g hg => h g (by simp [hg])
    unfold putF
    cases σ f with
    | none => exact ih
    | some p =>
      obtain ⟨h1, h2, h3⟩ := Oper.apart_spec (h f (by simp))
      show ((putF l σ a r).put (nthO l f).dst _).put o.dst v = (putF l σ (a.put o.dst v) r).put (nthO l f).dst _
      rw [Act.put_comm _ _ v h2, ih]
theorem putF_exec {σ : Nat → Option Nat} {a : Act} {o : Oper} : ∀ {FL : List Nat}, apL ops l FL o → execOp (putF l σ a FL).eval o = execOp a.eval o
  | [], _ => rfl
  | f :: r, h => by
    have ih := putF_exec (σ := σ) (a := a) (o := o) (FL := r) ⟨fun g hg => h.1 g (by simp [hg]), h.2⟩
    unfold putF
    cases σ f with
    | none => exact ih
    | some p => exact (execOp_put o h.2 _ _ _ (Oper.apart_spec (h.1 f (by simp))).1).trans ih
theorem putF_wanted {σ : Nat → Option Nat} {a : Act} {o : Oper} : ∀ {FL : List Nat}, apL ops l FL o → Region.wanted o (yielded ops (putF l σ a FL).tmps) = Region.wanted o (yielded ops a.tmps)
  | [], _ => rfl
  | f :: r, h => by
    have ih := putF_wanted (σ := σ) (a := a) (o := o) (FL := r) ⟨fun g hg => h.1 g (by simp [hg]), h.2⟩
    unfold putF
    cases σ f with
    | none => exact ih
    | some p => exact (wanted_put o _ _ _ (Oper.apart_spec (h.1 f (by simp))).1).trans ih
theorem putF_defers {σ : Nat → Option Nat} {a : Act} (d : List Deferred) : ∀ {FL : List Nat}, ({ putF l σ a FL with defers := d } : Act) = putF l σ ({ a with defers := d } : Act) FL
  | [] => rfl
  | f :: r => by
    unfold putF
    cases σ f with
    | none => exact putF_defers d
    | some p =>
      show ({ (putF l σ a r).put _ _ with defers := d } : Act) = _
      rw [put_defers, putF_defers d]
theorem defers_putF {σ : Nat → Option Nat} {a : Act} : ∀ {FL : List Nat}, (putF l σ a FL).defers = a.defers
  | [] => rfl
  | f :: r => by
    unfold putF
    cases σ f with
    | none => exact defers_putF
    | some p => exact (defers_put _ _ _).trans defers_putF
theorem putF_congr {σ τ : Nat → Option Nat} {a : Act} : ∀ {FL : List Nat}, (∀ f ∈ FL, σ f = τ f) → putF l σ a FL = putF l τ a FL
  | [], _ => rfl
  | f :: r, h => by
    unfold putF
    rw [h f (by simp), putF_congr fun g hg => h g (by simp [hg])]
theorem putF_upd {σ : Nat → Option Nat} {a : Act} {j p : Nat} (hj : σ j = none) : ∀ {FL : List Nat}, FL.Nodup → (∀ f ∈ FL, f ≠ j → (nthO l f).apart ops (nthO l j) = true) → j ∈ FL →
    (putF l σ a FL).put (nthO l j).dst (.pointer (some ⟨p, 0, none⟩)) = putF l (updS σ j p) a FL
  | [], _, _, h => by cases h
  | f :: r, hn, hap, hm => by
    have hn' := List.nodup_cons.1 hn
    by_cases e : f = j
    · subst e
      have e1 : putF l σ a (f :: r) = putF l σ a r := by
        show (match σ f with | some p => _ | none => _) = _
        rw [hj]
      have e2 : putF l (updS σ f p) a (f :: r) = (putF l (updS σ f p) a r).put (nthO l f).dst (.pointer (some ⟨p, 0, none⟩)) := by
        show (match updS σ f p f with | some p => _ | none => _) = _
        rw [show updS σ f p f = some p by simp [updS]]
      rw [e1, e2, putF_congr (σ := updS σ f p) (τ := σ) fun g hg => by simp [updS]; intro h; subst h; exact absurd hg hn'.1]
    · have hjr : j ∈ r := by simpa [Ne.symm e] using hm
      have ih := putF_upd (a := a) (p := p) hj hn'.2 (fun g hg => hap g (by simp [hg])) hjr
      have e3 : updS σ j p f = σ f := by simp [updS, e]
      show (match σ f with | some p => _ | none => _ : Act).put _ _ = (match updS σ j p f with | some p => _ | none => _)
      rw [e3]
      cases σ f with
      | none => exact ih
      | some q =>
        show ((putF l σ a r).put (nthO l f).dst _).put (nthO l j).dst _ = (putF l (updS σ j p) a r).put (nthO l f).dst _
        rw [Act.put_comm _ _ _ (Oper.apart_spec (hap f (by simp) e)).2.1, ih]
theorem wp_putF {σ : Nat → Option Nat} {a : Act} {o : Oper} {FL : List Nat} {W : World} {K : Act → World → Prop} (h : apL ops l FL o) (hh : o.wp P a W (fun a' w' => K (putF l σ a' FL) w') QF) : o.wp P (putF l σ a FL) W K QF := by
  unfold Oper.wp at *
  rw [putF_exec h]
  generalize (execOp a.eval o).run P W = r at *
  cases r with
  | ok n w' =>
    cases n <;> simp only [Oper.upon] at hh ⊢
    case value u => rw [putF_put h.1]; exact hh
    case skip => rw [putF_put h.1]; exact hh
    case defer d => rw [defers_putF, putF_defers, putF_put h.1]; exact hh
    case enter f args =>
      exact Calls.mono hh fun e w2 he => by
        cases e with
        | returned u =>
          show K ((putF l σ a FL).put o.dst u) w2
          rw [putF_put h.1]; exact he
        | panicked c => exact he
        | outgrown => exact he
    case row row args => exact Rows.mono hh fun u w2 he => by rw [putF_put h.1]; exact he
    all_goals exact hh
  | halt x w' => cases x <;> simp only [Oper.upon] at hh ⊢ <;> exact hh

def remF (FL : List Nat) (σ : Nat → Option Nat) : List Nat := FL.filter fun f => (σ f).isNone
theorem remF_upd (FL : List Nat) (σ : Nat → Option Nat) (j p : Nat) : remF FL (updS σ j p) = (remF FL σ).filter (· != j) := by
  unfold remF
  rw [List.filter_filter]
  congr 1
  funext f
  by_cases e : f = j <;> simp [updS, e]

/-- what is asked of the plan's operations -/
def Tr.okF (ops : Array Oper) (l : List Oper) (FL : List Nat) : Tr → Prop
  | .nil => True
  | .q i t => apL ops l FL (nthO l i) ∧ t.okF ops l FL
  | .l i t => i ∉ FL ∧ apL ops l FL (nthO l i) ∧ t.okF ops l FL
  | .alt _ _ => False

theorem float_step {FL : List Nat} {w0 W W' : World} {σ : Nat → Option Nat} {iv : List (Nat × Nat)} {a : Act} (hnd : FL.Nodup) (hap : ∀ f ∈ FL, ∀ j ∈ FL, f ≠ j → (nthO l f).apart ops (nthO l j) = true)
    (hfl : ∀ f ∈ FL, IsFl P ops (nthO l f) (obj f)) (inv : FInv obj FL w0 σ W iv) (hW : Ext W W') {j : Nat} (hj : j ∈ FL) (hs : σ j = none) {t : TO}
    (h : ∀ σ' W'', Ext W' W'' → FInv obj FL w0 σ' W'' iv → remF FL σ' = (remF FL σ).filter (· != j) → wpM S P ops Lq t (putF l σ' a FL) W'') :
    if Region.wanted (nthO l j) (yielded ops (putF l σ a FL).tmps) then (nthO l j).wp P (putF l σ a FL) W' (fun a' w' => But S W' w' ∧ wpM S P ops Lq t a' w') QF else Held (wpM S P ops Lq t ((putF l σ a FL).put (nthO l j).dst undef) W') := by
  have hw : Region.wanted (nthO l j) (yielded ops (putF l σ a FL).tmps) = true := by unfold Region.wanted; rw [(hfl j hj).plain]
  simp only [hw, if_true, Oper.wp, (hfl j hj).run, Oper.upon]
  refine ⟨But.of_ext (Ext.alloc _ _), ?_⟩
  rw [putF_upd hs hnd (fun f hf hne => hap f hf j hj hne) hj]
  exact h _ _ (Ext.alloc _ _) ((inv.ext hW).alloc j) (remF_upd _ _ _ _)

theorem mem_remF {FL : List Nat} {σ : Nat → Option Nat} {j : Nat} (h : j ∈ remF FL σ) : j ∈ FL ∧ σ j = none := by
  have := List.mem_filter.1 h
  exact ⟨this.1, by simpa using this.2⟩
theorem nodup_remF {FL : List Nat} {σ : Nat → Option Nat} (h : FL.Nodup) : (remF FL σ).Nodup := h.filter _
theorem len_filter_ne {fl : List Nat} {j : Nat} (hn : fl.Nodup) (hj : j ∈ fl) : (fl.filter (· != j)).length + 1 = fl.length := by
  induction fl with
  | nil => cases hj
  | cons x r ih =>
    have hn' := List.nodup_cons.1 hn
    by_cases e : x = j
    · subst e
      have : r.filter (· != x) = r := List.filter_eq_self.2 fun y hy => by simp; rintro rfl; exact hn'.1 hy
      simp [this]
    · have := ih hn'.2 (by simpa [Ne.symm e] using hj)
      simp [e, this]

theorem drain_ok {FL : List Nat} {w0 w : World} {iv : List (Nat × Nat)} {a : Act} (hnd : FL.Nodup) (hap : ∀ f ∈ FL, ∀ j ∈ FL, f ≠ j → (nthO l f).apart ops (nthO l j) = true)
    (hfl : ∀ f ∈ FL, IsFl P ops (nthO l f) (obj f)) (h : wpF S t2 P ops l obj FL w0 Lq .nil iv a w) :
    ∀ (m : Nat) (σ : Nat → Option Nat) (W : World), (remF FL σ).length = m → FInv obj FL w0 σ W iv → Ext w W → wpM S P ops Lq (pickT l (drainF t2 m (remF FL σ))) (putF l σ a FL) W
  | 0, σ, W, hm, inv, hW => by
    have h0 : remF FL σ = [] := List.eq_nil_of_length_eq_zero hm
    rw [h0]
    refine h W σ hW inv fun f hf => ?_
    rcases hs : σ f with _ | p
    · have : f ∈ remF FL σ := List.mem_filter.2 ⟨hf, by simp [hs]⟩
      rw [h0] at this; cases this
    · exact ⟨p, rfl⟩
  | m + 1, σ, W, hm, inv, hW => by
    refine wpM_altsL (by intro e; rw [List.map_eq_nil_iff] at e; rw [e] at hm; cases hm) fun t ht => ?_
    obtain ⟨j, hj, rfl⟩ := List.mem_map.1 ht
    obtain ⟨hjF, hjs⟩ := mem_remF hj
    intro W' hW'
    refine float_step hnd hap hfl inv hW' hjF hjs fun σ' W'' hW'' inv' hr => ?_
    rw [← hr]
    refine drain_ok hnd hap hfl h m σ' W'' ?_ inv' (hW.trans (hW'.trans hW''))
    have := len_filter_ne (nodup_remF (σ := σ) hnd) hj
    rw [← hr] at this; omega

theorem weave_ok {FL : List Nat} {w0 : World} (hnd : FL.Nodup) (hap : ∀ f ∈ FL, ∀ j ∈ FL, f ≠ j → (nthO l f).apart ops (nthO l j) = true) (hfl : ∀ f ∈ FL, IsFl P ops (nthO l f) (obj f)) :
    ∀ (t : Tr) (iv : List (Nat × Nat)) (a : Act) (w W : World) (σ : Nat → Option Nat), t.okF ops l FL → FInv obj FL w0 σ W iv → Ext w W → wpF S t2 P ops l obj FL w0 Lq (pickT l t) iv a w → wpM S P ops Lq (pickT l (weave t2 t (remF FL σ))) (putF l σ a FL) W := by
  intro t
  induction t with
  | nil => intro iv a w W σ _ inv hW h; exact drain_ok hnd hap hfl h _ σ W rfl inv hW
  | q i t ih =>
    intro iv a w W σ hok inv hW h
    simp only [weave, pickT, wpM, wpF] at h ⊢
    rw [putF_wanted hok.1]
    split
    · rename_i hw
      simp only [hw, if_true] at h
      obtain ⟨v, h1, h2⟩ := h
      refine ⟨v, fun W' hW' => by rw [putF_exec hok.1]; exact h1 W' ((But.of_ext hW).trans hW'), ⟨?_⟩⟩
      rw [putF_put hok.1.1]
      exact ih iv _ w W σ hok.2 inv hW h2.out
    · rename_i hw
      simp only [hw] at h
      refine ⟨?_⟩
      rw [putF_put hok.1.1]
      exact ih iv _ w W σ hok.2 inv hW h.out
  | l i t ih =>
    intro iv a w W σ hok inv hW h
    have key : ∀ (σ : Nat → Option Nat) (W : World), FInv obj FL w0 σ W iv → Ext w W → wpM S P ops Lq (pickT l (.l i (weave t2 t (remF FL σ)))) (putF l σ a FL) W := by
      intro σ W inv hW W' hW'
      have h1 := h W' (hW.trans hW')
      rw [putF_wanted hok.2.1]
      split
      · rename_i hw
        simp only [hw, if_true] at h1
        refine wp_putF hok.2.1 (Oper.wp_mono (fun a' w' h2 => ⟨But.of_ext h2.1, ?_⟩) h1)
        exact ih _ a' w' w' σ hok.2.2 ((inv.ext hW').loud h2.1) (Ext.refl _) h2.2
      · rename_i hw
        simp only [hw] at h1
        refine ⟨?_⟩
        rw [putF_put hok.2.1.1]
        exact ih iv _ W' W' σ hok.2.2 (inv.ext hW') (Ext.refl _) h1.out
    have main : ∀ (m : Nat) (σ : Nat → Option Nat) (W : World), (remF FL σ).length = m → FInv obj FL w0 σ W iv → Ext w W → wpM S P ops Lq (pickT l (insF i (weave t2 t) m (remF FL σ))) (putF l σ a FL) W := by
      intro m
      induction m with
      | zero => intro σ W _ inv hW; exact key σ W inv hW
      | succ m ihm =>
        intro σ W hm inv hW
        refine wpM_altsL (by
          intro e
          have hmem : i ∈ ordIns i (remF FL σ) := mem_ordIns.2 (.inl rfl)
          rw [List.map_eq_nil_iff] at e
          rw [e] at hmem; cases hmem) fun t' ht => ?_
        obtain ⟨j, hj, rfl⟩ := List.mem_map.1 ht
        by_cases e : j = i
        · subst e
          simp only [if_true]
          exact key σ W inv hW
        · simp only [e, if_false]
          have hjr : j ∈ remF FL σ := by
            rcases mem_ordIns.1 hj with h' | h'
            · exact absurd h' e
            · exact h'
          obtain ⟨hjF, hjs⟩ := mem_remF hjr
          intro W' hW'
          refine float_step hnd hap hfl inv hW' hjF hjs fun σ' W'' hW'' inv' hr => ?_
          rw [← hr]
          refine ihm σ' W'' ?_ inv' (hW.trans (hW'.trans hW''))
          have := len_filter_ne (nodup_remF (σ := σ) hnd) hjr
          rw [← hr] at this; omega
    exact main _ σ W rfl inv hW
  | alt t u iht ihu => intro iv a w W σ hok; exact hok.elim

/-! ### The checks, by the kernel -/
def noSelB (o : Oper) : Bool := match o.op with | .select _ _ => false | _ => true
def apB (ops : Array Oper) (l : List Oper) (FL : List Nat) (o : Oper) : Bool := FL.all (fun f => (nthO l f).apart ops o) && noSelB o
theorem apL_of {FL : List Nat} {o : Oper} (h : apB ops l FL o = true) : apL ops l FL o := by
  simp only [apB, Bool.and_eq_true, List.all_eq_true] at h
  exact ⟨h.1, fun cs b e => by have := h.2; simp [noSelB, e] at this⟩
def Tr.okB (ops : Array Oper) (l : List Oper) (FL : List Nat) : Tr → Bool
  | .nil => true
  | .q i t => apB ops l FL (nthO l i) && t.okB ops l FL
  | .l i t => !FL.contains i && (apB ops l FL (nthO l i) && t.okB ops l FL)
  | .alt _ _ => false
theorem Tr.okF_of {FL : List Nat} : ∀ {t : Tr}, t.okB ops l FL = true → t.okF ops l FL
  | .nil, _ => trivial
  | .q i t, h => by
    simp only [Tr.okB, Bool.and_eq_true] at h
    exact ⟨apL_of h.1, Tr.okF_of h.2⟩
  | .l i t, h => by
    simp only [Tr.okB, Bool.and_eq_true] at h
    exact ⟨by simpa using h.1, apL_of h.2.1, Tr.okF_of h.2.2⟩
  | .alt _ _, h => by cases h
def floatB (l : List Oper) (n : Nat) (t t2 : Tr) (FL : List Nat) : Bool :=
  forkB l n (weave t2 t FL) && decide FL.Nodup && FL.all (fun f => FL.all fun j => f == j || (nthO l f).apart l.toArray (nthO l j)) && t.okB l.toArray l FL
theorem wp_region_float {id : Nat} {Q : Exit → Act → World → Prop} {a : Act} {w : World} {l : List Oper} (n : Nat) (t t2 : Tr) (S : Nat → Prop) (FL : List Nat) (obj : Nat → Obj) (hm : P.follows .mixedOrders = true) (hB : floatB l n t t2 FL = true)
    (hfl : ∀ f ∈ FL, IsFl P l.toArray (nthO l f) (obj f))
    (h : wpF S t2 P l.toArray l obj FL w (fun a' w' => wpList P l.toArray Q (l.drop n) a' w') (pickT l t) [] a w.drew) : (Code.region id l.toArray true).wp P Q a w := by
  simp only [floatB, Bool.and_eq_true, decide_eq_true_eq, List.all_eq_true, Bool.or_eq_true, beq_iff_eq] at hB
  obtain ⟨⟨⟨h1, h2⟩, h3⟩, h4⟩ := hB
  refine wp_region_mut (S := S) n (weave t2 t FL) hm h1 ?_
  have hr : remF FL (fun _ => none) = FL := List.filter_eq_self.2 fun f _ => rfl
  have hp : ∀ (FL : List Nat) (a : Act), putF l (fun _ => none) a FL = a := fun FL => by induction FL with
    | nil => intro a; rfl
    | cons f r ih => intro a; exact ih a
  have := weave_ok (P := P) (obj := obj) (w0 := w) h2 (fun f hf j hj hne => (h3 f hf j hj).resolve_left hne) hfl t [] a w.drew w.drew (fun _ => none) (Tr.okF_of h4)
    ⟨fun f _ p hp => by simp at hp, fun f _ g _ _ p q hp => by simp at hp, fun x hx => (by cases hx), Nat.le_refl _⟩ (Ext.refl _) h
  rw [hr, hp] at this
  exact this

/-! ### The steps of the walk -/
section
variable {FL : List Nat} {w0 : World} {r : TO} {iv : List (Nat × Nat)} {a : Act} {w : World} {o : Oper}
theorem wpF_valK (hw : Region.wanted o (yielded ops a.tmps) = true) (h : ∀ K : Act → Prop, (∀ a, wpF S t2 P ops l obj FL w0 Lq r iv a w → K a) → ∃ v, (∀ W, But S w W → (execOp a.eval o).run P W = .ok (.value v) W) ∧ K (a.put o.dst v)) : wpF S t2 P ops l obj FL w0 Lq (.q o r) iv a w := by
  obtain ⟨v, hv, h2⟩ := h _ fun _ h => h
  simp only [wpF, hw, if_true]
  exact ⟨v, fun W hW => by rw [hv W hW]; exact ⟨rfl, rfl⟩, ⟨h2⟩⟩
theorem wpF_loudK (f : FuncId) (args : Array Value) (hw : Region.wanted o (yielded ops a.tmps) = true) (hv : ∀ W, (execOp a.eval o).run P W = .ok (.enter f args) W)
    (hc : ∀ W, Ext w W → Calls P f args W fun e w2 => ∃ v, e = .returned v ∧ Ext W w2 ∧ (∀ K : Act → Prop, (∀ a, wpF S t2 P ops l obj FL w0 Lq r (iv ++ [(W.heap.size, w2.heap.size)]) a w2 → K a) → K (a.put o.dst v))) : wpF S t2 P ops l obj FL w0 Lq (.l o r) iv a w := by
  intro W hW
  simp only [hw, if_true, Oper.wp, hv W, Oper.upon]
  exact (hc W hW).mono fun e w2 ⟨v, he, hx, hp⟩ => by subst he; exact ⟨hx, hp _ fun _ h => h⟩
/-- one new variable -/
theorem wpF_nil1 {f : Nat} (h : ∀ W p, Ext w W → w0.heap.size ≤ p → p < W.heap.size → W.heap[p]? = some (obj f) → (∀ x ∈ iv, p < x.1 ∨ x.2 ≤ p) → wpM S P ops Lq (pickT l t2) (a.put (nthO l f).dst (.pointer (some ⟨p, 0, none⟩))) W) : wpF S t2 P ops l obj [f] w0 Lq .nil iv a w := by
  intro W σ hW inv hd
  obtain ⟨p, hp⟩ := hd f (by simp)
  obtain ⟨h1, h2, h3, h4⟩ := inv.done f (by simp) p hp
  have := h W p hW h1 h2 h3 h4
  show wpM S P ops Lq (pickT l t2) (match σ f with | some p => _ | none => _) W
  rw [hp]
  exact this
end
end
end Go.Proofs.Ytgcbodpjidoanaa
