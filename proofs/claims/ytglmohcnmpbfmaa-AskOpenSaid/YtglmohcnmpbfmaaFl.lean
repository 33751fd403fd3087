/-
  A region's operations, seen from afar: one after the other, and in whatever order, where those that no edge holds apart don't meet. No program in sight.
-/
import Derived.Test.YtglmohcnmpbfmaaFk
set_option linter.unusedVariables false
set_option linter.unusedSimpArgs false
namespace Go.Proofs.Ytglmohcnmpbfmaa
open Go.RowKit
structure St where
  t : List AV
  H : OH
def setN : List AV → Nat → AV → List AV
  | [], _, _ => []
  | _ :: r, 0, v => v :: r
  | a :: r, n + 1, v => a :: setN r n v
theorem setN_len : ∀ (l : List AV) (n : Nat) (v : AV), (setN l n v).length = l.length
  | [], _, _ => rfl
  | _ :: _, 0, _ => rfl
  | _ :: r, n + 1, v => by simp [setN, setN_len r n v]
theorem nth_setN : ∀ (l : List AV) (n : Nat) (v : AV) (i : Nat), nth (setN l n v) i = if i = n ∧ n < l.length then v else nth l i
  | [], n, v, i => by simp [setN]
  | _ :: r, 0, v, 0 => by simp [setN, nth]
  | _ :: r, 0, v, i + 1 => by simp [setN, nth]
  | _ :: r, n + 1, v, 0 => by simp [setN, nth]
  | _ :: r, n + 1, v, i + 1 => by simp only [setN, nth, nth_setN r n v i, List.length_cons]; congr 1; simp
theorem setN_comm : ∀ (l : List AV) (n m : Nat) (v w : AV), n ≠ m → setN (setN l n v) m w = setN (setN l m w) n v
  | [], _, _, _, _, _ => rfl
  | _ :: _, 0, 0, _, _, h => absurd rfl h
  | _ :: _, 0, m + 1, _, _, _ => rfl
  | _ :: _, n + 1, 0, _, _, _ => rfl
  | _ :: r, n + 1, m + 1, v, w, h => by simp only [setN, setN_comm r n m v w (by omega)]
theorem setN_self : ∀ (l : List AV) (n : Nat) (v : AV), nth l n = v → setN l n v = l
  | [], _, _, _ => rfl
  | _ :: _, 0, _, h => by simp only [nth] at h; subst h; rfl
  | _ :: r, n + 1, v, h => by simp only [setN, setN_self r n v h]
def putD (t : List AV) (d : Option Nat) (v : AV) : List AV := match d with
  | some n => setN t n v
  | none => t
def appS (S : St) (d : Option Nat) (v : AV) (u : OH) : St := ⟨putD S.t d v, putsH S.H u⟩
/-- the frame and the world are as is seen -/
structure Sat (C : Cx) (S : St) (a : Act) : Prop where
  g : Gam C
  h : C.H = S.H
  n : a.tmps.size = S.t.length
  t : ∀ i, Rv C (nth S.t i) (a.tmps.getD i undef)
  d : a.defers = []
section
variable {P : Program} {C : Cx} {S : St} {a : Act}
theorem Sat.ev (h : Sat C S a) : ∀ x, Rv C (ev S.t x) (a.eval x)
  | .tmp i => h.t i
  | .const v => rv_ex v
  | .global g => rv_ex _
  | .func f => rv_ex _
theorem Sat.put (h : Sat C S a) {C' : Cx} {v : Value} {av : AV} {u : OH} (d : Option Nat) (hF : Fr C C') (hG : Gam C') (hH : C'.H = putsH C.H u) (hv : Rv C' av v) : Sat C' (appS S d av u) (a.put d v) := by
  refine ⟨hG, by rw [hH, h.h]; rfl, ?_, fun i => ?_, ?_⟩
  · cases d with
    | none => exact h.n
    | some n => simp only [Act.put, appS, putD, setN_len, Array.size_setIfInBounds]; exact h.n
  · cases d with
    | none => exact (h.t i).fr hF
    | some n =>
      simp only [Act.put, appS, putD, nth_setN]
      by_cases e : i = n ∧ n < S.t.length
      · obtain ⟨rfl, hl⟩ := e
        rw [if_pos ⟨rfl, hl⟩, show (a.tmps.setIfInBounds i v).getD i undef = v by simp [Array.getD, h.n, hl]]
        exact hv
      · rw [if_neg e]
        have : (a.tmps.setIfInBounds n v).getD i undef = a.tmps.getD i undef := by
          simp only [Array.getD_eq_getD_getElem?, Array.getElem?_setIfInBounds]
          by_cases q : n = i
          · subst q
            rw [if_pos rfl, if_neg (by rw [h.n]; exact fun q => e ⟨rfl, q⟩), Array.getElem?_eq_none (by rw [h.n]; exact Nat.le_of_not_lt fun q => e ⟨rfl, q⟩)]
          · rw [if_neg q]
        rw [this]
        exact (h.t i).fr hF
  · cases d <;> exact h.d
def Eff.upd : Eff → OH | .val _ => [] | .put o b _ => [(o, b)]
theorem eff_H (H : OH) (e : Eff) : e.H H = putsH H e.upd := by cases e <;> rfl
/-! ### Calls -/
def calleeA (e : Operand → AV) (c : Call) : Option (FuncId × List AV) := match c.callee with
  | .value x => match e x with
    | .d (.v (.func (.func f) a b)) => some (f, exs a.toList ++ (evL e c.args.toList ++ exs b.toList))
    | .fn (.func f) a b => some (f, a ++ (evL e c.args.toList ++ b))
    | _ => none
  | _ => none
def pickH (H : OH) : List Nat → OH
  | [] => []
  | o :: r => match look H o with
    | some b => (o, b) :: pickH H r
    | none => pickH H r
theorem pickH_sub (H : OH) : ∀ (ks : List Nat) (o : Nat) (b : Ob), look (pickH H ks) o = some b → look H o = some b
  | [], _, _, h => by cases h
  | k :: r, o, b, h => by
    simp only [pickH] at h
    split at h
    · rename_i c hk
      simp only [look] at h
      split at h
      · rename_i e
        obtain rfl := (beq_nat_iff _ _).1 e
        rw [hk]; exact h
      · exact pickH_sub H r o b h
    · exact pickH_sub H r o b h
def keysH : OH → List Nat
  | [] => []
  | (k, _) :: r => k :: keysH r
theorem keysH_iff (x : Nat) : ∀ u : OH, x ∉ keysH u → look u x = none
  | [], _ => rfl
  | (k, b) :: r, h => by
    simp only [keysH, List.mem_cons, not_or] at h
    simp only [look]
    rw [(beq_nat_false _ _).2 (Ne.symm h.1)]
    exact keysH_iff x r h.2
def frzU (H : OH) : List Nat → OH
  | [] => []
  | o :: r => match look (putsH H (frzU H r)) o with
    | some (.row ty sz g _ n f) => (o, .row ty sz g true n f) :: frzU H r
    | _ => frzU H r
theorem frz_eq (H : OH) : ∀ l, frz H l = putsH H (frzU H l)
  | [] => rfl
  | o :: r => by
    simp only [frz, frzU, frz_eq H r]
    split <;> simp_all [putsH]
theorem putsH_append (H : OH) (L : OH) : ∀ M : OH, putsH H (M ++ L) = putsH (putsH H L) M
  | [] => rfl
  | (o, b) :: r => by simp only [List.cons_append, putsH, putsH_append H L r]
def frozenAll (H : OH) : List Nat → Bool
  | [] => true
  | o :: r => match look H o with
    | some (.row _ _ _ fz _ _) => match fz with
      | true => frozenAll H r
      | false => false
    | _ => false
theorem frozenAll_spec {H : OH} : ∀ {l : List Nat}, frozenAll H l = true → ∀ o ∈ l, ∀ ob, look H o = some ob → ob.free = false
  | [], _, o, h, _, _ => by cases h
  | k :: r, hf, o, h, ob, ho => by
    simp only [frozenAll] at hf
    split at hf
    · rename_i ty sz g fz n f hk
      split at hf
      · rcases List.mem_cons.1 h with rfl | h
        · rw [hk] at ho
          obtain rfl := Option.some.inj ho
          rfl
        · exact frozenAll_spec hf o h ob ho
      · cases hf
    · cases hf
def freeAll : OH → Bool
  | [] => true
  | (_, b) :: r => match b.free with
    | true => freeAll r
    | false => false
theorem freeAll_spec : ∀ {H : OH}, freeAll H = true → ∀ o ob, look H o = some ob → ob.free = true
  | [], _, o, ob, h => by cases h
  | (k, b) :: r, hf, o, ob, h => by
    simp only [freeAll] at hf
    simp only [look] at h
    split at hf
    · rename_i hb
      split at h
      · cases h; exact hb
      · exact freeAll_spec hf o ob h
    · cases hf
def newAll (H Hp : OH) : OH → Bool
  | [] => true
  | (k, _) :: r => match hasK Hp k, hasK H k with
    | false, true => false
    | _, _ => newAll H Hp r
theorem newAll_spec {H Hp : OH} : ∀ {L : OH}, newAll H Hp L = true → ∀ o ob, look L o = some ob → look Hp o = none → look H o = none
  | [], _, o, ob, h, _ => by cases h
  | (k, b) :: r, hf, o, ob, h, hp => by
    simp only [newAll] at hf
    simp only [look] at h
    split at h
    · rename_i e
      obtain rfl := (beq_nat_iff _ _).1 e
      have e1 : hasK Hp k = false := by rw [hasK_iff, hp]; rfl
      split at hf
      · cases hf
      · rename_i q
        cases e2 : hasK H k with
        | false =>
          rw [hasK_iff] at e2
          cases hl : look H k with
          | none => rfl
          | some x => rw [hl] at e2; cases e2
        | true => exact absurd e2 (q e1)
    · split at hf
      · cases hf
      · exact newAll_spec hf o ob h hp
/-- what a call does, and which objects it hangs on -/
inductive CallSem (P : Program) (H : OH) (f : FuncId) (as : List AV) : AV → OH → List Nat → Prop where
  | flat (as' : List AV) (r : AV) (hp : purA H [] as = some as') (hc : ACall P f as' [] r []) (hf : flat r = true) : CallSem P H f as r [] (refA as)
  | gen (ks : List Nat) (as' : List AV) (r : AV) (H' : OH) (hp : purA (frz H (lentA H (pickH H ks) as)) (pickH H ks) as = some as') (hc : ACall P f as' (pickH H ks) r H')
      (h1 : frozenAll (frz H (lentA H (pickH H ks) as)) (lentA H (pickH H ks) as) = true) (h2 : freeAll (pickH H ks) = true) (h3 : newAll (frz H (lentA H (pickH H ks) as)) (pickH H ks) H' = true) (h4 : closedH (pickH H ks) (pickH H ks) = true)
      (h5 : pickH (frz H (lentA H (pickH H ks) as)) ks = pickH H ks) :
      CallSem P H f as r (H' ++ frzU H (lentA H (pickH H ks) as)) (refA as ++ (ks ++ keysH H'))
theorem evL_getD (e : Operand → AV) (ρ : Operand → Value) : ∀ (l : List Operand) (j : Nat), j < l.length → ∃ x, (evL e l).getD j .any = e x ∧ (l.map ρ).getD j undef = ρ x
  | [], j, h => by cases h
  | x :: r, 0, _ => ⟨x, rfl, rfl⟩
  | x :: r, j + 1, h => by
    obtain ⟨y, h1, h2⟩ := evL_getD e ρ r j (by simpa using h)
    exact ⟨y, by simpa [evL] using h1, by simpa using h2⟩
theorem evL_len (e : Operand → AV) : ∀ l : List Operand, (evL e l).length = l.length
  | [] => rfl
  | _ :: r => by simp [evL, evL_len e r]
theorem lentA_H (H H' Hp : OH) : ∀ as : List AV, lentA H Hp as = lentA H' Hp as
  | [] => rfl
  | a :: r => by
    have L : ∀ l : List AV, lentL H Hp l = lentL H' Hp l := by
      intro l
      induction l with
      | nil => rfl
      | cons x l ih => simp only [lentL, ih]; congr 1
    simp only [lentA, lentA_H H H' Hp r]
    congr 1
    cases a <;> simp only [lent, L] <;> rfl
theorem CallSem.sound {f : FuncId} {as : List AV} {r : AV} {u : OH} {rd : List Nat} (h : CallSem P C.H f as r u rd) (G : Gam C) {vs : List Value} (hv : as.length = vs.length ∧ ∀ j, j < as.length → Rv C (as.getD j .any) (vs.getD j undef)) :
    Enters P f ∧ Calls P f vs.toArray C.W fun e W' => ∃ v C', e = .returned v ∧ C'.W = W' ∧ C'.H = putsH C.H u ∧ C'.E = C.E ∧ Fr C C' ∧ Gam C' ∧ Rv C' r v := by
  cases h with
  | flat as' r hp hc hf => exact ⟨hc.1, call_flat G hc hp hf hv⟩
  | gen ks as' r H' hp hc h1 h2 h3 h4 h5 =>
    refine ⟨hc.1, ?_⟩
    obtain ⟨hF, hG⟩ := G.frzL (lentA C.H (pickH C.H ks) as)
    have := call_gen hG hc hp (fun o ho ob hob => frozenAll_spec h1 o (by rw [lentA_H C.H (frz C.H (lentA C.H (pickH C.H ks) as))]; exact ho) ob hob)
      (fun o ob ho => ⟨pickH_sub _ ks o ob (by rw [h5]; exact ho), freeAll_spec h2 o ob ho⟩) (newAll_spec h3) h4 ⟨hv.1, fun j hj => (hv.2 j hj).fr hF⟩
    refine this.mono ?_
    rintro e W' ⟨v, C', e1, e2, e3, e4, e5, e6, e7⟩
    exact ⟨v, C', e1, e2, by rw [e3, putsH_append, ← frz_eq], e4, hF.trans e5, e6, e7⟩
/-- a call's run, where the callee is known -/
theorem run_call {f : FuncId} {as : List AV} {c : Call} {ty : TypeId} (h : Sat C S a) (hc : calleeA (Go.Proofs.Ytglmohcnmpbfmaa.ev S.t) c = some (f, as)) (hE : Enters P f) :
    ∃ vs : List Value, (do let d ← resolve a.eval c ty; invoke d.target d.args).run P C.W = .ok (.enter f vs.toArray) C.W ∧ as.length = vs.length ∧ ∀ j, j < as.length → Rv C (as.getD j .any) (vs.getD j undef) := by
  have he := h.ev
  unfold calleeA at hc
  have join : ∀ {x y z : List AV} {p q r : List Value}, (x.length = p.length ∧ ∀ j, j < x.length → Rv C (x.getD j .any) (p.getD j undef)) → (y.length = q.length ∧ ∀ j, j < y.length → Rv C (y.getD j .any) (q.getD j undef)) →
      (x ++ y).length = (p ++ q).length ∧ ∀ j, j < (x ++ y).length → Rv C ((x ++ y).getD j .any) ((p ++ q).getD j undef) := fun {x y z p q r} h1 h2 => by
    refine ⟨by simp [h1.1, h2.1], fun j hj => ?_⟩
    by_cases e : j < x.length
    · rw [show (x ++ y).getD j .any = x.getD j .any by simp [List.getD_eq_getElem?_getD, List.getElem?_append_left e], show (p ++ q).getD j undef = p.getD j undef by simp [List.getD_eq_getElem?_getD, List.getElem?_append_left (show j < p.length by omega)]]
      exact h1.2 j e
    · simp only [List.length_append] at hj
      rw [show (x ++ y).getD j .any = y.getD (j - x.length) .any by simp [List.getD_eq_getElem?_getD, List.getElem?_append_right (show x.length ≤ j by omega)],
        show (p ++ q).getD j undef = q.getD (j - x.length) undef by simp [List.getD_eq_getElem?_getD, List.getElem?_append_right (show p.length ≤ j by omega), h1.1]]
      exact h2.2 _ (by omega)
  have args : (evL (Go.Proofs.Ytglmohcnmpbfmaa.ev S.t) c.args.toList).length = (c.args.toList.map a.eval).length ∧ ∀ j, j < (evL (Go.Proofs.Ytglmohcnmpbfmaa.ev S.t) c.args.toList).length → Rv C ((evL (Go.Proofs.Ytglmohcnmpbfmaa.ev S.t) c.args.toList).getD j .any) ((c.args.toList.map a.eval).getD j undef) := by
    refine ⟨by simp [evL_len], fun j hj => ?_⟩
    rw [evL_len] at hj
    obtain ⟨x, h1, h2⟩ := evL_getD (Go.Proofs.Ytglmohcnmpbfmaa.ev S.t) a.eval c.args.toList j hj
    rw [h1, h2]; exact he x
  have exact_ : ∀ l : List Value, (exs l).length = l.length ∧ ∀ j, j < (exs l).length → Rv C ((exs l).getD j .any) (l.getD j undef) := fun l =>
    ⟨by simp [exs], fun j hj => rv_of_rb ((rbs_exact C l).2 j hj)⟩
  have bs : ∀ {l : List AV} {m : List Value}, Rbs C l m → l.length = m.length ∧ ∀ j, j < l.length → Rv C (l.getD j .any) (m.getD j undef) := fun r => ⟨r.1, fun j hj => rv_of_rb (r.2 j hj)⟩
  have go : ∀ {x : Operand} {p q : List Value}, c.callee = .value x → a.eval x = .func (.func f) p.toArray q.toArray →
      (do let d ← resolve a.eval c ty; invoke d.target d.args).run P C.W = .ok (.enter f (p ++ (c.args.toList.map a.eval ++ q)).toArray) C.W := fun {x p q} h1 h2 => by
    have hE' : ∀ args W, (callFunc f args).run P W = .ok (.enter f args) W := hE
    simp only [resolve, h1, h2, Deferred.ofValue, Sem.run_bind, Sem.run_pure, Result.andThen_ok, invoke, hE']
    congr 2
    apply Array.toList_inj.1
    simp
  split at hc
  · rename_i x hx
    have hvx := he x
    split at hc
    · rename_i f' p q hev
      simp only [Option.some.injEq, Prod.mk.injEq] at hc
      obtain ⟨rfl, rfl⟩ := hc
      rw [hev] at hvx
      have e := rv_ex_inv hvx
      refine ⟨p.toList ++ (c.args.toList.map a.eval ++ q.toList), go (p := p.toList) (q := q.toList) hx (by simpa using e), ?_⟩
      exact join (z := []) (r := []) (exact_ _) (join (z := []) (r := []) args (exact_ _))
    · rename_i f' p q hev
      simp only [Option.some.injEq, Prod.mk.injEq] at hc
      obtain ⟨rfl, rfl⟩ := hc
      rw [hev] at hvx
      obtain ⟨us, ws, e, r1, r2⟩ := hvx
      refine ⟨us ++ (c.args.toList.map a.eval ++ ws), go (p := us) (q := ws) hx e, ?_⟩
      exact join (z := []) (r := []) (bs r1) (join (z := []) (r := []) args (bs r2))
    · cases hc
  · cases hc
end
end Go.Proofs.Ytglmohcnmpbfmaa
