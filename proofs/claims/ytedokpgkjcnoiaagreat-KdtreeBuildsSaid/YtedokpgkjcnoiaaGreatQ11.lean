/- A region's operations, seen from afar: one after the other, and in whatever order, where those that no edge holds apart don't meet. No program in sight. A region's operations, seen from afar: each does what is said, in whatever world; what one of them hangs on. No program in sight. -/
import Derived.Test.YtedokpgkjcnoiaaGreatQ10
set_option linter.unusedVariables false
set_option linter.unusedSimpArgs false
namespace Go.Proofs.YtedokpgkjcnoiaaGreat
open Go.RowKit
structure St where
 t : List AV
 H : OH
def setN : List AV → Nat → AV → List AV
 | [], _, _ => []
 | _ :: r, 0, v => v :: r
 | a :: r, n + 1, v => a :: setN r n v
theorem setN_len : ∀ (l : List AV) (n : Nat) (v : AV), (setN l n v).length = l.length
 | [], _, _ => rfl
 | _ :: _, 0, _ => rfl
 | _ :: r, n + 1, v => by simp [setN, setN_len r n v]
theorem nth_setN : ∀ (l : List AV) (n : Nat) (v : AV) (i : Nat), nth (setN l n v) i = if i = n ∧ n < l.length then v else nth l i
 | [], n, v, i => by simp [setN]
 | _ :: r, 0, v, 0 => by simp [setN, nth]
 | _ :: r, 0, v, i + 1 => by simp [setN, nth]
 | _ :: r, n + 1, v, 0 => by simp [setN, nth]
 | _ :: r, n + 1, v, i + 1 => by simp only [setN, nth, nth_setN r n v i, List.length_cons]; congr 1; simp
theorem setN_comm : ∀ (l : List AV) (n m : Nat) (v w : AV), n ≠ m → setN (setN l n v) m w = setN (setN l m w) n v
 | [], _, _, _, _, _ => rfl
 | _ :: _, 0, 0, _, _, h => absurd rfl h
 | _ :: _, 0, m + 1, _, _, _ => rfl
 | _ :: _, n + 1, 0, _, _, _ => rfl
 | _ :: r, n + 1, m + 1, v, w, h => by simp only [setN, setN_comm r n m v w (by omega)]
theorem setN_self : ∀ (l : List AV) (n : Nat) (v : AV), nth l n = v → setN l n v = l
 | [], _, _, _ => rfl
 | _ :: _, 0, _, h => by simp only [nth] at h; subst h; rfl
 | _ :: r, n + 1, v, h => by simp only [setN, setN_self r n v h]
def putD (t : List AV) (d : Option Nat) (v : AV) : List AV := match d with
 | some n => setN t n v
 | none => t
def appS (S : St) (d : Option Nat) (v : AV) (u : OH) : St := ⟨putD S.t d v, putsH S.H u⟩
/-- the frame and the world are as is seen -/
structure Sat (C : Cx) (S : St) (a : Act) : Prop where
 g : Gam C
 h : C.H = S.H
 n : a.tmps.size = S.t.length
 t : ∀ i, Rv C (nth S.t i) (a.tmps.getD i undef)
 d : a.defers = []
section
variable {P : Program} {C : Cx} {S : St} {a : Act}
theorem Sat.ev (h : Sat C S a) : ∀ x, Rv C (ev S.t x) (a.eval x)
 | .tmp i => h.t i
 | .const v => rv_ex v
 | .global g => rv_ex _
 | .func f => rv_ex _
theorem Sat.put (h : Sat C S a) {C' : Cx} {v : Value} {av : AV} {u : OH} (d : Option Nat) (hF : Fr C C') (hG : Gam C') (hH : C'.H = putsH C.H u) (hv : Rv C' av v) : Sat C' (appS S d av u) (a.put d v) := by
 refine ⟨hG, by rw [hH, h.h]; rfl, ?_, fun i => ?_, ?_⟩
 ·cases d with
  | none => exact h.n
  | some n => simp only [Act.put, appS, putD, setN_len, Array.size_setIfInBounds]; exact h.n
 ·cases d with
  | none => exact (h.t i).fr hF
  | some n =>
   simp only [Act.put, appS, putD, nth_setN]
   by_cases e : i = n ∧ n < S.t.length
   ·obtain ⟨rfl, hl⟩ := e
    rw [if_pos ⟨rfl, hl⟩, show (a.tmps.setIfInBounds i v).getD i undef = v by simp [Array.getD, h.n, hl]]
    exact hv
   ·rw [if_neg e]
    have : (a.tmps.setIfInBounds n v).getD i undef = a.tmps.getD i undef := by
     simp only [Array.getD_eq_getD_getElem?, Array.getElem?_setIfInBounds]
     by_cases q : n = i
     ·subst q
      rw [if_pos rfl, if_neg (by rw [h.n]; exact fun q => e ⟨rfl, q⟩), Array.getElem?_eq_none (by rw [h.n]; exact Nat.le_of_not_lt fun q => e ⟨rfl, q⟩)]
     ·rw [if_neg q]
    rw [this]
    exact (h.t i).fr hF
 ·cases d <;> exact h.d
def Eff.upd : Eff → OH | .val _ => [] | .put o b _ => [(o, b)]
theorem eff_H (H : OH) (e : Eff) : e.H H = putsH H e.upd := by cases e <;> rfl
/-! ### Calls -/
def calleeA (e : Operand → AV) (c : Call) : Option (FuncId × List AV) := match c.callee with
 | .value x => match e x with
  | .d (.v (.func (.func f) a b)) => some (f, exs a.toList ++ (evL e c.args.toList ++ exs b.toList))
  | .fn (.func f) a b => some (f, a ++ (evL e c.args.toList ++ b))
  | _ => none
 | _ => none
def pickH (H : OH) : List Nat → OH
 | [] => []
 | o :: r => match look H o with
  | some b => (o, b) :: pickH H r
  | none => pickH H r
theorem pickH_sub (H : OH) : ∀ (ks : List Nat) (o : Nat) (b : Ob), look (pickH H ks) o = some b → look H o = some b
 | [], _, _, h => by cases h
 | k :: r, o, b, h => by
  simp only [pickH] at h
  split at h
  ·rename_i c hk
   simp only [look] at h
   split at h
   ·rename_i e
    obtain rfl := (beq_nat_iff _ _).1 e
    rw [hk]; exact h
   ·exact pickH_sub H r o b h
  ·exact pickH_sub H r o b h
def keysH : OH → List Nat
 | [] => []
 | (k, _) :: r => k :: keysH r
theorem keysH_iff (x : Nat) : ∀ u : OH, x ∉ keysH u → look u x = none
 | [], _ => rfl
 | (k, b) :: r, h => by
  simp only [keysH, List.mem_cons, not_or] at h
  simp only [look]
  rw [(beq_nat_false _ _).2 (Ne.symm h.1)]
  exact keysH_iff x r h.2
def frzU (H : OH) : List Nat → OH
 | [] => []
 | o :: r => match look (putsH H (frzU H r)) o with
  | some (.row ty sz g _ n f) => (o, .row ty sz g true n f) :: frzU H r
  | _ => frzU H r
theorem frz_eq (H : OH) : ∀ l, frz H l = putsH H (frzU H l)
 | [] => rfl
 | o :: r => by
  simp only [frz, frzU, frz_eq H r]
  split <;> simp_all [putsH]
theorem putsH_append (H : OH) (L : OH) : ∀ M : OH, putsH H (M ++ L) = putsH (putsH H L) M
 | [] => rfl
 | (o, b) :: r => by simp only [List.cons_append, putsH, putsH_append H L r]
def frozenAll (H : OH) : List Nat → Bool
 | [] => true
 | o :: r => match look H o with
  | some (.row _ _ _ fz _ _) => match fz with
   | true => frozenAll H r
   | false => false
  | _ => false
theorem frozenAll_spec {H : OH} : ∀ {l : List Nat}, frozenAll H l = true → ∀ o ∈ l, ∀ ob, look H o = some ob → ob.free = false
 | [], _, o, h, _, _ => by cases h
 | k :: r, hf, o, h, ob, ho => by
  simp only [frozenAll] at hf
  split at hf
  ·rename_i ty sz g fz n f hk
   split at hf
   ·rcases List.mem_cons.1 h with rfl | h
    ·rw [hk] at ho
     obtain rfl := Option.some.inj ho
     rfl
    ·exact frozenAll_spec hf o h ob ho
   ·cases hf
  ·cases hf
def freeAll : OH → Bool
 | [] => true
 | (_, b) :: r => match b.free with
  | true => freeAll r
  | false => false
theorem freeAll_spec : ∀ {H : OH}, freeAll H = true → ∀ o ob, look H o = some ob → ob.free = true
 | [], _, o, ob, h => by cases h
 | (k, b) :: r, hf, o, ob, h => by
  simp only [freeAll] at hf
  simp only [look] at h
  split at hf
  ·rename_i hb
   split at h
   ·cases h; exact hb
   ·exact freeAll_spec hf o ob h
  ·cases hf
def newAll (H Hp : OH) : OH → Bool
 | [] => true
 | (k, _) :: r => match hasK Hp k, hasK H k with
  | false, true => false
  | _, _ => newAll H Hp r
theorem newAll_spec {H Hp : OH} : ∀ {L : OH}, newAll H Hp L = true → ∀ o ob, look L o = some ob → look Hp o = none → look H o = none
 | [], _, o, ob, h, _ => by cases h
 | (k, b) :: r, hf, o, ob, h, hp => by
  simp only [newAll] at hf
  simp only [look] at h
  split at h
  ·rename_i e
   obtain rfl := (beq_nat_iff _ _).1 e
   have e1 : hasK Hp k = false := by rw [hasK_iff, hp]; rfl
   split at hf
   ·cases hf
   ·rename_i q
    cases e2 : hasK H k with
    | false =>
     rw [hasK_iff] at e2
     cases hl : look H k with
     | none => rfl
     | some x => rw [hl] at e2; cases e2
    | true => exact absurd e2 (q e1)
  ·split at hf
   ·cases hf
   ·exact newAll_spec hf o ob h hp
/-- what a call does, and which objects it hangs on -/
inductive CallSem (P : Program) (H : OH) (f : FuncId) (as : List AV) : AV → OH → List Nat → Prop where
  | flat (as' : List AV) (r : AV) (hp : purA H [] as = some as') (hc : ACall P f as' [] r []) (hf : flat r = true) : CallSem P H f as r [] (refA as)
  | gen (ks : List Nat) (as' : List AV) (r : AV) (H' : OH) (hp : purA (frz H (lentA H (pickH H ks) as)) (pickH H ks) as = some as') (hc : ACall P f as' (pickH H ks) r H')
      (h1 : frozenAll (frz H (lentA H (pickH H ks) as)) (lentA H (pickH H ks) as) = true) (h2 : freeAll (pickH H ks) = true) (h3 : newAll (frz H (lentA H (pickH H ks) as)) (pickH H ks) H' = true) (h4 : closedH (pickH H ks) (pickH H ks) = true)
      (h5 : pickH (frz H (lentA H (pickH H ks) as)) ks = pickH H ks) :
      CallSem P H f as r (H' ++ frzU H (lentA H (pickH H ks) as)) (refA as ++ (ks ++ keysH H'))
theorem evL_getD (e : Operand → AV) (ρ : Operand → Value) : ∀ (l : List Operand) (j : Nat), j < l.length → ∃ x, (evL e l).getD j .any = e x ∧ (l.map ρ).getD j undef = ρ x
 | [], j, h => by cases h
 | x :: r, 0, _ => ⟨x, rfl, rfl⟩
 | x :: r, j + 1, h => by
  obtain ⟨y, h1, h2⟩ := evL_getD e ρ r j (by simpa using h)
  exact ⟨y, by simpa [evL] using h1, by simpa using h2⟩
theorem evL_len (e : Operand → AV) : ∀ l : List Operand, (evL e l).length = l.length
 | [] => rfl
 | _ :: r => by simp [evL, evL_len e r]
theorem lentA_H (H H' Hp : OH) : ∀ as : List AV, lentA H Hp as = lentA H' Hp as
 | [] => rfl
 | a :: r => by
  have L : ∀ l : List AV, lentL H Hp l = lentL H' Hp l := by
   intro l
   induction l with
   | nil => rfl
   | cons x l ih => simp only [lentL, ih]; congr 1
  simp only [lentA, lentA_H H H' Hp r]
  congr 1
  cases a <;> simp only [lent, L] <;> rfl
theorem CallSem.sound {f : FuncId} {as : List AV} {r : AV} {u : OH} {rd : List Nat} (h : CallSem P C.H f as r u rd) (G : Gam C) {vs : List Value} (hv : as.length = vs.length ∧ ∀ j, j < as.length → Rv C (as.getD j .any) (vs.getD j undef)) :
    Enters P f ∧ Calls P f vs.toArray C.W fun e W' => ∃ v C', e = .returned v ∧ C'.W = W' ∧ C'.H = putsH C.H u ∧ C'.E = C.E ∧ Fr C C' ∧ Gam C' ∧ Rv C' r v := by
  cases h with
  | flat as' r hp hc hf => exact ⟨hc.1, call_flat G hc hp hf hv⟩
  | gen ks as' r H' hp hc h1 h2 h3 h4 h5 =>
    refine ⟨hc.1, ?_⟩
    obtain ⟨hF, hG⟩ := G.frzL (lentA C.H (pickH C.H ks) as)
    have := call_gen hG hc hp (fun o ho ob hob => frozenAll_spec h1 o (by rw [lentA_H C.H (frz C.H (lentA C.H (pickH C.H ks) as))]; exact ho) ob hob)
      (fun o ob ho => ⟨pickH_sub _ ks o ob (by rw [h5]; exact ho), freeAll_spec h2 o ob ho⟩) (newAll_spec h3) h4 ⟨hv.1, fun j hj => (hv.2 j hj).fr hF⟩
    refine this.mono ?_
    rintro e W' ⟨v, C', e1, e2, e3, e4, e5, e6, e7⟩
    exact ⟨v, C', e1, e2, by rw [e3, putsH_append, ← frz_eq], e4, hF.trans e5, e6, e7⟩
/-- a call's run, where the callee is known -/
theorem run_call {f : FuncId} {as : List AV} {c : Call} {ty : TypeId} (h : Sat C S a) (hc : calleeA (Go.Proofs.YtedokpgkjcnoiaaGreat.ev S.t) c = some (f, as)) (hE : Enters P f) :
    ∃ vs : List Value, (do let d ← resolve a.eval c ty; invoke d.target d.args).run P C.W = .ok (.enter f vs.toArray) C.W ∧ as.length = vs.length ∧ ∀ j, j < as.length → Rv C (as.getD j .any) (vs.getD j undef) := by
  have he := h.ev
  unfold calleeA at hc
  have join : ∀ {x y z : List AV} {p q r : List Value}, (x.length = p.length ∧ ∀ j, j < x.length → Rv C (x.getD j .any) (p.getD j undef)) → (y.length = q.length ∧ ∀ j, j < y.length → Rv C (y.getD j .any) (q.getD j undef)) →
      (x ++ y).length = (p ++ q).length ∧ ∀ j, j < (x ++ y).length → Rv C ((x ++ y).getD j .any) ((p ++ q).getD j undef) := fun {x y z p q r} h1 h2 => by
    refine ⟨by simp [h1.1, h2.1], fun j hj => ?_⟩
    by_cases e : j < x.length
    · rw [show (x ++ y).getD j .any = x.getD j .any by simp [List.getD_eq_getElem?_getD, List.getElem?_append_left e], show (p ++ q).getD j undef = p.getD j undef by simp [List.getD_eq_getElem?_getD, List.getElem?_append_left (show j < p.length by omega)]]
      exact h1.2 j e
    · simp only [List.length_append] at hj
      rw [show (x ++ y).getD j .any = y.getD (j - x.length) .any by simp [List.getD_eq_getElem?_getD, List.getElem?_append_right (show x.length ≤ j by omega)],
        show (p ++ q).getD j undef = q.getD (j - x.length) undef by simp [List.getD_eq_getElem?_getD, List.getElem?_append_right (show p.length ≤ j by omega), h1.1]]
      exact h2.2 _ (by omega)
  have args : (evL (Go.Proofs.YtedokpgkjcnoiaaGreat.ev S.t) c.args.toList).length = (c.args.toList.map a.eval).length ∧ ∀ j, j < (evL (Go.Proofs.YtedokpgkjcnoiaaGreat.ev S.t) c.args.toList).length → Rv C ((evL (Go.Proofs.YtedokpgkjcnoiaaGreat.ev S.t) c.args.toList).getD j .any) ((c.args.toList.map a.eval).getD j undef) := by
    refine ⟨by simp [evL_len], fun j hj => ?_⟩
    rw [evL_len] at hj
    obtain ⟨x, h1, h2⟩ := evL_getD (Go.Proofs.YtedokpgkjcnoiaaGreat.ev S.t) a.eval c.args.toList j hj
    rw [h1, h2]; exact he x
  have exact_ : ∀ l : List Value, (exs l).length = l.length ∧ ∀ j, j < (exs l).length → Rv C ((exs l).getD j .any) (l.getD j undef) := fun l =>
    ⟨by simp [exs], fun j hj => rv_of_rb ((rbs_exact C l).2 j hj)⟩
  have bs : ∀ {l : List AV} {m : List Value}, Rbs C l m → l.length = m.length ∧ ∀ j, j < l.length → Rv C (l.getD j .any) (m.getD j undef) := fun r => ⟨r.1, fun j hj => rv_of_rb (r.2 j hj)⟩
  have go : ∀ {x : Operand} {p q : List Value}, c.callee = .value x → a.eval x = .func (.func f) p.toArray q.toArray →
      (do let d ← resolve a.eval c ty; invoke d.target d.args).run P C.W = .ok (.enter f (p ++ (c.args.toList.map a.eval ++ q)).toArray) C.W := fun {x p q} h1 h2 => by
    have hE' : ∀ args W, (callFunc f args).run P W = .ok (.enter f args) W := hE
    simp only [resolve, h1, h2, Deferred.ofValue, Sem.run_bind, Sem.run_pure, Result.andThen_ok, invoke, hE']
    congr 2
    apply Array.toList_inj.1
    simp
  split at hc
  · rename_i x hx
    have hvx := he x
    split at hc
    · rename_i f' p q hev
      simp only [Option.some.injEq, Prod.mk.injEq] at hc
      obtain ⟨rfl, rfl⟩ := hc
      rw [hev] at hvx
      have e := rv_ex_inv hvx
      refine ⟨p.toList ++ (c.args.toList.map a.eval ++ q.toList), go (p := p.toList) (q := q.toList) hx (by simpa using e), ?_⟩
      exact join (z := []) (r := []) (exact_ _) (join (z := []) (r := []) args (exact_ _))
    · rename_i f' p q hev
      simp only [Option.some.injEq, Prod.mk.injEq] at hc
      obtain ⟨rfl, rfl⟩ := hc
      rw [hev] at hvx
      obtain ⟨us, ws, e, r1, r2⟩ := hvx
      refine ⟨us ++ (c.args.toList.map a.eval ++ ws), go (p := us) (q := ws) hx e, ?_⟩
      exact join (z := []) (r := []) (bs r1) (join (z := []) (r := []) args (bs r2))
    · cases hc
  · cases hc
end
end Go.Proofs.YtedokpgkjcnoiaaGreat
namespace Go.Proofs.YtedokpgkjcnoiaaGreat
open Go.RowKit
def site (o : Oper) : Nat := match o.dst with
 | some d => d
 | none => 0
def muOf (mu : List Nat) (d : Nat) : Bool := match mu with
 | [] => false
 | k :: r => match Nat.beq k d with
  | true => true
  | false => muOf r d
def slotOf (ops : Array Oper) (j : Nat) : Option Nat := (ops[j]?).bind (·.dst)
/-- does the guard let it by? -/
def gd (ops : Array Oper) (o : Oper) (S : St) : Option Bool := match o.guard with
 | none => some true
 | some (j, want) => match slotOf ops j with
  | some g => match nth S.t g with
   | .d (.v (.bool b)) => some (b == want)
   | .d (.v (.tuple _)) => some false
   | _ => none
  | none => none
/-- what an operation leaves that was not wanted -/
abbrev noA : AV := .d (.v (.tuple #[]))
inductive Base (P : Program) (mu : List Nat) (ops : Array Oper) (o : Oper) (S : St) : AV → OH → Prop where
 | eff (r : Rs) (hw : gd ops o S = some true) (h : aEff P S.H (ev S.t) (muOf mu (site o)) (site o) o.op = some r) (hl : allP r.obl) : Base P mu ops o S r.eff.av r.eff.upd
 | call (c : Call) (f : FuncId) (as : List AV) (r : AV) (u : OH) (rd : List Nat) (hw : gd ops o S = some true) (hop : o.op = .call c) (hc : calleeA (ev S.t) c = some (f, as)) (hs : CallSem P S.H f as r u rd) : Base P mu ops o S r u
 | skip (hw : gd ops o S = some false) : Base P mu ops o S noA []
 | cho (w : Cho) (r : Rs) (hw : gd ops o S = some true) (h : aCho P S.H (ev S.t) w o.op = some r) (hl : allP r.obl) : Base P mu ops o S r.eff.av r.eff.upd
section
variable {P : Program} {mu : List Nat} {ops : Array Oper} {o : Oper} {C : Cx} {S : St} {a : Act}
theorem CallSem.enters {H : OH} {f : FuncId} {as : List AV} {r : AV} {u : OH} {rd : List Nat} (h : CallSem P H f as r u rd) : Enters P f := by
 cases h with
 | flat as' r hp hc hf => exact hc.1
 | gen ks as' r H' hp hc h1 h2 h3 h4 h5 => exact hc.1
theorem gd_spec {b : Bool} (h : Sat C S a) (hg : gd ops o S = some b) : Region.wanted o (yielded ops a.tmps) = b := by
  unfold gd at hg
  unfold Region.wanted
  split at hg
  · rename_i e; rw [e]; simpa using hg
  · rename_i j want e
    rw [e]
    split at hg
    · rename_i g hs
      split at hg
      · rename_i x hx
        have hv := h.t g
        rw [hx] at hv
        have hv := rv_ex_inv hv
        have hl : a.tmps[g]? = some (.bool x) := by
          rw [Array.getD_eq_getD_getElem?] at hv
          cases q : a.tmps[g]? with
          | none => rw [q] at hv; cases hv
          | some y => rw [q] at hv; simpa using hv
        have : yielded ops a.tmps j = some x := by
          unfold yielded
          rw [show (ops[j]?).bind (·.dst) = some g from hs]
          simp [hl]
        simp only [this]
        simp only [Option.some.injEq] at hg
        rw [← hg]; cases x <;> cases want <;> rfl
      · rename_i x hx
        have hv := h.t g
        rw [hx] at hv
        have hv := rv_ex_inv hv
        have : yielded ops a.tmps j = none := by
          unfold yielded
          rw [show (ops[j]?).bind (·.dst) = some g from hs]
          rw [Array.getD_eq_getD_getElem?] at hv
          cases q : a.tmps[g]? with
          | none => simp [q]
          | some y => rw [q] at hv; have hv : y = .tuple x := by simpa using hv
                      subst hv; simp [q]
        simp only [this]
        simp only [Option.some.injEq] at hg
        rw [← hg]; cases want <;> rfl
      · cases hg
    · cases hg
/-- THE OPERATION does it -/
theorem Base.sound {v : AV} {u : OH} (hb : Base P mu ops o S v u) (h : Sat C S a) {K : Act → World → Prop} {Q : Exit → Act → World → Prop}
    (hK : ∀ a' C', Sat C' (appS S o.dst v u) a' → C'.E = C.E → Fr C C' → K a' C'.W) :
    if Region.wanted o (yielded ops a.tmps) then o.wp P a C.W K Q else K (a.put o.dst undef) C.W := by
  cases hb with
  | eff r hw he hl =>
    rw [gd_spec h hw, if_pos rfl]
    obtain ⟨v, C', hr, hv, hH, hE, hF, hG⟩ := aEff_ok h.g h.ev (by rw [h.h]; exact he) hl
    have hs := h.put o.dst hF hG (by rw [hH, eff_H]) hv
    unfold Oper.wp
    rcases hr with hr | ⟨hr, rfl⟩
    · rw [hr]; exact hK _ C' hs hE hF
    · rw [hr]; exact hK _ C' hs hE hF
  | call c f as r u rd hw hop hc hs =>
    rw [gd_spec h hw, if_pos rfl]
    have hs' : CallSem P C.H f as v u rd := by rw [h.h]; exact hs
    obtain ⟨vs, hr, hv⟩ := run_call (ty := o.type) h hc hs.enters
    obtain ⟨_, hcalls⟩ := hs'.sound h.g hv
    unfold Oper.wp execOp
    simp only [hop]
    rw [hr]
    refine hcalls.mono ?_
    rintro e W' ⟨x, C', rfl, e2, e3, e4, e5, e6, e7⟩
    rw [← e2]
    exact hK _ C' (h.put o.dst e5 e6 e3 e7) e4 e5
  | cho w r hw he hl =>
    rw [gd_spec h hw, if_pos rfl]
    obtain ⟨v, C', hr, hv, hH, hE, hF, hG⟩ := aCho_ok h.g h.ev (by rw [h.h]; exact he) hl
    have hs := h.put o.dst hF hG (by rw [hH, eff_H]) hv
    unfold Oper.wp
    rcases hr with hr | ⟨hr, rfl⟩
    · rw [hr]; exact hK _ C' hs hE hF
    · rw [hr]; exact hK _ C' hs hE hF
  | skip hw =>
    rw [gd_spec h hw, if_neg (by simp)]
    exact hK _ C (h.put o.dst (Fr.refl C) h.g rfl (av := noA) (v := undef) (rv_ex _)) rfl (Fr.refl C)
end
/-! ### What it hangs on -/
section
variable {H H' : OH}
theorem hasK_ag {k : Nat} (h : look H k = look H' k) : hasK H k = hasK H' k := by rw [hasK_iff, hasK_iff, h]
theorem pur0_ag {Hp : OH} {a : AV} (h : Ag H H' (ref0 a)) : pur0 H Hp a = pur0 H' Hp a := by
 cases a with
 | own o g => simp only [pur0]; rw [curG_ag h.one, h.one]
 | _ => rfl
theorem purs_ag {Hp : OH} : ∀ {l : List AV}, Ag H H' (refL l) → purs H Hp l = purs H' Hp l
 | [], _ => rfl
 | a :: r, h => by simp only [purs, pur0_ag (a := a) h.left, purs_ag h.right]
theorem pur_ag {Hp : OH} {a : AV} (h : Ag H H' (refs a)) : pur H Hp a = pur H' Hp a := by
 cases a with
 | agg cs => simp only [pur, purs_ag (l := cs) h]
 | fn f x y => simp only [pur, purs_ag (l := x) (Ag.left h), purs_ag (l := y) (Ag.right h)]
 | own o g => exact pur0_ag (a := .own o g) h
 | _ => rfl
theorem purA_ag {Hp : OH} : ∀ {l : List AV}, Ag H H' (refA l) → purA H Hp l = purA H' Hp l
 | [], _ => rfl
 | a :: r, h => by simp only [purA, pur_ag (a := a) h.left, purA_ag h.right]
theorem pickH_ag : ∀ {ks : List Nat}, Ag H H' ks → pickH H ks = pickH H' ks
 | [], _ => rfl
 | k :: r, h => by simp only [pickH, h k (by simp), pickH_ag (ks := r) fun x hx => h x (List.mem_cons_of_mem _ hx)]
theorem frzU_ag : ∀ {l : List Nat}, Ag H H' l → frzU H l = frzU H' l
 | [], _ => rfl
 | k :: r, h => by
  have ih := frzU_ag (l := r) fun x hx => h x (List.mem_cons_of_mem _ hx)
  simp only [frzU, look_putsH, ih, h k (by simp)]
theorem frz_ag {l : List Nat} (h : Ag H H' l) {x : Nat} (hx : look H x = look H' x) : look (frz H l) x = look (frz H' l) x := by
 rw [frz_eq, frz_eq, look_putsH, look_putsH, frzU_ag h, hx]
theorem frozenAll_ag : ∀ {l : List Nat}, Ag H H' l → frozenAll H l = frozenAll H' l
 | [], _ => rfl
 | k :: r, h => by
  have ih := frozenAll_ag (l := r) fun x hx => h x (List.mem_cons_of_mem _ hx)
  simp only [frozenAll, h k (by simp), ih]
theorem newAll_ag {Hp : OH} : ∀ {L : OH}, Ag H H' (keysH L) → newAll H Hp L = newAll H' Hp L
 | [], _ => rfl
 | (k, b) :: r, h => by
  have ih := newAll_ag (Hp := Hp) (L := r) fun x hx => h x (List.mem_cons_of_mem _ hx)
  simp only [newAll, hasK_ag (h k (by simp [keysH])), ih]
theorem lentL_refs {Hp : OH} : ∀ {l : List AV}, ∀ x ∈ lentL H Hp l, x ∈ refL l
 | [], x, h => by cases h
 | a :: r, x, h => by
  simp only [lentL, refL, List.mem_append] at h ⊢
  rcases h with h | h
  ·left
   cases a with
   | own o g =>
    simp only [lent0] at h
    split at h
    ·cases h
    ·exact h
   | _ => cases h
  ·exact .inr (lentL_refs x h)
theorem lentA_refs {Hp : OH} : ∀ {l : List AV}, ∀ x ∈ lentA H Hp l, x ∈ refA l
 | [], x, h => by cases h
 | a :: r, x, h => by
  simp only [lentA, refA, List.mem_append] at h ⊢
  rcases h with h | h
  ·left
   cases a with
   | agg cs => exact lentL_refs x h
   | fn f y z =>
    simp only [lent, refs, List.mem_append] at h ⊢
    exact h.imp (lentL_refs x) (lentL_refs x)
   | own o g =>
    simp only [lent, lent0] at h
    split at h
    ·cases h
    ·exact h
   | _ => cases h
  ·exact .inr (lentA_refs x h)
theorem CallSem.ag {P : Program} {f : FuncId} {as : List AV} {r : AV} {u : OH} {rd : List Nat} (h : CallSem P H f as r u rd) (k : Ag H H' rd) : CallSem P H' f as r u rd := by
 cases h with
 | flat as' r hp hc hf => exact .flat as' r (by rw [← purA_ag k]; exact hp) hc hf
 | gen ks as' r L hp hc h1 h2 h3 h4 h5 =>
  have k1 : Ag H H' (refA as) := k.left
  have k2 : Ag H H' ks := (Ag.right (l := refA as) k).left
  have k3 : Ag H H' (keysH L) := (Ag.right (l := refA as) k).right
  have e1 : pickH H' ks = pickH H ks := (pickH_ag k2).symm
  have e2 : lentA H' (pickH H' ks) as = lentA H (pickH H ks) as := by rw [e1]; exact lentA_H _ _ _ _
  have kl : Ag H H' (lentA H (pickH H ks) as) := fun x hx => k1 x (lentA_refs x hx)
  have F : ∀ {l : List Nat}, Ag H H' l → Ag (frz H (lentA H (pickH H ks) as)) (frz H' (lentA H (pickH H ks) as)) l := fun hl x hx => frz_ag kl (hl x hx)
  have e3 : frzU H' (lentA H' (pickH H' ks) as) = frzU H (lentA H (pickH H ks) as) := by rw [e2]; exact (frzU_ag kl).symm
  rw [← e3]
  refine .gen ks as' r L ?_ ?_ ?_ ?_ ?_ ?_ ?_
  ·rw [e2, e1, ← purA_ag (F k1)]; exact hp
  ·rw [e1]; exact hc
  ·rw [e2, ← frozenAll_ag (F kl)]; exact h1
  ·rw [e1]; exact h2
  ·rw [e2, e1, ← newAll_ag (F k3)]; exact h3
  ·rw [e1]; exact h4
  ·rw [e2, e1, ← pickH_ag (F k2)]; exact h5
end
end Go.Proofs.YtedokpgkjcnoiaaGreat
