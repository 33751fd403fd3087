/-
  A region's operations, seen from afar: each does what is said, in whatever world; what one of them hangs on. No program in sight.
-/
import Derived.Test.YtglmohcnmpbfmaaFl
set_option linter.unusedVariables false
set_option linter.unusedSimpArgs false
namespace Go.Proofs.Ytglmohcnmpbfmaa
open Go.RowKit
def site (o : Oper) : Nat := match o.dst with
  | some d => d
  | none => 0
def muOf (mu : List Nat) (d : Nat) : Bool := match mu with
  | [] => false
  | k :: r => match Nat.beq k d with
    | true => true
    | false => muOf r d
def slotOf (ops : Array Oper) (j : Nat) : Option Nat := (ops[j]?).bind (·.dst)
/-- does the guard let it by? -/
def gd (ops : Array Oper) (o : Oper) (S : St) : Option Bool := match o.guard with
  | none => some true
  | some (j, want) => match slotOf ops j with
    | some g => match nth S.t g with
      | .d (.v (.bool b)) => some (b == want)
      | .d (.v (.tuple _)) => some false
      | _ => none
    | none => none
/-- what an operation leaves that was not wanted -/
abbrev noA : AV := .d (.v (.tuple #[]))
inductive Base (P : Program) (mu : List Nat) (ops : Array Oper) (o : Oper) (S : St) : AV → OH → Prop where
  | eff (r : Rs) (hw : gd ops o S = some true) (h : aEff P S.H (ev S.t) (muOf mu (site o)) (site o) o.op = some r) (hl : allP r.obl) : Base P mu ops o S r.eff.av r.eff.upd
  | call (c : Call) (f : FuncId) (as : List AV) (r : AV) (u : OH) (rd : List Nat) (hw : gd ops o S = some true) (hop : o.op = .call c) (hc : calleeA (ev S.t) c = some (f, as)) (hs : CallSem P S.H f as r u rd) : Base P mu ops o S r u
  | skip (hw : gd ops o S = some false) : Base P mu ops o S noA []
section
variable {P : Program} {mu : List Nat} {ops : Array Oper} {o : Oper} {C : Cx} {S : St} {a : Act}
theorem CallSem.enters {H : OH} {f : FuncId} {as : List AV} {r : AV} {u : OH} {rd : List Nat} (h : CallSem P H f as r u rd) : Enters P f := by
  cases h with
  | flat as' r hp hc hf => exact hc.1
  | gen ks as' r H' hp hc h1 h2 h3 h4 h5 => exact hc.1
theorem gd_spec {b : Bool} (h : Sat C S a) (hg : gd ops o S = some b) : Region.wanted o (yielded ops a.tmps) = b := by
  unfold gd at hg
  unfold Region.wanted
  split at hg
  · rename_i e; rw [e]; simpa using hg
  · rename_i j want e
    rw [e]
    split at hg
    · rename_i g hs
      split at hg
      · rename_i x hx
        have hv := h.t g
        rw [hx] at hv
        have hv := rv_ex_inv hv
        have hl : a.tmps[g]? = some (.bool x) := by
          rw [Array.getD_eq_getD_getElem?] at hv
          cases q : a.tmps[g]? with
          | none => rw [q] at hv; cases hv
          | some y => rw [q] at hv; simpa using hv
        have : yielded ops a.tmps j = some x := by
          unfold yielded
          rw [show (ops[j]?).bind (·.dst) = some g from hs]
          simp [hl]
        simp only [this]
        simp only [Option.some.injEq] at hg
        rw [← hg]; cases x <;> cases want <;> rfl
      · rename_i x hx
        have hv := h.t g
        rw [hx] at hv
        have hv := rv_ex_inv hv
        have : yielded ops a.tmps j = none := by
          unfold yielded
          rw [show (ops[j]?).bind (·.dst) = some g from hs]
          rw [Array.getD_eq_getD_getElem?] at hv
          cases q : a.tmps[g]? with
          | none => simp [q]
          | some y => rw [q] at hv; have hv : y = .tuple x := by simpa using hv
                      subst hv; simp [q]
        simp only [this]
        simp only [Option.some.injEq] at hg
        rw [← hg]; cases want <;> rfl
      · cases hg
    · cases hg
/-- THE OPERATION does it -/
theorem Base.sound {v : AV} {u : OH} (hb : Base P mu ops o S v u) (h : Sat C S a) {K : Act → World → Prop} {Q : Exit → Act → World → Prop}
    (hK : ∀ a' C', Sat C' (appS S o.dst v u) a' → C'.E = C.E → Fr C C' → K a' C'.W) :
    if Region.wanted o (yielded ops a.tmps) then o.wp P a C.W K Q else K (a.put o.dst undef) C.W := by
  cases hb with
  | eff r hw he hl =>
    rw [gd_spec h hw, if_pos rfl]
    obtain ⟨v, C', hr, hv, hH, hE, hF, hG⟩ := aEff_ok h.g h.ev (by rw [h.h]; exact he) hl
    have hs := h.put o.dst hF hG (by rw [hH, eff_H]) hv
    unfold Oper.wp
    rcases hr with hr | ⟨hr, rfl⟩
    · rw [hr]; exact hK _ C' hs hE hF
    · rw [hr]; exact hK _ C' hs hE hF
  | call c f as r u rd hw hop hc hs =>
    rw [gd_spec h hw, if_pos rfl]
    have hs' : CallSem P C.H f as v u rd := by rw [h.h]; exact hs
    obtain ⟨vs, hr, hv⟩ := run_call (ty := o.type) h hc hs.enters
    obtain ⟨_, hcalls⟩ := hs'.sound h.g hv
    unfold Oper.wp execOp
    simp only [hop]
    rw [hr]
    refine hcalls.mono ?_
    rintro e W' ⟨x, C', rfl, e2, e3, e4, e5, e6, e7⟩
    rw [← e2]
    exact hK _ C' (h.put o.dst e5 e6 e3 e7) e4 e5
  | skip hw =>
    rw [gd_spec h hw, if_neg (by simp)]
    exact hK _ C (h.put o.dst (Fr.refl C) h.g rfl (av := noA) (v := undef) (rv_ex _)) rfl (Fr.refl C)
end
/-! ### What it hangs on -/
section
variable {H H' : OH}
theorem hasK_ag {k : Nat} (h : look H k = look H' k) : hasK H k = hasK H' k := by rw [hasK_iff, hasK_iff, h]
theorem pur0_ag {Hp : OH} {a : AV} (h : Ag H H' (ref0 a)) : pur0 H Hp a = pur0 H' Hp a := by
  cases a with
  | own o g => simp only [pur0]; rw [curG_ag h.one, h.one]
  | _ => rfl
theorem purs_ag {Hp : OH} : ∀ {l : List AV}, Ag H H' (refL l) → purs H Hp l = purs H' Hp l
  | [], _ => rfl
  | a :: r, h => by simp only [purs, pur0_ag (a := a) h.left, purs_ag h.right]
theorem pur_ag {Hp : OH} {a : AV} (h : Ag H H' (refs a)) : pur H Hp a = pur H' Hp a := by
  cases a with
  | agg cs => simp only [pur, purs_ag (l := cs) h]
  | fn f x y => simp only [pur, purs_ag (l := x) (Ag.left h), purs_ag (l := y) (Ag.right h)]
  | own o g => exact pur0_ag (a := .own o g) h
  | _ => rfl
theorem purA_ag {Hp : OH} : ∀ {l : List AV}, Ag H H' (refA l) → purA H Hp l = purA H' Hp l
  | [], _ => rfl
  | a :: r, h => by simp only [purA, pur_ag (a := a) h.left, purA_ag h.right]
theorem pickH_ag : ∀ {ks : List Nat}, Ag H H' ks → pickH H ks = pickH H' ks
  | [], _ => rfl
  | k :: r, h => by simp only [pickH, h k (by simp), pickH_ag (ks := r) fun x hx => h x (List.mem_cons_of_mem _ hx)]
theorem frzU_ag : ∀ {l : List Nat}, Ag H H' l → frzU H l = frzU H' l
  | [], _ => rfl
  | k :: r, h => by
    have ih := frzU_ag (l := r) fun x hx => h x (List.mem_cons_of_mem _ hx)
    simp only [frzU, look_putsH, ih, h k (by simp)]
theorem frz_ag {l : List Nat} (h : Ag H H' l) {x : Nat} (hx : look H x = look H' x) : look (frz H l) x = look (frz H' l) x := by
  rw [frz_eq, frz_eq, look_putsH, look_putsH, frzU_ag h, hx]
theorem frozenAll_ag : ∀ {l : List Nat}, Ag H H' l → frozenAll H l = frozenAll H' l
  | [], _ => rfl
  | k :: r, h => by
    have ih := frozenAll_ag (l := r) fun x hx => h x (List.mem_cons_of_mem _ hx)
    simp only [frozenAll, h k (by simp), ih]
theorem newAll_ag {Hp : OH} : ∀ {L : OH}, Ag H H' (keysH L) → newAll H Hp L = newAll H' Hp L
  | [], _ => rfl
  | (k, b) :: r, h => by
    have ih := newAll_ag (Hp := Hp) (L := r) fun x hx => h x (List.mem_cons_of_mem _ hx)
    simp only [newAll, hasK_ag (h k (by simp [keysH])), ih]
theorem lentL_refs {Hp : OH} : ∀ {l : List AV}, ∀ x ∈ lentL H Hp l, x ∈ refL l
  | [], x, h => by cases h
  | a :: r, x, h => by
    simp only [lentL, refL, List.mem_append] at h ⊢
    rcases h with h | h
    · left
      cases a with
      | own o g =>
        simp only [lent0] at h
        split at h
        · cases h
        · exact h
      | _ => cases h
    · exact .inr (lentL_refs x h)
theorem lentA_refs {Hp : OH} : ∀ {l : List AV}, ∀ x ∈ lentA H Hp l, x ∈ refA l
  | [], x, h => by cases h
  | a :: r, x, h => by
    simp only [lentA, refA, List.mem_append] at h ⊢
    rcases h with h | h
    · left
      cases a with
      | agg cs => exact lentL_refs x h
      | fn f y z =>
        simp only [lent, refs, List.mem_append] at h ⊢
        exact h.imp (lentL_refs x) (lentL_refs x)
      | own o g =>
        simp only [lent, lent0] at h
        split at h
        · cases h
        · exact h
      | _ => cases h
    · exact .inr (lentA_refs x h)
theorem CallSem.ag {P : Program} {f : FuncId} {as : List AV} {r : AV} {u : OH} {rd : List Nat} (h : CallSem P H f as r u rd) (k : Ag H H' rd) : CallSem P H' f as r u rd := by
  cases h with
  | flat as' r hp hc hf => exact .flat as' r (by rw [← purA_ag k]; exact hp) hc hf
  | gen ks as' r L hp hc h1 h2 h3 h4 h5 =>
    have k1 : Ag H H' (refA as) := k.left
    have k2 : Ag H H' ks := (Ag.right (l := refA as) k).left
    have k3 : Ag H H' (keysH L) := (Ag.right (l := refA as) k).right
    have e1 : pickH H' ks = pickH H ks := (pickH_ag k2).symm
    have e2 : lentA H' (pickH H' ks) as = lentA H (pickH H ks) as := by rw [e1]; exact lentA_H _ _ _ _
    have kl : Ag H H' (lentA H (pickH H ks) as) := fun x hx => k1 x (lentA_refs x hx)
    have F : ∀ {l : List Nat}, Ag H H' l → Ag (frz H (lentA H (pickH H ks) as)) (frz H' (lentA H (pickH H ks) as)) l := fun hl x hx => frz_ag kl (hl x hx)
    have e3 : frzU H' (lentA H' (pickH H' ks) as) = frzU H (lentA H (pickH H ks) as) := by rw [e2]; exact (frzU_ag kl).symm
    rw [← e3]
    refine .gen ks as' r L ?_ ?_ ?_ ?_ ?_ ?_ ?_
    · rw [e2, e1, ← purA_ag (F k1)]; exact hp
    · rw [e1]; exact hc
    · rw [e2, ← frozenAll_ag (F kl)]; exact h1
    · rw [e1]; exact h2
    · rw [e2, e1, ← newAll_ag (F k3)]; exact h3
    · rw [e1]; exact h4
    · rw [e2, e1, ← pickH_ag (F k2)]; exact h5
end
end Go.Proofs.Ytglmohcnmpbfmaa
