/- What is seen may be told anew: equal lists, fewer objects. No program in sight. -/
import Derived.Test.YtbidoddghdbaoaaY17
set_option linter.unusedVariables false
set_option linter.unusedSimpArgs false
namespace Go.Proofs.Ytbidoddghdbaoaa
open Go.RowKit
def dvEq : DV → DV → Prop
  | .v x, .v y => x = y
  | .sl s n f, .sl s' n' f' => s = s' ∧ n = n' ∧ ∀ k, k < n → f k = f' k
  | .v (.slice _ n _), .sl _ n' _ => n = 0 ∧ n' = 0
  | .p cs, .p ds => cs = ds
  | .fn f cs, .fn g ds => f = g ∧ cs = ds
  | _, _ => False
def avEq0 : AV → AV → Prop
  | _, .any => True
  | .d x, .d y => dvEq x y
  | a, b => a = b
def avEqL : List AV → List AV → Prop
  | [], [] => True
  | a :: r, b :: r' => avEq0 a b ∧ avEqL r r'
  | _, _ => False
def avEq1 : AV → AV → Prop
  | .agg cs, .agg ds => avEqL cs ds
  | a, b => avEq0 a b
def avEqT : List AV → List AV → Prop
  | [], [] => True
  | a :: r, b :: r' => avEq1 a b ∧ avEqT r r'
  | _, _ => False
def avEq : AV → AV → Prop
  | .tup cs, .tup ds => avEqT cs ds
  | a, b => avEq1 a b
def obEq : Ob → Ob → Prop
  | .row ty sz g fz n f, .row ty' sz' g' fz' n' f' => ty = ty' ∧ sz = sz' ∧ g = g' ∧ fz = fz' ∧ n = n' ∧ ∀ k, k < n → f k = f' k
  | .box ty cs, .box ty' ds => ty = ty' ∧ avEqL cs ds
  | .mp ok L, .mp ok' L' => ok = ok' ∧ L = L'
  | _, _ => False
theorem dvEq_refl (x : DV) : dvEq x x := by
  cases x with
  | v y => exact rfl
  | sl s n f => exact ⟨rfl, rfl, fun _ _ => rfl⟩
  | p cs => exact rfl
  | fn f cs => exact ⟨rfl, rfl⟩
theorem avEq0_refl (a : AV) : avEq0 a a := by
  cases a with
  | d x => exact dvEq_refl x
  | any => trivial
  | _ => exact rfl
theorem avEqL_refl : ∀ l : List AV, avEqL l l
  | [] => trivial
  | a :: r => ⟨avEq0_refl a, avEqL_refl r⟩
theorem avEq1_refl (a : AV) : avEq1 a a := by
  cases a with
  | agg cs => exact avEqL_refl cs
  | d x => exact dvEq_refl x
  | any => trivial
  | _ => exact rfl
theorem avEqT_refl : ∀ l : List AV, avEqT l l
  | [] => trivial
  | a :: r => ⟨avEq1_refl a, avEqT_refl r⟩
theorem avEq_refl (a : AV) : avEq a a := by
  cases a with
  | tup cs => exact avEqT_refl cs
  | agg cs => exact avEqL_refl cs
  | d x => exact dvEq_refl x
  | any => trivial
  | _ => exact rfl
section
variable {C : Cx}
theorem RD.eqv {W : World} {N : Nat → Prop} {x y : DV} {v : Value} (h : RD W N x v) (e : dvEq x y) : RD W N y v := by
  cases x with
  | v a =>
    cases y with
    | v b => cases h; have e' : v = b := e; subst e'; exact .v _
    | sl s n f =>
      cases h
      cases v <;> first | exact False.elim e | skip
      obtain ⟨rfl, rfl⟩ : _ ∧ _ := e
      exact .sl s 0 f _ 0 0 _ (fun _ _ => default) (fun h => by omega) (Nat.zero_le _) (fun i hi => by omega) (fun i j hi => by omega) (fun i j hi => by omega)
    | p cs => cases a <;> exact False.elim e
    | fn f cs => cases a <;> exact False.elim e
  | fn f cs =>
    cases y with
    | fn g ds => obtain ⟨rfl, rfl⟩ := (show f = g ∧ cs = ds from e); exact h
    | p ds => exact False.elim e
    | v b => exact False.elim e
    | sl s n f => exact False.elim e
  | p cs =>
    cases y with
    | p ds => have e' : cs = ds := e; subst e'; exact h
    | fn g ds => exact False.elim e
    | v b => exact False.elim e
    | sl s n f => exact False.elim e
  | sl s n f =>
    cases y with
    | v b => exact False.elim e
    | p cs => exact False.elim e
    | fn g cs => exact False.elim e
    | sl s' n' f' =>
      obtain ⟨rfl, rfl, e⟩ := e
      cases h with
      | sl sz n f A b off c u hA hc hl hu hr =>
        exact .sl s n f' A b off c u hA hc (fun i hi => by rw [← e i hi]; exact hl i hi) hu (fun i j hi hj => by rw [← e i hi]; exact hr i j hi hj)
theorem Rb.eqv : ∀ {a b : AV} {v : Value}, Rb C a v → avEq0 a b → Rb C b v := by
  intro a b v h e
  cases b with
  | any => trivial
  | d y =>
    cases a with
    | d x => exact RD.eqv h e
    | _ => first | exact h.elim | (exact absurd (show _ = _ from e) (by intro q; cases q))
  | _ => cases a <;> first | exact h.elim | (have e' : _ = _ := e; rw [← e']; exact h) | (have e' : _ = _ := e; cases e')
theorem Rbs.eqv : ∀ {cs ds : List AV} {us : List Value}, Rbs C cs us → avEqL cs ds → Rbs C ds us
  | [], [], us, h, _ => h
  | a :: r, b :: r', us, h, e => by
    cases us with
    | nil => have := h.1; simp at this
    | cons u us =>
      have ih := Rbs.eqv (cs := r) (ds := r') (us := us) ⟨by simpa using h.1, fun j hj => by simpa using h.2 (j + 1) (by simpa using hj)⟩ e.2
      refine ⟨by simpa using ih.1, fun j hj => ?_⟩
      cases j with
      | zero => exact Rb.eqv (by simpa using h.2 0 (by simp)) e.1
      | succ j => simpa using ih.2 j (by simpa using hj)
  | [], b :: r', us, _, e => e.elim
  | a :: r, [], us, _, e => e.elim
theorem R1.eqv {a b : AV} {v : Value} (h : R1 C a v) (e : avEq1 a b) : R1 C b v := by
  cases b with
  | any => trivial
  | agg ds =>
    cases a with
    | agg cs => obtain ⟨us, q, r⟩ := h; exact ⟨us, q, r.eqv e⟩
    | _ => exact absurd (show _ = _ from e) (by intro q; cases q)
  | fn f x y =>
    cases a with
    | fn f' x' y' => have e' : _ = _ := e; rw [← e']; exact h
    | _ => exact absurd (show _ = _ from e) (by intro q; cases q)
  | d y =>
    cases a with
    | d x => exact RD.eqv h e
    | _ => exact absurd (show _ = _ from e) (by intro q; cases q)
  | _ => cases a <;> first | (have e' : _ = _ := e; rw [← e']; exact h) | (have e' : _ = _ := e; cases e')
theorem Rv.eqv {a b : AV} {v : Value} (h : Rv C a v) (e : avEq a b) : Rv C b v := by
  have up : ∀ {a b : AV}, R1 C a v → avEq1 a b → Rv C b v := fun h e => rv_of_r1 (h.eqv e)
  cases a with
  | tup cs =>
    cases b with
    | tup ds =>
      obtain ⟨us, q, l, r⟩ := h
      refine ⟨us, q, ?_⟩
      clear q
      have : ∀ {cs ds : List AV} {us : List Value}, (cs.length = us.length ∧ ∀ j, j < cs.length → R1 C (cs.getD j .any) (us.getD j undef)) → avEqT cs ds → (ds.length = us.length ∧ ∀ j, j < ds.length → R1 C (ds.getD j .any) (us.getD j undef)) := by
        intro cs
        induction cs with
        | nil => intro ds us h e; cases ds with | nil => exact h | cons b r => exact e.elim
        | cons a r ih =>
          intro ds us h e
          cases ds with
          | nil => exact e.elim
          | cons b r' =>
            cases us with
            | nil => have := h.1; simp at this
            | cons u us =>
              have k := ih (ds := r') (us := us) ⟨by simpa using h.1, fun j hj => by simpa using h.2 (j + 1) (by simpa using hj)⟩ e.2
              refine ⟨by simpa using k.1, fun j hj => ?_⟩
              cases j with
              | zero => exact R1.eqv (by simpa using h.2 0 (by simp)) e.1
              | succ j => simpa using k.2 j (by simpa using hj)
      exact this ⟨l, r⟩ e
    | any => trivial
    | _ => exact absurd (show _ = _ from e) (by intro q; cases q)
  | any => exact up (a := .any) trivial (by cases b <;> exact e)
  | d x => exact up (a := .d x) h (by cases b <;> exact e)
  | dp x => exact up (a := .dp x) h (by cases b <;> exact e)
  | ptr x y z w => exact up (a := .ptr x y z w) h (by cases b <;> exact e)
  | own x y => exact up (a := .own x y) h (by cases b <;> exact e)
  | win a1 a2 a3 a4 a5 => exact up (a := .win a1 a2 a3 a4 a5) h (by cases b <;> exact e)
  | agg x => exact up (a := .agg x) h (by cases b <;> exact e)
  | fn x y z => exact up (a := .fn x y z) h (by cases b <;> exact e)
/-! ### Fewer objects -/
def ref1In (H : OH) : AV → Bool
  | .agg ds => ds.all (refIn H)
  | .fn _ x y => (x ++ y).all (refIn H)
  | a => refIn H a
def refsIn (H : OH) : AV → Bool
  | .agg cs => cs.all (refIn H)
  | .fn _ x y => match x.all (refIn H) with
    | true => y.all (refIn H)
    | false => false
  | .tup cs => cs.all (ref1In H)
  | a => refIn H a
structure Less (C D : Cx) : Prop where
  W : D.W = C.W
  E : D.E = C.E
  v : D.vl = C.vl
  h : ∀ o b, look D.H o = some b → ∃ b0, look C.H o = some b0 ∧ obEq b0 b
theorem obEq_gen {a b : Ob} (h : obEq a b) : a.gen = b.gen ∧ a.free = b.free := by
  cases a <;> cases b <;> first | exact h.elim | skip
  · obtain ⟨_, _, rfl, rfl, _⟩ := h; exact ⟨rfl, rfl⟩
  · exact ⟨rfl, rfl⟩
  · exact ⟨rfl, rfl⟩
theorem avEqL_len : ∀ {l m : List AV}, avEqL l m → l.length = m.length
  | [], [], _ => rfl
  | _ :: r, _ :: r', h => by simp [avEqL_len h.2]
  | [], _ :: _, h => h.elim
  | _ :: _, [], h => h.elim
theorem obEq_sz {a b : Ob} (h : obEq a b) : a.sz = b.sz := by
  cases a <;> cases b <;> first | exact h.elim | skip
  · obtain ⟨_, rfl, _⟩ := h; rfl
  · exact congrArg (fun n => (n, false)) (avEqL_len h.2)
  · rfl
theorem Less.N {D : Cx} (L : Less C D) {b : Nat} (h : C.N b) : D.N b := by
  refine ⟨by rw [L.E]; exact h.1, by rw [L.W]; exact h.2.1, fun o ob ho hf => ?_⟩
  obtain ⟨b0, k1, k2⟩ := L.h o ob ho
  rw [L.v]
  exact h.2.2 o b0 k1 (by rw [(obEq_gen k2).2]; exact hf)
theorem Less.RD {D : Cx} (L : Less C D) {x : DV} {v : Value} (h : RD C.W C.N x v) : RD D.W D.N x v := h.mono fun b hb => ⟨L.N hb, by rw [L.W]⟩
theorem Less.Rb {D : Cx} (L : Less C D) : ∀ {a : AV} {v : Value}, Rb C a v → refIn D.H a = true → Rb D a v := by
  intro a v h hr
  cases a with
  | any => trivial
  | d x => exact L.RD h
  | dp cs =>
    obtain ⟨b, off, u, e, hb, hc⟩ := h
    exact ⟨b, off, u, e, L.N hb, fun j hj => ⟨by rw [L.W]; exact (hc j hj).1, L.RD (hc j hj).2⟩⟩
  | ptr o g i j =>
    obtain ⟨ob, h1, h2, h3⟩ := h
    simp only [refIn, hasK_iff] at hr
    obtain ⟨ob', e⟩ := Option.isSome_iff_exists.1 hr
    obtain ⟨b0, k1, k2⟩ := L.h o ob' e
    rw [h1] at k1
    obtain rfl := Option.some.inj k1
    have q := (obEq_gen k2).1
    refine ⟨ob', e, by omega, fun z => ?_⟩
    rw [L.v, ← obEq_sz k2]
    exact h3 (z.trans q.symm)
  | own o g =>
    obtain ⟨ob, h1, h2, h3⟩ := h
    simp only [refIn, hasK_iff] at hr
    obtain ⟨ob', e⟩ := Option.isSome_iff_exists.1 hr
    obtain ⟨b0, k1, k2⟩ := L.h o ob' e
    rw [h1] at k1
    obtain rfl := Option.some.inj k1
    have q := (obEq_gen k2).1
    exact ⟨ob', e, by omega, fun z => by rw [L.v, ← obEq_sz k2]; exact h3 (z.trans q.symm)⟩
  | win o g a sz n =>
    obtain ⟨ob, h1, h2, h3⟩ := h
    simp only [refIn, hasK_iff] at hr
    obtain ⟨ob', e⟩ := Option.isSome_iff_exists.1 hr
    obtain ⟨b0, k1, k2⟩ := L.h o ob' e
    rw [h1] at k1
    obtain rfl := Option.some.inj k1
    have q := (obEq_gen k2).1
    exact ⟨ob', e, by omega, fun z => by rw [L.v]; exact h3 (z.trans q.symm)⟩
  | agg x => exact h.elim
  | fn x y z => exact h.elim
  | tup x => exact h.elim
theorem Less.Rbs {D : Cx} (L : Less C D) {cs : List AV} {us : List Value} (h : Rbs C cs us) (hr : cs.all (refIn D.H) = true) : Rbs D cs us :=
  ⟨h.1, fun j hj => L.Rb (h.2 j hj) (by
    rw [List.all_eq_true] at hr
    exact hr _ (by rw [List.getD_eq_getElem?_getD, List.getElem?_eq_getElem hj]; exact List.getElem_mem _))⟩
theorem Less.R1 {D : Cx} (L : Less C D) {a : AV} {v : Value} (h : R1 C a v) (hr : ref1In D.H a = true) : R1 D a v := by
  cases a with
  | agg cs => obtain ⟨us, e, r⟩ := h; exact ⟨us, e, L.Rbs r hr⟩
  | fn f x y =>
    obtain ⟨us, ws, e, r, s⟩ := h
    simp only [ref1In, List.all_append, Bool.and_eq_true] at hr
    exact ⟨us, ws, e, L.Rbs r hr.1, L.Rbs s hr.2⟩
  | any => trivial
  | d x => exact L.Rb (a := .d x) h hr
  | dp x => exact L.Rb (a := .dp x) h hr
  | ptr x y z w => exact L.Rb (a := .ptr x y z w) h hr
  | own x y => exact L.Rb (a := .own x y) h hr
  | win a b c d e => exact L.Rb (a := .win a b c d e) h hr
  | tup x => exact h.elim
theorem Less.Rv {D : Cx} (L : Less C D) {a : AV} {v : Value} (h : Rv C a v) (hr : refsIn D.H a = true) : Rv D a v := by
  cases a with
  | tup cs =>
    obtain ⟨us, e, l, r⟩ := h
    refine ⟨us, e, l, fun j hj => L.R1 (r j hj) ?_⟩
    simp only [refsIn, List.all_eq_true] at hr
    exact hr (cs.getD j .any) (by rw [List.getD_eq_getElem?_getD, List.getElem?_eq_getElem hj]; exact List.getElem_mem _)
  | agg cs => exact L.R1 (a := .agg cs) h hr
  | fn f x y =>
    refine L.R1 (a := .fn f x y) h ?_
    simp only [refsIn] at hr
    split at hr
    · simp only [ref1In, List.all_append, Bool.and_eq_true]; exact ⟨‹_›, hr⟩
    · cases hr
  | any => trivial
  | d x => exact L.R1 (a := .d x) h hr
  | dp x => exact L.R1 (a := .dp x) h hr
  | ptr x y z w => exact L.R1 (a := .ptr x y z w) h hr
  | own x y => exact L.R1 (a := .own x y) h hr
  | win a b c d e => exact L.R1 (a := .win a b c d e) h hr
theorem Less.gam {D : Cx} (L : Less C D) (G : Gam C) (hcl : closedH D.H D.H = true) : Gam D := by
  refine ⟨fun o b h => ?_, fun o o' b b' k h h' hne hk => ?_, by rw [L.E, L.W]; exact G.kp, fun o b k h hk => ?_⟩
  · obtain ⟨b0, k1, k2⟩ := L.h o b h
    have r := G.ok o b0 k1
    cases b0 with
    | row ty sz g fz n f =>
      cases b with
      | box _ _ => exact k2.elim
      | mp _ _ => exact k2.elim
      | row ty' sz' g' fz' n' f' =>
        obtain ⟨rfl, rfl, rfl, rfl, rfl, e⟩ := k2
        obtain ⟨us, q1, q2, q4, q3⟩ := r
        exact ⟨us, by rw [L.W, L.v]; exact q1, fun i hi => by rw [← e i hi]; exact q2 i hi, q4, fun i j hi hj => by rw [← e i hi]; exact L.RD (q3 i j hi hj)⟩
    | box ty cs =>
      cases b with
      | row _ _ _ _ _ _ => exact k2.elim
      | mp _ _ => exact k2.elim
      | box ty' ds =>
        obtain ⟨rfl, e⟩ := k2
        obtain ⟨b, us, q1, q2, q3⟩ := r
        exact ⟨b, us, by rw [L.v]; exact q1, by rw [L.W]; exact q2, L.Rbs (q3.eqv e) (closedH_spec hcl o ty ds h)⟩
    | mp ok0 L0 =>
      cases b with
      | row _ _ _ _ _ _ => exact k2.elim
      | box _ _ => exact k2.elim
      | mp ok1 L1 =>
        obtain ⟨rfl, rfl⟩ := k2
        obtain ⟨b, es, clock, q1, q2, q3, q4, q5, q6⟩ := r
        exact ⟨b, es, clock, by rw [L.v]; exact q1, by rw [L.W]; exact q2, q3, q4, q5, fun i hi => L.RD (q6 i hi)⟩
  · obtain ⟨b1, q1, _⟩ := L.h o b h
    obtain ⟨b2, q2, _⟩ := L.h o' b' h'
    rw [L.v] at hk ⊢
    exact G.ap o o' b1 b2 k q1 q2 hne hk
  · obtain ⟨b1, q1, _⟩ := L.h o b h
    rw [L.v] at hk
    rw [L.E]
    exact G.mu o b1 k q1 hk
theorem Less.fr {D C0 : Cx} (L : Less C D) (hF : Fr C0 C) (hk : ∀ o ob, look C0.H o = some ob → ∃ b, look D.H o = some b) : Fr C0 D := by
  refine ⟨fun b hb => ⟨L.N (hF.n b hb).1, by rw [L.W]; exact (hF.n b hb).2⟩, fun o ob ho => ?_⟩
  obtain ⟨b, hb⟩ := hk o ob ho
  obtain ⟨b0, k1, k2⟩ := L.h o b hb
  obtain ⟨b1, q1, q2⟩ := hF.h o ob ho
  rw [k1] at q1
  obtain rfl := Option.some.inj q1
  refine ⟨b, hb, ?_⟩
  rw [L.v, ← (obEq_gen k2).1, ← obEq_sz k2]
  exact q2
end
end Go.Proofs.Ytbidoddghdbaoaa
