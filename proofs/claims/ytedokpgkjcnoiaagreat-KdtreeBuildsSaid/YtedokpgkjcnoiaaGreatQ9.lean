/- A call, seen from afar: what is handed in, what comes back, which objects it turns. No program in sight. -/
import Derived.Test.YtedokpgkjcnoiaaGreatQ8
set_option linter.unusedVariables false
set_option linter.unusedSimpArgs false
namespace Go.Proofs.YtedokpgkjcnoiaaGreat
open Go.RowKit
/-- the function is entered as its text says -/
def Enters (P : Program) (f : FuncId) : Prop := ∀ args W, (callFunc f args).run P W = .ok (.enter f args) W
/-- what a call does: with these arguments and objects, it returns that, and leaves the objects so -/
def ACall (P : Program) (f : FuncId) (args : List AV) (Hp : OH) (r : AV) (H' : OH) : Prop :=
 Enters P f ∧ ∀ (A : Nat → Prop) (W : World) (vl : Nat → Value) (vs : List Value),
  Gam ⟨⟨A, fun b => ∃ o ob, look Hp o = some ob ∧ (vl o).ownBlock = some b, W⟩, W, Hp, vl⟩ → args.length = vs.length →
  (∀ j, j < args.length → Rv ⟨⟨A, fun b => ∃ o ob, look Hp o = some ob ∧ (vl o).ownBlock = some b, W⟩, W, Hp, vl⟩ (args.getD j .any) (vs.getD j undef)) →
  Calls P f vs.toArray W fun e W' => ∃ v C', e = .returned v ∧ C'.W = W' ∧ C'.H = H' ∧ C'.E = ⟨A, fun b => ∃ o ob, look Hp o = some ob ∧ (vl o).ownBlock = some b, W⟩ ∧
   Fr ⟨⟨A, fun b => ∃ o ob, look Hp o = some ob ∧ (vl o).ownBlock = some b, W⟩, W, Hp, vl⟩ C' ∧ Gam C' ∧ Rv C' r v
/-- objects put one by one -/
def putsH : OH → OH → OH
 | H, [] => H
 | H, (o, b) :: r => setH (putsH H r) o b
theorem look_putsH (H : OH) (x : Nat) : ∀ L : OH, look (putsH H L) x = match look L x with | some b => some b | none => look H x
 | [] => rfl
 | (o, b) :: r => by
  simp only [putsH, look_setH, look_putsH H x r, look]
  by_cases e : o = x
  ·rw [if_pos e, (beq_nat_iff _ _).2 e]
  ·rw [if_neg e, (beq_nat_false _ _).2 e]
section
variable {P : Program} {C : Cx}
theorem row_data (G : Gam C) {N : Nat → Prop} {o ty sz g n : Nat} {fz : Bool} {f : Nat → List DV} (ho : look C.H o = some (.row ty sz g fz n f)) (hN : ∀ b, C.N b → N b) (hb : ∀ b, (C.vl o).ownBlock = some b → N b) : RD C.W N (.sl sz n f) (C.vl o) := by
 obtain ⟨us, h1, h2, h4, h3⟩ := G.ok o _ ho
 have up : ∀ {x v}, RD C.W C.N x v → RD C.W N x v := fun h => h.mono fun b hb => ⟨hN b hb, rfl⟩
 rcases h1.2 with ⟨q, rfl⟩ | ⟨b, cap, cur, q, _, hh, hnc, _, hsz, ht⟩
 ·rw [q]
  exact .sl sz 0 f none 0 0 0 (fun _ _ => default) (fun h => by omega) (Nat.le_refl _) (fun i hi => by omega) (fun i j hi => by omega) (fun i j hi => by omega)
 ·have hNb := hb b (by rw [q]; rfl)
  rw [q]
  refine .sl sz n f _ b 0 cap (fun i j => us.getD (i * sz + j) undef) (fun _ => ⟨rfl, hNb⟩) hnc h2 (fun i j hi hj => ?_) (fun i j hi hj => up (h3 i j hi hj))
  have hlt := idx_lt hi hj
  have hl : us.length = n * sz := h1.1
  refine ⟨?_, h4 _ (by rw [List.getD_eq_getElem?_getD, List.getElem?_eq_getElem (by omega)]; exact List.getElem_mem _)⟩
  rw [show 0 + i * sz + j = i * sz + j by omega, cell_of_row C.W b _ cur ty (0, 0) hh]
  have := congrArg (fun l => l[i * sz + j]?) ht
  simp only [List.getElem?_take, if_pos hlt] at this
  rw [show cur[i * sz + j]? = cur.toList[i * sz + j]? by simp, this, List.getElem?_eq_getElem (by omega)]
  simp [List.getD, List.getElem?_eq_getElem (show i * sz + j < us.length by omega)]
/-! ### What is handed in -/
def hasK : OH → Nat → Bool
 | [], _ => false
 | (k, _) :: r, o => match Nat.beq k o with
  | true => true
  | false => hasK r o
theorem hasK_iff (o : Nat) : ∀ H : OH, hasK H o = (look H o).isSome
 | [] => rfl
 | (k, b) :: r => by
  simp only [hasK, look]
  cases Nat.beq k o
  ·exact hasK_iff o r
  ·rfl
/-- a cell as the callee sees it -/
def pur0 (H Hp : OH) : AV → Option AV
 | .d x => some (.d x)
 | .dp cs => some (.dp cs)
 | .own o g => match curG H o g with
  | true => match hasK Hp o with
   | true => some (.own o g)
   | false => match look H o with
    | some (.row _ sz _ _ n f) => some (.d (.sl sz n f))
    | _ => none
  | false => none
 | .ptr o g i j => match hasK Hp o with
  | true => some (.ptr o g i j)
  | false => none
 | _ => none
def purs (H Hp : OH) : List AV → Option (List AV)
 | [] => some []
 | a :: r => match pur0 H Hp a, purs H Hp r with
  | some x, some l => some (x :: l)
  | _, _ => none
def pur (H Hp : OH) : AV → Option AV
 | .agg cs => match purs H Hp cs with
  | some l => some (.agg l)
  | none => none
 | .fn f x y => match purs H Hp x, purs H Hp y with
  | some l, some m => some (.fn f l m)
  | _, _ => none
 | .any => some .any
 | a => pur0 H Hp a
def purA (H Hp : OH) : List AV → Option (List AV)
 | [] => some []
 | a :: r => match pur H Hp a, purA H Hp r with
  | some x, some l => some (x :: l)
  | _, _ => none
/-- rows lent: own rows that are handed in as what lies for good -/
def lent0 (H Hp : OH) : AV → List Nat
 | .own o _ => match hasK Hp o with
  | true => []
  | false => [o]
 | _ => []
def lentL (H Hp : OH) : List AV → List Nat
 | [] => []
 | a :: r => lent0 H Hp a ++ lentL H Hp r
def lent (H Hp : OH) : AV → List Nat
 | .agg cs => lentL H Hp cs
 | .fn _ x y => lentL H Hp x ++ lentL H Hp y
 | a => lent0 H Hp a
def lentA (H Hp : OH) : List AV → List Nat
 | [] => []
 | a :: r => lent H Hp a ++ lentA H Hp r
section
variable {D : Cx} {Hp : OH} (G : Gam C) (hW : D.W = C.W) (hv : D.vl = C.vl) (hH : D.H = Hp) (hsub : ∀ o ob, look Hp o = some ob → look C.H o = some ob) (hN : ∀ b, C.N b → D.N b)
include G hW hv hH hsub hN
theorem pur0_spec {a a' : AV} {v : Value} (h : Rb C a v) (hp : pur0 C.H Hp a = some a') (hl : ∀ o ∈ lent0 C.H Hp a, ∀ ob, look C.H o = some ob → ∀ b, (C.vl o).ownBlock = some b → D.N b) : Rb D a' v := by
 cases a with
 | d x => simp only [pur0, Option.some.injEq] at hp; subst hp; exact (h : RD C.W C.N x v).mono fun b hb => ⟨hN b hb, by rw [hW]⟩
 | dp cs =>
  simp only [pur0, Option.some.injEq] at hp; subst hp
  obtain ⟨b, off, u, hv', hb, hc⟩ := h
  exact ⟨b, off, u, hv', hN b hb, fun j hj => ⟨by rw [hW]; exact (hc j hj).1, (hc j hj).2.mono fun b hb => ⟨hN b hb, by rw [hW]⟩⟩⟩
 | own o g =>
  simp only [pur0] at hp
  split at hp
  ·rename_i hc
   split at hp
   ·rename_i hk
    obtain rfl := Option.some.inj hp
    obtain ⟨ob, h1, h2, h3⟩ := h
    rw [hasK_iff] at hk
    obtain ⟨ob', e⟩ := Option.isSome_iff_exists.1 hk
    have e' := hsub _ _ e
    rw [h1] at e'
    obtain rfl := Option.some.inj e'
    exact ⟨ob, by rw [hH]; exact e, h2, fun q => by rw [hv]; exact h3 q⟩
   ·rename_i hk
    split at hp
    ·rename_i ho
     obtain rfl := Option.some.inj hp
     have hvo := own_val G h ho rfl hc
     subst hvo
     show RD D.W D.N _ _
     rw [hW]
     exact row_data G ho hN (fun b hb => hl o (by simp only [lent0, hk]; exact List.mem_singleton.2 rfl) _ ho b hb)
    ·cases hp
  ·cases hp
 | ptr o g i j =>
  simp only [pur0] at hp
  split at hp
  ·rename_i hk
   obtain rfl := Option.some.inj hp
   obtain ⟨ob, h1, h2, h3⟩ := h
   rw [hasK_iff] at hk
   obtain ⟨ob', e⟩ := Option.isSome_iff_exists.1 hk
   have e' := hsub _ _ e
   rw [h1] at e'
   obtain rfl := Option.some.inj e'
   exact ⟨ob, by rw [hH]; exact e, h2, fun q => by rw [hv]; exact h3 q⟩
  ·cases hp
 | any => cases hp
 | agg x => cases hp
 | fn x y z => cases hp
 | tup x => cases hp
 | win a b c d e => cases hp
theorem purs_spec : ∀ {cs cs' : List AV} {us : List Value}, Rbs C cs us → purs C.H Hp cs = some cs' → (∀ o ∈ lentL C.H Hp cs, ∀ ob, look C.H o = some ob → ∀ b, (C.vl o).ownBlock = some b → D.N b) → Rbs D cs' us
 | [], cs', us, r, h, _ => by simp only [purs, Option.some.injEq] at h; subst h; exact ⟨r.1, fun j hj => by cases hj⟩
 | a :: cs, cs', us, r, h, hl => by
  simp only [purs] at h
  split at h
  ·rename_i x l hx hcs
   obtain rfl := Option.some.inj h
   cases us with
   | nil => have := r.1; simp at this
   | cons u us =>
    have r' : Rbs C cs us := ⟨by simpa using r.1, fun j hj => by simpa using r.2 (j + 1) (by simpa using hj)⟩
    have ih := purs_spec r' hcs fun o ho => hl o (by simp only [lentL]; exact List.mem_append_right _ ho)
    refine ⟨by simpa using ih.1, fun j hj => ?_⟩
    cases j with
    | zero => exact pur0_spec G hW hv hH hsub hN (by simpa using r.2 0 (by simp)) hx fun o ho => hl o (by simp only [lentL]; exact List.mem_append_left _ ho)
    | succ j => simpa using ih.2 j (by simpa using hj)
  ·cases h
theorem pur_spec {a a' : AV} {v : Value} (h : Rv C a v) (hp : pur C.H Hp a = some a') (hl : ∀ o ∈ lent C.H Hp a, ∀ ob, look C.H o = some ob → ∀ b, (C.vl o).ownBlock = some b → D.N b) : Rv D a' v := by
 cases a with
 | agg cs =>
  simp only [pur] at hp
  split at hp
  ·rename_i l hc
   obtain rfl := Option.some.inj hp
   obtain ⟨us, e, r⟩ := h
   exact ⟨us, e, purs_spec G hW hv hH hsub hN r hc hl⟩
  ·cases hp
 | fn f x y =>
  simp only [pur] at hp
  split at hp
  ·rename_i l m h1 h2
   obtain rfl := Option.some.inj hp
   obtain ⟨us, ws, e, r, s⟩ := h
   exact ⟨us, ws, e, purs_spec G hW hv hH hsub hN r h1 (fun o ho => hl o (List.mem_append_left _ ho)), purs_spec G hW hv hH hsub hN s h2 (fun o ho => hl o (List.mem_append_right _ ho))⟩
  ·cases hp
 | any => simp only [pur, Option.some.injEq] at hp; subst hp; trivial
 | d x => exact rv_of_rb (pur0_spec G hW hv hH hsub hN (a := .d x) h hp hl)
 | dp x => exact rv_of_rb (pur0_spec G hW hv hH hsub hN (a := .dp x) h hp hl)
 | own x y => exact rv_of_rb (pur0_spec G hW hv hH hsub hN (a := .own x y) h hp hl)
 | ptr x y z w => exact rv_of_rb (pur0_spec G hW hv hH hsub hN (a := .ptr x y z w) h hp hl)
 | tup x => cases hp
 | win a b c d e => cases hp
theorem purA_spec : ∀ {as as' : List AV} {vs : List Value}, (as.length = vs.length ∧ ∀ j, j < as.length → Rv C (as.getD j .any) (vs.getD j undef)) → purA C.H Hp as = some as' → (∀ o ∈ lentA C.H Hp as, ∀ ob, look C.H o = some ob → ∀ b, (C.vl o).ownBlock = some b → D.N b) →
    as'.length = vs.length ∧ ∀ j, j < as'.length → Rv D (as'.getD j .any) (vs.getD j undef)
  | [], as', vs, r, h, _ => by simp only [purA, Option.some.injEq] at h; subst h; exact ⟨r.1, fun j hj => by cases hj⟩
  | a :: as, as', vs, r, h, hl => by
    simp only [purA] at h
    split at h
    · rename_i x l hx hcs
      obtain rfl := Option.some.inj h
      cases vs with
      | nil => have := r.1; simp at this
      | cons u us =>
        have ih := purA_spec (as := as) (vs := us) ⟨by simpa using r.1, fun j hj => by simpa using r.2 (j + 1) (by simpa using hj)⟩ hcs fun o ho => hl o (by simp only [lentA]; exact List.mem_append_right _ ho)
        refine ⟨by simpa using ih.1, fun j hj => ?_⟩
        cases j with
        | zero => exact pur_spec G hW hv hH hsub hN (by simpa using r.2 0 (by simp)) hx fun o ho => hl o (by simp only [lentA]; exact List.mem_append_left _ ho)
        | succ j => simpa using ih.2 j (by simpa using hj)
    · cases h
end
/-! ### What comes back -/
/-- a value that no memory hangs on -/
def flat0 : AV → Bool
 | .d (.v _) => true
 | _ => false
def flat : AV → Bool
 | .d (.v _) => true
 | .agg cs => cs.all flat0
 | .tup cs => cs.all fun a => match a with
  | .d (.v _) => true
  | .agg ds => ds.all flat0
  | _ => false
 | _ => false
theorem flat0_rb {D E : Cx} : ∀ {a : AV} {v : Value}, flat0 a = true → Rb D a v → Rb E a v := by
 intro a v h r
 cases a with
 | d x =>
  cases x with
  | v y => replace r : RD D.W D.N (.v y) v := r; cases r; show RD _ _ _ _; exact .v _
  | sl a b c => cases h
  | p ds => cases h
  | fn f ds => cases h
 | _ => cases h
theorem flat0_rbs {D E : Cx} {cs : List AV} {us : List Value} (h : cs.all flat0 = true) (r : Rbs D cs us) : Rbs E cs us :=
 ⟨r.1, fun j hj => flat0_rb (by
  rw [List.all_eq_true] at h
  exact h _ (by rw [List.getD_eq_getElem?_getD, List.getElem?_eq_getElem hj]; exact List.getElem_mem _)) (r.2 j hj)⟩
theorem flat_rv {D E : Cx} : ∀ {a : AV} {v : Value}, flat a = true → Rv D a v → Rv E a v := by
 intro a v h r
 cases a with
 | d x =>
  cases x with
  | v y => exact flat0_rb (a := .d (.v y)) rfl r
  | sl a b c => cases h
  | p ds => cases h
  | fn f ds => cases h
 | agg cs => obtain ⟨us, e, q⟩ := r; exact ⟨us, e, flat0_rbs h q⟩
 | tup cs =>
  obtain ⟨us, e, l, q⟩ := r
  refine ⟨us, e, l, fun j hj => ?_⟩
  have := q j hj
  have hk : (match cs.getD j .any with
   | .d (.v _) => true
   | .agg ds => ds.all flat0
   | _ => false) = true := by
   simp only [flat, List.all_eq_true] at h
   exact h _ (by rw [List.getD_eq_getElem?_getD, List.getElem?_eq_getElem hj]; exact List.getElem_mem _)
  generalize cs.getD j .any = b at this hk
  cases b with
  | d x =>
   cases x with
   | v y => exact flat0_rb (a := .d (.v y)) rfl this
   | sl a b c => cases hk
   | p ds => cases hk
   | fn f ds => cases hk
  | agg ds => obtain ⟨ws, e, q⟩ := this; exact ⟨ws, e, flat0_rbs hk q⟩
  | _ => cases hk
 | _ => cases h
/-- rows laid for good -/
def frz : OH → List Nat → OH
 | H, [] => H
 | H, o :: r => match look (frz H r) o with
  | some (.row ty sz g _ n f) => setH (frz H r) o (.row ty sz g true n f)
  | _ => frz H r
theorem Gam.frzL (G : Gam C) : ∀ l : List Nat, Fr C ⟨C.E, C.W, frz C.H l, C.vl⟩ ∧ Gam ⟨C.E, C.W, frz C.H l, C.vl⟩
 | [] => ⟨Fr.refl C, G⟩
 | o :: r => by
  obtain ⟨hF, hG⟩ := Gam.frzL G r
  simp only [frz]
  split
  ·rename_i ho
   obtain ⟨k1, k2⟩ := hG.freeze ho
   exact ⟨hF.trans k1, k2⟩
  ·exact ⟨hF, hG⟩
/-! ### The call -/
/-- whatever is lent, where what comes back hangs on no memory -/
theorem call_flat (G : Gam C) {f : FuncId} {as as' : List AV} {r : AV} {vs : List Value} (hc : ACall P f as' [] r []) (hp : purA C.H [] as = some as') (hf : flat r = true) (hv : as.length = vs.length ∧ ∀ j, j < as.length → Rv C (as.getD j .any) (vs.getD j undef)) :
    Calls P f vs.toArray C.W fun e W' => ∃ v C', e = .returned v ∧ C'.W = W' ∧ C'.H = C.H ∧ C'.E = C.E ∧ Fr C C' ∧ Gam C' ∧ Rv C' r v := by
  obtain ⟨_, hc⟩ := hc
  obtain ⟨h1, h2⟩ := purA_spec (D := ⟨⟨fun b => b < C.W.heap.size, fun b => ∃ o ob, look [] o = some ob ∧ (C.vl o).ownBlock = some b, C.W⟩, C.W, [], C.vl⟩) (Hp := []) G rfl rfl rfl (fun o ob h => by cases h)
    (fun b hb => ⟨.inl hb.2.1, hb.2.1, fun o ob h => by cases h⟩) hv hp
    (fun o _ ob ho b hb => by
      have := (G.ok o ob ho).lt hb
      exact ⟨.inl this, this, fun o ob h => by cases h⟩)
  refine (hc _ _ _ vs ⟨fun o b h => (by cases h), fun o o' b b' k h => (by cases h), Kp.refl _ _, fun o b k h => (by cases h)⟩ h1 h2).mono ?_
  rintro e W' ⟨v, C', rfl, hW, hH, hE, hF, hG, hr⟩
  have K := hG.kp
  rw [hE, hW] at K
  obtain ⟨g1, g2, g3⟩ := G.grow (W' := W') K.size (fun k hk => K.block k hk (by rintro ⟨o, ob, h, _⟩; cases h)) K.os K.tape K.output
  exact ⟨v, ⟨C.E, W', C.H, C.vl⟩, rfl, rfl, rfl, rfl, g1, g2, flat_rv hf hr⟩
/-- the objects' own cells name no other objects -/
def refIn (K : OH) : AV → Bool
 | .ptr o _ _ _ => hasK K o
 | .own o _ => hasK K o
 | .win o _ _ _ _ => hasK K o
 | _ => true
def closedH (K : OH) : OH → Bool
 | [] => true
 | (_, .box _ cs) :: r => match cs.all (refIn K) with
  | true => closedH K r
  | false => false
 | (_, .row _ _ _ _ _ _) :: r => closedH K r
 | (_, .mp _ _) :: r => closedH K r
theorem closedH_spec {K : OH} : ∀ {L : OH}, closedH K L = true → ∀ o ty cs, look L o = some (.box ty cs) → cs.all (refIn K) = true
 | [], _, o, ty, cs, h => by cases h
 | (k, .box t ds) :: r, hc, o, ty, cs, h => by
  simp only [closedH] at hc
  simp only [look] at h
  split at hc
  ·rename_i hd
   split at h
   ·cases h; exact hd
   ·exact closedH_spec hc o ty cs h
  ·cases hc
 | (k, .row a b c d e f) :: r, hc, o, ty, cs, h => by
  simp only [closedH] at hc
  simp only [look] at h
  split at h
  ·cases h
  ·exact closedH_spec hc o ty cs h
 | (k, .mp a b) :: r, hc, o, ty, cs, h => by
  simp only [closedH] at hc
  simp only [look] at h
  split at h
  ·cases h
  ·exact closedH_spec hc o ty cs h
/-- objects handed in, rows laid for good -/
theorem call_gen (G : Gam C) {f : FuncId} {as as' : List AV} {Hp H' : OH} {r : AV} {vs : List Value} (hc : ACall P f as' Hp r H') (hp : purA C.H Hp as = some as') (hfz : ∀ o ∈ lentA C.H Hp as, ∀ ob, look C.H o = some ob → ob.free = false)
    (hsub : ∀ o ob, look Hp o = some ob → look C.H o = some ob ∧ ob.free = true) (hnew : ∀ o ob, look H' o = some ob → look Hp o = none → look C.H o = none) (hcl : closedH Hp Hp = true)
    (hv : as.length = vs.length ∧ ∀ j, j < as.length → Rv C (as.getD j .any) (vs.getD j undef)) :
    Calls P f vs.toArray C.W fun e W' => ∃ v C', e = .returned v ∧ C'.W = W' ∧ C'.H = putsH C.H H' ∧ C'.E = C.E ∧ Fr C C' ∧ Gam C' ∧ Rv C' r v := by
  obtain ⟨_, hc⟩ := hc
  obtain ⟨S, hS⟩ : ∃ S : Nat → Prop, S = fun b => ∃ o ob, look Hp o = some ob ∧ (C.vl o).ownBlock = some b := ⟨_, rfl⟩
  have hc := hc C.N C.W C.vl vs
  rw [← hS] at hc
  have inS : ∀ {o ob b}, look Hp o = some ob → (C.vl o).ownBlock = some b → S b := fun h k => by rw [hS]; exact ⟨_, _, h, k⟩
  have outS : ∀ {b}, S b → ∃ o ob, look Hp o = some ob ∧ (C.vl o).ownBlock = some b := fun h => by rw [hS] at h; exact h
  have G0 : Gam ⟨⟨C.N, S, C.W⟩, C.W, Hp, C.vl⟩ := by
    have up : ∀ b, C.N b → Cx.N ⟨⟨C.N, S, C.W⟩, C.W, Hp, C.vl⟩ b := fun b hb => ⟨.inl hb, hb.2.1, fun o ob h hf => hb.2.2 o ob (hsub o ob h).1 hf⟩
    refine ⟨fun o b h => ?_, fun o o' b b' k h h' => G.ap o o' b b' k (hsub _ _ h).1 (hsub _ _ h').1, Kp.refl _ _, fun o b k h hk => .inl (inS h hk)⟩
    have rb : ∀ {a v}, Rb C a v → (∀ x g i j, a = .ptr x g i j → ∃ ob, look Hp x = some ob) → (∀ x g, a = .own x g → ∃ ob, look Hp x = some ob) → (∀ x g p q r, a = .win x g p q r → ∃ ob, look Hp x = some ob) → Rb ⟨⟨C.N, S, C.W⟩, C.W, Hp, C.vl⟩ a v := fun {a v} h hp1 hp2 hp3 => by
      cases a with
      | any => trivial
      | d x => exact (h : RD C.W C.N x v).mono fun b hb => ⟨up b hb, rfl⟩
      | dp cs =>
        obtain ⟨b, off, u, hv', hb, hc⟩ := h
        exact ⟨b, off, u, hv', up b hb, fun j hj => ⟨(hc j hj).1, (hc j hj).2.mono fun b hb => ⟨up b hb, rfl⟩⟩⟩
      | ptr x g i j =>
        obtain ⟨ob, k1, k2, k3⟩ := h
        obtain ⟨ob', e⟩ := hp1 x g i j rfl
        have := (hsub _ _ e).1
        rw [k1] at this
        obtain rfl := Option.some.inj this
        exact ⟨ob, e, k2, k3⟩
      | own x g =>
        obtain ⟨ob, k1, k2, k3⟩ := h
        obtain ⟨ob', e⟩ := hp2 x g rfl
        have := (hsub _ _ e).1
        rw [k1] at this
        obtain rfl := Option.some.inj this
        exact ⟨ob, e, k2, k3⟩
      | win x g p q r =>
        obtain ⟨ob, k1, k2, k3⟩ := h
        obtain ⟨ob', e⟩ := hp3 x g p q r rfl
        have := (hsub _ _ e).1
        rw [k1] at this
        obtain rfl := Option.some.inj this
        exact ⟨ob, e, k2, k3⟩
      | agg x => exact h.elim
      | fn x y z => exact h.elim
      | tup x => exact h.elim
    have r := G.ok o b (hsub _ _ h).1
    cases b with
    | row ty sz g fz n f =>
      obtain ⟨us, q1, q2, q4, q3⟩ := r
      exact ⟨us, q1, q2, q4, fun i j hi hj => (q3 i j hi hj).mono fun b hb => ⟨up b hb, rfl⟩⟩
    | mp ok L =>
      obtain ⟨b, es, clock, q1, q2, q3, q4, q5, q6⟩ := r
      exact ⟨b, es, clock, q1, q2, q3, q4, q5, fun i hi => (q6 i hi).mono fun b hb => ⟨up b hb, rfl⟩⟩
    | box ty cs =>
      obtain ⟨b, us, q1, q2, q3⟩ := r
      have hal := closedH_spec hcl o ty cs h
      rw [List.all_eq_true] at hal
      have hm : ∀ {j}, j < cs.length → refIn Hp (cs.getD j .any) = true := fun {j} hj => hal _ (by rw [List.getD_eq_getElem?_getD, List.getElem?_eq_getElem hj]; exact List.getElem_mem _)
      refine ⟨b, us, q1, q2, q3.1, fun j hj => rb (q3.2 j hj) (fun x g i j' e => ?_) (fun x g e => ?_) (fun x g p q r e => ?_)⟩
      · have := hm hj
        rw [e] at this
        simp only [refIn, hasK_iff] at this
        exact Option.isSome_iff_exists.1 this
      · have := hm hj
        rw [e] at this
        simp only [refIn, hasK_iff] at this
        exact Option.isSome_iff_exists.1 this
      · have := hm hj
        rw [e] at this
        simp only [refIn, hasK_iff] at this
        exact Option.isSome_iff_exists.1 this
  obtain ⟨h1, h2⟩ := purA_spec (D := ⟨⟨C.N, S, C.W⟩, C.W, Hp, C.vl⟩) (Hp := Hp) G rfl rfl rfl (fun o ob h => (hsub o ob h).1)
    (fun b hb => ⟨.inl hb, hb.2.1, fun o ob h hf => hb.2.2 o ob (hsub o ob h).1 hf⟩) hv hp
    (fun o hin ob ho b hb => by
      have hNb : C.N b := by
        refine ⟨?_, (G.ok o ob ho).lt hb, fun x ob' hx hf q => ?_⟩
        · rcases G.mu o ob b ho hb with q | q
          · exact .inr (.inl q)
          · exact .inr (.inr q)
        · by_cases e : o = x
          · subst e
            rw [ho] at hx
            obtain rfl := Option.some.inj hx
            rw [hfz o hin ob ho] at hf; cases hf
          · exact G.ap o x ob ob' b ho hx e hb q
      exact ⟨.inl hNb, hNb.2.1, fun o ob h hf => hNb.2.2 o ob (hsub o ob h).1 hf⟩)
  refine (hc G0 h1 h2).mono ?_
  rintro e W' ⟨v, C', rfl, hW, hH, hE, hF, hG, hr⟩
  have K := hG.kp
  rw [hE, hW] at K
  replace K : Kp S C.W W' := K
  have mu' : ∀ {o ob k}, look H' o = some ob → (C'.vl o).ownBlock = some k → S k ∨ C.W.heap.size ≤ k := fun {o ob k} h hk => by
    have := hG.mu o ob k (by rw [hH]; exact h) hk
    rw [hE] at this; exact this
  have L : ∀ o, look (putsH C.H H') o = match look H' o with | some b => some b | none => look C.H o := fun o => look_putsH C.H o H'
  obtain ⟨V, hV⟩ : ∃ V : Nat → Value, V = fun o => match hasK H' o with | true => C'.vl o | false => C.vl o := ⟨_, rfl⟩
  have Vn : ∀ {o ob}, look H' o = some ob → V o = C'.vl o := fun {o ob} h => by rw [hV]; simp only [hasK_iff, h, Option.isSome_some]
  have Vo : ∀ {o}, look H' o = none → V o = C.vl o := fun {o} h => by rw [hV]; simp only [hasK_iff, h, Option.isSome_none]
  have old : ∀ {o ob}, look H' o = none → look C.H o = some ob → look Hp o = none := fun {o ob} h k => by
    cases hp' : look Hp o with
    | none => rfl
    | some ob' =>
      obtain ⟨ob'', q, _⟩ := hF.h o ob' hp'
      rw [hH, h] at q; cases q
  have notS : ∀ {o ob k}, look H' o = none → look C.H o = some ob → (C.vl o).ownBlock = some k → ¬ S k := fun {o ob k} h k1 k2 q => by
    obtain ⟨o', ob', q1, q2⟩ := outS q
    have hne : o' ≠ o := fun e => by subst e; rw [old h k1] at q1; cases q1
    exact G.ap o' o ob' ob k (hsub _ _ q1).1 k1 hne q2 k2
  have NS : ∀ {b}, C.N b → ¬ S b := fun {b} hb q => by
    obtain ⟨o', ob', q1, q2⟩ := outS q
    exact hb.2.2 o' ob' (hsub _ _ q1).1 (hsub _ _ q1).2 q2
  have F1 : Fr C ⟨C.E, W', putsH C.H H', V⟩ := by
    refine ⟨fun b hb => ⟨⟨hb.1, Nat.lt_of_lt_of_le hb.2.1 K.size, fun o ob ho hf => ?_⟩, K.block b hb.2.1 (NS hb)⟩, fun o ob ho => ?_⟩
    · replace ho : look (putsH C.H H') o = some ob := ho
      rw [L] at ho
      show (V o).ownBlock ≠ some b
      cases hn : look H' o with
      | some ob' =>
        rw [Vn hn]
        intro q
        rcases mu' hn q with q | q
        · exact NS hb q
        · have := hb.2.1; omega
      | none =>
        rw [hn] at ho
        rw [Vo hn]
        exact hb.2.2 o ob ho hf
    · show ∃ ob', look (putsH C.H H') o = some ob' ∧ _
      rw [L]
      cases hn : look H' o with
      | some ob' =>
        refine ⟨ob', rfl, ?_⟩
        show (_ ∧ _ ∧ V o = C.vl o) ∨ _
        rw [Vn hn]
        cases hp' : look Hp o with
        | none => rw [hnew o ob' hn hp'] at ho; cases ho
        | some ob'' =>
          have e := (hsub _ _ hp').1
          rw [ho] at e
          obtain rfl := Option.some.inj e
          obtain ⟨ob3, q1, q2⟩ := hF.h o ob hp'
          rw [hH, hn] at q1
          obtain rfl := Option.some.inj q1
          exact q2
      | none => exact ⟨ob, ho, .inl ⟨rfl, rfl, Vo hn⟩⟩
  have F2 : Fr C' ⟨C.E, W', putsH C.H H', V⟩ := by
    refine ⟨fun b hb => ⟨⟨?_, by rw [← hW]; exact hb.2.1, fun o ob ho hf => ?_⟩, by show W'.heap[b]? = _; rw [hW]⟩, fun o ob ho => ?_⟩
    · have := hb.1
      rw [hE] at this
      rcases this with q | q | q
      · exact q.1
      · obtain ⟨o', ob', q1, q2⟩ := outS q
        rcases G.mu o' ob' b (hsub _ _ q1).1 q2 with q | q
        · exact .inr (.inl q)
        · exact .inr (.inr q)
      · exact .inr (.inr (Nat.le_trans G.kp.size q))
    · replace ho : look (putsH C.H H') o = some ob := ho
      rw [L] at ho
      show (V o).ownBlock ≠ some b
      cases hn : look H' o with
      | some ob' =>
        rw [hn] at ho
        obtain rfl := Option.some.inj ho
        rw [Vn hn]
        exact hb.2.2 o ob' (by rw [hH]; exact hn) hf
      | none =>
        rw [hn] at ho
        rw [Vo hn]
        intro q
        have h0 := hb.1
        rw [hE] at h0
        rcases h0 with h0 | h0 | h0
        · exact h0.2.2 o ob ho hf q
        · exact notS hn ho q h0
        · have := (G.ok o ob ho).lt q
          replace h0 : C.W.heap.size ≤ b := h0
          omega
    · rw [hH] at ho
      exact ⟨ob, by show look (putsH C.H H') o = _; rw [L, ho], .inl ⟨rfl, rfl, Vn ho⟩⟩
  refine ⟨v, ⟨C.E, W', putsH C.H H', V⟩, rfl, rfl, rfl, rfl, F1, ⟨fun o ob ho => ?_, fun x y bx byy k hx hy hne hk => ?_, ?_, fun o ob k ho hk => ?_⟩, hr.fr F2⟩
  · replace ho : look (putsH C.H H') o = some ob := ho
    rw [L] at ho
    cases hn : look H' o with
    | some ob' =>
      rw [hn] at ho
      obtain rfl := Option.some.inj ho
      exact (hG.ok o ob' (by rw [hH]; exact hn)).fr F2 (Vn hn) fun k _ => by show W'.heap[k]? = _; rw [hW]
    | none =>
      rw [hn] at ho
      exact (G.ok o ob ho).fr F1 (Vo hn) fun k hk => K.block k ((G.ok o ob ho).lt hk) (notS hn ho hk)
  · replace hx : look (putsH C.H H') x = some bx := hx
    replace hy : look (putsH C.H H') y = some byy := hy
    replace hk : (V x).ownBlock = some k := hk
    show (V y).ownBlock ≠ some k
    rw [L] at hx hy
    cases hnx : look H' x with
    | some x' =>
      rw [Vn hnx] at hk
      cases hny : look H' y with
      | some y' => rw [Vn hny]; exact hG.ap x y x' y' k (by rw [hH]; exact hnx) (by rw [hH]; exact hny) hne hk
      | none =>
        rw [hny] at hy
        rw [Vo hny]
        intro q
        rcases mu' hnx hk with z | z
        · exact notS hny hy q z
        · have := (G.ok y byy hy).lt q; omega
    | none =>
      rw [hnx] at hx
      rw [Vo hnx] at hk
      cases hny : look H' y with
      | some y' =>
        rw [Vn hny]
        intro q
        rcases mu' hny q with z | z
        · exact notS hnx hx hk z
        · have := (G.ok x bx hx).lt hk; omega
      | none => rw [hny] at hy; rw [Vo hny]; exact G.ap x y bx byy k hx hy hne hk
  · have K0 := G.kp
    refine ⟨Nat.le_trans K0.size K.size, fun k hk hS' => (K.block k (Nat.lt_of_lt_of_le hk K0.size) fun q => ?_).trans (K0.block k hk hS'), K.os.trans K0.os, K.tape.trans K0.tape, K.output.trans K0.output⟩
    obtain ⟨o', ob', q1, q2⟩ := outS q
    rcases G.mu o' ob' k (hsub _ _ q1).1 q2 with q | q
    · exact hS' q
    · replace hk : k < C.E.W0.heap.size := hk
      omega
  · replace ho : look (putsH C.H H') o = some ob := ho
    replace hk : (V o).ownBlock = some k := hk
    rw [L] at ho
    cases hn : look H' o with
    | some ob' =>
      rw [Vn hn] at hk
      rcases mu' hn hk with q | q
      · obtain ⟨o', ob'', q1, q2⟩ := outS q
        exact G.mu o' ob'' k (hsub _ _ q1).1 q2
      · exact .inr (Nat.le_trans G.kp.size q)
    | none =>
      rw [hn] at ho
      rw [Vo hn] at hk
      exact G.mu o ob k ho hk
end
end Go.Proofs.YtedokpgkjcnoiaaGreat
