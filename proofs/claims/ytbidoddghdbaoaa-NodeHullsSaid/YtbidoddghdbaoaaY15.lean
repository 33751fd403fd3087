/- A region that draws its order, seen from afar: one order serves for all, where operations that no edge holds apart don't meet. No program in sight. -/
import Derived.Test.YtbidoddghdbaoaaY14
set_option linter.unusedVariables false
set_option linter.unusedSimpArgs false
namespace Go.Proofs.Ytbidoddghdbaoaa
open Go.RowKit
/-! ### What an operation hangs on -/
def opTmps : List Operand → List Nat
  | [] => []
  | .tmp t :: r => t :: opTmps r
  | _ :: r => opTmps r
def usesO (ops : Array Oper) (o : Oper) : List Nat := opTmps o.op.operands.toList ++ match o.guard with
  | none => []
  | some (j, _) => match slotOf ops j with
    | some g => [g]
    | none => []
structure AgS (S S2 : St) (us ks : List Nat) : Prop where
  t : ∀ i ∈ us, nth S.t i = nth S2.t i
  h : Ag S.H S2.H ks
theorem opTmps_mem {t : Nat} : ∀ {l : List Operand}, Operand.tmp t ∈ l → t ∈ opTmps l
  | .tmp k :: r, h => by
    simp only [opTmps]
    rcases List.mem_cons.1 h with h | h
    · injection h with h; subst h; exact List.mem_cons_self
    · exact List.mem_cons_of_mem _ (opTmps_mem h)
  | .const v :: r, h => by
    rcases List.mem_cons.1 h with h | h
    · cases h
    · exact opTmps_mem (l := r) h
  | .global v :: r, h => by
    rcases List.mem_cons.1 h with h | h
    · cases h
    · exact opTmps_mem (l := r) h
  | .func v :: r, h => by
    rcases List.mem_cons.1 h with h | h
    · cases h
    · exact opTmps_mem (l := r) h
theorem ev_ag {t t' : List AV} {l : List Operand} (h : ∀ i ∈ opTmps l, nth t i = nth t' i) : ∀ x ∈ l, ev t x = ev t' x := fun x hx => by
  cases x with
  | tmp i => exact h i (opTmps_mem hx)
  | _ => rfl
theorem evL_ag {e e' : Operand → AV} : ∀ {l : List Operand}, (∀ x ∈ l, e x = e' x) → evL e l = evL e' l
  | [], _ => rfl
  | x :: r, h => by simp only [evL, h x (by simp), evL_ag (l := r) fun y hy => h y (List.mem_cons_of_mem _ hy)]
theorem evP_ag {e e' : Operand → AV} : ∀ {l : List (Nat × Operand)}, (∀ x ∈ l.map (·.2), e x = e' x) → evP e l = evP e' l
  | [], _ => rfl
  | (i, x) :: r, h => by simp only [evP, h x (by simp), evP_ag (l := r) fun y hy => h y (List.mem_cons_of_mem _ hy)]
theorem aEff_ev {P : Program} {H : OH} {e e' : Operand → AV} {mu : Bool} {o : Nat} {op : Op} (h : ∀ x ∈ op.operands.toList, e x = e' x) : aEff P H e mu o op = aEff P H e' mu o op ∧ looks e op = looks e' op := by
  cases op with
  | lookup t m x c => exact ⟨rfl, by simp only [looks, h m (by simp [Op.operands])]⟩
  | mapUpdate t m k x => exact ⟨rfl, by simp only [looks, h m (by simp [Op.operands]), h x (by simp [Op.operands])]⟩
  | insert t m k x => exact ⟨rfl, by simp only [looks, h m (by simp [Op.operands]), h x (by simp [Op.operands])]⟩
  | makeMap T r => cases r <;> exact ⟨rfl, rfl⟩
  | pick c x y => simp only [aEff, looks, h c (by simp [Op.operands]), h x (by simp [Op.operands]), h y (by simp [Op.operands]), and_self]
  | move x => simp only [aEff, looks, h x (by simp [Op.operands]), and_self]
  | assign x => simp only [aEff, looks, h x (by simp [Op.operands]), and_self]
  | box T x => simp only [aEff, looks, h x (by simp [Op.operands]), and_self]
  | load T x => simp only [aEff, looks, h x (by simp [Op.operands]), and_self]
  | nilCheck x => simp only [aEff, looks, h x (by simp [Op.operands]), and_self]
  | unOp q T x => simp only [aEff, looks, h x (by simp [Op.operands]), and_self]
  | convert q T x => simp only [aEff, looks, h x (by simp [Op.operands]), and_self]
  | fieldAddr T x k => simp only [aEff, looks, h x (by simp [Op.operands]), and_self]
  | field T x k => simp only [aEff, looks, h x (by simp [Op.operands]), and_self]
  | extract x k => simp only [aEff, looks, h x (by simp [Op.operands]), and_self]
  | store T x y => simp only [aEff, looks, h x (by simp [Op.operands]), h y (by simp [Op.operands]), and_self]
  | binOp q T x y U => simp only [aEff, looks, h x (by simp [Op.operands]), h y (by simp [Op.operands]), and_self]
  | makeSlice T x y => simp only [aEff, looks, h x (by simp [Op.operands]), h y (by simp [Op.operands]), and_self]
  | index T x y => simp only [aEff, looks, h x (by simp [Op.operands]), h y (by simp [Op.operands]), and_self]
  | indexAddr T x y => simp only [aEff, looks, h x (by simp [Op.operands]), h y (by simp [Op.operands]), and_self]
  | build T ps =>
    have := evP_ag (l := ps.toList) (e := e) (e' := e') fun x hx => h x (by simp only [Op.operands]; exact hx)
    simp only [aEff, looks, this, and_self]
  | buildSlice T n ps =>
    have := evP_ag (l := ps.toList) (e := e) (e' := e') fun x hx => h x (by simp only [Op.operands]; exact hx)
    simp only [aEff, looks, this, and_self]
  | makeFunc fn a b =>
    have h1 := evL_ag (l := a.toList) (e := e) (e' := e') fun x hx => h x (by simp only [Op.operands, Array.toList_append]; exact List.mem_append_left _ hx)
    have h2 := evL_ag (l := b.toList) (e := e) (e' := e') fun x hx => h x (by simp only [Op.operands, Array.toList_append]; exact List.mem_append_right _ hx)
    simp only [aEff, looks, h1, h2, and_self]
  | slice T x lo hi mx =>
    have h1 := h x (by simp [Op.operands])
    have h2 : evO e lo = evO e' lo := by
      cases lo with
      | none => rfl
      | some y => simp only [evO, h y (by simp [Op.operands])]
    have h3 : evO e hi = evO e' hi := by
      cases hi with
      | none => rfl
      | some y => simp only [evO, h y (by simp [Op.operands])]
    cases mx <;> simp only [aEff, looks, h1, h2, h3, and_self]
  | call c =>
    have h1 := evL_ag (l := c.args.toList) (e := e) (e' := e') fun x hx => h x (by simp only [Op.operands, Call.operands, Array.toList_append]; exact List.mem_append_right _ hx)
    refine ⟨?_, by simp only [looks, h1]⟩
    simp only [aEff]
    split
    · rename_i x T _ ha _; rw [ha] at h1; simp only [evL, List.cons.injEq, and_true] at h1; rw [h1]
    · rename_i x y _ ha; rw [ha] at h1; simp only [evL, List.cons.injEq, and_true] at h1; rw [h1.1, h1.2]
    · rename_i x y _ ha; rw [ha] at h1; simp only [evL, List.cons.injEq, and_true] at h1; rw [h1.1, h1.2]
    · rename_i x y T T' _ ha _; rw [ha] at h1; simp only [evL, List.cons.injEq, and_true] at h1; rw [h1.1, h1.2]
    · rename_i x y T T' _ ha _; rw [ha] at h1; simp only [evL, List.cons.injEq, and_true] at h1; rw [h1.1, h1.2]
    · rfl
  | _ => exact ⟨rfl, rfl⟩
theorem callee_ag {e e' : Operand → AV} {c : Call} (h : ∀ x ∈ c.operands.toList, e x = e' x) : calleeA e c = calleeA e' c := by
  have h1 := evL_ag (l := c.args.toList) (e := e) (e' := e') fun x hx => h x (by simp only [Call.operands, Array.toList_append]; exact List.mem_append_right _ hx)
  unfold calleeA
  cases hc : c.callee with
  | value x => simp only [h1, h x (by simp [Call.operands, hc])]
  | _ => rfl
theorem aEff_local {P : Program} {H H' : OH} {e e' : Operand → AV} {mu : Bool} {o : Nat} {op : Op} (h : ∀ x ∈ op.operands.toList, e x = e' x) (k : Ag H H' (looks e op ++ sites op o)) : aEff P H e mu o op = aEff P H' e' mu o op := by
  rw [← (aEff_ev (P := P) (H := H') (mu := mu) (o := o) h).1]
  exact aEff_look k.left k.right
/-! ### Steps that may come in another order -/
/-- operation i, with the objects that it hangs on and those that it turns -/
def Step (P : Program) (mu : List Nat) (ops : Array Oper) (i : Nat) (rd wr : List Nat) (S S' : St) : Prop :=
  ∃ o v u, ops[i]? = some o ∧ S' = appS S o.dst v u ∧ (∀ x ∈ keysH u, x ∈ wr) ∧ ∀ S2, AgS S S2 (usesO ops o) rd → Base P mu ops o S2 v u
theorem AgS.symm {S S2 : St} {us ks : List Nat} (h : AgS S S2 us ks) : AgS S2 S us ks := ⟨fun i hi => (h.t i hi).symm, fun x hx => (h.h x hx).symm⟩
theorem AgS.trans {S S2 S3 : St} {us ks : List Nat} (h : AgS S S2 us ks) (k : AgS S2 S3 us ks) : AgS S S3 us ks := ⟨fun i hi => (h.t i hi).trans (k.t i hi), fun x hx => (h.h x hx).trans (k.h x hx)⟩
theorem gd_ag {ops : Array Oper} {o : Oper} {S S2 : St} {ks : List Nat} (h : AgS S S2 (usesO ops o) ks) : gd ops o S = gd ops o S2 := by
  unfold gd
  cases hg : o.guard with
  | none => rfl
  | some q =>
    obtain ⟨j, want⟩ := q
    simp only []
    cases hs : slotOf ops j with
    | none => rfl
    | some g =>
      have := h.t g (by unfold usesO; rw [hg]; simp [hs])
      simp only [this]
theorem uses_op {ops : Array Oper} {o : Oper} {S S2 : St} {ks : List Nat} (h : AgS S S2 (usesO ops o) ks) : ∀ x ∈ o.op.operands.toList, ev S.t x = ev S2.t x :=
  ev_ag fun i hi => h.t i (by unfold usesO; exact List.mem_append_left _ hi)
theorem step_eff {P : Program} {mu : List Nat} {ops : Array Oper} {i : Nat} {o : Oper} {S : St} {r : Rs} (hi : ops[i]? = some o) (hw : gd ops o S = some true) (h : aEff P S.H (ev S.t) (muOf mu (site o)) (site o) o.op = some r) (hl : allP r.obl) :
    Step P mu ops i (looks (ev S.t) o.op ++ sites o.op (site o)) (keysH r.eff.upd) S (appS S o.dst r.eff.av r.eff.upd) :=
  ⟨o, _, _, hi, rfl, fun x hx => hx, fun S2 hA => .eff r (by rw [← gd_ag hA]; exact hw) (by rw [← aEff_local (uses_op hA) hA.h]; exact h) hl⟩
theorem aCho_ev {P : Program} {H : OH} {e e' : Operand → AV} {w : Cho} {op : Op} (h : ∀ x ∈ op.operands.toList, e x = e' x) : aCho P H e w op = aCho P H e' w op := by
  cases op with
  | lookup t m x c => simp only [aCho, h m (by simp [Op.operands]), h x (by simp [Op.operands])]
  | mapUpdate t m k x => simp only [aCho, h m (by simp [Op.operands]), h k (by simp [Op.operands]), h x (by simp [Op.operands])]
  | insert t m k x => simp only [aCho, h m (by simp [Op.operands]), h k (by simp [Op.operands]), h x (by simp [Op.operands])]
  | _ => rfl
theorem step_cho {P : Program} {mu : List Nat} {ops : Array Oper} {i : Nat} {o : Oper} {S : St} {w : Cho} {r : Rs} (hi : ops[i]? = some o) (hw : gd ops o S = some true) (h : aCho P S.H (ev S.t) w o.op = some r) (hl : allP r.obl) :
    Step P mu ops i (looks (ev S.t) o.op) (keysH r.eff.upd) S (appS S o.dst r.eff.av r.eff.upd) :=
  ⟨o, _, _, hi, rfl, fun x hx => hx, fun S2 hA => .cho w r (by rw [← gd_ag hA]; exact hw) (by rw [← aCho_ev (uses_op hA), ← aCho_look hA.h]; exact h) hl⟩
theorem step_call {P : Program} {mu : List Nat} {ops : Array Oper} {i : Nat} {o : Oper} {S : St} {c : Call} {f : FuncId} {as : List AV} {r : AV} {u : OH} {rd : List Nat} (hi : ops[i]? = some o) (hw : gd ops o S = some true) (hop : o.op = .call c)
    (hc : calleeA (ev S.t) c = some (f, as)) (hs : CallSem P S.H f as r u rd) : Step P mu ops i rd (keysH u) S (appS S o.dst r u) :=
  ⟨o, _, _, hi, rfl, fun x hx => hx, fun S2 hA => .call c f as r u rd (by rw [← gd_ag hA]; exact hw) hop (by
    rw [← callee_ag (e := ev S.t)]
    · exact hc
    · intro x hx
      exact uses_op hA x (by rw [hop]; exact hx)) (hs.ag hA.h)⟩
theorem step_skip {P : Program} {mu : List Nat} {ops : Array Oper} {i : Nat} {o : Oper} {S : St} (hi : ops[i]? = some o) (hw : gd ops o S = some false) : Step P mu ops i [] [] S (appS S o.dst noA []) :=
  ⟨o, _, _, hi, rfl, fun x hx => hx, fun S2 hA => .skip (by rw [← gd_ag hA]; exact hw)⟩
def disj : List Nat → List Nat → Bool
  | [], _ => true
  | x :: r, l => match memB x l with
    | true => false
    | false => disj r l
where memB (x : Nat) : List Nat → Bool
  | [] => false
  | y :: r => match Nat.beq x y with
    | true => true
    | false => memB x r
theorem memB_iff (x : Nat) : ∀ l : List Nat, disj.memB x l = true ↔ x ∈ l
  | [] => by simp [disj.memB]
  | y :: r => by
    simp only [disj.memB, List.mem_cons]
    split
    · rename_i h; simp [(beq_nat_iff _ _).1 h]
    · rename_i h; rw [memB_iff x r]; have := (beq_nat_false _ _).1 h; simp [this]
theorem disj_spec : ∀ {l m : List Nat}, disj l m = true → ∀ x ∈ l, x ∉ m
  | [], m, _, x, h => by cases h
  | y :: r, m, hd, x, h => by
    simp only [disj] at hd
    split at hd
    · cases hd
    · rename_i q
      rcases List.mem_cons.1 h with rfl | h
      · intro hm; rw [(memB_iff x m).2 hm] at q; cases q
      · exact disj_spec hd x h
def dstL (o : Oper) : List Nat := match o.dst with
  | some d => [d]
  | none => []
abbrev Lab := Nat × List Nat × List Nat
/-- two operations that may come in either order -/
def indB (ops : Array Oper) (x y : Lab) : Bool := match ops[x.1]?, ops[y.1]? with
  | some o, some p => match disj (dstL o) (usesO ops p ++ dstL p), disj (dstL p) (usesO ops o), disj x.2.2 (y.2.1 ++ y.2.2), disj y.2.2 x.2.1 with
    | true, true, true, true => true
    | _, _, _, _ => false
  | _, _ => false
theorem appS_nth {S : St} {d : Option Nat} {v : AV} {u : OH} {i : Nat} (h : ∀ n, d = some n → i ≠ n) : nth (appS S d v u).t i = nth S.t i := by
  cases d with
  | none => rfl
  | some n => simp only [appS, putD, nth_setN]; rw [if_neg fun q => h n rfl q.1]
theorem appS_look {S : St} {d : Option Nat} {v : AV} {u : OH} {x : Nat} (h : x ∉ keysH u) : look (appS S d v u).H x = look S.H x := by
  simp only [appS, look_putsH, keysH_iff x u h]
theorem putsH_comm1 (o : Nat) (b : Ob) : ∀ (u : OH) (H : OH), o ∉ keysH u → putsH (setH H o b) u = setH (putsH H u) o b
  | [], _, _ => rfl
  | (k, c) :: r, H, h => by
    simp only [keysH, List.mem_cons, not_or] at h
    simp only [putsH, putsH_comm1 o b r H h.2]
    exact setH_comm o k b c h.1 _
theorem putsH_comm (H : OH) (u : OH) : ∀ w : OH, (∀ x ∈ keysH w, x ∉ keysH u) → putsH (putsH H w) u = putsH (putsH H u) w
  | [], _ => rfl
  | (k, c) :: r, h => by
    simp only [putsH]
    rw [putsH_comm1 k c u _ (h k (by simp [keysH])), putsH_comm H u r fun x hx => h x (by simp [keysH, hx])]
theorem appS_comm {S : St} {d e : Option Nat} {v w : AV} {u z : OH} (h1 : ∀ n m, d = some n → e = some m → n ≠ m) (h2 : ∀ x ∈ keysH u, x ∉ keysH z) : appS (appS S d v u) e w z = appS (appS S e w z) d v u := by
  unfold appS
  congr 1
  · cases d with
    | none => rfl
    | some n =>
      cases e with
      | none => rfl
      | some m => exact setN_comm _ _ _ _ _ (h1 n m rfl rfl)
  · exact putsH_comm _ _ _ h2
theorem step_swap {P : Program} {mu : List Nat} {ops : Array Oper} {x y : Lab} {S S1 S2 : St} (h : indB ops x y = true) (hx : Step P mu ops x.1 x.2.1 x.2.2 S S1) (hy : Step P mu ops y.1 y.2.1 y.2.2 S1 S2) :
    ∃ S3, Step P mu ops y.1 y.2.1 y.2.2 S S3 ∧ Step P mu ops x.1 x.2.1 x.2.2 S3 S2 := by
  obtain ⟨o, v, u, ho, rfl, hu, hb⟩ := hx
  obtain ⟨p, w, z, hp, rfl, hz, hc⟩ := hy
  simp only [indB, ho, hp] at h
  split at h
  · rename_i d1 d2 d3 d4
    have d1 := disj_spec d1
    have d2 := disj_spec d2
    have d3 := disj_spec d3
    have d4 := disj_spec d4
    have A1 : AgS (appS S o.dst v u) S (usesO ops p) y.2.1 := ⟨fun i hi => appS_nth fun n hn e => by
        subst e
        exact d1 i (by unfold dstL; rw [hn]; exact List.mem_singleton.2 rfl) (List.mem_append_left _ hi),
      fun k hk => appS_look fun q => d3 k (hu k q) (List.mem_append_left _ hk)⟩
    have A2 : AgS (appS S p.dst w z) S (usesO ops o) x.2.1 := ⟨fun i hi => appS_nth fun n hn e => by
        subst e
        exact d2 i (by unfold dstL; rw [hn]; exact List.mem_singleton.2 rfl) hi,
      fun k hk => appS_look fun q => d4 k (hz k q) hk⟩
    refine ⟨appS S p.dst w z, ⟨p, w, z, hp, rfl, hz, fun S4 hA => hc S4 (A1.trans hA)⟩, ⟨o, v, u, ho, ?_, hu, fun S4 hA => hb S4 (A2.symm.trans hA)⟩⟩
    refine appS_comm (fun n m hn hm e => ?_) (fun k hk q => d3 k (hu k hk) (List.mem_append_right _ (hz k q)))
    subst e
    exact d1 n (by unfold dstL; rw [hn]; exact List.mem_singleton.2 rfl) (List.mem_append_right _ (by unfold dstL; rw [hm]; exact List.mem_singleton.2 rfl))
  · cases h
inductive Run (P : Program) (mu : List Nat) (ops : Array Oper) : List Lab → St → St → Prop where
  | nil (S : St) : Run P mu ops [] S S
  | cons (x : Lab) (l : List Lab) (S S1 S2 : St) (h : Step P mu ops x.1 x.2.1 x.2.2 S S1) (r : Run P mu ops l S1 S2) : Run P mu ops (x :: l) S S2
/-- one of them comes ahead of those that it doesn't meet -/
theorem run_front {P : Program} {mu : List Nat} {ops : Array Oper} {y : Lab} {l2 : List Lab} : ∀ {l1 : List Lab} {S S2 : St}, (∀ x ∈ l1, indB ops x y = true) → Run P mu ops (l1 ++ y :: l2) S S2 → ∃ S1, Step P mu ops y.1 y.2.1 y.2.2 S S1 ∧ Run P mu ops (l1 ++ l2) S1 S2
  | [], S, S2, _, h => by
    cases h with
    | cons _ _ _ S1 _ h r => exact ⟨S1, h, r⟩
  | x :: l1, S, S2, hi, h => by
    cases h with
    | cons _ _ _ S1 _ h r =>
      obtain ⟨S3, h3, r3⟩ := run_front (fun z hz => hi z (List.mem_cons_of_mem _ hz)) r
      obtain ⟨S4, h4, h5⟩ := step_swap (hi x (by simp)) h h3
      exact ⟨S4, h4, .cons x _ _ _ _ h5 r3⟩
end Go.Proofs.Ytbidoddghdbaoaa
