/- A region that draws its order, seen from afar: one order serves for all, where operations that no edge holds apart don't meet. No program in sight. Regions, seen from afar. No program in sight. -/
import Derived.StillTail
import Derived.Test.YtedokpgkjcnoiaaGreatQ11
set_option linter.unusedVariables false
set_option linter.unusedSimpArgs false
namespace Go.Proofs.YtedokpgkjcnoiaaGreat
open Go.RowKit
/-! ### What an operation hangs on -/
def opTmps : List Operand → List Nat
 | [] => []
 | .tmp t :: r => t :: opTmps r
 | _ :: r => opTmps r
def usesO (ops : Array Oper) (o : Oper) : List Nat := opTmps o.op.operands.toList ++ match o.guard with
 | none => []
 | some (j, _) => match slotOf ops j with
  | some g => [g]
  | none => []
structure AgS (S S2 : St) (us ks : List Nat) : Prop where
 t : ∀ i ∈ us, nth S.t i = nth S2.t i
 h : Ag S.H S2.H ks
theorem opTmps_mem {t : Nat} : ∀ {l : List Operand}, Operand.tmp t ∈ l → t ∈ opTmps l
 | .tmp k :: r, h => by
  simp only [opTmps]
  rcases List.mem_cons.1 h with h | h
  ·injection h with h; subst h; exact List.mem_cons_self
  ·exact List.mem_cons_of_mem _ (opTmps_mem h)
 | .const v :: r, h => by
  rcases List.mem_cons.1 h with h | h
  ·cases h
  ·exact opTmps_mem (l := r) h
 | .global v :: r, h => by
  rcases List.mem_cons.1 h with h | h
  ·cases h
  ·exact opTmps_mem (l := r) h
 | .func v :: r, h => by
  rcases List.mem_cons.1 h with h | h
  ·cases h
  ·exact opTmps_mem (l := r) h
theorem ev_ag {t t' : List AV} {l : List Operand} (h : ∀ i ∈ opTmps l, nth t i = nth t' i) : ∀ x ∈ l, ev t x = ev t' x := fun x hx => by
 cases x with
 | tmp i => exact h i (opTmps_mem hx)
 | _ => rfl
theorem evL_ag {e e' : Operand → AV} : ∀ {l : List Operand}, (∀ x ∈ l, e x = e' x) → evL e l = evL e' l
 | [], _ => rfl
 | x :: r, h => by simp only [evL, h x (by simp), evL_ag (l := r) fun y hy => h y (List.mem_cons_of_mem _ hy)]
theorem evP_ag {e e' : Operand → AV} : ∀ {l : List (Nat × Operand)}, (∀ x ∈ l.map (·.2), e x = e' x) → evP e l = evP e' l
 | [], _ => rfl
 | (i, x) :: r, h => by simp only [evP, h x (by simp), evP_ag (l := r) fun y hy => h y (List.mem_cons_of_mem _ hy)]
theorem aEff_ev {P : Program} {H : OH} {e e' : Operand → AV} {mu : Bool} {o : Nat} {op : Op} (h : ∀ x ∈ op.operands.toList, e x = e' x) : aEff P H e mu o op = aEff P H e' mu o op ∧ looks e op = looks e' op := by
 cases op with
 | lookup t m x c => exact ⟨rfl, by simp only [looks, h m (by simp [Op.operands])]⟩
 | mapUpdate t m k x => exact ⟨rfl, by simp only [looks, h m (by simp [Op.operands]), h x (by simp [Op.operands])]⟩
 | insert t m k x => exact ⟨rfl, by simp only [looks, h m (by simp [Op.operands]), h x (by simp [Op.operands])]⟩
 | makeMap T r => cases r <;> exact ⟨rfl, rfl⟩
 | pick c x y => simp only [aEff, looks, h c (by simp [Op.operands]), h x (by simp [Op.operands]), h y (by simp [Op.operands]), and_self]
 | move x => simp only [aEff, looks, h x (by simp [Op.operands]), and_self]
 | assign x => simp only [aEff, looks, h x (by simp [Op.operands]), and_self]
 | box T x => simp only [aEff, looks, h x (by simp [Op.operands]), and_self]
 | load T x => simp only [aEff, looks, h x (by simp [Op.operands]), and_self]
 | nilCheck x => simp only [aEff, looks, h x (by simp [Op.operands]), and_self]
 | unOp q T x => simp only [aEff, looks, h x (by simp [Op.operands]), and_self]
 | convert q T x => simp only [aEff, looks, h x (by simp [Op.operands]), and_self]
 | fieldAddr T x k => simp only [aEff, looks, h x (by simp [Op.operands]), and_self]
 | field T x k => simp only [aEff, looks, h x (by simp [Op.operands]), and_self]
 | extract x k => simp only [aEff, looks, h x (by simp [Op.operands]), and_self]
 | store T x y => simp only [aEff, looks, h x (by simp [Op.operands]), h y (by simp [Op.operands]), and_self]
 | binOp q T x y U => simp only [aEff, looks, h x (by simp [Op.operands]), h y (by simp [Op.operands]), and_self]
 | makeSlice T x y => simp only [aEff, looks, h x (by simp [Op.operands]), h y (by simp [Op.operands]), and_self]
 | index T x y => simp only [aEff, looks, h x (by simp [Op.operands]), h y (by simp [Op.operands]), and_self]
 | indexAddr T x y => simp only [aEff, looks, h x (by simp [Op.operands]), h y (by simp [Op.operands]), and_self]
 | build T ps =>
  have := evP_ag (l := ps.toList) (e := e) (e' := e') fun x hx => h x (by simp only [Op.operands]; exact hx)
  simp only [aEff, looks, this, and_self]
 | buildSlice T n ps =>
  have := evP_ag (l := ps.toList) (e := e) (e' := e') fun x hx => h x (by simp only [Op.operands]; exact hx)
  simp only [aEff, looks, this, and_self]
 | makeFunc fn a b =>
  have h1 := evL_ag (l := a.toList) (e := e) (e' := e') fun x hx => h x (by simp only [Op.operands, Array.toList_append]; exact List.mem_append_left _ hx)
  have h2 := evL_ag (l := b.toList) (e := e) (e' := e') fun x hx => h x (by simp only [Op.operands, Array.toList_append]; exact List.mem_append_right _ hx)
  simp only [aEff, looks, h1, h2, and_self]
 | slice T x lo hi mx =>
  have h1 := h x (by simp [Op.operands])
  have h2 : evO e lo = evO e' lo := by
   cases lo with
   | none => rfl
   | some y => simp only [evO, h y (by simp [Op.operands])]
  have h3 : evO e hi = evO e' hi := by
   cases hi with
   | none => rfl
   | some y => simp only [evO, h y (by simp [Op.operands])]
  cases mx <;> simp only [aEff, looks, h1, h2, h3, and_self]
 | call c =>
  have h1 := evL_ag (l := c.args.toList) (e := e) (e' := e') fun x hx => h x (by simp only [Op.operands, Call.operands, Array.toList_append]; exact List.mem_append_right _ hx)
  refine ⟨?_, by simp only [looks, h1]⟩
  simp only [aEff]
  split
  ·rename_i x T _ ha _; rw [ha] at h1; simp only [evL, List.cons.injEq, and_true] at h1; rw [h1]
  ·rename_i x y _ ha; rw [ha] at h1; simp only [evL, List.cons.injEq, and_true] at h1; rw [h1.1, h1.2]
  ·rename_i x y _ ha; rw [ha] at h1; simp only [evL, List.cons.injEq, and_true] at h1; rw [h1.1, h1.2]
  ·rename_i x y T T' _ ha _; rw [ha] at h1; simp only [evL, List.cons.injEq, and_true] at h1; rw [h1.1, h1.2]
  ·rename_i x y T T' _ ha _; rw [ha] at h1; simp only [evL, List.cons.injEq, and_true] at h1; rw [h1.1, h1.2]
  ·rfl
 | _ => exact ⟨rfl, rfl⟩
theorem callee_ag {e e' : Operand → AV} {c : Call} (h : ∀ x ∈ c.operands.toList, e x = e' x) : calleeA e c = calleeA e' c := by
 have h1 := evL_ag (l := c.args.toList) (e := e) (e' := e') fun x hx => h x (by simp only [Call.operands, Array.toList_append]; exact List.mem_append_right _ hx)
 unfold calleeA
 cases hc : c.callee with
 | value x => simp only [h1, h x (by simp [Call.operands, hc])]
 | _ => rfl
theorem aEff_local {P : Program} {H H' : OH} {e e' : Operand → AV} {mu : Bool} {o : Nat} {op : Op} (h : ∀ x ∈ op.operands.toList, e x = e' x) (k : Ag H H' (looks e op ++ sites op o)) : aEff P H e mu o op = aEff P H' e' mu o op := by
 rw [← (aEff_ev (P := P) (H := H') (mu := mu) (o := o) h).1]
 exact aEff_look k.left k.right
/-! ### Steps that may come in another order -/
/-- operation i, with the objects that it hangs on and those that it turns -/
def Step (P : Program) (mu : List Nat) (ops : Array Oper) (i : Nat) (rd wr : List Nat) (S S' : St) : Prop :=
 ∃ o v u, ops[i]? = some o ∧ S' = appS S o.dst v u ∧ (∀ x ∈ keysH u, x ∈ wr) ∧ ∀ S2, AgS S S2 (usesO ops o) rd → Base P mu ops o S2 v u
theorem AgS.symm {S S2 : St} {us ks : List Nat} (h : AgS S S2 us ks) : AgS S2 S us ks := ⟨fun i hi => (h.t i hi).symm, fun x hx => (h.h x hx).symm⟩
theorem AgS.trans {S S2 S3 : St} {us ks : List Nat} (h : AgS S S2 us ks) (k : AgS S2 S3 us ks) : AgS S S3 us ks := ⟨fun i hi => (h.t i hi).trans (k.t i hi), fun x hx => (h.h x hx).trans (k.h x hx)⟩
theorem gd_ag {ops : Array Oper} {o : Oper} {S S2 : St} {ks : List Nat} (h : AgS S S2 (usesO ops o) ks) : gd ops o S = gd ops o S2 := by
 unfold gd
 cases hg : o.guard with
 | none => rfl
 | some q =>
  obtain ⟨j, want⟩ := q
  simp only []
  cases hs : slotOf ops j with
  | none => rfl
  | some g =>
   have := h.t g (by unfold usesO; rw [hg]; simp [hs])
   simp only [this]
theorem uses_op {ops : Array Oper} {o : Oper} {S S2 : St} {ks : List Nat} (h : AgS S S2 (usesO ops o) ks) : ∀ x ∈ o.op.operands.toList, ev S.t x = ev S2.t x :=
 ev_ag fun i hi => h.t i (by unfold usesO; exact List.mem_append_left _ hi)
theorem step_eff {P : Program} {mu : List Nat} {ops : Array Oper} {i : Nat} {o : Oper} {S : St} {r : Rs} (hi : ops[i]? = some o) (hw : gd ops o S = some true) (h : aEff P S.H (ev S.t) (muOf mu (site o)) (site o) o.op = some r) (hl : allP r.obl) :
    Step P mu ops i (looks (ev S.t) o.op ++ sites o.op (site o)) (keysH r.eff.upd) S (appS S o.dst r.eff.av r.eff.upd) :=
  ⟨o, _, _, hi, rfl, fun x hx => hx, fun S2 hA => .eff r (by rw [← gd_ag hA]; exact hw) (by rw [← aEff_local (uses_op hA) hA.h]; exact h) hl⟩
theorem aCho_ev {P : Program} {H : OH} {e e' : Operand → AV} {w : Cho} {op : Op} (h : ∀ x ∈ op.operands.toList, e x = e' x) : aCho P H e w op = aCho P H e' w op := by
 cases op with
 | lookup t m x c => simp only [aCho, h m (by simp [Op.operands]), h x (by simp [Op.operands])]
 | mapUpdate t m k x => simp only [aCho, h m (by simp [Op.operands]), h k (by simp [Op.operands]), h x (by simp [Op.operands])]
 | insert t m k x => simp only [aCho, h m (by simp [Op.operands]), h k (by simp [Op.operands]), h x (by simp [Op.operands])]
 | _ => rfl
theorem step_cho {P : Program} {mu : List Nat} {ops : Array Oper} {i : Nat} {o : Oper} {S : St} {w : Cho} {r : Rs} (hi : ops[i]? = some o) (hw : gd ops o S = some true) (h : aCho P S.H (ev S.t) w o.op = some r) (hl : allP r.obl) :
    Step P mu ops i (looks (ev S.t) o.op) (keysH r.eff.upd) S (appS S o.dst r.eff.av r.eff.upd) :=
  ⟨o, _, _, hi, rfl, fun x hx => hx, fun S2 hA => .cho w r (by rw [← gd_ag hA]; exact hw) (by rw [← aCho_ev (uses_op hA), ← aCho_look hA.h]; exact h) hl⟩
theorem step_call {P : Program} {mu : List Nat} {ops : Array Oper} {i : Nat} {o : Oper} {S : St} {c : Call} {f : FuncId} {as : List AV} {r : AV} {u : OH} {rd : List Nat} (hi : ops[i]? = some o) (hw : gd ops o S = some true) (hop : o.op = .call c)
    (hc : calleeA (ev S.t) c = some (f, as)) (hs : CallSem P S.H f as r u rd) : Step P mu ops i rd (keysH u) S (appS S o.dst r u) :=
  ⟨o, _, _, hi, rfl, fun x hx => hx, fun S2 hA => .call c f as r u rd (by rw [← gd_ag hA]; exact hw) hop (by
    rw [← callee_ag (e := ev S.t)]
    · exact hc
    · intro x hx
      exact uses_op hA x (by rw [hop]; exact hx)) (hs.ag hA.h)⟩
theorem step_skip {P : Program} {mu : List Nat} {ops : Array Oper} {i : Nat} {o : Oper} {S : St} (hi : ops[i]? = some o) (hw : gd ops o S = some false) : Step P mu ops i [] [] S (appS S o.dst noA []) :=
 ⟨o, _, _, hi, rfl, fun x hx => hx, fun S2 hA => .skip (by rw [← gd_ag hA]; exact hw)⟩
def disj : List Nat → List Nat → Bool
 | [], _ => true
 | x :: r, l => match memB x l with
  | true => false
  | false => disj r l
where memB (x : Nat) : List Nat → Bool
 | [] => false
 | y :: r => match Nat.beq x y with
  | true => true
  | false => memB x r
theorem memB_iff (x : Nat) : ∀ l : List Nat, disj.memB x l = true ↔ x ∈ l
 | [] => by simp [disj.memB]
 | y :: r => by
  simp only [disj.memB, List.mem_cons]
  split
  ·rename_i h; simp [(beq_nat_iff _ _).1 h]
  ·rename_i h; rw [memB_iff x r]; have := (beq_nat_false _ _).1 h; simp [this]
theorem disj_spec : ∀ {l m : List Nat}, disj l m = true → ∀ x ∈ l, x ∉ m
 | [], m, _, x, h => by cases h
 | y :: r, m, hd, x, h => by
  simp only [disj] at hd
  split at hd
  ·cases hd
  ·rename_i q
   rcases List.mem_cons.1 h with rfl | h
   ·intro hm; rw [(memB_iff x m).2 hm] at q; cases q
   ·exact disj_spec hd x h
def dstL (o : Oper) : List Nat := match o.dst with
 | some d => [d]
 | none => []
abbrev Lab := Nat × List Nat × List Nat
/-- two operations that may come in either order -/
def indB (ops : Array Oper) (x y : Lab) : Bool := match ops[x.1]?, ops[y.1]? with
 | some o, some p => match disj (dstL o) (usesO ops p ++ dstL p), disj (dstL p) (usesO ops o), disj x.2.2 (y.2.1 ++ y.2.2), disj y.2.2 x.2.1 with
  | true, true, true, true => true
  | _, _, _, _ => false
 | _, _ => false
theorem appS_nth {S : St} {d : Option Nat} {v : AV} {u : OH} {i : Nat} (h : ∀ n, d = some n → i ≠ n) : nth (appS S d v u).t i = nth S.t i := by
 cases d with
 | none => rfl
 | some n => simp only [appS, putD, nth_setN]; rw [if_neg fun q => h n rfl q.1]
theorem appS_look {S : St} {d : Option Nat} {v : AV} {u : OH} {x : Nat} (h : x ∉ keysH u) : look (appS S d v u).H x = look S.H x := by
 simp only [appS, look_putsH, keysH_iff x u h]
theorem putsH_comm1 (o : Nat) (b : Ob) : ∀ (u : OH) (H : OH), o ∉ keysH u → putsH (setH H o b) u = setH (putsH H u) o b
 | [], _, _ => rfl
 | (k, c) :: r, H, h => by
  simp only [keysH, List.mem_cons, not_or] at h
  simp only [putsH, putsH_comm1 o b r H h.2]
  exact setH_comm o k b c h.1 _
theorem putsH_comm (H : OH) (u : OH) : ∀ w : OH, (∀ x ∈ keysH w, x ∉ keysH u) → putsH (putsH H w) u = putsH (putsH H u) w
 | [], _ => rfl
 | (k, c) :: r, h => by
  simp only [putsH]
  rw [putsH_comm1 k c u _ (h k (by simp [keysH])), putsH_comm H u r fun x hx => h x (by simp [keysH, hx])]
theorem appS_comm {S : St} {d e : Option Nat} {v w : AV} {u z : OH} (h1 : ∀ n m, d = some n → e = some m → n ≠ m) (h2 : ∀ x ∈ keysH u, x ∉ keysH z) : appS (appS S d v u) e w z = appS (appS S e w z) d v u := by
 unfold appS
 congr 1
 ·cases d with
  | none => rfl
  | some n =>
   cases e with
   | none => rfl
   | some m => exact setN_comm _ _ _ _ _ (h1 n m rfl rfl)
 ·exact putsH_comm _ _ _ h2
theorem step_swap {P : Program} {mu : List Nat} {ops : Array Oper} {x y : Lab} {S S1 S2 : St} (h : indB ops x y = true) (hx : Step P mu ops x.1 x.2.1 x.2.2 S S1) (hy : Step P mu ops y.1 y.2.1 y.2.2 S1 S2) :
    ∃ S3, Step P mu ops y.1 y.2.1 y.2.2 S S3 ∧ Step P mu ops x.1 x.2.1 x.2.2 S3 S2 := by
  obtain ⟨o, v, u, ho, rfl, hu, hb⟩ := hx
  obtain ⟨p, w, z, hp, rfl, hz, hc⟩ := hy
  simp only [indB, ho, hp] at h
  split at h
  · rename_i d1 d2 d3 d4
    have d1 := disj_spec d1
    have d2 := disj_spec d2
    have d3 := disj_spec d3
    have d4 := disj_spec d4
    have A1 : AgS (appS S o.dst v u) S (usesO ops p) y.2.1 := ⟨fun i hi => appS_nth fun n hn e => by
        subst e
        exact d1 i (by unfold dstL; rw [hn]; exact List.mem_singleton.2 rfl) (List.mem_append_left _ hi),
      fun k hk => appS_look fun q => d3 k (hu k q) (List.mem_append_left _ hk)⟩
    have A2 : AgS (appS S p.dst w z) S (usesO ops o) x.2.1 := ⟨fun i hi => appS_nth fun n hn e => by
        subst e
        exact d2 i (by unfold dstL; rw [hn]; exact List.mem_singleton.2 rfl) hi,
      fun k hk => appS_look fun q => d4 k (hz k q) hk⟩
    refine ⟨appS S p.dst w z, ⟨p, w, z, hp, rfl, hz, fun S4 hA => hc S4 (A1.trans hA)⟩, ⟨o, v, u, ho, ?_, hu, fun S4 hA => hb S4 (A2.symm.trans hA)⟩⟩
    refine appS_comm (fun n m hn hm e => ?_) (fun k hk q => d3 k (hu k hk) (List.mem_append_right _ (hz k q)))
    subst e
    exact d1 n (by unfold dstL; rw [hn]; exact List.mem_singleton.2 rfl) (List.mem_append_right _ (by unfold dstL; rw [hm]; exact List.mem_singleton.2 rfl))
  · cases h
inductive Run (P : Program) (mu : List Nat) (ops : Array Oper) : List Lab → St → St → Prop where
 | nil (S : St) : Run P mu ops [] S S
 | cons (x : Lab) (l : List Lab) (S S1 S2 : St) (h : Step P mu ops x.1 x.2.1 x.2.2 S S1) (r : Run P mu ops l S1 S2) : Run P mu ops (x :: l) S S2
/-- one of them comes ahead of those that it doesn't meet -/
theorem run_front {P : Program} {mu : List Nat} {ops : Array Oper} {y : Lab} {l2 : List Lab} : ∀ {l1 : List Lab} {S S2 : St}, (∀ x ∈ l1, indB ops x y = true) → Run P mu ops (l1 ++ y :: l2) S S2 → ∃ S1, Step P mu ops y.1 y.2.1 y.2.2 S S1 ∧ Run P mu ops (l1 ++ l2) S1 S2
 | [], S, S2, _, h => by
  cases h with
  | cons _ _ _ S1 _ h r => exact ⟨S1, h, r⟩
 | x :: l1, S, S2, hi, h => by
  cases h with
  | cons _ _ _ S1 _ h r =>
   obtain ⟨S3, h3, r3⟩ := run_front (fun z hz => hi z (List.mem_cons_of_mem _ hz)) r
   obtain ⟨S4, h4, h5⟩ := step_swap (hi x (by simp)) h h3
   exact ⟨S4, h4, .cons x _ _ _ _ h5 r3⟩
end Go.Proofs.YtedokpgkjcnoiaaGreat
namespace Go.Proofs.YtedokpgkjcnoiaaGreat
open Go.RowKit
/-- does y wait for x? -/
def reach (ops : Array Oper) : Nat → Nat → Nat → Bool
 | 0, _, _ => false
 | n + 1, y, x => match ops[y]? with
  | none => false
  | some o => o.after.toList.any fun e => Region.binds .any e && (Nat.beq e.on x || reach ops n e.on x)
def pairsOk (ops : Array Oper) : List Lab → Bool
 | [] => true
 | x :: r => r.all (fun y => indB ops x y || reach ops ops.size y.1 x.1) && pairsOk ops r
def edgesOk (ops : Array Oper) : Bool := ops.toList.zipIdx.all fun p => p.1.after.toList.all fun e => !Region.binds .any e || Nat.blt e.on p.2
section
variable {P : Program} {mu : List Nat} {ops : Array Oper}
structure DC (ops : Array Oper) (listed : Array Bool) : Prop where
 n : listed.size = ops.size
 d : ∀ (i : Nat) (o : Oper), ops[i]? = some o → listed.getD i true = true → ∀ e ∈ o.after, Region.binds .any e = true → listed.getD e.on false = true
theorem getD_tf {listed : Array Bool} {i : Nat} (h : listed.getD i false = true) : listed.getD i true = true := by
 rw [Array.getD_eq_getD_getElem?] at *
 cases q : listed[i]? with
 | none => rfl
 | some b => rw [q] at h; exact h
theorem reach_spec {listed : Array Bool} (h : DC ops listed) : ∀ (n y x : Nat) (o : Oper), ops[y]? = some o → (∀ e ∈ o.after, Region.binds .any e = true → listed.getD e.on false = true) → reach ops n y x = true → listed.getD x false = true
 | 0, _, _, _, _, _, hr => by cases hr
 | n + 1, y, x, o, ho, ha, hr => by
  simp only [reach, ho, List.any_eq_true, Bool.and_eq_true, Bool.or_eq_true] at hr
  obtain ⟨e, he, hb, hr⟩ := hr
  have he' : e ∈ o.after := by simpa using he
  have hl := ha e he' hb
  rcases hr with hr | hr
  ·rw [← (beq_nat_iff _ _).1 hr]; exact hl
  ·cases q : ops[e.on]? with
   | none =>
    cases n with
    | zero => cases hr
    | succ n => simp only [reach, q] at hr; cases hr
   | some p => exact reach_spec h n e.on x p q (h.d e.on p q (getD_tf hl)) hr
theorem pairs_mem {x y : Lab} {l2 : List Lab} : ∀ {l1 : List Lab}, pairsOk ops (l1 ++ y :: l2) = true → x ∈ l1 → indB ops x y = true ∨ reach ops ops.size y.1 x.1 = true
 | z :: l1, h, hx => by
  simp only [List.cons_append, pairsOk, Bool.and_eq_true, List.all_eq_true, Bool.or_eq_true] at h
  rcases List.mem_cons.1 hx with rfl | hx
  ·exact h.1 y (by simp)
  ·exact pairs_mem h.2 hx
theorem pairs_drop {y : Lab} {l2 : List Lab} : ∀ {l1 : List Lab}, pairsOk ops (l1 ++ y :: l2) = true → pairsOk ops (l1 ++ l2) = true
 | [], h => by simp only [List.nil_append, pairsOk, Bool.and_eq_true] at h ⊢; exact h.2
 | z :: l1, h => by
  simp only [List.cons_append, pairsOk, Bool.and_eq_true, List.all_eq_true] at h ⊢
  exact ⟨fun w hw => h.1 w (by rcases List.mem_append.1 hw with q | q; exact List.mem_append_left _ q; exact List.mem_append_right _ (List.mem_cons_of_mem _ q)), pairs_drop h.2⟩
theorem edges_spec (h : edgesOk ops = true) {i : Nat} {o : Oper} (ho : ops[i]? = some o) : ∀ e ∈ o.after, Region.binds .any e = true → e.on < i := fun e he hb => by
 simp only [edgesOk, List.all_eq_true] at h
 have hi := (Array.getElem?_eq_some_iff.1 ho)
 have := h (o, i) (by
  rw [List.mem_zipIdx_iff_getElem?]
  simpa using ho) e (by simpa using he)
 simp only [Bool.or_eq_true, Bool.not_eq_true', hb, Bool.true_eq_false, false_or] at this
 exact (blt_iff _ _).1 this
theorem Base.of_step {i : Nat} {rd wr : List Nat} {S S' : St} (h : Step P mu ops i rd wr S S') : ∃ o v u, ops[i]? = some o ∧ S' = appS S o.dst v u ∧ Base P mu ops o S v u := by
 obtain ⟨o, v, u, ho, e, _, hb⟩ := h
 exact ⟨o, v, u, ho, e, hb S ⟨fun _ _ => rfl, fun _ _ => rfl⟩⟩
/-- whatever the order -/
theorem run_any (hE : edgesOk ops = true) {Q : Exit → Act → World → Prop} {Sf : St} : ∀ (n : Nat) (L : List Lab) (listed : Array Bool) (S : St) (C0 C : Cx) (a : Act), L.length = n → DC ops listed →
    (∀ k, k < ops.size → (listed.getD k true = false ↔ k ∈ L.map (·.1))) → (L.map (·.1)).Pairwise (· < ·) → (∀ x ∈ L, x.1 < ops.size) → pairsOk ops L = true → Run P mu ops L S Sf → Sat C S a → Fr C0 C →
    (∀ a' C', Sat C' Sf a' → C'.E = C.E → Fr C0 C' → Q .normal a' C'.W) → wpAny P .any ops Q n listed a C.W := by
  intro n
  induction n with
  | zero =>
    intro L listed S C0 C a hn hD hL hs hlt hp hr hS hF hQ
    obtain rfl := List.eq_nil_of_length_eq_zero hn
    cases hr
    refine ⟨?_, hQ a C hS rfl hF⟩
    cases q : Region.ready .any ops listed with
    | nil => rfl
    | cons i r =>
      obtain ⟨hun, o, ho, _⟩ := mem_ready.1 (show i ∈ Region.ready .any ops listed by rw [q]; simp)
      have := (hL i (Array.getElem?_eq_some_iff.1 ho).1).1 hun
      cases this
  | succ n ih =>
    intro L listed S C0 C a hn hD hL hs hlt hp hr hS hF hQ
    refine ⟨fun hnil => ?_, fun i hi => ?_⟩
    · exfalso
      cases L with
      | nil => cases hn
      | cons x r =>
        have hx := hlt x (by simp)
        obtain ⟨o, ho⟩ : ∃ o, ops[x.1]? = some o := ⟨_, Array.getElem?_eq_getElem hx⟩
        have : x.1 ∈ Region.ready .any ops listed := mem_ready.2 ⟨(hL x.1 hx).2 (by simp), o, ho, fun e he hb => by
          have hlt' := edges_spec hE ho e he hb
          have hes : e.on < ops.size := by omega
          have : ¬ listed.getD e.on true = false := fun q => by
            have := (hL e.on hes).1 q
            simp only [List.map_cons, List.mem_cons] at this
            rcases this with q | q
            · omega
            · have : x.1 < e.on := (List.pairwise_cons.1 hs).1 _ q
              omega
          have h2 : listed.getD e.on true = true := by
            cases q : listed.getD e.on true with
            | true => rfl
            | false => exact absurd q this
          rw [Array.getD_eq_getD_getElem?] at *
          have hz : e.on < listed.size := by rw [hD.n]; exact hes
          rw [Array.getElem?_eq_getElem hz] at *
          exact h2⟩
        rw [hnil] at this
        cases this
    · obtain ⟨hun, o, ho, hall⟩ := mem_ready.1 hi
      have hil := (Array.getElem?_eq_some_iff.1 ho).1
      obtain ⟨y, hy, hyi⟩ := List.mem_map.1 ((hL i hil).1 hun)
      obtain ⟨l1, l2, rfl⟩ := List.append_of_mem hy
      have hnl : ∀ x ∈ l1, indB ops x y = true := fun x hx => by
        rcases pairs_mem hp hx with q | q
        · exact q
        · exfalso
          rw [hyi] at q
          have h1 := reach_spec hD _ i x.1 o ho hall q
          have h2 := (hL x.1 (hlt x (by simp [hx]))).2 (by simp only [List.map_append, List.mem_append]; exact .inl (List.mem_map.2 ⟨x, hx, rfl⟩))
          rw [getD_tf h1] at h2; cases h2
      obtain ⟨S1, hst, hrun⟩ := run_front hnl hr
      obtain ⟨o', v, u, ho', rfl, hb⟩ := Base.of_step hst
      rw [hyi, ho] at ho'
      obtain rfl := Option.some.inj ho'
      have key := hb.sound (Q := Q) (K := wpAny P .any ops Q n (listed.setIfInBounds i true)) hS (fun a' C' hS' hE' hF' => by
        refine ih (l1 ++ l2) (listed.setIfInBounds i true) _ C0 C' a' (by simp at hn ⊢; omega) ⟨by simp [hD.n], fun k p hk hkl e he hb' => ?_⟩ (fun k hk => ?_) ?_ (fun x hx => hlt x (by
          rcases List.mem_append.1 hx with q | q
          · exact List.mem_append_left _ q
          · exact List.mem_append_right _ (List.mem_cons_of_mem _ q))) (pairs_drop hp) hrun hS' (hF.trans hF') (fun a2 C2 h1 h2 h3 => hQ a2 C2 h1 (h2.trans hE') h3)
        · have mono : ∀ {z : Nat}, listed.getD z false = true → (listed.setIfInBounds i true).getD z false = true := fun {z} hz => by
            rw [Array.getD_eq_getD_getElem?, Array.getElem?_setIfInBounds]
            split
            · split <;> first | rfl | (rename_i q1 q2; subst q1; rw [Array.getD_eq_getD_getElem?, Array.getElem?_eq_none (by omega)] at hz; cases hz)
            · rw [← Array.getD_eq_getD_getElem?]; exact hz
          by_cases hki : k = i
          · subst hki
            rw [ho] at hk
            obtain rfl := Option.some.inj hk
            exact mono (hall e he hb')
          · refine mono (hD.d k p hk ?_ e he hb')
            rw [Array.getD_eq_getD_getElem?, Array.getElem?_setIfInBounds, if_neg (Ne.symm hki), ← Array.getD_eq_getD_getElem?] at hkl
            exact hkl
        · rw [Array.getD_eq_getD_getElem?, Array.getElem?_setIfInBounds]
          have hiz : i < listed.size := by rw [hD.n]; exact hil
          have nodup := hs
          by_cases hki : i = k
          · subst hki
            rw [if_pos rfl, if_pos hiz]
            refine ⟨fun q => (by cases q), fun q => ?_⟩
            exfalso
            have hw : ((l1 ++ y :: l2).map (·.1)).Pairwise (· < ·) := hs
            rw [List.map_append, List.map_cons, List.pairwise_append] at hw
            rw [List.map_append, List.mem_append] at q
            rcases q with q | q
            · have := hw.2.2 i q y.1 (by simp); omega
            · have := (List.pairwise_cons.1 hw.2.1).1 i q; omega
          · rw [if_neg hki, ← Array.getD_eq_getD_getElem?, hL k hk]
            simp only [List.map_append, List.map_cons, List.mem_append, List.mem_cons]
            constructor
            · rintro (q | q | q)
              · exact .inl q
              · exact absurd (hyi.symm.trans q.symm) hki
              · exact .inr q
            · rintro (q | q)
              · exact .inl q
              · exact .inr (.inr q)
        · rw [List.map_append] at hs ⊢
          rw [List.map_cons, List.pairwise_append] at hs
          exact List.pairwise_append.2 ⟨hs.1, (List.pairwise_cons.1 hs.2.1).2, fun a ha b hb => hs.2.2 a ha b (List.mem_cons_of_mem _ hb)⟩)
      unfold wpOp
      rw [ho]
      simp only []
      split
      · rename_i hw; rw [if_pos hw] at key; exact .inl key
      · rename_i hw; rw [if_neg hw] at key; exact key
/-- in the order of the text -/
theorem run_list {Q : Exit → Act → World → Prop} {Sf : St} : ∀ (l : List Oper) (i : Nat) (M : List Lab) (S : St) (C0 C : Cx) (a : Act), M.map (·.1) = List.range' i l.length → (∀ j, l[j]? = ops[i + j]?) → Run P mu ops M S Sf → Sat C S a → Fr C0 C →
    (∀ a' C', Sat C' Sf a' → C'.E = C.E → Fr C0 C' → Q .normal a' C'.W) → wpList P ops Q l a C.W
  | [], i, M, S, C0, C, a, hM, hl, hr, hS, hF, hQ => by
    have : M = [] := by simpa using hM
    subst this
    cases hr
    exact hQ a C hS rfl hF
  | o :: l, i, M, S, C0, C, a, hM, hl, hr, hS, hF, hQ => by
    cases M with
    | nil => simp [List.range'_succ] at hM
    | cons x M =>
      rw [List.length_cons, List.range'_succ, List.map_cons, List.cons.injEq] at hM
      cases hr with
      | cons _ _ _ S1 _ h r =>
        obtain ⟨o', v, u, ho', rfl, hb⟩ := Base.of_step h
        have h0 := hl 0
        rw [hM.1] at ho'
        rw [Nat.add_zero, ho'] at h0
        obtain rfl := Option.some.inj h0
        have key := hb.sound (Q := Q) (K := wpList P ops Q l) hS (fun a' C' hS' hE' hF' => run_list l (i + 1) M _ C0 C' a' hM.2 (fun j => by have := hl (j + 1); simpa [Nat.add_assoc, Nat.add_comm 1 j] using this) r hS' (hF.trans hF') (fun a2 C2 h1 h2 h3 => hQ a2 C2 h1 (h2.trans hE') h3))
        unfold wpList
        split
        · rename_i hw; rw [if_pos hw] at key; exact .inl key
        · rename_i hw; rw [if_neg hw] at key; exact key
theorem wp_region_drawn {id : Nat} {Q : Exit → Act → World → Prop} {M : List Lab} {S Sf : St} {C0 C : Cx} {a : Act} (hm : P.follows .mixedOrders = true) (hE : edgesOk ops = true) (hp : pairsOk ops M = true) (hM : M.map (·.1) = List.range ops.size) (hr : Run P mu ops M S Sf)
    (hS : Sat C S a) (hF : Fr C0 C) (hQ : ∀ a' C', Sat C' Sf a' → C'.E = C.E → Fr C0 C' → Q .normal a' C'.W) : (Code.region id ops true).wp P Q a C.W := by
  obtain ⟨k1, k2⟩ := hS.g.same (W' := C.W.drew) rfl rfl rfl rfl
  refine wp_region_any hm ?_
  have hlen : M.length = ops.size := by have := congrArg List.length hM; simpa using this
  refine run_any hE ops.size M (Array.replicate ops.size false) S C0 ⟨C.E, C.W.drew, C.H, C.vl⟩ a hlen ⟨by simp, fun i o ho h => ?_⟩ (fun k hk => ?_) (by rw [hM]; exact List.pairwise_lt_range) (fun x hx => ?_) hp hr ⟨k2, hS.h, hS.n, fun i => (hS.t i).fr k1, hS.d⟩ (hF.trans k1) (fun a' C' h1 h2 h3 => hQ a' C' h1 h2 h3)
  · have hi := (Array.getElem?_eq_some_iff.1 ho).1
    rw [Array.getD_eq_getD_getElem?] at h
    simp [hi] at h
  · rw [hM]
    simp [hk]
  · have : x.1 ∈ List.range ops.size := by rw [← hM]; exact List.mem_map.2 ⟨x, hx, rfl⟩
    exact List.mem_range.1 this
theorem wp_region_plain {id : Nat} {Q : Exit → Act → World → Prop} {M : List Lab} {S Sf : St} {C0 C : Cx} {a : Act} (hM : M.map (·.1) = List.range ops.size) (hr : Run P mu ops M S Sf)
    (hS : Sat C S a) (hF : Fr C0 C) (hQ : ∀ a' C', Sat C' Sf a' → C'.E = C.E → Fr C0 C' → Q .normal a' C'.W) : (Code.region id ops false).wp P Q a C.W :=
  wp_region_list (run_list ops.toList 0 M S C0 C a (by rw [hM]; simp [List.range_eq_range']) (fun j => by simp) hr hS hF hQ)
end
end Go.Proofs.YtedokpgkjcnoiaaGreat
