/- A function's contract, out of its code. No program in sight. A function's contract, out of its code: the law. No program in sight. A contract for objects of other names and later generations. No program in sight. Data: kids, entries, nodes, tables. No program in sight. Plain: lists of bytes, of numbers of 64 bits. -/
import Derived.Test.YtedokpgkjcnoiaaGreatQ15
set_option linter.unusedVariables false
set_option linter.unusedSimpArgs false
namespace Go.Proofs.YtedokpgkjcnoiaaGreat
open Go.RowKit
/-! ### Results -/
def resA (P : Program) (S : St) : List ResultVar → Option (List Prop × List AV)
 | [] => some ([], [])
 | .tmp i :: r => match resA P S r with
  | some (l, vs) => some (l, nth S.t i :: vs)
  | none => none
 | .cell i ty :: r => match aLoad P S.H ty (nth S.t i), resA P S r with
  | some q, some (l, vs) => some (q.obl ++ l, q.eff.av :: vs)
  | _, _ => none
def mkRes : List AV → AV
 | [a] => a
 | l => .tup l
def notTup : AV → Bool
 | .tup _ => false
 | _ => true
theorem allP_append : ∀ {l m : List Prop}, allP (l ++ m) ↔ allP l ∧ allP m
 | [], m => by simp [allP]
 | p :: r, m => by simp only [List.cons_append, allP, allP_append (l := r), and_assoc]
theorem r1_of_rv {C : Cx} : ∀ {a : AV} {v : Value}, Rv C a v → notTup a = true → R1 C a v := by
 intro a v h n
 cases a <;> first | exact h | cases n
def resOne (tmps : Array Value) : ResultVar → Sem Value
 | .tmp t => pure (tmps.getD t undef)
 | .cell p t => do loadVar t (← asAddr (tmps.getD p undef))
theorem mapM_cons_run {P : Program} {W : World} {f : ResultVar → Sem Value} {x : ResultVar} {r : List ResultVar} {u : Value} {us : List Value} (h : (f x).run P W = .ok u W) (k : (r.mapM f).run P W = .ok us W) : ((x :: r).mapM f).run P W = .ok (u :: us) W := by
 rw [List.mapM_cons]
 simp only [Sem.run_bind, h, Result.andThen_ok, k, Sem.run_pure]
theorem resA_run {P : Program} {C : Cx} {S : St} {a : Act} (h : Sat C S a) : ∀ {l : List ResultVar} {q : List Prop} {vs : List AV}, resA P S l = some (q, vs) → allP q →
    ∃ us : List Value, (l.mapM (resOne a.tmps)).run P C.W = .ok us C.W ∧ us.length = vs.length ∧ vs.length = l.length ∧ ∀ j, j < vs.length → Rv C (vs.getD j .any) (us.getD j undef)
  | [], q, vs, hr, hq => by
    simp only [resA, Option.some.injEq, Prod.mk.injEq] at hr
    obtain ⟨_, rfl⟩ := hr
    exact ⟨[], by simp, rfl, rfl, fun j hj => by cases hj⟩
  | .tmp i :: r, q, vs, hr, hq => by
    simp only [resA] at hr
    split at hr
    · rename_i l ws hl
      simp only [Option.some.injEq, Prod.mk.injEq] at hr
      obtain ⟨rfl, rfl⟩ := hr
      obtain ⟨us, k1, k2, k4, k3⟩ := resA_run h hl hq
      refine ⟨a.tmps.getD i undef :: us, mapM_cons_run rfl k1, by simp [k2], by simp [k4], fun j hj => ?_⟩
      cases j with
      | zero => simpa using h.t i
      | succ j => simpa using k3 j (by simpa using hj)
    · cases hr
  | .cell i ty :: r, q, vs, hr, hq => by
    simp only [resA] at hr
    split at hr
    · rename_i s l ws hs hl
      simp only [Option.some.injEq, Prod.mk.injEq] at hr
      obtain ⟨rfl, rfl⟩ := hr
      rw [allP_append] at hq
      obtain ⟨us, k1, k2, k4, k3⟩ := resA_run h hl hq.2
      obtain ⟨ad, u, e1, e2, b, e3, e4⟩ := aLoad_run (P := P) h.g (h.t i) (by rw [h.h]; exact hs) hq.1
      refine ⟨u :: us, mapM_cons_run (by simp only [resOne, e1, asAddr, Sem.run_bind, Sem.run_pure, Result.andThen_ok, e2]) k1, by simp [k2], by simp [k4], fun j hj => ?_⟩
      cases j with
      | zero => rw [e3]; simpa [Eff.av] using e4
      | succ j => simpa using k3 j (by simpa using hj)
    · cases hr
theorem results_run {P : Program} {C : Cx} {S : St} {a : Act} {fn : Func} (h : Sat C S a) {q : List Prop} {vs : List AV} (hr : resA P S fn.results.toList = some (q, vs)) (hq : allP q) (hn : vs.all notTup = true) :
    ∃ v, (results fn a.tmps).run P C.W = .ok v C.W ∧ Rv C (mkRes vs) v := by
  obtain ⟨us, k1, k2, k4, k3⟩ := resA_run h hr hq
  have hrun : (results fn a.tmps).run P C.W = .ok (if h : us.toArray.size = 1 then us.toArray[0] else .tuple us.toArray) C.W := by
    have e : results fn a.tmps = (do let vs ← fn.results.mapM (resOne a.tmps); pure (if h : vs.size = 1 then vs[0] else .tuple vs)) := rfl
    rw [e, Sem.run_bind, Array.mapM_eq_mapM_toList]
    have : (List.toArray <$> fn.results.toList.mapM (resOne a.tmps)).run P C.W = .ok us.toArray C.W := by
      rw [show (List.toArray <$> fn.results.toList.mapM (resOne a.tmps)) = (do let x ← fn.results.toList.mapM (resOne a.tmps); pure x.toArray) from (bind_pure_comp _ _).symm, Sem.run_bind, k1]
      rfl
    rw [this]
    rfl
  refine ⟨_, hrun, ?_⟩
  rw [List.all_eq_true] at hn
  have r1 : ∀ j, j < vs.length → R1 C (vs.getD j .any) (us.getD j undef) := fun j hj => r1_of_rv (k3 j hj) (hn _ (by rw [List.getD_eq_getElem?_getD, List.getElem?_eq_getElem hj]; exact List.getElem_mem _))
  cases us with
  | nil =>
    have : vs = [] := List.eq_nil_of_length_eq_zero (by simpa using k2.symm)
    subst this
    exact ⟨[], by simp, rfl, fun j hj => by cases hj⟩
  | cons u us =>
    cases us with
    | nil =>
      cases vs with
      | nil => simp at k2
      | cons x xs =>
        have : xs = [] := List.eq_nil_of_length_eq_zero (by simpa using k2.symm)
        subst this
        simpa [mkRes] using k3 0 (by simp)
    | cons u2 us =>
      cases vs with
      | nil => simp at k2
      | cons x xs =>
        cases xs with
        | nil => simp at k2
        | cons y ys =>
          rw [dif_neg (by simp)]
          exact ⟨u :: u2 :: us, rfl, k2.symm, r1⟩
/-! ### The end -/
def purR (H Hp : OH) : AV → Option AV
 | .tup cs => match purA H Hp cs with
  | some l => some (.tup l)
  | none => none
 | a => pur H Hp a
def okEnd (H Hp H' : OH) (r : AV) (vs : List AV) : Bool := match closedH (pickH H (keysH H')) (pickH H (keysH H')), closedH H' H', refsIn H' r, (keysH Hp).all (hasK H'), vs.all notTup with
 | true, true, true, true, true => true
 | _, _, _, _, _ => false
noncomputable def aEnd (P : Program) (fn : Func) (Hp : OH) (r : AV) (H' : OH) (S : St) : Prop := match resA P S fn.results.toList with
 | some (l, vs) => conj l (match purR S.H (pickH S.H (keysH H')) (mkRes vs) with
  | some r1 => okEnd S.H Hp H' r vs = true ∧ (fA r1 fun r2 => avEq r2 r) ∧ obsOk S.H H'
  | none => False)
 | none => False
theorem pickH_look {H : OH} : ∀ {ks : List Nat} {o : Nat} {b : Ob}, o ∈ ks → look H o = some b → look (pickH H ks) o = some b
 | k :: r, o, b, hm, h => by
  simp only [pickH]
  rcases List.mem_cons.1 hm with rfl | hm
  ·rw [h]; simp only [look]; rw [Nat.beq_refl]
  ·split
   ·rename_i c hc
    simp only [look]
    split
    ·rename_i e; rw [← hc, (beq_nat_iff _ _).1 e]; exact h
    ·exact pickH_look hm h
   ·exact pickH_look hm h
theorem keys_of_look {H : OH} {o : Nat} {b : Ob} (h : look H o = some b) : o ∈ keysH H := keys_look h
theorem purR_spec {C D : Cx} {Hp : OH} (G : Gam C) (hW : D.W = C.W) (hv : D.vl = C.vl) (hH : D.H = Hp) (hsub : ∀ o ob, look Hp o = some ob → look C.H o = some ob) (hN : ∀ b, C.N b → D.N b) (hl : ∀ o ob, look Hp o = none → look C.H o = some ob → ∀ b, (C.vl o).ownBlock = some b → D.N b)
    {a a' : AV} {v : Value} (h : Rv C a v) (hp : purR C.H Hp a = some a') (hn : ∀ cs, a = .tup cs → cs.all notTup = true) : Rv D a' v := by
  have lent_none : ∀ {l : List AV}, ∀ o ∈ lentA C.H Hp l, look Hp o = none := by
    have l0 : ∀ {a : AV}, ∀ o ∈ lent0 C.H Hp a, look Hp o = none := fun {a} o ho => by
      cases a with
      | own x g =>
        simp only [lent0] at ho
        split at ho
        · cases ho
        · rename_i q
          have := List.mem_singleton.1 ho
          subst this
          rw [hasK_iff] at q
          cases z : look Hp o with
          | none => rfl
          | some _ => rw [z] at q; cases q
      | _ => cases ho
    have lL : ∀ {l : List AV}, ∀ o ∈ lentL C.H Hp l, look Hp o = none := by
      intro l
      induction l with
      | nil => intro o ho; cases ho
      | cons x r ih =>
        intro o ho
        rcases List.mem_append.1 ho with q | q
        · exact l0 o q
        · exact ih o q
    intro l
    induction l with
    | nil => intro o ho; cases ho
    | cons x r ih =>
      intro o ho
      rcases List.mem_append.1 ho with q | q
      · cases x with
        | agg cs => exact lL o q
        | fn f y z => rcases List.mem_append.1 q with q | q; exact lL o q; exact lL o q
        | own y g => exact l0 (a := .own y g) o q
        | _ => cases q
      · exact ih o q
  have one : ∀ {a a' : AV} {v : Value}, Rv C a v → pur C.H Hp a = some a' → Rv D a' v := fun {a a' v} h hp =>
    pur_spec G hW hv hH hsub hN h hp fun o ho ob hob b hb => hl o ob (lent_none (l := [a]) o (by simp only [lentA]; exact List.mem_append_left _ ho)) hob b hb
  cases a with
  | tup cs =>
    simp only [purR] at hp
    split at hp
    · rename_i l hl'
      obtain rfl := Option.some.inj hp
      obtain ⟨us, e, hlen, r⟩ := h
      obtain ⟨k1, k2⟩ := purA_spec G hW hv hH hsub hN (vs := us) ⟨hlen, fun j hj => rv_of_r1 (r j hj)⟩ hl' fun o ho ob hob b hb => hl o ob (lent_none o ho) hob b hb
      refine ⟨us, e, k1, fun j hj => r1_of_rv (k2 j hj) ?_⟩
      have nt : ∀ {cs l : List AV}, purA C.H Hp cs = some l → ∀ x ∈ l, notTup x = true := by
        intro cs
        induction cs with
        | nil => intro l h x hx; simp only [purA, Option.some.injEq] at h; subst h; cases hx
        | cons c cs ih =>
          intro l h x hx
          simp only [purA] at h
          split at h
          · rename_i y m hy hm
            obtain rfl := Option.some.inj h
            rcases List.mem_cons.1 hx with rfl | hx
            · cases x with
              | tup z =>
                exfalso
                cases c <;> simp only [pur, pur0] at hy <;> first | (cases hy; done) | (split at hy <;> first | (cases hy; done) | (split at hy <;> first | (cases hy; done) | (split at hy <;> cases hy)))
              | _ => rfl
            · exact ih hm x hx
          · cases h
      exact nt hl' _ (by rw [List.getD_eq_getElem?_getD, List.getElem?_eq_getElem hj]; exact List.getElem_mem _)
    · cases hp
  | agg x => exact one (a := .agg x) h hp
  | fn x y z => exact one (a := .fn x y z) h hp
  | any => exact one (a := .any) h hp
  | d x => exact one (a := .d x) h hp
  | dp x => exact one (a := .dp x) h hp
  | ptr x y z w => exact one (a := .ptr x y z w) h hp
  | own x y => exact one (a := .own x y) h hp
  | win a b c d e => exact one (a := .win a b c d e) h hp
end Go.Proofs.YtedokpgkjcnoiaaGreat
namespace Go.Proofs.YtedokpgkjcnoiaaGreat
open Go.RowKit
theorem aEnd_post {P : Program} {fn : Func} {Hp H' : OH} {r : AV} {C C0 : Cx} {S : St} {a : Act} (h : Sat C S a) (hF : Fr C0 C) (h0 : C0.H = Hp) (he : aEnd P fn Hp r H' S) :
    ∃ v D, (results fn a.tmps).run P C.W = .ok v C.W ∧ D.W = C.W ∧ D.H = H' ∧ D.E = C.E ∧ Fr C0 D ∧ Gam D ∧ Rv D r v := by
  unfold aEnd at he
  split at he
  · rename_i l vs hr
    rw [conj_iff] at he
    obtain ⟨hl, he⟩ := he
    split at he
    · rename_i r1 hp
      obtain ⟨hk, he, ho⟩ := he
      rw [fA_eq] at he
      unfold okEnd at hk
      split at hk
      · rename_i k1 k2 k3 k4 k5
        obtain ⟨v, hrun, hv⟩ := results_run (fn := fn) h hr hl k5
        have L1 : Less C ⟨C.E, C.W, pickH S.H (keysH H'), C.vl⟩ := ⟨rfl, rfl, rfl, fun o b hb => ⟨b, by rw [h.h]; exact pickH_sub _ _ _ _ hb, by
          cases b with
          | row ty sz g fz n f => exact ⟨rfl, rfl, rfl, rfl, rfl, fun _ _ => rfl⟩
          | box ty cs => exact ⟨rfl, avEqL_refl cs⟩
          | mp ok L => exact ⟨rfl, rfl⟩⟩⟩
        have G1 := L1.gam h.g k1
        have hN : ∀ b, C.N b → Cx.N ⟨C.E, C.W, pickH S.H (keysH H'), C.vl⟩ b := fun b hb => L1.N hb
        rw [List.all_eq_true] at k5
        have v1 : Rv ⟨C.E, C.W, pickH S.H (keysH H'), C.vl⟩ r1 v := by
          refine purR_spec (D := ⟨C.E, C.W, pickH S.H (keysH H'), C.vl⟩) (Hp := pickH S.H (keysH H')) h.g rfl rfl rfl (fun o b hb => by rw [h.h]; exact pickH_sub _ _ _ _ hb) hN (fun o ob hn hob b hb => ?_) hv (by rw [h.h]; exact hp) (fun cs hcs => ?_)
          · refine ⟨?_, (h.g.ok o ob hob).lt hb, fun x ob' hx hf q => ?_⟩
            · rcases h.g.mu o ob b hob hb with q | q
              · exact .inr (.inl q)
              · exact .inr (.inr q)
            · have hne : x ≠ o := fun e => by subst e; rw [hn] at hx; cases hx
              have hx' : look C.H x = some ob' := by rw [h.h]; exact pickH_sub _ _ _ _ hx
              exact h.g.ap x o ob' ob b hx' hob hne q hb
          · rw [List.all_eq_true]
            intro x hx
            cases vs with
            | nil => simp only [mkRes] at hcs; cases hcs; cases hx
            | cons y ys =>
              cases ys with
              | nil => simp only [mkRes] at hcs; subst hcs; have := k5 _ (List.mem_singleton.2 rfl); cases this
              | cons z zs => simp only [mkRes, AV.tup.injEq] at hcs; subst hcs; exact k5 x hx
        have L2 : Less C ⟨C.E, C.W, H', C.vl⟩ := ⟨rfl, rfl, rfl, fun o b hb => by rw [h.h]; exact look_obs ho o b hb⟩
        have L3 : Less ⟨C.E, C.W, pickH S.H (keysH H'), C.vl⟩ ⟨C.E, C.W, H', C.vl⟩ := ⟨rfl, rfl, rfl, fun o b hb => by
          obtain ⟨b0, q1, q2⟩ := look_obs ho o b hb
          exact ⟨b0, pickH_look (keys_of_look hb) q1, q2⟩⟩
        refine ⟨v, ⟨C.E, C.W, H', C.vl⟩, hrun, rfl, rfl, rfl, L2.fr hF fun o ob hob => ?_, L2.gam h.g k2, L3.Rv (v1.eqv he) k3⟩
        rw [h0] at hob
        rw [List.all_eq_true] at k4
        have := k4 o (keys_of_look hob)
        rw [hasK_iff] at this
        exact Option.isSome_iff_exists.1 this
      · cases hk
    · exact he.elim
  · exact he.elim
/-- THE LAW: a function's code, reckoned out, is its contract; with hints: what is told anew ahead of a region, and at the end -/
theorem acall_on {P : Program} {mu : List Nat} {f : FuncId} {fn : Func} {c : Code} {args : List AV} {Hp H' : OH} {r : AV} (hn : List (Nat × List Gh)) (he : List Gh) (hm : P.follows .mixedOrders = true) (hf : P.funcs[f]? = some fn) (hb : fn.body = some c) (hnm : (fn.name == "runtime.NumGoroutine") = false) (hl : Nat.ble args.length fn.ntmps = true)
    (h : fST ⟨args ++ List.replicate (fn.ntmps - args.length) .any, Hp⟩ fun T => aCode P mu hn Hp c (fun e S' => match e with
      | .normal => fGh Hp he S' fun S2 => aEnd P fn Hp r H' S2
      | .ret => fGh Hp he S' fun S2 => aEnd P fn Hp r H' S2
      | _ => False) T) : ACall P f args Hp r H' := by
  refine ⟨fun vs W => ?_, fun A W vl vs G hlen hargs => ?_⟩
  · unfold callFunc
    simp only [program, Sem.run_bind, Sem.run]
    simp [hf, hnm, hb]
    simpa using hnm
  · rw [fST_eq] at h
    obtain ⟨C0, hC0⟩ : ∃ C0 : Cx, C0 = ⟨⟨A, fun b => ∃ o ob, look Hp o = some ob ∧ (vl o).ownBlock = some b, W⟩, W, Hp, vl⟩ := ⟨_, rfl⟩
    have eW : C0.W = W := by rw [hC0]
    have eH : C0.H = Hp := by rw [hC0]
    have eE : C0.E = ⟨A, fun b => ∃ o ob, look Hp o = some ob ∧ (vl o).ownBlock = some b, W⟩ := by rw [hC0]
    rw [← hC0] at G hargs ⊢
    rw [← eE]
    have hl' := Nat.le_of_ble_eq_true hl
    refine calls_of_wp hf hb ?_
    have sat : Sat C0 ⟨args ++ List.replicate (fn.ntmps - args.length) .any, Hp⟩ { tmps := vs.toArray ++ Array.replicate (fn.ntmps - vs.toArray.size) undef, defers := [] } := by
      refine ⟨G, eH, by simp [hlen], fun i => ?_, rfl⟩
      rw [nth_getD]
      by_cases hi : i < args.length
      · rw [show (args ++ List.replicate (fn.ntmps - args.length) AV.any).getD i .any = args.getD i .any by simp [List.getD_eq_getElem?_getD, List.getElem?_append_left hi],
          show (vs.toArray ++ Array.replicate (fn.ntmps - vs.toArray.size) undef).getD i undef = vs.getD i undef by
            have : i < vs.length := by omega
            simp [Array.getD_eq_getD_getElem?, Array.getElem?_append, this, List.getD_eq_getElem?_getD]]
        exact hargs i hi
      · rw [show (args ++ List.replicate (fn.ntmps - args.length) AV.any).getD i .any = .any by
          rw [List.getD_eq_getElem?_getD, List.getElem?_append_right (by omega), List.getElem?_replicate]
          split <;> rfl]
        trivial
    rw [← eW]
    refine wp_mono (aCode_sound hm c _ _ h C0 C0 _ sat (Fr.refl C0) eH) fun e a' w' hp => ?_
    obtain ⟨S', C', h1, rfl, h3, h4, h5⟩ := hp
    cases e with
    | normal =>
      obtain ⟨S2, e2, h1⟩ := fGh_spec h1
      obtain ⟨C2, s2, w2, f2, g2⟩ := ghs_sat h3 h5 (by rw [eH]; exact e2)
      obtain ⟨v, D, k1, k2, k3, k4, k5, k6, k7⟩ := aEnd_post s2 g2 eH h1
      exact ⟨h3.d, v, by rw [← w2]; exact k1, v, D, rfl, k2.trans w2, k3, k4.trans (f2.trans h4), k5, k6, k7⟩
    | ret =>
      obtain ⟨S2, e2, h1⟩ := fGh_spec h1
      obtain ⟨C2, s2, w2, f2, g2⟩ := ghs_sat h3 h5 (by rw [eH]; exact e2)
      obtain ⟨v, D, k1, k2, k3, k4, k5, k6, k7⟩ := aEnd_post s2 g2 eH h1
      exact ⟨h3.d, v, by rw [← w2]; exact k1, v, D, rfl, k2.trans w2, k3, k4.trans (f2.trans h4), k5, k6, k7⟩
    | _ => exact h1.elim
theorem acall_of {P : Program} {mu : List Nat} {f : FuncId} {fn : Func} {c : Code} {args : List AV} {Hp H' : OH} {r : AV} (hm : P.follows .mixedOrders = true) (hf : P.funcs[f]? = some fn) (hb : fn.body = some c) (hnm : (fn.name == "runtime.NumGoroutine") = false) (hl : Nat.ble args.length fn.ntmps = true)
    (h : fST ⟨args ++ List.replicate (fn.ntmps - args.length) .any, Hp⟩ fun T => aCode P mu [] Hp c (fun e S' => match e with
      | .normal => aEnd P fn Hp r H' S'
      | .ret => aEnd P fn Hp r H' S'
      | _ => False) T) : ACall P f args Hp r H' := acall_on [] [] hm hf hb hnm hl h
end Go.Proofs.YtedokpgkjcnoiaaGreat
namespace Go.Proofs.YtedokpgkjcnoiaaGreat
open Go.RowKit
def rnA (σ δ : Nat → Nat) : AV → AV
 | .ptr o g i j => .ptr (σ o) (g + δ o) i j
 | .own o g => .own (σ o) (g + δ o)
 | .win o g a sz n => .win (σ o) (g + δ o) a sz n
 | a => a
def rnO (σ δ : Nat → Nat) (o : Nat) : Ob → Ob
 | .row ty sz g fz n f => .row ty sz (g + δ o) fz n f
 | .box ty cs => .box ty (mapC (rnA σ δ) cs)
 | .mp ok L => .mp ok L
def rnH (σ δ : Nat → Nat) : OH → OH
 | [] => []
 | (o, b) :: r => (σ o, rnO σ δ o b) :: rnH σ δ r
section
variable {σ τ δ : Nat → Nat} (hστ : ∀ x, τ (σ x) = x)
include hστ
theorem sig_inj {x y : Nat} (h : σ x = σ y) : x = y := by rw [← hστ x, h, hστ]
theorem look_rnH (o : Nat) : ∀ H : OH, look (rnH σ δ H) (σ o) = (look H o).map (rnO σ δ o)
 | [] => rfl
 | (k, b) :: r => by
  simp only [rnH, look]
  split
  ·rename_i h
   have := sig_inj hστ ((beq_nat_iff _ _).1 h)
   subst this
   rw [Nat.beq_refl]; rfl
  ·rename_i h
   have hne : k ≠ o := fun e => by subst e; exact (beq_nat_false _ _).1 h rfl
   rw [(beq_nat_false _ _).2 hne]
   exact look_rnH o r
end
theorem look_rnH_inv {σ δ : Nat → Nat} {x : Nat} {ob : Ob} : ∀ {H : OH}, look (rnH σ δ H) x = some ob → ∃ o b, x = σ o ∧ look H o = some b ∧ rnO σ δ o b = ob
 | [], h => by cases h
 | (k, b) :: r, h => by
  simp only [rnH, look] at h
  split at h
  ·rename_i e
   obtain rfl := Option.some.inj h
   exact ⟨k, b, ((beq_nat_iff _ _).1 e).symm, by simp only [look, Nat.beq_refl], rfl⟩
  ·rename_i e
   obtain ⟨o, b', rfl, q2, q3⟩ := look_rnH_inv h
   refine ⟨o, b', rfl, ?_, q3⟩
   have hne : k ≠ o := fun z => by subst z; exact (beq_nat_false _ _).1 e rfl
   simp only [look, (beq_nat_false _ _).2 hne]
   exact q2
structure RnC (σ δ : Nat → Nat) (C D : Cx) : Prop where
 E : D.E = C.E
 W : D.W = C.W
 H : D.H = rnH σ δ C.H
 v : ∀ x, D.vl (σ x) = C.vl x
 b : ∀ o ty cs, look C.H o = some (.box ty cs) → δ o = 0
 m : ∀ o ok L, look C.H o = some (.mp ok L) → δ o = 0
section
variable {σ τ δ : Nat → Nat} {C D : Cx}
theorem rnO_free (o : Nat) (b : Ob) : (rnO σ δ o b).free = b.free := by cases b <;> rfl
theorem rnO_sz (o : Nat) (b : Ob) : (rnO σ δ o b).sz = b.sz := by cases b <;> simp [rnO, Ob.sz, mapC_len]
theorem RnC.gen (R : RnC σ δ C D) {o : Nat} {b : Ob} (h : look C.H o = some b) : (rnO σ δ o b).gen = b.gen + δ o := by
 cases b with
 | row => rfl
 | box ty cs => show 0 = 0 + δ o; rw [R.b o ty cs h]
 | mp ok L => show 0 = 0 + δ o; rw [R.m o ok L h]
variable (hστ : ∀ x, τ (σ x) = x)
include hστ
theorem RnC.look (R : RnC σ δ C D) {o : Nat} {b : Ob} (h : look C.H o = some b) : look D.H (σ o) = some (rnO σ δ o b) := by rw [R.H, look_rnH hστ, h]; rfl
theorem RnC.look' (R : RnC σ δ C D) {x : Nat} {ob : Ob} (h : Go.Proofs.YtedokpgkjcnoiaaGreat.look D.H x = some ob) : ∃ o b, x = σ o ∧ Go.Proofs.YtedokpgkjcnoiaaGreat.look C.H o = some b ∧ rnO σ δ o b = ob := by have _ := hστ 0; rw [R.H] at h; exact look_rnH_inv h
theorem RnC.N (R : RnC σ δ C D) : D.N = C.N := by
 funext b
 apply propext
 constructor
 ·rintro ⟨h1, h2, h3⟩
  refine ⟨by rw [R.E] at h1; exact h1, by rw [R.W] at h2; exact h2, fun o ob ho hf => ?_⟩
  rw [← R.v]
  exact h3 (σ o) _ (R.look hστ ho) (by rw [rnO_free]; exact hf)
 ·rintro ⟨h1, h2, h3⟩
  refine ⟨by rw [R.E]; exact h1, by rw [R.W]; exact h2, fun x ob ho hf => ?_⟩
  obtain ⟨o, b0, rfl, q1, rfl⟩ := R.look' hστ ho
  rw [R.v]
  exact h3 o b0 q1 (by rw [rnO_free] at hf; exact hf)
theorem RnC.rb (R : RnC σ δ C D) (a : AV) (v : Value) : Rb C a v ↔ Rb D (rnA σ δ a) v := by
 have hN := R.N hστ
 cases a with
 | any => exact Iff.rfl
 | d x => show RD C.W C.N x v ↔ RD D.W D.N x v; rw [hN, R.W]
 | dp cs => simp only [rnA, Rb, hN, R.W]
 | ptr o g i j =>
  constructor
  ·rintro ⟨ob, h1, h2, h3⟩
   refine ⟨_, R.look hστ h1, by rw [R.gen h1]; omega, fun e => ?_⟩
   rw [R.gen h1] at e
   obtain ⟨b, n, c, e1, e2⟩ := h3 (by omega)
   exact ⟨b, n, c, by rw [R.v]; exact e1, by rw [rnO_sz]; exact e2⟩
  ·rintro ⟨ob, h1, h2, h3⟩
   obtain ⟨o', b0, q0, q1, rfl⟩ := R.look' hστ h1
   obtain rfl := sig_inj hστ q0
   rw [R.gen q1] at h2 h3
   refine ⟨b0, q1, by omega, fun e => ?_⟩
   obtain ⟨b, n, c, e1, e2⟩ := h3 (by omega)
   exact ⟨b, n, c, by rw [R.v] at e1; exact e1, by rw [rnO_sz] at e2; exact e2⟩
 | own o g =>
  constructor
  ·rintro ⟨ob, h1, h2, h3⟩
   refine ⟨_, R.look hστ h1, by rw [R.gen h1]; omega, fun e => ?_⟩
   rw [R.gen h1] at e
   rw [R.v, rnO_sz]; exact h3 (by omega)
  ·rintro ⟨ob, h1, h2, h3⟩
   obtain ⟨o', b0, q0, q1, rfl⟩ := R.look' hστ h1
   obtain rfl := sig_inj hστ q0
   rw [R.gen q1] at h2 h3
   exact ⟨b0, q1, by omega, fun e => by rw [R.v, rnO_sz] at h3; exact h3 (by omega)⟩
 | win o g x s n =>
  constructor
  ·rintro ⟨ob, h1, h2, h3⟩
   refine ⟨_, R.look hστ h1, by rw [R.gen h1]; omega, fun e => ?_⟩
   rw [R.gen h1] at e
   rw [R.v]; exact h3 (by omega)
  ·rintro ⟨ob, h1, h2, h3⟩
   obtain ⟨o', b0, q0, q1, rfl⟩ := R.look' hστ h1
   obtain rfl := sig_inj hστ q0
   rw [R.gen q1] at h2 h3
   exact ⟨b0, q1, by omega, fun e => by rw [R.v] at h3; exact h3 (by omega)⟩
 | agg cs => exact Iff.rfl
 | fn f x y => exact Iff.rfl
 | tup cs => exact Iff.rfl
theorem RnC.rbs (R : RnC σ δ C D) (cs : List AV) (us : List Value) : Rbs C cs us ↔ Rbs D (mapC (rnA σ δ) cs) us := by
 unfold Rbs
 rw [mapC_len]
 refine and_congr Iff.rfl (forall_congr' fun j => ?_)
 constructor
 ·intro h hj; rw [mapC_get _ _ _ hj]; exact (R.rb hστ _ _).1 (h hj)
 ·intro h hj; have := h hj; rw [mapC_get _ _ _ hj] at this; exact (R.rb hστ _ _).2 this
theorem RnC.r1 (R : RnC σ δ C D) (a : AV) (v : Value) : R1 C a v ↔ R1 D (mapA1 (rnA σ δ) a) v := by
 cases a with
 | agg cs => simp only [R1, mapA1, R.rbs hστ]
 | fn f x y => simp only [R1, mapA1, R.rbs hστ]
 | any => exact R.rb hστ .any v
 | d x => exact R.rb hστ (.d x) v
 | dp x => exact R.rb hστ (.dp x) v
 | ptr o g i j => exact R.rb hστ (.ptr o g i j) v
 | own o g => exact R.rb hστ (.own o g) v
 | win o g x s n => exact R.rb hστ (.win o g x s n) v
 | tup cs => exact Iff.rfl
theorem RnC.rv (R : RnC σ δ C D) (a : AV) (v : Value) : Rv C a v ↔ Rv D (mapA (rnA σ δ) a) v := by
 cases a with
 | tup cs =>
  simp only [Rv, mapA, mapC_len]
  refine exists_congr fun us => and_congr Iff.rfl (and_congr Iff.rfl (forall_congr' fun j => ?_))
  constructor
  ·intro h hj; rw [mapC_get _ _ _ hj]; exact (R.r1 hστ _ _).1 (h hj)
  ·intro h hj; have := h hj; rw [mapC_get _ _ _ hj] at this; exact (R.r1 hστ _ _).2 this
 | agg cs => exact R.r1 hστ (.agg cs) v
 | fn f x y => exact R.r1 hστ (.fn f x y) v
 | any => exact R.r1 hστ .any v
 | d x => exact R.r1 hστ (.d x) v
 | dp x => exact R.r1 hστ (.dp x) v
 | ptr o g i j => exact R.r1 hστ (.ptr o g i j) v
 | own o g => exact R.r1 hστ (.own o g) v
 | win o g x s n => exact R.r1 hστ (.win o g x s n) v
theorem RnC.ok (R : RnC σ δ C D) (o : Nat) (b : Ob) : OK C o b ↔ OK D (σ o) (rnO σ δ o b) := by
 cases b with
 | row ty sz g fz n f => simp only [OK, rnO, R.v, R.W, R.N hστ]
 | box ty cs => simp only [OK, rnO, R.v, R.W, R.rbs hστ]
 | mp ok L => simp only [OK, rnO, R.v, R.W, R.N hστ]
theorem RnC.gam (R : RnC σ δ C D) : Gam C ↔ Gam D := by
 constructor
 ·intro G
  refine ⟨fun x b hx => ?_, fun x y b b' k hx hy hne hk => ?_, ?_, fun x b k hx hk => ?_⟩
  ·obtain ⟨o, b0, rfl, q1, rfl⟩ := R.look' hστ hx
   exact (R.ok hστ o b0).1 (G.ok o b0 q1)
  ·obtain ⟨o, b0, rfl, q1, rfl⟩ := R.look' hστ hx
   obtain ⟨p, b1, rfl, q2, rfl⟩ := R.look' hστ hy
   rw [R.v] at hk ⊢
   exact G.ap o p b0 b1 k q1 q2 (fun e => hne (by rw [e])) hk
  ·rw [R.E, R.W]; exact G.kp
  ·obtain ⟨o, b0, rfl, q1, rfl⟩ := R.look' hστ hx
   rw [R.v] at hk
   rw [R.E]; exact G.mu o b0 k q1 hk
 ·intro G
  refine ⟨fun o b ho => (R.ok hστ o b).2 (G.ok _ _ (R.look hστ ho)), fun o p b b' k ho hp hne hk => ?_, ?_, fun o b k ho hk => ?_⟩
  ·have := G.ap (σ o) (σ p) _ _ k (R.look hστ ho) (R.look hστ hp) (fun e => hne (sig_inj hστ e)) (by rw [R.v]; exact hk)
   rw [R.v] at this; exact this
  ·have := G.kp; rw [R.E, R.W] at this; exact this
  ·have := G.mu (σ o) _ k (R.look hστ ho) (by rw [R.v]; exact hk)
   rw [R.E] at this; exact this
end
/-- THE LAW -/
theorem ACall.ren {P : Program} {f : FuncId} {args : List AV} {Hp H' : OH} {r : AV} {σ τ δ : Nat → Nat} (h1 : ∀ x, τ (σ x) = x)
    (hb : ∀ o ob, look Hp o = some ob ∨ look H' o = some ob → ob.rowk = false → δ o = 0) (hc : ACall P f args Hp r H') :
    ACall P f (mapC (mapA (rnA σ δ)) args) (rnH σ δ Hp) (mapA (rnA σ δ) r) (rnH σ δ H') := by
  refine ⟨hc.1, fun A W vl vs G hl hv => ?_⟩
  have eS : (fun b => ∃ o ob, look (rnH σ δ Hp) o = some ob ∧ (vl o).ownBlock = some b) = (fun b => ∃ o ob, look Hp o = some ob ∧ (vl (σ o)).ownBlock = some b) := by
    funext b
    apply propext
    constructor
    · rintro ⟨x, ob, q1, q2⟩
      obtain ⟨o, b0, rfl, q3, _⟩ := look_rnH_inv q1
      exact ⟨o, b0, q3, q2⟩
    · rintro ⟨o, b0, q1, q2⟩
      exact ⟨σ o, _, by rw [look_rnH h1, q1]; rfl, q2⟩
  rw [eS] at G hv ⊢
  have R : RnC σ δ ⟨⟨A, fun b => ∃ o ob, look Hp o = some ob ∧ (vl (σ o)).ownBlock = some b, W⟩, W, Hp, fun x => vl (σ x)⟩ ⟨⟨A, fun b => ∃ o ob, look Hp o = some ob ∧ (vl (σ o)).ownBlock = some b, W⟩, W, rnH σ δ Hp, vl⟩ :=
    ⟨rfl, rfl, rfl, fun _ => rfl, fun o ty cs h => hb o _ (.inl h) rfl, fun o ok L h => hb o _ (.inl h) rfl⟩
  refine (hc.2 A W (fun x => vl (σ x)) vs ((R.gam h1).2 G) (by rw [mapC_len] at hl; exact hl) fun j hj => ?_).mono ?_
  · have := hv j (by rw [mapC_len]; exact hj)
    rw [mapC_get _ _ _ hj] at this
    exact (R.rv h1 _ _).2 this
  · rintro e W' ⟨v, C', rfl, rfl, hH, hE, hF, hG, hr⟩
    have R' : RnC σ δ C' ⟨C'.E, C'.W, rnH σ δ H', fun x => C'.vl (τ x)⟩ := ⟨rfl, rfl, by rw [hH], fun x => by show C'.vl (τ (σ x)) = _; rw [h1], fun o ty cs h => hb o _ (.inr (by rw [← hH]; exact h)) rfl, fun o ok L h => hb o _ (.inr (by rw [← hH]; exact h)) rfl⟩
    refine ⟨v, ⟨C'.E, C'.W, rnH σ δ H', fun x => C'.vl (τ x)⟩, rfl, rfl, rfl, hE, ⟨fun b hb => ?_, fun x ob hx => ?_⟩, (R'.gam h1).1 hG, (R'.rv h1 _ _).1 hr⟩
    · rw [R.N h1] at hb
      rw [R'.N h1]
      exact hF.n b hb
    · obtain ⟨o, b0, rfl, q1, rfl⟩ := R.look' h1 hx
      obtain ⟨b1, q2, q3⟩ := hF.h o b0 q1
      refine ⟨_, R'.look h1 q2, ?_⟩
      rw [R.gen q1, R'.gen q2, rnO_sz, rnO_sz]
      rcases q3 with ⟨a1, a2, a3⟩ | q3
      · exact .inl ⟨by rw [a1], a2, by show C'.vl (τ (σ o)) = _; rw [h1]; exact a3⟩
      · exact .inr (by omega)
/-! ### Renamings -/
def swp (a b x : Nat) : Nat := if x = a then b else if x = b then a else x
theorem swp_swp (a b x : Nat) : swp a b (swp a b x) = x := by unfold swp; grind
theorem swp_out {a b x : Nat} (h1 : x ≠ a) (h2 : x ≠ b) : swp a b x = x := by simp only [swp]; rw [if_neg h1, if_neg h2]
theorem names1 (a b : Nat) : ∃ σ τ : Nat → Nat, (∀ x, τ (σ x) = x) ∧ σ a = b := ⟨swp a b, swp a b, swp_swp a b, by simp [swp]⟩
theorem names2 {a1 a2 b1 b2 : Nat} (ha : a1 ≠ a2) (hb : b1 ≠ b2) : ∃ σ τ : Nat → Nat, (∀ x, τ (σ x) = x) ∧ σ a1 = b1 ∧ σ a2 = b2 := by
 obtain ⟨σ, τ, h, e⟩ := names1 a1 b1
 have hn : σ a2 ≠ b1 := fun q => ha (sig_inj h (e.trans q.symm))
 exact ⟨fun x => swp (σ a2) b2 (σ x), fun x => τ (swp (σ a2) b2 x), fun x => by show τ (swp _ _ (swp _ _ (σ x))) = x; rw [swp_swp, h], by show swp _ _ (σ a1) = b1; rw [e]; exact swp_out (Ne.symm hn) hb, by simp [swp]⟩
end Go.Proofs.YtedokpgkjcnoiaaGreat
namespace Go.Proofs.YtedokpgkjcnoiaaGreat
structure KidD where
 sum : List Nat
 lo : List Int
 hi : List Int
 live : Int
 size : Int
 key : List Int
deriving Inhabited, DecidableEq
structure TableD where
 name : ByteArray
 cols : List ByteArray
 kd : KidD
 zb : KidD
deriving Inhabited
structure EntD where
 row : List Int
 live : Bool
deriving Inhabited, DecidableEq
structure NodeD where
 kind : Nat
 rows : List EntD
 kids : List KidD
deriving Inhabited, DecidableEq
end Go.Proofs.YtedokpgkjcnoiaaGreat
namespace Go.Proofs.YtedokpgkjcnoiaaGreat.Pl
def IsB (l : List Nat) : Prop := ∀ i, l.getD i 0 < 256
def IsI (l : List Int) : Prop := ∀ i, -9223372036854775808 ≤ l.getD i 0 ∧ l.getD i 0 ≤ 9223372036854775807
end Go.Proofs.YtedokpgkjcnoiaaGreat.Pl
