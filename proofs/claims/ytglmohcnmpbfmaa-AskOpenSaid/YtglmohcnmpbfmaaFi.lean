/-
  An operation, seen from afar: which one it is, that it does what is said, and what it hangs on. No program in sight.
-/
import Derived.Test.YtglmohcnmpbfmaaFx
set_option linter.unusedVariables false
set_option linter.unusedSimpArgs false
namespace Go.Proofs.Ytglmohcnmpbfmaa
open Go.RowKit
def ev (t : List AV) : Operand → AV
  | .tmp i => nth t i
  | .const v => .d (.v v)
  | .global g => .d (.v (.pointer (some ⟨g, 0, none⟩)))
  | .func f => .d (.v (.func (.func f) #[] #[]))
def evP (e : Operand → AV) : List (Nat × Operand) → List (Nat × AV)
  | [] => []
  | (i, x) :: r => (i, e x) :: evP e r
def evL (e : Operand → AV) : List Operand → List AV
  | [] => []
  | x :: r => e x :: evL e r
def evO (e : Operand → AV) : Option Operand → Option AV
  | none => none
  | some x => some (e x)
def isBase (H : OH) : AV → Bool
  | .d _ => true
  | .dp _ => true
  | .ptr o g _ _ => curG H o g
  | .own o g => curG H o g
  | _ => false
def isWin : AV → Bool
  | .win _ _ _ _ _ => true
  | _ => false
def isOwn : AV → Bool
  | .own _ _ => true
  | .ptr _ _ _ _ => true
  | _ => false
def aNilC (H : OH) (x : AV) : Option Rs := match x with
  | .ptr o g i j => match curG H o g with
    | true => ret (.ptr o g i j)
    | false => none
  | .dp cs => ret (.dp cs)
  | _ => none
def aEff (P : Program) (H : OH) (e : Operand → AV) (mu : Bool) (o : Nat) : Op → Option Rs
  | .move x => ret (e x)
  | .assign x => ret (e x)
  | .pick c x y => aPick (e c) (e x) (e y)
  | .alloc T => aAlloc P H o T
  | .box T x => aBox H mu o T (e x)
  | .build T ps => aBuild P H T (evP e ps.toList)
  | .buildSlice T n ps => aBuildSlice P H mu o T n (evP e ps.toList)
  | .load T x => aLoad P H T (e x)
  | .store T x y => aStore P H T (e x) (e y)
  | .nilCheck x => aNilC H (e x)
  | .binOp op T x y _ => match e x with
    | .own q g => aBinO P H op T q g (e y)
    | a => aBin P op T a (e y)
  | .unOp op _ x => aUn op (e x)
  | .convert S T x => aConv P H S T (e x)
  | .makeFunc fn first caps => match (evL e first.toList).all (isBase H), (evL e caps.toList).all (isBase H) with
    | true, true => ret (.fn fn (evL e first.toList) (evL e caps.toList))
    | _, _ => none
  | .makeSlice T x y => aMake P H o T (e x) (e y)
  | .slice T x lo hi none => match isOwn (e x) with
    | true => aSliceO P H T (e x) (evO e lo) (evO e hi)
    | false => aSlice P T (e x) (evO e lo) (evO e hi)
  | .fieldAddr T x k => aFieldAddr P H T (e x) k
  | .field T x k => match isAgg? (e x) with
    | true => aField P T (e x) k
    | false => none
  | .indexAddr T x y => match isWin (e x) with
    | true => aIndexW P H T (e x) (e y)
    | false => aIndexAddr P H T (e x) (e y)
  | .index T x y => aIndexS P T (e x) (e y)
  | .extract x k => aExtract (e x) k
  | .call c => match c.callee, c.args.toList, c.argTypes.toList with
    | .builtin .len, [x], [T] => aLen P H T (e x)
    | .builtin .min, [x, y], _ => aMin (e x) (e y)
    | .builtin .max, [x, y], _ => aMax (e x) (e y)
    | .builtin .append, [x, y], [T, T'] => match Nat.beq T T' with
      | true => aAppend P H o T (e x) (e y)
      | false => none
    | .builtin .copy, [x, y], [T, T'] => aCopy P H T (e x) (e y)
    | _, _, _ => none
  | _ => none
section
variable {P : Program} {C : Cx}
theorem parts_of {e : Operand → AV} {ρ : Operand → Value} (h : ∀ x, Rv C (e x) (ρ x)) : ∀ l : List (Nat × Operand), Parts C (evP e l) (l.map fun (i, x) => (i, ρ x))
  | [] => .nil
  | (i, x) :: r => .cons i _ _ _ _ (h x) (parts_of h r)
theorem optR_of {e : Operand → AV} {ρ : Operand → Value} (h : ∀ x, Rv C (e x) (ρ x)) : ∀ o : Option Operand, OptR C (evO e o) (o.map ρ)
  | none => .none
  | some x => .some _ _ (h x)
theorem base_rb (G : Gam C) {a : AV} {v : Value} (h : Rv C a v) (hb : isBase C.H a = true) : Rb C a v := by
  cases a <;> first | exact h | cases hb
theorem rbs_of {e : Operand → AV} {ρ : Operand → Value} (G : Gam C) (h : ∀ x, Rv C (e x) (ρ x)) : ∀ l : List Operand, (evL e l).all (isBase C.H) = true → Rbs C (evL e l) (l.map ρ)
  | [], _ => ⟨rfl, fun j hj => by cases hj⟩
  | x :: r, hb => by
    simp only [evL, List.all_cons, Bool.and_eq_true] at hb
    have ih := rbs_of G h r hb.2
    refine ⟨by simp [evL, ih.1], fun j hj => ?_⟩
    cases j with
    | zero => exact base_rb G (h x) hb.1
    | succ j => simpa [evL] using ih.2 j (by simpa [evL] using hj)
theorem run_builtin {W : World} {ρ : Operand → Value} {c : Call} {ty : TypeId} {b : Builtin} (h : c.callee = .builtin b) :
    (do let d ← resolve ρ c ty; invoke d.target d.args).run P W = (builtin b c.argTypes ty (c.args.map fun | .const _ => true | _ => false) (c.args.map ρ)).run P W := by
  simp only [resolve, h, Sem.run_bind, Sem.run_pure, Result.andThen_ok, invoke]
  rfl
theorem does_congr {m m' : Sem Next} {r : Eff} (h : m.run P C.W = m'.run P C.W) (k : Does P C m' r) : Does P C m r := by
  obtain ⟨v, C', h1, h2⟩ := k
  exact ⟨v, C', by rw [h]; exact h1, h2⟩
theorem arr_of_list {α : Type} {a : Array α} {l : List α} (h : a.toList = l) : a = l.toArray := by rw [← h]
theorem aEff_ok (G : Gam C) {e : Operand → AV} {ρ : Operand → Value} {mu : Bool} {o : Nat} {op : Oper} {r : Rs} (he : ∀ x, Rv C (e x) (ρ x)) (h : aEff P C.H e mu o op.op = some r) (hl : allP r.obl) :
    Does P C (execOp ρ op) r.eff := by
  unfold execOp
  generalize op.op = q at h
  cases q <;> simp only [aEff] at h <;> try (cases h; done)
  case move x => obtain rfl := Option.some.inj h; exact does_val G rfl (he x)
  case assign x => obtain rfl := Option.some.inj h; exact does_val G rfl (he x)
  case pick c x y => exact aPick_ok G (he c) (he x) (he y) h
  case alloc T => exact aAlloc_ok G h
  case box T x => exact aBox_ok G (he x) h
  case build T ps => exact aBuild_ok G (by simpa using parts_of he ps.toList) h
  case buildSlice T n ps => exact aBuildSlice_ok G (by simpa using parts_of he ps.toList) h
  case load T x => exact aLoad_ok G (he x) h hl
  case store T x y => exact aStore_ok G (he x) (he y) h hl
  case nilCheck x =>
    have hx := he x
    generalize e x = a at h hx
    cases a <;> simp only [aNilC] at h <;> try (cases h; done)
    case ptr o g i j =>
      split at h
      · rename_i hc
        obtain rfl := Option.some.inj h
        have hx' := hx
        obtain ⟨ob, b, n, c, _, _, _, hv⟩ := ptr_cur hx hc
        exact does_val G (v := ρ x) (by simp [hv]) hx'
      · cases h
    case dp cs =>
      obtain rfl := Option.some.inj h
      have hx' := hx
      obtain ⟨b, off, u, hv, _⟩ := hx
      exact does_val G (v := ρ x) (by simp [hv]) hx'
  case binOp op T x y _ =>
    have hx := he x
    split at h
    · rename_i q g hq
      rw [hq] at hx
      exact aBinO_ok G hx (he y) h hl
    · exact aBin_ok G hx (he y) h hl
  case unOp op _ x => exact aUn_ok G (he x) h hl
  case convert S T x => exact aConv_ok G (he x) h hl
  case makeFunc fn first caps =>
    split at h
    · rename_i h1 h2
      obtain rfl := Option.some.inj h
      refine does_val G (v := .func fn (first.map ρ) (caps.map ρ)) rfl ⟨first.toList.map ρ, caps.toList.map ρ, ?_, rbs_of G he _ h1, rbs_of G he _ h2⟩
      congr 1 <;> (apply Array.toList_inj.1; simp)
    · cases h
  case makeSlice T x y => exact aMake_ok G (he x) (he y) h hl
  case slice T x lo hi mx =>
    cases mx with
    | none =>
      simp only [] at h
      split at h
      · exact aSliceO_ok G (he x) (optR_of he lo) (optR_of he hi) h hl
      · exact aSlice_ok G (he x) (optR_of he lo) (optR_of he hi) h hl
    | some _ => cases h
  case fieldAddr T x k => exact aFieldAddr_ok G (he x) h
  case field T x k =>
    split at h
    · exact aField_ok G (he x) ‹_› h
    · cases h
  case indexAddr T x y =>
    split at h
    · exact aIndexW_ok G (he x) (he y) h hl
    · exact aIndexAddr_ok G (he x) (he y) h hl
  case index T x y => exact aIndexS_ok G (he x) (he y) h hl
  case extract x k => exact aExtract_ok G (he x) h
  case call c =>
    split at h
    · rename_i x T hc ha ht
      refine does_congr (m' := do pure (.value (← Builtin.len_ #[T] op.type #[ρ x]))) ((run_builtin hc).trans ?_) (aLen_ok G (he x) h)
      rw [arr_of_list ha, arr_of_list ht]
      simp [builtin]
    · rename_i x y hc ha
      refine does_congr (m' := do pure (.value (← Builtin.min_ c.argTypes op.type #[ρ x, ρ y]))) ((run_builtin hc).trans ?_) (aMin_ok G (he x) (he y) h)
      rw [arr_of_list ha]
      simp [builtin]
    · rename_i x y hc ha
      refine does_congr (m' := do pure (.value (← Builtin.max_ c.argTypes op.type #[ρ x, ρ y]))) ((run_builtin hc).trans ?_) (aMax_ok G (he x) (he y) h)
      rw [arr_of_list ha]
      simp [builtin]
    · rename_i x y T T' hc ha ht
      split at h
      · rename_i hT
        obtain rfl := (beq_nat_iff _ _).1 hT
        refine does_congr (m' := do pure (.value (← Builtin.append_ #[T, T] op.type #[ρ x, ρ y]))) ((run_builtin hc).trans ?_) (aAppend_ok G (he x) (he y) h hl)
        rw [arr_of_list ha, arr_of_list ht]
        simp [builtin]
      · cases h
    · rename_i x y T T' hc ha ht
      refine does_congr (m' := do pure (.value (← Builtin.copy_ #[T, T'] op.type #[ρ x, ρ y]))) ((run_builtin hc).trans ?_) (aCopy_ok G (he x) (he y) h hl)
      rw [arr_of_list ha, arr_of_list ht]
      simp [builtin]
    · cases h
end
end Go.Proofs.Ytglmohcnmpbfmaa
