/- What an operation does, seen from afar, and that it does so: variables, fields, elements, loads and stores. No program in sight. -/
import Derived.Laws.OwnMore
import Derived.Great.BuildSlice
import Derived.Test.YtbidoddghdbaoaaY2
set_option linter.unusedVariables false
set_option linter.unusedSimpArgs false
namespace Go.Proofs.Ytbidoddghdbaoaa
open Go.RowKit
inductive Eff where
  | val (v : AV)
  | put (o : Nat) (b : Ob) (v : AV)
def Eff.H (H : OH) : Eff → OH | .val _ => H | .put o b _ => setH H o b
def Eff.av : Eff → AV | .val v => v | .put _ _ v => v
structure Rs where
  obl : List Prop
  eff : Eff
abbrev ret (v : AV) : Option Rs := some ⟨[], .val v⟩
def allP : List Prop → Prop
  | [] => True
  | p :: r => p ∧ allP r
/-- what an operation does, as its run says it -/
def Does (P : Program) (C : Cx) (m : Sem Next) (e : Eff) : Prop :=
  ∃ v C', (m.run P C.W = .ok (.value v) C'.W ∨ (m.run P C.W = .ok .skip C'.W ∧ v = undef)) ∧ Rv C' e.av v ∧ C'.H = e.H C.H ∧ C'.E = C.E ∧ Fr C C' ∧ Gam C'
section
variable {P : Program} {C : Cx}
theorem does_val {m : Sem Next} {v : Value} {a : AV} (G : Gam C) (hr : m.run P C.W = .ok (.value v) C.W) (h : Rv C a v) : Does P C m (.val a) := ⟨v, C, .inl hr, h, rfl, rfl, Fr.refl C, G⟩
def nth : List AV → Nat → AV
  | [], _ => .any
  | a :: _, 0 => a
  | _ :: r, n + 1 => nth r n
theorem nth_getD : ∀ (l : List AV) (n : Nat), nth l n = l.getD n .any
  | [], _ => rfl
  | _ :: _, 0 => rfl
  | _ :: r, n + 1 => by simp only [nth, List.getD_cons_succ]; exact nth_getD r n
/-- a new object -/
theorem does_new {m : Sem Next} (G : Gam C) {o : Nat} (ho : look C.H o = none) {cs : Array Value} {ty : TypeId} {n c : Nat} {b : Ob} {r : AV} {v : Value}
    (hr : m.run P C.W = .ok (.value v) (C.W.alloc (.cells cs ty)))
    (hb : ∀ C', Fr C C' → C'.W = C.W.alloc (.cells cs ty) → C'.vl o = .slice (some ⟨C.W.heap.size, 0, none⟩) n c → OK C' o b)
    (hv : ∀ C', look C'.H o = some b → C'.vl o = .slice (some ⟨C.W.heap.size, 0, none⟩) n c → Rv C' r v) : Does P C m (.put o b r) := by
  obtain ⟨hF, hG⟩ := G.turn (o := o) (b' := b) (W' := C.W.alloc (.cells cs ty)) (vo := .slice (some ⟨C.W.heap.size, 0, none⟩) n c) (by simp) rfl rfl rfl
    (fun k hk _ => Below.heap_alloc C.W _ k hk) (fun k hk => .inl (by simp [Value.ownBlock] at hk; omega)) (fun ob h => by rw [ho] at h; cases h)
    (fun hF => hb _ hF rfl (updV_same _ _ _))
  exact ⟨v, C.put o b (C.W.alloc (.cells cs ty)) (.slice (some ⟨C.W.heap.size, 0, none⟩) n c), .inl hr, hv _ (by rw [put_look, if_pos rfl]) (updV_same _ _ _), rfl, rfl, hF, hG⟩
/-- an object's cells turn -/
theorem box_new {C' : Cx} {o ty : Nat} {us : List Value} {cs : List AV} {W : World} (hF : Fr C C') (hW : C'.W = W.alloc (.cells us.toArray ty)) (hv : C'.vl o = .slice (some ⟨W.heap.size, 0, none⟩) 1 1) (r : Rbs C cs us) : OK C' o (.box ty cs) :=
  ⟨W.heap.size, us, hv, by rw [hW]; exact heap_alloc_new W _, r.fr hF⟩
theorem ptr_new {C' : Cx} {o : Nat} {b : Ob} {W : World} {n c : Nat} (hb : look C'.H o = some b) (hv : C'.vl o = .slice (some ⟨W.heap.size, 0, none⟩) n c) (hg : b.gen = 0) : Rv C' (.ptr o 0 0 0) (.pointer (some ⟨W.heap.size, 0, none⟩)) := by
  refine ⟨b, hb, Nat.zero_le _, fun _ => ⟨W.heap.size, n, c, hv, ?_⟩⟩
  simp

/-! ### Variables -/
def aAlloc (P : Program) (H : OH) (o : Nat) (T : TypeId) : Option Rs :=
  match look H o, P.info? T with
  | none, some i => match i.zero with
    | some z => some ⟨[], .put o (.box T (z.cells.toList.map fun x => .d (.v x))) (.ptr o 0 0 0)⟩
    | none => none
  | _, _ => none
theorem rbs_exact (C : Cx) (us : List Value) : Rbs C (us.map fun x => AV.d (.v x)) us := by
  refine ⟨by simp, fun j hj => ?_⟩
  simp only [List.length_map] at hj
  rw [show (us.map fun x => AV.d (.v x)).getD j .any = .d (.v us[j]) by rw [List.getD_eq_getElem?_getD, List.getElem?_map, List.getElem?_eq_getElem hj]; rfl,
    show us.getD j undef = us[j] by simp [List.getD, List.getElem?_eq_getElem hj]]
  exact .v _
theorem aAlloc_ok (G : Gam C) {o : Nat} {T : TypeId} {r : Rs} (h : aAlloc P C.H o T = some r) : Does P C (do pure (.value (← Instr.alloc T true (.tuple #[])))) r.eff := by
  unfold aAlloc at h
  split at h
  · rename_i i ho hi
    split at h
    · rename_i z hz
      obtain rfl := Option.some.inj h
      refine does_new G ho (cs := z.cells) (ty := T) (n := 1) (c := 1) (v := .pointer (some ⟨C.W.heap.size, 0, none⟩)) ?_ (fun C' hF hW hv => ?_) (fun C' hb hv => ptr_new hb hv rfl)
      · simp [Instr.alloc, zeroValue, typeInfo, hi, hz, newVar, newRow]
      · exact box_new hF (us := z.cells.toList) (by simpa using hW) hv (rbs_exact C _)
    · cases h
  · cases h
/-- cells for good -/
def toDs (H : OH) : List AV → Option (List DV)
  | [] => some []
  | a :: r => match toD H a, toDs H r with
    | some x, some l => some (x :: l)
    | _, _ => none
theorem toDs_spec (G : Gam C) : ∀ {cs : List AV} {us : List Value} {l : List DV}, Rbs C cs us → toDs C.H cs = some l → l.length = cs.length ∧ ∀ j, j < l.length → RD C.W C.N (l.getD j default) (us.getD j undef)
  | [], us, l, r, h => by simp only [toDs, Option.some.injEq] at h; subst h; exact ⟨rfl, fun j hj => by cases hj⟩
  | a :: cs, us, l, r, h => by
    simp only [toDs] at h
    split at h
    · rename_i x l' hx hl
      obtain rfl := Option.some.inj h
      cases us with
      | nil => have := r.1; simp at this
      | cons u us =>
        have r' : Rbs C cs us := ⟨by simpa using r.1, fun j hj => by simpa using r.2 (j + 1) (by simpa using hj)⟩
        obtain ⟨i1, i2⟩ := toDs_spec G r' hl
        refine ⟨by simp [i1], fun j hj => ?_⟩
        cases j with
        | zero => exact toD_spec G (by simpa using r.2 0 (by simp)) hx
        | succ j => simpa using i2 j (by simpa using hj)
    · cases h
/-- a variable of what came: for good, or to be turned -/
def aBox (H : OH) (mu : Bool) (o : Nat) (T : TypeId) (x : AV) : Option Rs :=
  match cellsA x with
  | some cs => match cs.all (okCell H) with
    | true => match mu with
      | true => match look H o with
        | none => some ⟨[], .put o (.box T cs) (.ptr o 0 0 0)⟩
        | some _ => none
      | false => match toDs H cs with
        | some ds => ret (.dp ds)
        | none => none
    | false => none
  | none => none
theorem aBox_ok (G : Gam C) {mu : Bool} {o : Nat} {T : TypeId} {x : AV} {v : Value} {r : Rs} (hx : Rv C x v) (h : aBox C.H mu o T x = some r) : Does P C (do pure (.value (← Instr.box T v))) r.eff := by
  unfold aBox at h
  split at h
  · rename_i cs hc
    split at h
    · rename_i hk
      obtain ⟨hs, h1⟩ := cellsA_spec G hx hc hk
      split at h
      · split at h
        · rename_i ho
          obtain rfl := Option.some.inj h
          refine does_new G ho (cs := v.cells) (ty := T) (n := 1) (c := 1) (v := .pointer (some ⟨C.W.heap.size, 0, none⟩)) ?_ (fun C' hF hW hv => ?_) (fun C' hb hv => ptr_new hb hv rfl)
          · simp [Instr.box, newVar, newRow]
          · exact box_new hF (us := v.cells.toList) (by simpa using hW) hv hs
        · cases h
      · split at h
        · rename_i ds hd
          obtain rfl := Option.some.inj h
          obtain ⟨d1, d2⟩ := toDs_spec G hs hd
          obtain ⟨hF, hG, hN⟩ := G.grow (W' := C.W.alloc (.cells v.cells T)) (by simp) (fun k hk => Below.heap_alloc C.W _ k hk) rfl rfl rfl
          refine ⟨.pointer (some ⟨C.W.heap.size, 0, none⟩), ⟨C.E, C.W.alloc (.cells v.cells T), C.H, C.vl⟩, .inl (by simp [Instr.box, newVar, newRow]), ?_, rfl, rfl, hF, hG⟩
          refine ⟨C.W.heap.size, 0, fun j => v.cells.toList.getD j undef, rfl, hN _ (Nat.le_refl _) (by simp), fun j hj => ⟨⟨?_, ?_⟩, (d2 j hj).fr hF⟩⟩
          · have hj' : j < v.cells.toList.length := by rw [← hs.1, ← d1]; exact hj
            show (C.W.alloc (.cells v.cells T)).cell? _ = _
            rw [Nat.zero_add, cell_of_row _ _ j v.cells T (0, 0) (heap_alloc_new C.W _)]
            simp only [Array.length_toList] at hj'
            simp [List.getD_eq_getElem?_getD, hj']
          · have hj' : j < v.cells.toList.length := by rw [← hs.1, ← d1]; exact hj
            exact h1 _ (by show v.cells.toList.getD j undef ∈ _; rw [List.getD_eq_getElem?_getD, List.getElem?_eq_getElem hj']; exact List.getElem_mem _)
        · cases h
    · cases h
  · cases h

/-! ### Types -/
def isRowT (P : Program) (T : TypeId) : Bool := match P.underlying T with
  | some (.struct _) => true
  | some (.array _ _) => true
  | _ => false
theorem run_isAgg_of {W : World} {T : TypeId} {d : TypeDesc} (h : P.underlying T = some d) : (isAgg T).run P W = .ok (isRowT P T) W := by
  unfold isAgg isRowT
  rw [Sem.run_bind, run_underlying h W, h]
  cases d <;> rfl

/-! ### Loads -/
/-- the cells behind an address -/
def atA (H : OH) : AV → Option (List Prop × List AV)
  | .dp cs => some ([], cs.map .d)
  | .ptr o g i j => match look H o with
    | some (.box _ cs) => match Nat.beq g 0, Nat.beq i 0 with
      | true, true => some ([], cs.drop j)
      | _, _ => none
    | some (.row _ _ g' _ n f) => match Nat.beq g g' with
      | true => some ([i < n], ((f i).drop j).map .d)
      | false => none
    | some (.mp _ _) => none
    | none => none
  | _ => none
/-- where it is, and that the cells are there -/
theorem atA_spec (G : Gam C) {a : AV} {v : Value} {l : List Prop} {cs : List AV} (h : Rv C a v) (ha : atA C.H a = some (l, cs)) (hl : allP l) :
    ∃ (b off : Nat) (u : Nat → Value), v = .pointer (some ⟨b, off, none⟩) ∧ ∀ j, j < cs.length → C.W.cell? ⟨b, off + j, none⟩ = some (u j) ∧ Rb C (cs.getD j .any) (u j) := by
  cases a with
  | dp ds =>
    obtain ⟨b, off, u, rfl, hb, hc⟩ := h
    simp only [atA, Option.some.injEq, Prod.mk.injEq] at ha
    obtain ⟨_, rfl⟩ := ha
    refine ⟨b, off, u, rfl, fun j hj => ?_⟩
    simp only [List.length_map] at hj
    refine ⟨(hc j hj).1.1, ?_⟩
    rw [show (ds.map AV.d).getD j .any = .d (ds.getD j default) by rw [List.getD_eq_getElem?_getD, List.getElem?_map, List.getD_eq_getElem?_getD, List.getElem?_eq_getElem hj]; rfl]
    exact (hc j hj).2
  | ptr o g i j0 =>
    obtain ⟨ob, h1, h2, h3⟩ := h
    cases ob with
    | mp ok L => simp only [atA, h1] at ha; cases ha
    | box ty ds =>
      simp only [atA, h1] at ha
      split at ha
      · rename_i hg hi
        simp only [Option.some.injEq, Prod.mk.injEq] at ha
        obtain ⟨_, rfl⟩ := ha
        obtain rfl := (beq_nat_iff _ _).1 hg
        obtain rfl := (beq_nat_iff _ _).1 hi
        obtain ⟨b, n, c, e1, rfl⟩ := h3 rfl
        obtain ⟨b', us, e2, hh, r⟩ := G.ok o _ h1
        rw [e1] at e2
        obtain rfl : b = b' := by injection e2 with q; injection q with q; injection q
        refine ⟨b, 0 * (Ob.sz (.box ty ds)).1 + j0, fun j => us.getD (j0 + j) undef, rfl, fun j hj => ?_⟩
        simp only [List.length_drop] at hj
        have hlt : j0 + j < ds.length := by omega
        have hlu : j0 + j < us.length := by rw [← r.1]; exact hlt
        refine ⟨?_, ?_⟩
        · rw [Nat.zero_mul, Nat.zero_add, cell_of_row C.W b _ us.toArray ty (0, 0) hh]
          simp [List.getD, List.getElem?_eq_getElem hlu]
        · rw [show (ds.drop j0).getD j .any = ds.getD (j0 + j) .any by simp [List.getD_eq_getElem?_getD, List.getElem?_drop]]
          exact r.2 _ hlt
      · cases ha
    | row ty sz g' fz n f =>
      simp only [atA, h1] at ha
      split at ha
      · rename_i hg
        simp only [Option.some.injEq, Prod.mk.injEq] at ha
        obtain ⟨rfl, rfl⟩ := ha
        obtain rfl := (beq_nat_iff _ _).1 hg
        have hin : i < n := hl.1
        obtain ⟨b, n', c, e1, rfl⟩ := h3 rfl
        obtain ⟨us, q1, q2, q4, q3⟩ := G.ok o _ h1
        rcases q1.2 with ⟨q, rfl⟩ | ⟨b', cap, cur, q, _, hh, hnc, _, hsz, ht⟩
        · omega
        rw [e1] at q
        obtain ⟨rfl, rfl, rfl⟩ : b = b' ∧ n' = n ∧ c = cap := by injection q with q r s; injection q with q; injection q; exact ⟨‹_›, r, s⟩
        refine ⟨b, i * (Ob.sz (.row ty sz g fz n' f)).1 + j0, fun j => us.getD (i * sz + (j0 + j)) undef, rfl, fun j hj => ?_⟩
        simp only [List.length_map, List.length_drop, q2 i hin] at hj
        have hlt : i * sz + (j0 + j) < n' * sz := by
          have : (i + 1) * sz ≤ n' * sz := Nat.mul_le_mul_right _ (by omega)
          rw [Nat.succ_mul] at this; omega
        have hu : us.length = n' * sz := q1.1
        refine ⟨?_, ?_⟩
        · rw [show i * (Ob.sz (.row ty sz g fz n' f)).1 + j0 + j = i * sz + (j0 + j) by show i * sz + j0 + j = _; omega, cell_of_row C.W b _ cur ty (0, 0) hh]
          have := congrArg (fun l => l[i * sz + (j0 + j)]?) ht
          simp only [List.getElem?_take, if_pos hlt] at this
          rw [show cur[i * sz + (j0 + j)]? = cur.toList[i * sz + (j0 + j)]? by simp, this, List.getElem?_eq_getElem (by omega)]
          simp [List.getD, List.getElem?_eq_getElem (show i * sz + (j0 + j) < us.length by omega)]
        · have r := q3 i (j0 + j) hin (by omega)
          rw [show (((f i).drop j0).map AV.d).getD j .any = .d ((f i).getD (j0 + j) default) by
            have hl' : j0 + j < (f i).length := by rw [q2 i hin]; omega
            simp [List.getD_eq_getElem?_getD, List.getElem?_drop, List.getElem?_map, List.getElem?_eq_getElem hl']]
          exact r
      · cases ha
  | any => cases ha
  | d x => cases ha
  | own o g => cases ha
  | agg x => cases ha
  | fn x y z => cases ha
  | tup x => cases ha
  | win a b c d e => cases ha
/-- a pointer to what lies for good -/
def nrm : AV → AV
  | .d (.p cs) => .dp cs
  | .d (.fn f cs) => .fn f [] (cs.map fun x => match x with
    | .p ds => .dp ds
    | y => .d y)
  | a => a
def aLoad (P : Program) (H : OH) (T : TypeId) (a : AV) : Option Rs :=
  match atA H a, P.info? T, P.underlying T with
  | some (l, cs), some i, some _ => match isRowT P T with
    | true => match Nat.ble i.size cs.length with
      | true => some ⟨l, .val (.agg (cs.take i.size))⟩
      | false => none
    | false => match cs with
      | c :: _ => some ⟨l, .val (nrm c)⟩
      | [] => none
  | _, _, _ => none
theorem rv_of_rb : ∀ {a : AV} {v : Value}, Rb C a v → Rv C a v
  | .any, _, _ => trivial
  | .d _, _, h => h
  | .dp _, _, h => h
  | .ptr _ _ _ _, _, h => h
  | .own _ _, _, h => h
  | .agg _, _, h => h.elim
  | .fn _ _ _, _, h => h.elim
  | .tup _, _, h => h.elim
  | .win _ _ _ _ _, _, h => h
theorem nrm_rv {a : AV} {v : Value} (h : Rb C a v) : Rv C (nrm a) v := by
  unfold nrm
  split
  · rename_i cs
    replace h : RD C.W C.N (.p cs) v := h
    cases h with
    | p cs b off u hb hu hr => exact ⟨b, off, u, rfl, hb, fun j hj => ⟨hu j hj, hr j hj⟩⟩
  · rename_i f cs
    replace h : RD C.W C.N (.fn f cs) v := h
    cases h with
    | fn f cs us hl hr =>
      refine ⟨[], us, rfl, ⟨rfl, fun j hj => by cases hj⟩, by simpa using hl, fun j hj => ?_⟩
      have hj' : j < cs.length := by simpa using hj
      have q := hr j hj'
      rw [List.getD_eq_getElem?_getD (l := List.map _ _), List.getElem?_map, List.getElem?_eq_getElem hj']
      rw [List.getD_eq_getElem?_getD (l := cs), List.getElem?_eq_getElem hj'] at q
      simp only [Option.map_some, Option.getD_some] at q ⊢
      generalize us.getD j undef = z at q ⊢
      split
      · rename_i ds e
        rw [e] at q
        cases q with
        | p ds b off u hb hu hr => exact ⟨b, off, u, rfl, hb, fun j hj => ⟨hu j hj, hr j hj⟩⟩
      · exact q
  · exact rv_of_rb h
theorem aLoad_run (G : Gam C) {T : TypeId} {a : AV} {v : Value} {r : Rs} (hx : Rv C a v) (h : aLoad P C.H T a = some r) (hl : allP r.obl) : ∃ ad u, v = .pointer (some ad) ∧ (loadVar T ad).run P C.W = .ok u C.W ∧ ∃ b, r.eff = .val b ∧ Rv C b u := by
  unfold aLoad at h
  split at h
  · rename_i l cs i d ha hi hu
    split at h
    · rename_i hrow
      split at h
      · rename_i hle
        obtain rfl := Option.some.inj h
        have hle' : i.size ≤ cs.length := Nat.le_of_ble_eq_true hle
        obtain ⟨b, off, u, rfl, hc⟩ := atA_spec G hx ha hl
        have hlen : ((List.range i.size).map u).length = i.size := by simp
        refine ⟨_, .agg ((List.range i.size).map u).toArray, rfl, ?_, _, rfl, _, rfl, by simp; omega, fun j hj => ?_⟩
        · exact run_loadVar_mid (P := P) C.W b off T ((List.range i.size).map u) d (fun j w hw => by
            rw [List.getElem?_map] at hw
            have hj : j < i.size := by
              rcases Nat.lt_or_ge j i.size with q | q
              · exact q
              · rw [List.getElem?_eq_none (by simpa using q)] at hw; cases hw
            rw [List.getElem?_range hj] at hw
            obtain rfl := Option.some.inj hw
            exact (hc j (by omega)).1) hu (by unfold isRowT at hrow; rw [hu] at hrow; cases d <;> first | rfl | cases hrow) (by rw [hi, hlen]; rfl)
        · simp only [List.length_take] at hj
          have hj' : j < i.size := by omega
          rw [show (cs.take i.size).getD j .any = cs.getD j .any by simp [List.getD_eq_getElem?_getD, List.getElem?_take, hj'],
            show ((List.range i.size).map u).getD j undef = u j by simp [List.getD_eq_getElem?_getD, List.getElem?_map, List.getElem?_range hj']]
          exact (hc j (by omega)).2
      · cases h
    · rename_i hrow
      split at h
      · rename_i c cs
        obtain rfl := Option.some.inj h
        obtain ⟨b, off, u, rfl, hc⟩ := atA_spec G hx ha hl
        obtain ⟨h0, h1⟩ := hc 0 (by simp)
        refine ⟨_, u 0, rfl, ?_, _, rfl, nrm_rv h1⟩
        rw [Nat.add_zero] at h0
        simp [loadVar, Sem.run_bind, run_isAgg_of (W := C.W) hu, hrow, run_load, h0]
      · cases h
  · cases h
theorem aLoad_ok (G : Gam C) {T : TypeId} {a : AV} {v : Value} {r : Rs} (hx : Rv C a v) (h : aLoad P C.H T a = some r) (hl : allP r.obl) : Does P C (do pure (.value (← Instr.loadAt T v))) r.eff := by
  obtain ⟨ad, u, rfl, h1, b, e, h2⟩ := aLoad_run G hx h hl
  rw [e]
  exact does_val G (v := u) (by simp only [Instr.loadAt, Instr.sureAddr, Sem.run_bind, Sem.run_pure, Result.andThen_ok, h1]) h2
end
end Go.Proofs.Ytbidoddghdbaoaa
