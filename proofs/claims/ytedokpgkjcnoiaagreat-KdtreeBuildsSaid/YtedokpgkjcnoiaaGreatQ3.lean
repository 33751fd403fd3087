/- What an operation does, seen from afar, and that it does so: variables, fields, elements, loads and stores. No program in sight. What an operation does, seen from afar, and that it does so: stores, places of fields and of elements, parts of a value. No program in sight. -/
import Derived.Laws.OwnMore
import Derived.Great.BuildSlice
import Derived.Test.YtedokpgkjcnoiaaGreatQ2
set_option linter.unusedVariables false
set_option linter.unusedSimpArgs false
namespace Go.Proofs.YtedokpgkjcnoiaaGreat
open Go.RowKit
inductive Eff where
 | val (v : AV)
 | put (o : Nat) (b : Ob) (v : AV)
def Eff.H (H : OH) : Eff → OH | .val _ => H | .put o b _ => setH H o b
def Eff.av : Eff → AV | .val v => v | .put _ _ v => v
structure Rs where
 obl : List Prop
 eff : Eff
abbrev ret (v : AV) : Option Rs := some ⟨[], .val v⟩
def allP : List Prop → Prop
 | [] => True
 | p :: r => p ∧ allP r
/-- what an operation does, as its run says it -/
def Does (P : Program) (C : Cx) (m : Sem Next) (e : Eff) : Prop :=
 ∃ v C', (m.run P C.W = .ok (.value v) C'.W ∨ (m.run P C.W = .ok .skip C'.W ∧ v = undef)) ∧ Rv C' e.av v ∧ C'.H = e.H C.H ∧ C'.E = C.E ∧ Fr C C' ∧ Gam C'
section
variable {P : Program} {C : Cx}
theorem does_val {m : Sem Next} {v : Value} {a : AV} (G : Gam C) (hr : m.run P C.W = .ok (.value v) C.W) (h : Rv C a v) : Does P C m (.val a) := ⟨v, C, .inl hr, h, rfl, rfl, Fr.refl C, G⟩
def nth : List AV → Nat → AV
 | [], _ => .any
 | a :: _, 0 => a
 | _ :: r, n + 1 => nth r n
theorem nth_getD : ∀ (l : List AV) (n : Nat), nth l n = l.getD n .any
 | [], _ => rfl
 | _ :: _, 0 => rfl
 | _ :: r, n + 1 => by simp only [nth, List.getD_cons_succ]; exact nth_getD r n
/-- a new object -/
theorem does_new {m : Sem Next} (G : Gam C) {o : Nat} (ho : look C.H o = none) {cs : Array Value} {ty : TypeId} {n c : Nat} {b : Ob} {r : AV} {v : Value}
    (hr : m.run P C.W = .ok (.value v) (C.W.alloc (.cells cs ty)))
    (hb : ∀ C', Fr C C' → C'.W = C.W.alloc (.cells cs ty) → C'.vl o = .slice (some ⟨C.W.heap.size, 0, none⟩) n c → OK C' o b)
    (hv : ∀ C', look C'.H o = some b → C'.vl o = .slice (some ⟨C.W.heap.size, 0, none⟩) n c → Rv C' r v) : Does P C m (.put o b r) := by
  obtain ⟨hF, hG⟩ := G.turn (o := o) (b' := b) (W' := C.W.alloc (.cells cs ty)) (vo := .slice (some ⟨C.W.heap.size, 0, none⟩) n c) (by simp) rfl rfl rfl
    (fun k hk _ => Below.heap_alloc C.W _ k hk) (fun k hk => .inl (by simp [Value.ownBlock] at hk; omega)) (fun ob h => by rw [ho] at h; cases h)
    (fun hF => hb _ hF rfl (updV_same _ _ _))
  exact ⟨v, C.put o b (C.W.alloc (.cells cs ty)) (.slice (some ⟨C.W.heap.size, 0, none⟩) n c), .inl hr, hv _ (by rw [put_look, if_pos rfl]) (updV_same _ _ _), rfl, rfl, hF, hG⟩
/-- an object's cells turn -/
theorem box_new {C' : Cx} {o ty : Nat} {us : List Value} {cs : List AV} {W : World} (hF : Fr C C') (hW : C'.W = W.alloc (.cells us.toArray ty)) (hv : C'.vl o = .slice (some ⟨W.heap.size, 0, none⟩) 1 1) (r : Rbs C cs us) : OK C' o (.box ty cs) :=
 ⟨W.heap.size, us, hv, by rw [hW]; exact heap_alloc_new W _, r.fr hF⟩
theorem ptr_new {C' : Cx} {o : Nat} {b : Ob} {W : World} {n c : Nat} (hb : look C'.H o = some b) (hv : C'.vl o = .slice (some ⟨W.heap.size, 0, none⟩) n c) (hg : b.gen = 0) : Rv C' (.ptr o 0 0 0) (.pointer (some ⟨W.heap.size, 0, none⟩)) := by
 refine ⟨b, hb, Nat.zero_le _, fun _ => ⟨W.heap.size, n, c, hv, ?_⟩⟩
 simp

/-! ### Variables -/
def aAlloc (P : Program) (H : OH) (o : Nat) (T : TypeId) : Option Rs :=
 match look H o, P.info? T with
 | none, some i => match i.zero with
  | some z => some ⟨[], .put o (.box T (z.cells.toList.map fun x => .d (.v x))) (.ptr o 0 0 0)⟩
  | none => none
 | _, _ => none
theorem rbs_exact (C : Cx) (us : List Value) : Rbs C (us.map fun x => AV.d (.v x)) us := by
 refine ⟨by simp, fun j hj => ?_⟩
 simp only [List.length_map] at hj
 rw [show (us.map fun x => AV.d (.v x)).getD j .any = .d (.v us[j]) by rw [List.getD_eq_getElem?_getD, List.getElem?_map, List.getElem?_eq_getElem hj]; rfl,
  show us.getD j undef = us[j] by simp [List.getD, List.getElem?_eq_getElem hj]]
 exact .v _
theorem aAlloc_ok (G : Gam C) {o : Nat} {T : TypeId} {r : Rs} (h : aAlloc P C.H o T = some r) : Does P C (do pure (.value (← Instr.alloc T true (.tuple #[])))) r.eff := by
 unfold aAlloc at h
 split at h
 ·rename_i i ho hi
  split at h
  ·rename_i z hz
   obtain rfl := Option.some.inj h
   refine does_new G ho (cs := z.cells) (ty := T) (n := 1) (c := 1) (v := .pointer (some ⟨C.W.heap.size, 0, none⟩)) ?_ (fun C' hF hW hv => ?_) (fun C' hb hv => ptr_new hb hv rfl)
   ·simp [Instr.alloc, zeroValue, typeInfo, hi, hz, newVar, newRow]
   ·exact box_new hF (us := z.cells.toList) (by simpa using hW) hv (rbs_exact C _)
  ·cases h
 ·cases h
/-- cells for good -/
def toDs (H : OH) : List AV → Option (List DV)
 | [] => some []
 | a :: r => match toD H a, toDs H r with
  | some x, some l => some (x :: l)
  | _, _ => none
theorem toDs_spec (G : Gam C) : ∀ {cs : List AV} {us : List Value} {l : List DV}, Rbs C cs us → toDs C.H cs = some l → l.length = cs.length ∧ ∀ j, j < l.length → RD C.W C.N (l.getD j default) (us.getD j undef)
 | [], us, l, r, h => by simp only [toDs, Option.some.injEq] at h; subst h; exact ⟨rfl, fun j hj => by cases hj⟩
 | a :: cs, us, l, r, h => by
  simp only [toDs] at h
  split at h
  ·rename_i x l' hx hl
   obtain rfl := Option.some.inj h
   cases us with
   | nil => have := r.1; simp at this
   | cons u us =>
    have r' : Rbs C cs us := ⟨by simpa using r.1, fun j hj => by simpa using r.2 (j + 1) (by simpa using hj)⟩
    obtain ⟨i1, i2⟩ := toDs_spec G r' hl
    refine ⟨by simp [i1], fun j hj => ?_⟩
    cases j with
    | zero => exact toD_spec G (by simpa using r.2 0 (by simp)) hx
    | succ j => simpa using i2 j (by simpa using hj)
  ·cases h
/-- a variable of what came: for good, or to be turned -/
def aBox (H : OH) (mu : Bool) (o : Nat) (T : TypeId) (x : AV) : Option Rs :=
 match cellsA x with
 | some cs => match cs.all (okCell H) with
  | true => match mu with
   | true => match look H o with
    | none => some ⟨[], .put o (.box T cs) (.ptr o 0 0 0)⟩
    | some _ => none
   | false => match toDs H cs with
    | some ds => ret (.dp ds)
    | none => none
  | false => none
 | none => none
theorem aBox_ok (G : Gam C) {mu : Bool} {o : Nat} {T : TypeId} {x : AV} {v : Value} {r : Rs} (hx : Rv C x v) (h : aBox C.H mu o T x = some r) : Does P C (do pure (.value (← Instr.box T v))) r.eff := by
 unfold aBox at h
 split at h
 ·rename_i cs hc
  split at h
  ·rename_i hk
   obtain ⟨hs, h1⟩ := cellsA_spec G hx hc hk
   split at h
   ·split at h
    ·rename_i ho
     obtain rfl := Option.some.inj h
     refine does_new G ho (cs := v.cells) (ty := T) (n := 1) (c := 1) (v := .pointer (some ⟨C.W.heap.size, 0, none⟩)) ?_ (fun C' hF hW hv => ?_) (fun C' hb hv => ptr_new hb hv rfl)
     ·simp [Instr.box, newVar, newRow]
     ·exact box_new hF (us := v.cells.toList) (by simpa using hW) hv hs
    ·cases h
   ·split at h
    ·rename_i ds hd
     obtain rfl := Option.some.inj h
     obtain ⟨d1, d2⟩ := toDs_spec G hs hd
     obtain ⟨hF, hG, hN⟩ := G.grow (W' := C.W.alloc (.cells v.cells T)) (by simp) (fun k hk => Below.heap_alloc C.W _ k hk) rfl rfl rfl
     refine ⟨.pointer (some ⟨C.W.heap.size, 0, none⟩), ⟨C.E, C.W.alloc (.cells v.cells T), C.H, C.vl⟩, .inl (by simp [Instr.box, newVar, newRow]), ?_, rfl, rfl, hF, hG⟩
     refine ⟨C.W.heap.size, 0, fun j => v.cells.toList.getD j undef, rfl, hN _ (Nat.le_refl _) (by simp), fun j hj => ⟨⟨?_, ?_⟩, (d2 j hj).fr hF⟩⟩
     ·have hj' : j < v.cells.toList.length := by rw [← hs.1, ← d1]; exact hj
      show (C.W.alloc (.cells v.cells T)).cell? _ = _
      rw [Nat.zero_add, cell_of_row _ _ j v.cells T (0, 0) (heap_alloc_new C.W _)]
      simp only [Array.length_toList] at hj'
      simp [List.getD_eq_getElem?_getD, hj']
     ·have hj' : j < v.cells.toList.length := by rw [← hs.1, ← d1]; exact hj
      exact h1 _ (by show v.cells.toList.getD j undef ∈ _; rw [List.getD_eq_getElem?_getD, List.getElem?_eq_getElem hj']; exact List.getElem_mem _)
    ·cases h
  ·cases h
 ·cases h

/-! ### Types -/
def isRowT (P : Program) (T : TypeId) : Bool := match P.underlying T with
 | some (.struct _) => true
 | some (.array _ _) => true
 | _ => false
theorem run_isAgg_of {W : World} {T : TypeId} {d : TypeDesc} (h : P.underlying T = some d) : (isAgg T).run P W = .ok (isRowT P T) W := by
 unfold isAgg isRowT
 rw [Sem.run_bind, run_underlying h W, h]
 cases d <;> rfl

/-! ### Loads -/
/-- the cells behind an address -/
def atA (H : OH) : AV → Option (List Prop × List AV)
 | .dp cs => some ([], cs.map .d)
 | .ptr o g i j => match look H o with
  | some (.box _ cs) => match Nat.beq g 0, Nat.beq i 0 with
   | true, true => some ([], cs.drop j)
   | _, _ => none
  | some (.row _ _ g' _ n f) => match Nat.beq g g' with
   | true => some ([i < n], ((f i).drop j).map .d)
   | false => none
  | some (.mp _ _) => none
  | none => none
 | _ => none
/-- where it is, and that the cells are there -/
theorem atA_spec (G : Gam C) {a : AV} {v : Value} {l : List Prop} {cs : List AV} (h : Rv C a v) (ha : atA C.H a = some (l, cs)) (hl : allP l) :
    ∃ (b off : Nat) (u : Nat → Value), v = .pointer (some ⟨b, off, none⟩) ∧ ∀ j, j < cs.length → C.W.cell? ⟨b, off + j, none⟩ = some (u j) ∧ Rb C (cs.getD j .any) (u j) := by
  cases a with
  | dp ds =>
    obtain ⟨b, off, u, rfl, hb, hc⟩ := h
    simp only [atA, Option.some.injEq, Prod.mk.injEq] at ha
    obtain ⟨_, rfl⟩ := ha
    refine ⟨b, off, u, rfl, fun j hj => ?_⟩
    simp only [List.length_map] at hj
    refine ⟨(hc j hj).1.1, ?_⟩
    rw [show (ds.map AV.d).getD j .any = .d (ds.getD j default) by rw [List.getD_eq_getElem?_getD, List.getElem?_map, List.getD_eq_getElem?_getD, List.getElem?_eq_getElem hj]; rfl]
    exact (hc j hj).2
  | ptr o g i j0 =>
    obtain ⟨ob, h1, h2, h3⟩ := h
    cases ob with
    | mp ok L => simp only [atA, h1] at ha; cases ha
    | box ty ds =>
      simp only [atA, h1] at ha
      split at ha
      · rename_i hg hi
        simp only [Option.some.injEq, Prod.mk.injEq] at ha
        obtain ⟨_, rfl⟩ := ha
        obtain rfl := (beq_nat_iff _ _).1 hg
        obtain rfl := (beq_nat_iff _ _).1 hi
        obtain ⟨b, n, c, e1, rfl⟩ := h3 rfl
        obtain ⟨b', us, e2, hh, r⟩ := G.ok o _ h1
        rw [e1] at e2
        obtain rfl : b = b' := by injection e2 with q; injection q with q; injection q
        refine ⟨b, 0 * (Ob.sz (.box ty ds)).1 + j0, fun j => us.getD (j0 + j) undef, rfl, fun j hj => ?_⟩
        simp only [List.length_drop] at hj
        have hlt : j0 + j < ds.length := by omega
        have hlu : j0 + j < us.length := by rw [← r.1]; exact hlt
        refine ⟨?_, ?_⟩
        · rw [Nat.zero_mul, Nat.zero_add, cell_of_row C.W b _ us.toArray ty (0, 0) hh]
          simp [List.getD, List.getElem?_eq_getElem hlu]
        · rw [show (ds.drop j0).getD j .any = ds.getD (j0 + j) .any by simp [List.getD_eq_getElem?_getD, List.getElem?_drop]]
          exact r.2 _ hlt
      · cases ha
    | row ty sz g' fz n f =>
      simp only [atA, h1] at ha
      split at ha
      · rename_i hg
        simp only [Option.some.injEq, Prod.mk.injEq] at ha
        obtain ⟨rfl, rfl⟩ := ha
        obtain rfl := (beq_nat_iff _ _).1 hg
        have hin : i < n := hl.1
        obtain ⟨b, n', c, e1, rfl⟩ := h3 rfl
        obtain ⟨us, q1, q2, q4, q3⟩ := G.ok o _ h1
        rcases q1.2 with ⟨q, rfl⟩ | ⟨b', cap, cur, q, _, hh, hnc, _, hsz, ht⟩
        · omega
        rw [e1] at q
        obtain ⟨rfl, rfl, rfl⟩ : b = b' ∧ n' = n ∧ c = cap := by injection q with q r s; injection q with q; injection q; exact ⟨‹_›, r, s⟩
        refine ⟨b, i * (Ob.sz (.row ty sz g fz n' f)).1 + j0, fun j => us.getD (i * sz + (j0 + j)) undef, rfl, fun j hj => ?_⟩
        simp only [List.length_map, List.length_drop, q2 i hin] at hj
        have hlt : i * sz + (j0 + j) < n' * sz := by
          have : (i + 1) * sz ≤ n' * sz := Nat.mul_le_mul_right _ (by omega)
          rw [Nat.succ_mul] at this; omega
        have hu : us.length = n' * sz := q1.1
        refine ⟨?_, ?_⟩
        · rw [show i * (Ob.sz (.row ty sz g fz n' f)).1 + j0 + j = i * sz + (j0 + j) by show i * sz + j0 + j = _; omega, cell_of_row C.W b _ cur ty (0, 0) hh]
          have := congrArg (fun l => l[i * sz + (j0 + j)]?) ht
          simp only [List.getElem?_take, if_pos hlt] at this
          rw [show cur[i * sz + (j0 + j)]? = cur.toList[i * sz + (j0 + j)]? by simp, this, List.getElem?_eq_getElem (by omega)]
          simp [List.getD, List.getElem?_eq_getElem (show i * sz + (j0 + j) < us.length by omega)]
        · have r := q3 i (j0 + j) hin (by omega)
          rw [show (((f i).drop j0).map AV.d).getD j .any = .d ((f i).getD (j0 + j) default) by
            have hl' : j0 + j < (f i).length := by rw [q2 i hin]; omega
            simp [List.getD_eq_getElem?_getD, List.getElem?_drop, List.getElem?_map, List.getElem?_eq_getElem hl']]
          exact r
      · cases ha
  | any => cases ha
  | d x => cases ha
  | own o g => cases ha
  | agg x => cases ha
  | fn x y z => cases ha
  | tup x => cases ha
  | win a b c d e => cases ha
/-- a pointer to what lies for good -/
def nrm : AV → AV
 | .d (.p cs) => .dp cs
 | .d (.fn f cs) => .fn f [] (cs.map fun x => match x with
  | .p ds => .dp ds
  | y => .d y)
 | a => a
def aLoad (P : Program) (H : OH) (T : TypeId) (a : AV) : Option Rs :=
 match atA H a, P.info? T, P.underlying T with
 | some (l, cs), some i, some _ => match isRowT P T with
  | true => match Nat.ble i.size cs.length with
   | true => some ⟨l, .val (.agg (cs.take i.size))⟩
   | false => none
  | false => match cs with
   | c :: _ => some ⟨l, .val (nrm c)⟩
   | [] => none
 | _, _, _ => none
theorem rv_of_rb : ∀ {a : AV} {v : Value}, Rb C a v → Rv C a v
 | .any, _, _ => trivial
 | .d _, _, h => h
 | .dp _, _, h => h
 | .ptr _ _ _ _, _, h => h
 | .own _ _, _, h => h
 | .agg _, _, h => h.elim
 | .fn _ _ _, _, h => h.elim
 | .tup _, _, h => h.elim
 | .win _ _ _ _ _, _, h => h
theorem nrm_rv {a : AV} {v : Value} (h : Rb C a v) : Rv C (nrm a) v := by
 unfold nrm
 split
 ·rename_i cs
  replace h : RD C.W C.N (.p cs) v := h
  cases h with
  | p cs b off u hb hu hr => exact ⟨b, off, u, rfl, hb, fun j hj => ⟨hu j hj, hr j hj⟩⟩
 ·rename_i f cs
  replace h : RD C.W C.N (.fn f cs) v := h
  cases h with
  | fn f cs us hl hr =>
   refine ⟨[], us, rfl, ⟨rfl, fun j hj => by cases hj⟩, by simpa using hl, fun j hj => ?_⟩
   have hj' : j < cs.length := by simpa using hj
   have q := hr j hj'
   rw [List.getD_eq_getElem?_getD (l := List.map _ _), List.getElem?_map, List.getElem?_eq_getElem hj']
   rw [List.getD_eq_getElem?_getD (l := cs), List.getElem?_eq_getElem hj'] at q
   simp only [Option.map_some, Option.getD_some] at q ⊢
   generalize us.getD j undef = z at q ⊢
   split
   ·rename_i ds e
    rw [e] at q
    cases q with
    | p ds b off u hb hu hr => exact ⟨b, off, u, rfl, hb, fun j hj => ⟨hu j hj, hr j hj⟩⟩
   ·exact q
 ·exact rv_of_rb h
theorem aLoad_run (G : Gam C) {T : TypeId} {a : AV} {v : Value} {r : Rs} (hx : Rv C a v) (h : aLoad P C.H T a = some r) (hl : allP r.obl) : ∃ ad u, v = .pointer (some ad) ∧ (loadVar T ad).run P C.W = .ok u C.W ∧ ∃ b, r.eff = .val b ∧ Rv C b u := by
  unfold aLoad at h
  split at h
  · rename_i l cs i d ha hi hu
    split at h
    · rename_i hrow
      split at h
      · rename_i hle
        obtain rfl := Option.some.inj h
        have hle' : i.size ≤ cs.length := Nat.le_of_ble_eq_true hle
        obtain ⟨b, off, u, rfl, hc⟩ := atA_spec G hx ha hl
        have hlen : ((List.range i.size).map u).length = i.size := by simp
        refine ⟨_, .agg ((List.range i.size).map u).toArray, rfl, ?_, _, rfl, _, rfl, by simp; omega, fun j hj => ?_⟩
        · exact run_loadVar_mid (P := P) C.W b off T ((List.range i.size).map u) d (fun j w hw => by
            rw [List.getElem?_map] at hw
            have hj : j < i.size := by
              rcases Nat.lt_or_ge j i.size with q | q
              · exact q
              · rw [List.getElem?_eq_none (by simpa using q)] at hw; cases hw
            rw [List.getElem?_range hj] at hw
            obtain rfl := Option.some.inj hw
            exact (hc j (by omega)).1) hu (by unfold isRowT at hrow; rw [hu] at hrow; cases d <;> first | rfl | cases hrow) (by rw [hi, hlen]; rfl)
        · simp only [List.length_take] at hj
          have hj' : j < i.size := by omega
          rw [show (cs.take i.size).getD j .any = cs.getD j .any by simp [List.getD_eq_getElem?_getD, List.getElem?_take, hj'],
            show ((List.range i.size).map u).getD j undef = u j by simp [List.getD_eq_getElem?_getD, List.getElem?_map, List.getElem?_range hj']]
          exact (hc j (by omega)).2
      · cases h
    · rename_i hrow
      split at h
      · rename_i c cs
        obtain rfl := Option.some.inj h
        obtain ⟨b, off, u, rfl, hc⟩ := atA_spec G hx ha hl
        obtain ⟨h0, h1⟩ := hc 0 (by simp)
        refine ⟨_, u 0, rfl, ?_, _, rfl, nrm_rv h1⟩
        rw [Nat.add_zero] at h0
        simp [loadVar, Sem.run_bind, run_isAgg_of (W := C.W) hu, hrow, run_load, h0]
      · cases h
  · cases h
theorem aLoad_ok (G : Gam C) {T : TypeId} {a : AV} {v : Value} {r : Rs} (hx : Rv C a v) (h : aLoad P C.H T a = some r) (hl : allP r.obl) : Does P C (do pure (.value (← Instr.loadAt T v))) r.eff := by
 obtain ⟨ad, u, rfl, h1, b, e, h2⟩ := aLoad_run G hx h hl
 rw [e]
 exact does_val G (v := u) (by simp only [Instr.loadAt, Instr.sureAddr, Sem.run_bind, Sem.run_pure, Result.andThen_ok, h1]) h2
end
end Go.Proofs.YtedokpgkjcnoiaaGreat
namespace Go.Proofs.YtedokpgkjcnoiaaGreat
open Go.RowKit
section
variable {P : Program} {C : Cx}
/-! ### Stores -/
/-- cs laid over l from place k on -/
def spl {α : Type} : List α → Nat → List α → List α
 | [], _, _ => []
 | x :: l, k + 1, cs => x :: spl l k cs
 | x :: l, 0, [] => x :: l
 | _ :: l, 0, c :: cs => c :: spl l 0 cs
theorem spl_len {α : Type} : ∀ (l : List α) (k : Nat) (cs : List α), (spl l k cs).length = l.length
 | [], _, _ => rfl
 | _ :: l, k + 1, cs => by simp [spl, spl_len l k cs]
 | _ :: l, 0, [] => rfl
 | _ :: l, 0, c :: cs => by simp [spl, spl_len l 0 cs]
theorem spl_get {α : Type} : ∀ (l : List α) (k : Nat) (cs : List α) (j : Nat), k + cs.length ≤ l.length → (spl l k cs)[j]? = if k ≤ j ∧ j < k + cs.length then cs[j - k]? else l[j]?
 | [], k, cs, j, h => by
  have : cs = [] := List.eq_nil_of_length_eq_zero (by simp only [List.length_nil] at h; omega)
  subst this
  simp [spl]
 | x :: l, k + 1, cs, j, h => by
  cases j with
  | zero => simp [spl]
  | succ j =>
   have ih := spl_get l k cs j (by simp at h; omega)
   simp only [spl, List.getElem?_cons_succ, ih]
   by_cases q : k ≤ j ∧ j < k + cs.length
   ·rw [if_pos q, if_pos (by omega), show j + 1 - (k + 1) = j - k by omega]
   ·rw [if_neg q, if_neg (by omega)]
 | x :: l, 0, [], j, h => by simp [spl]
 | x :: l, 0, c :: cs, j, h => by
  cases j with
  | zero => simp [spl]
  | succ j =>
   have ih := spl_get l 0 cs j (by simp at h; omega)
   simp only [spl, List.getElem?_cons_succ, ih]
   simp only [List.length_cons, Nat.zero_le, true_and, Nat.zero_add, Nat.sub_zero, List.getElem?_cons_succ]
   by_cases q : j < cs.length
   ·rw [if_pos q, if_pos (by omega)]
   ·rw [if_neg q, if_neg (by omega)]
theorem heap_setCells (b : Nat) : ∀ (us : List Value) (off : Nat) (w : World) (cur : Array Value) (ty : TypeId), w.heap[b]? = some (.cells cur ty (0, 0)) → off + us.length ≤ cur.size →
    (w.setCells b off us).heap[b]? = some (.cells (spl cur.toList off us).toArray ty (0, 0))
  | [], off, w, cur, ty, h, hl => by
    have : spl cur.toList off [] = cur.toList := List.ext_getElem? fun j => by
      rw [spl_get _ _ _ _ (by simpa using hl), if_neg (by simp)]
    rw [this]; exact h
  | u :: us, off, w, cur, ty, h, hl => by
    simp only [List.length_cons] at hl
    have h1 : (w.setCell ⟨b, off, none⟩ u).heap[b]? = some (.cells (cur.setIfInBounds off u) ty (0, 0)) := by
      simp [World.setCell, Array.getElem?_modify, h]
    have ih := heap_setCells b us (off + 1) _ _ ty h1 (by simp; omega)
    show ((w.setCell ⟨b, off, none⟩ u).setCells b (off + 1) us).heap[b]? = _
    rw [ih]
    congr 3
    refine List.ext_getElem? fun j => ?_
    rw [spl_get _ _ _ _ (by simp; omega), spl_get _ _ _ _ (by simp; omega)]
    simp only [List.length_cons, Array.toList_setIfInBounds, List.getElem?_set, Array.length_toList]
    by_cases q : off + 1 ≤ j ∧ j < off + 1 + us.length
    · rw [if_pos q, if_pos (by omega), show j - off = (j - (off + 1)) + 1 by omega, List.getElem?_cons_succ]
    · rw [if_neg q]
      by_cases e : off = j
      · subst e
        rw [if_pos rfl, if_pos (by omega), if_pos (by omega)]; simp
      · rw [if_neg e, if_neg (by omega)]
theorem heap_setCells_other (b : Nat) : ∀ (us : List Value) (off : Nat) (w : World) (k : Nat), k ≠ b → (w.setCells b off us).heap[k]? = w.heap[k]?
 | [], _, _, _, _ => rfl
 | u :: us, off, w, k, h => by
  show ((w.setCell ⟨b, off, none⟩ u).setCells b (off + 1) us).heap[k]? = _
  rw [heap_setCells_other b us _ _ k h]
  exact Below.heap_setCell _ _ _ _ h
theorem world_setCells (b : Nat) : ∀ (us : List Value) (off : Nat) (w : World), (w.setCells b off us).heap.size = w.heap.size ∧ (w.setCells b off us).os = w.os ∧ (w.setCells b off us).tape = w.tape ∧ (w.setCells b off us).output = w.output
 | [], _, _ => ⟨rfl, rfl, rfl, rfl⟩
 | u :: us, off, w => by
  obtain ⟨h1, h2, h3, h4⟩ := world_setCells b us (off + 1) (w.setCell ⟨b, off, none⟩ u)
  exact ⟨h1.trans (by simp), h2, h3, h4⟩
theorem run_store_cells (w : World) (b o : Nat) (ty : TypeId) (v : Value) (cur : Array Value) (t : TypeId) (hh : w.heap[b]? = some (.cells cur t (0, 0))) (hl : o + v.cells.size ≤ cur.size)
    (hi : (P.info? ty).map (·.size) = some v.cells.size) (h1 : ∀ u ∈ v.cells.toList, u.oneCell' = true) :
    (Instr.storeAt ty (.pointer (some ⟨b, o, none⟩)) v).run P w = .ok () (w.setCells b o v.cells.toList) := by
  have := run_storeCells_cells (P := P) b o v.cells.toList 0 w (fun j hj => by
      rw [Nat.add_zero, cell_of_row w b _ cur t (0, 0) hh]
      simp only [Array.length_toList] at hj
      simp; omega) (fun j hj => frozen_of_row w b _ cur t hh) h1
  cases hq : P.info? ty with
  | none => simp [hq] at hi
  | some i =>
    have hs : v.cells.size = i.size := by simp [hq] at hi; omega
    simp only [Nat.add_zero] at this
    simp [Instr.storeAt, Instr.sureAddr, storeVar, sizeOf, typeInfo, hq, hs, this]
def aStore (P : Program) (H : OH) (T : TypeId) (a x : AV) : Option Rs :=
 match a, cellsA x, P.info? T with
 | .ptr o g i j, some cs, some ti => match Nat.beq ti.size cs.length, cs.all (okCell H), look H o with
  | true, true, some (.box ty ds) => match Nat.beq g 0, Nat.beq i 0, Nat.ble (j + cs.length) ds.length with
   | true, true, true => some ⟨[], .put o (.box ty (spl ds j cs)) .any⟩
   | _, _, _ => none
  | true, true, some (.row ty sz g' false n f) => match Nat.beq g g', Nat.ble (j + cs.length) sz, toDs H cs with
   | true, true, some l => some ⟨[i < n], .put o (.row ty sz g' false n (fun k => if k = i then spl (f i) j l else f k)) .any⟩
   | _, _, _ => none
  | _, _, _ => none
 | _, _, _ => none
theorem spl_getD {α : Type} (l : List α) (k : Nat) (cs : List α) (j : Nat) (d : α) (h : k + cs.length ≤ l.length) : (spl l k cs).getD j d = if k ≤ j ∧ j < k + cs.length then cs.getD (j - k) d else l.getD j d := by
 rw [List.getD_eq_getElem?_getD, spl_get _ _ _ _ h]
 split <;> simp [List.getD_eq_getElem?_getD]
theorem aStore_ok (G : Gam C) {T : TypeId} {a x : AV} {va vx : Value} {r : Rs} (ha : Rv C a va) (hx : Rv C x vx) (h : aStore P C.H T a x = some r) (hl : allP r.obl) :
    Does P C (do Instr.storeAt T va vx; pure .skip) r.eff := by
  unfold aStore at h
  split at h
  · rename_i o g i j cs ti hc hi
    obtain ⟨ob, h1, h2, h3⟩ := ha
    split at h
    · -- a variable
      rename_i ty ds hsz hk ho
      rw [h1] at ho
      obtain rfl := Option.some.inj ho
      split at h
      · rename_i hg hi0 hle
        obtain rfl := Option.some.inj h
        obtain rfl := (beq_nat_iff _ _).1 hg
        obtain rfl := (beq_nat_iff _ _).1 hi0
        have hle' := Nat.le_of_ble_eq_true hle
        have hsz' := (beq_nat_iff _ _).1 hsz
        obtain ⟨hs, h1c⟩ := cellsA_spec G hx hc hk
        obtain ⟨b, n, c, e1, rfl⟩ := h3 rfl
        obtain ⟨b', us, e2, hh, rr⟩ := G.ok o _ h1
        have hb : b = b' ∧ n = 1 ∧ c = 1 := by rw [e1] at e2; injection e2 with q r s; injection q with q; injection q; exact ⟨‹_›, r, s⟩
        obtain ⟨rfl, rfl, rfl⟩ := hb
        have hlen : vx.cells.size = cs.length := by have := hs.1; simpa using this.symm
        have hrun := run_store_cells (P := P) C.W b j T vx us.toArray ty hh (by rw [hlen]; simp [← rr.1]; exact hle') (by rw [hi, hlen]; simp [hsz']) h1c
        obtain ⟨w1, w2, w3, w4⟩ := world_setCells b vx.cells.toList j C.W
        have hown : (C.vl o).ownBlock = some b := by rw [e1]; rfl
        have hvx : vx.cells.toList.length = cs.length := by simpa using hlen
        obtain ⟨hF, hG⟩ := G.turn (o := o) (b' := .box ty (spl ds j cs)) (W' := C.W.setCells b j vx.cells.toList) (vo := C.vl o) (Nat.le_of_eq w1.symm) w2 w3 w4
          (fun k hk hne => heap_setCells_other b _ _ _ k (fun e => hne _ h1 rfl (by rw [hown, e])))
          (fun k hk => .inr ⟨_, h1, rfl, hk⟩) (fun ob hob => by rw [h1] at hob; obtain rfl := Option.some.inj hob; exact .inl ⟨rfl, (congrArg (fun n => (n, false)) (spl_len _ _ _)), rfl⟩)
          (fun hF => ⟨b, spl us j vx.cells.toList, by show updV C.vl o (C.vl o) o = _; rw [updV_same, e1], by
              have := heap_setCells b vx.cells.toList j C.W us.toArray ty hh (by rw [hvx]; simp [← rr.1]; exact hle')
              exact this, by rw [spl_len, spl_len]; exact rr.1, fun q hq => by
              rw [spl_len] at hq
              rw [spl_getD _ _ _ _ _ hle', spl_getD _ _ _ _ _ (by rw [hvx, ← rr.1]; exact hle'), hvx]
              by_cases hin : j ≤ q ∧ q < j + cs.length
              · rw [if_pos hin, if_pos hin]; exact (hs.2 (q - j) (by omega)).fr hF
              · rw [if_neg hin, if_neg hin]; exact (rr.2 q hq).fr hF⟩)
        refine ⟨undef, C.put o (.box ty (spl ds j cs)) (C.W.setCells b j vx.cells.toList) (C.vl o), .inr ⟨?_, rfl⟩, trivial, rfl, rfl, hF, hG⟩
        rw [show (0 : Nat) * (Ob.sz (.box ty ds)).1 + j = j by omega]
        simp only [Sem.run_bind, hrun, Result.andThen_ok, Sem.run_pure]
        rfl
      · cases h
    · -- a row
      rename_i ty sz g' n f hsz hk ho
      rw [h1] at ho
      obtain rfl := Option.some.inj ho
      split at h
      · rename_i l hg hle hD
        obtain rfl := Option.some.inj h
        obtain rfl := (beq_nat_iff _ _).1 hg
        have hle' := Nat.le_of_ble_eq_true hle
        have hsz' := (beq_nat_iff _ _).1 hsz
        have hin : i < n := hl.1
        obtain ⟨hs, h1c⟩ := cellsA_spec G hx hc hk
        obtain ⟨dl, dr⟩ := toDs_spec G hs hD
        obtain ⟨b, n', c, e1, rfl⟩ := h3 rfl
        obtain ⟨us, q1, q2, q4, q3⟩ := G.ok o _ h1
        rcases q1.2 with ⟨q, rfl⟩ | ⟨b', cap, cur, q, hb0, hh, hnc, hcm, hcs, ht⟩
        · omega
        rw [e1] at q
        obtain ⟨rfl, rfl, rfl⟩ : b = b' ∧ n' = n ∧ c = cap := by injection q with q r s; injection q with q; injection q; exact ⟨‹_›, r, s⟩
        have hlen : vx.cells.size = cs.length := by have := hs.1; simpa using this.symm
        have hvx : vx.cells.toList.length = cs.length := by simpa using hlen
        have hus : us.length = n' * sz := q1.1
        have hrow : (i + 1) * sz ≤ n' * sz := Nat.mul_le_mul_right _ (by omega)
        have hcap : n' * sz ≤ c * sz := Nat.mul_le_mul_right _ hnc
        rw [Nat.succ_mul] at hrow
        have hfit : i * sz + j + cs.length ≤ cur.size := by rw [hcs]; omega
        have hrun := run_store_cells (P := P) C.W b (i * sz + j) T vx cur ty hh (by rw [hlen]; exact hfit) (by rw [hi, hlen]; simp [hsz']) h1c
        obtain ⟨w1, w2, w3, w4⟩ := world_setCells b vx.cells.toList (i * sz + j) C.W
        have hown : (C.vl o).ownBlock = some b := by rw [e1]; rfl
        obtain ⟨hF, hG⟩ := G.turn (o := o) (b' := .row ty sz g false n' (fun k => if k = i then spl (f i) j l else f k)) (W' := C.W.setCells b (i * sz + j) vx.cells.toList) (vo := C.vl o) (Nat.le_of_eq w1.symm) w2 w3 w4
          (fun k hk hne => heap_setCells_other b _ _ _ k (fun e => hne _ h1 rfl (by rw [hown, e])))
          (fun k hk => .inr ⟨_, h1, rfl, hk⟩) (fun ob hob => by rw [h1] at hob; obtain rfl := Option.some.inj hob; exact .inl ⟨rfl, rfl, rfl⟩)
          (fun hF => ⟨spl us (i * sz + j) vx.cells.toList, ⟨by rw [spl_len]; exact hus, .inr ⟨b, c, (spl cur.toList (i * sz + j) vx.cells.toList).toArray, by show updV C.vl o (C.vl o) o = _; rw [updV_same, e1], hb0,
              heap_setCells b _ _ _ cur ty hh (by rw [hvx]; exact hfit), hnc, hcm, by simp [spl_len, hcs], by
                refine List.ext_getElem? fun q => ?_
                rw [List.getElem?_take, spl_get us _ _ _ (by rw [hvx, hus]; omega)]
                by_cases hq : q < n' * sz
                · rw [if_pos hq, spl_get cur.toList _ _ _ (by rw [hvx]; simpa using hfit)]
                  have := congrArg (fun l => l[q]?) ht
                  simp only [List.getElem?_take, if_pos hq] at this
                  rw [this]
                · rw [if_neg hq, if_neg (by rw [hvx]; omega), List.getElem?_eq_none (by omega)]⟩⟩, fun k hk => by
              show (if k = i then spl (f i) j l else f k).length = sz
              by_cases e : k = i
              · rw [if_pos e, spl_len, q2 i hin]
              · rw [if_neg e, q2 k hk], fun u hu => by
              obtain ⟨q, hq, rfl⟩ := List.getElem_of_mem hu
              have e := spl_get us (i * sz + j) vx.cells.toList q (by rw [hvx, hus]; omega)
              rw [List.getElem?_eq_getElem hq] at e
              split at e
              · obtain ⟨_, e⟩ := List.getElem?_eq_some_iff.1 e.symm; rw [← e]; exact h1c _ (List.getElem_mem _)
              · obtain ⟨_, e⟩ := List.getElem?_eq_some_iff.1 e.symm; rw [← e]; exact q4 _ (List.getElem_mem _), fun k q hk hq => by
              show RD _ _ ((if k = i then spl (f i) j l else f k).getD q default) _
              rw [spl_getD _ _ _ _ _ (by rw [hvx, hus]; omega), hvx]
              by_cases e : k = i
              · subst e
                rw [if_pos rfl, spl_getD _ _ _ _ _ (by rw [q2 k hin, dl]; omega), dl]
                by_cases hin' : j ≤ q ∧ q < j + cs.length
                · rw [if_pos hin', if_pos (by omega), show k * sz + q - (k * sz + j) = q - j by omega]
                  exact (dr (q - j) (by omega)).fr hF
                · rw [if_neg hin', if_neg (by omega)]
                  exact (q3 k q hin hq).fr hF
              · rw [if_neg e, if_neg ?_]
                · exact (q3 k q hk hq).fr hF
                · rcases Nat.lt_or_gt_of_ne e with e | e
                  · have : (k + 1) * sz ≤ i * sz := Nat.mul_le_mul_right _ (by omega)
                    rw [Nat.succ_mul] at this; omega
                  · have : (i + 1) * sz ≤ k * sz := Nat.mul_le_mul_right _ (by omega)
                    rw [Nat.succ_mul] at this; omega⟩)
        refine ⟨undef, C.put o (.row ty sz g false n' (fun k => if k = i then spl (f i) j l else f k)) (C.W.setCells b (i * sz + j) vx.cells.toList) (C.vl o), .inr ⟨?_, rfl⟩, trivial, rfl, rfl, hF, hG⟩
        simp only [show (Ob.sz (.row ty sz g false n' f)).1 = sz from rfl, Sem.run_bind, hrun, Result.andThen_ok, Sem.run_pure]
        rfl
      · cases h
    · cases h
  · cases h

/-! ### Places -/
def fieldOff (P : Program) (S : TypeId) (k : Nat) : Option Nat :=
 match P.underlying S with
 | some (.struct fs) => match fs[k]? with
  | some f => match P.info? f.type with
   | some i => match Nat.beq i.size 0 with
    | true => none
    | false => some f.offset
   | none => none
  | none => none
 | _ => none
def aFieldAddr (P : Program) (H : OH) (S : TypeId) (x : AV) (k : Nat) : Option Rs :=
 match fieldOff P S k, x with
 | some off, .dp cs => ret (.dp (cs.drop off))
 | some off, .ptr o g i j => match curG H o g with
  | true => ret (.ptr o g i (j + off))
  | false => none
 | _, _ => none
theorem ptr_cur {o g i j : Nat} {v : Value} (h : Rv C (.ptr o g i j) v) (hc : curG C.H o g = true) : ∃ ob b n c, look C.H o = some ob ∧ g = ob.gen ∧ C.vl o = .slice (some ⟨b, 0, none⟩) n c ∧ v = .pointer (some ⟨b, i * ob.sz.1 + j, none⟩) := by
 obtain ⟨ob, h1, h2, h3⟩ := h
 simp only [curG, h1] at hc
 have hg := ((beq_nat_iff _ _).1 hc).symm
 obtain ⟨b, n, c, e, rfl⟩ := h3 hg
 exact ⟨ob, b, n, c, h1, hg, e, rfl⟩
theorem run_fieldAt_of {W : World} {S k off b q : Nat} (h : fieldOff P S k = some off) : (Instr.fieldAt S (.pointer (some ⟨b, q, none⟩)) k).run P W = .ok (.pointer (some ⟨b, q + off, none⟩)) W := by
 unfold fieldOff at h
 split at h
 ·rename_i fs hu
  split at h
  ·rename_i f hf
   split at h
   ·rename_i i hi
    split at h
    ·cases h
    ·rename_i hz
     obtain rfl := Option.some.inj h
     have hz' := (beq_nat_false _ _).1 hz
     have hsz : (sizeOf f.type).run P W = .ok i.size W := by simp [sizeOf, typeInfo, hi]
     simp only [Instr.fieldAt, Sem.run_bind, run_underlying hu, Result.andThen_ok, hf, Instr.sureAddr, Sem.run_pure, fieldPlace, hsz, if_neg hz', Addr.add_mid]
   ·cases h
  ·cases h
 ·cases h
theorem aFieldAddr_ok (G : Gam C) {S k : Nat} {x : AV} {v : Value} {r : Rs} (hx : Rv C x v) (h : aFieldAddr P C.H S x k = some r) : Does P C (do pure (.value (← Instr.fieldAt S v k))) r.eff := by
 unfold aFieldAddr at h
 split at h
 ·rename_i off cs ho
  obtain rfl := Option.some.inj h
  obtain ⟨b, q, u, rfl, hb, hc⟩ := hx
  refine does_val G (v := .pointer (some ⟨b, q + off, none⟩)) (by simp only [Sem.run_bind, run_fieldAt_of ho, Result.andThen_ok, Sem.run_pure]) ?_
  refine ⟨b, q + off, fun j => u (off + j), rfl, hb, fun j hj => ?_⟩
  simp only [List.length_drop] at hj
  have := hc (off + j) (by omega)
  rw [show q + off + j = q + (off + j) by omega, show (cs.drop off).getD j default = cs.getD (off + j) default by simp [List.getD_eq_getElem?_getD, List.getElem?_drop]]
  exact this
 ·rename_i off o g i j ho
  split at h
  ·rename_i hc
   obtain rfl := Option.some.inj h
   obtain ⟨ob, b, n, c, h1, hg, e, rfl⟩ := ptr_cur hx hc
   exact does_val G (v := .pointer (some ⟨b, i * ob.sz.1 + j + off, none⟩)) (by simp only [Sem.run_bind, run_fieldAt_of ho, Result.andThen_ok, Sem.run_pure]) ⟨ob, h1, by omega, fun _ => ⟨b, n, c, e, by rw [Nat.add_assoc]⟩⟩
  ·cases h
 ·cases h
end
end Go.Proofs.YtedokpgkjcnoiaaGreat
