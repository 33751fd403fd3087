/- What an operation does, seen from afar: maps of one's own. No program in sight. An operation, seen from afar: which one it is, that it does what is said, and what it hangs on. No program in sight. -/
import Derived.Test.YtedokpgkjcnoiaaGreatQ7
set_option linter.unusedVariables false
set_option linter.unusedSimpArgs false
namespace Go.Proofs.YtedokpgkjcnoiaaGreat
open Go.RowKit
open Go.Maps (Keyed)
open Go.ChangeMaps
open Go.MapKept
/-- an exact value -/
def exVs : List AV → Option (List Value)
 | [] => some []
 | .d (.v x) :: r => match exVs r with
  | some l => some (x :: l)
  | none => none
 | _ :: _ => none
def exV : AV → Option Value
 | .d (.v x) => some x
 | .agg cs => match exVs cs with
  | some l => some (.agg l.toArray)
  | none => none
 | _ => none
section
variable {P : Program} {C : Cx}
theorem exVs_spec : ∀ {cs : List AV} {us l : List Value}, Rbs C cs us → exVs cs = some l → us = l
 | [], us, l, r, h => by
  simp only [exVs, Option.some.injEq] at h
  subst h
  exact List.eq_nil_of_length_eq_zero r.1.symm
 | a :: cs, us, l, r, h => by
  cases us with
  | nil => have := r.1; simp at this
  | cons u us =>
   have r' : Rbs C cs us := ⟨by simpa using r.1, fun j hj => by simpa using r.2 (j + 1) (by simpa using hj)⟩
   have r0 : Rb C a u := by simpa using r.2 0 (by simp)
   cases a with
   | d x =>
    cases x with
    | v y =>
     simp only [exVs] at h
     split at h
     ·rename_i l' hl
      obtain rfl := Option.some.inj h
      have e := exVs_spec r' hl
      replace r0 : RD C.W C.N (.v y) u := r0
      cases r0
      rw [e]
     ·cases h
    | _ => simp [exVs] at h
   | _ => simp [exVs] at h
theorem exV_spec {a : AV} {v x : Value} (h : Rv C a v) (he : exV a = some x) : v = x := by
 cases a with
 | d y =>
  cases y with
  | v z =>
   simp only [exV, Option.some.injEq] at he
   subst he
   exact rv_ex_inv h
  | _ => simp [exV] at he
 | agg cs =>
  simp only [exV] at he
  split at he
  ·rename_i l hl
   obtain rfl := Option.some.inj he
   obtain ⟨us, rfl, r⟩ := h
   rw [exVs_spec r hl]
  ·cases he
 | _ => simp [exV] at he
/-- a map's block -/
theorem mp_ents (G : Gam C) {o : Nat} {ok : Value → Prop} {L : List (Value × DV)} {kt : TypeId} (ho : look C.H o = some (.mp ok L)) (hk : ∀ v, ok v → ∃ l, keyOf P kt v = some l) :
    ∃ (b : Nat) (M : List (Value × Value)), C.vl o = .slice (some ⟨b, 0, none⟩) 1 1 ∧ Ents P kt C.W b M ∧ (∀ x ∈ M, ok x.1) ∧ L.map Prod.fst = M.map Prod.fst ∧ ∀ i, i < L.length → RD C.W C.N (L.getD i default).2 ((M.map Prod.snd).getD i undef) := by
  obtain ⟨b, es, clock, e, hh, hs, h1, h2, h3⟩ := G.ok o _ ho
  refine ⟨b, es.toList.map (fun e => (e.key, e.val)), e, ⟨es, clock, hh, hs, rfl, fun x hx => hk _ (h1 x hx)⟩, fun x hx => ?_, ?_, fun i hi => ?_⟩
  · obtain ⟨y, hy, rfl⟩ := List.mem_map.1 hx; exact h1 y hy
  · rw [h2, List.map_map]; rfl
  · rw [List.map_map]; exact h3 i hi
theorem ok_of_ents {C' : Cx} {o b : Nat} {ok : Value → Prop} {L : List (Value × DV)} {M : List (Value × Value)} {kt : TypeId} (hv : C'.vl o = .slice (some ⟨b, 0, none⟩) 1 1) (h : Ents P kt C'.W b M) (h1 : ∀ x ∈ M, ok x.1) (h2 : L.map Prod.fst = M.map Prod.fst)
    (h3 : ∀ i, i < L.length → RD C'.W C'.N (L.getD i default).2 ((M.map Prod.snd).getD i undef)) : OK C' o (.mp ok L) := by
  obtain ⟨es, clock, hh, hs, rfl, _⟩ := h
  refine ⟨b, es, clock, hv, hh, hs, fun x hx => h1 _ (List.mem_map.2 ⟨x, hx, rfl⟩), ?_, fun i hi => ?_⟩
  · rw [h2, List.map_map]; rfl
  · have := h3 i hi; rw [List.map_map] at this; exact this
/-- a map that is known by its value -/
theorem mp_val (G : Gam C) {o g : Nat} {v : Value} {ok : Value → Prop} {L : List (Value × DV)} {b : Nat} (h : Rv C (.own o g) v) (ho : look C.H o = some (.mp ok L)) (hg : Nat.beq g 0 = true) (hb : C.vl o = .slice (some ⟨b, 0, none⟩) 1 1) : v = .map (some b) := by
 obtain ⟨ob, h1, h2, h3⟩ := (h : Rb C (.own o g) v)
 rw [ho] at h1
 obtain rfl := Option.some.inj h1
 have := h3 ((beq_nat_iff _ _).1 hg)
 rw [this, hb]; rfl
/-! ### A map is made -/
def okK (P : Program) (kt : TypeId) (v : Value) : Prop := ∃ l, keyOf P kt v = some l
def aMakeMap (P : Program) (H : OH) (o : Nat) (T : TypeId) : Option Rs := match look H o, P.underlying T with
 | none, some (.map kt _) => some ⟨[], .put o (.mp (okK P kt) []) (.own o 0)⟩
 | _, _ => none
theorem aMakeMap_ok (G : Gam C) {o : Nat} {T : TypeId} {r : Rs} (h : aMakeMap P C.H o T = some r) : Does P C (do pure (.value (← Instr.makeMap T none))) r.eff := by
 unfold aMakeMap at h
 split at h
 ·rename_i kt et ho hu
  obtain rfl := Option.some.inj h
  obtain ⟨hF, hG⟩ := G.turn (o := o) (b' := .mp (okK P kt) []) (W' := C.W.alloc (.map #[] 0)) (vo := .slice (some ⟨C.W.heap.size, 0, none⟩) 1 1) (by simp) rfl rfl rfl
   (fun k hk _ => Below.heap_alloc C.W _ k hk) (fun k hk => .inl (by simp [Value.ownBlock] at hk; omega)) (fun ob h => by rw [ho] at h; cases h)
   (fun hF => ok_of_ents (P := P) (kt := kt) (b := C.W.heap.size) (M := []) (updV_same _ _ _) (Ents.made C.W P kt) (fun x hx => by cases hx) rfl (fun i hi => by cases hi))
  refine ⟨.map (some C.W.heap.size), C.put o (.mp (okK P kt) []) (C.W.alloc (.map #[] 0)) (.slice (some ⟨C.W.heap.size, 0, none⟩) 1 1), .inl ?_, ?_, rfl, rfl, hF, hG⟩
  ·rfl
  ·refine ⟨_, by rw [put_look, if_pos rfl], Nat.zero_le _, fun _ => ?_⟩
   show _ = vof true (updV C.vl o _ o)
   rw [updV_same]; rfl
 ·cases h
/-! ### What is chosen: whether a key is there -/
inductive Cho where
 | absent
 | found (d : DV)
def mpObl (P : Program) (kt : TypeId) (ok : Value → Prop) (k : Value) (p : Prop) : List Prop := [p, ok k, Keyed P kt, ∀ v, ok v → ∃ l, keyOf P kt v = some l]
def tupC (c : Bool) (d : DV) (b : Bool) : AV := match c with
 | true => .tup [.d d, .d (.v (.bool b))]
 | false => .d d
def aLookup (P : Program) (H : OH) (w : Cho) (t : TypeId) (m x : AV) (c : Bool) : Option Rs := match m, exV x, P.underlying t with
 | .own o g, some k, some (.map kt et) => match Nat.beq g 0, look H o with
  | true, some (.mp ok L) => match w with
   | .found d => some ⟨mpObl P kt ok k ((k, d) ∈ L), .val (tupC c d true)⟩
   | .absent => match P.info? et with
    | some i => match i.zero with
     | some z => some ⟨mpObl P kt ok k (∀ x ∈ L, x.1 ≠ k), .val (tupC c (.v z) false)⟩
     | none => none
    | none => none
  | _, _ => none
 | _, _, _ => none
theorem tupC_ok {c : Bool} {d : DV} {b : Bool} {v : Value} (h : RD C.W C.N d v) : Rv C (tupC c d b) (if c then .tuple #[v, .bool b] else v) := by
 cases c with
 | false => exact h
 | true =>
  refine ⟨[v, .bool b], rfl, rfl, fun j hj => ?_⟩
  rcases j with _ | _ | j
  ·exact h
  ·exact RD.v (.bool b)
  ·simp at hj; omega
theorem mem_at {L : List (Value × DV)} {M : List (Value × Value)} (h : L.map Prod.fst = M.map Prod.fst) {k : Value} {d : DV} (hm : (k, d) ∈ L) : ∃ i v, i < L.length ∧ L.getD i default = (k, d) ∧ (k, v) ∈ M ∧ (M.map Prod.snd).getD i undef = v := by
 obtain ⟨i, hi, e⟩ := List.getElem_of_mem hm
 have hl : L.length = M.length := by simpa using congrArg List.length h
 have hk : M[i].1 = k := by
  have := congrArg (fun l => l[i]?) h
  simp only [List.getElem?_map, List.getElem?_eq_getElem hi, List.getElem?_eq_getElem (show i < M.length by omega), Option.map_some, Option.some.injEq] at this
  rw [← this, e]
 refine ⟨i, M[i].2, hi, by rw [List.getD_eq_getElem?_getD, List.getElem?_eq_getElem hi, e]; rfl, ?_, ?_⟩
 ·rw [← hk]; exact List.getElem_mem _
 ·rw [List.getD_eq_getElem?_getD, List.getElem?_map, List.getElem?_eq_getElem (show i < M.length by omega)]; rfl
theorem mem_no {L : List (Value × DV)} {M : List (Value × Value)} (h : L.map Prod.fst = M.map Prod.fst) {k : Value} (hn : ∀ x ∈ L, x.1 ≠ k) : ∀ x ∈ M, x.1 ≠ k := fun x hx e => by
 have : x.1 ∈ L.map Prod.fst := by rw [h]; exact List.mem_map.2 ⟨x, hx, rfl⟩
 obtain ⟨y, hy, q⟩ := List.mem_map.1 this
 exact hn y hy (q.trans e)
theorem aLookup_ok (G : Gam C) {w : Cho} {t : TypeId} {m x : AV} {c : Bool} {vm vx : Value} {r : Rs} (hm : Rv C m vm) (hx : Rv C x vx) (h : aLookup P C.H w t m x c = some r) (hl : allP r.obl) : Does P C (do pure (.value (← Instr.lookup t vm vx c))) r.eff := by
 unfold aLookup at h
 split at h
 ·rename_i o g k kt et he hu
  obtain rfl := exV_spec hx he
  split at h
  ·rename_i ok L hg ho
   split at h
   ·rename_i d
    obtain rfl := Option.some.inj h
    obtain ⟨h1, h2, h3, h4, _⟩ := hl
    obtain ⟨b, M, e1, e2, e3, e4, e5⟩ := mp_ents G ho h4
    obtain rfl := mp_val G hm ho hg e1
    obtain ⟨i, v, q1, q2, q3, q4⟩ := mem_at e4 h1
    obtain ⟨l, hkl⟩ := h4 _ h2
    have hr := e5 i q1
    rw [q2, q4] at hr
    exact does_val G (v := if c then .tuple #[v, .bool true] else v) (by rw [Sem.run_bind, e2.look_in h3 hu hkl q3 c]; rfl) (tupC_ok hr)
   ·split at h
    ·rename_i i hi
     split at h
     ·rename_i z hz
      obtain rfl := Option.some.inj h
      obtain ⟨h1, h2, h3, h4, _⟩ := hl
      obtain ⟨b, M, e1, e2, e3, e4, e5⟩ := mp_ents G ho h4
      obtain rfl := mp_val G hm ho hg e1
      obtain ⟨l, hkl⟩ := h4 _ h2
      exact does_val G (v := if c then .tuple #[z, .bool false] else z) (by rw [Sem.run_bind, e2.look_out h3 hu (z := z) (by simp [zeroValue, typeInfo, hi, hz]) hkl (mem_no e4 h1) c]; rfl) (tupC_ok (.v z))
     ·cases h
    ·cases h
  ·cases h
 ·cases h
def aMapUpd (P : Program) (H : OH) (w : Cho) (t : TypeId) (m x y : AV) : Option Rs := match m, exV x, P.underlying t with
 | .own o g, some k, some (.map kt et) => match Nat.beq g 0, look H o, toD H y with
  | true, some (.mp ok L), some d => match w with
   | .absent => some ⟨mpObl P kt ok k (∀ x ∈ L, x.1 ≠ k), .put o (.mp ok (L ++ [(k, d)])) .any⟩
   | .found _ => match d with
    | .v z => some ⟨mpObl P kt ok k ((k, .v z) ∈ L), .put o (.mp ok L) .any⟩
    | _ => none
  | _, _, _ => none
 | _, _, _ => none
theorem setBlock_W (w : World) (b : Nat) (o : Obj) : (setBlock w b o).heap.size = w.heap.size ∧ (setBlock w b o).os = w.os ∧ (setBlock w b o).tape = w.tape ∧ (setBlock w b o).output = w.output := ⟨by simp [setBlock], rfl, rfl, rfl⟩
theorem aMapUpd_ok (G : Gam C) {w : Cho} {t : TypeId} {m x y : AV} {vm vx vy : Value} {r : Rs} (hm : Rv C m vm) (hx : Rv C x vx) (hy : Rv C y vy) (h : aMapUpd P C.H w t m x y = some r) (hl : allP r.obl) : Does P C (do Instr.mapUpdate t vm vx vy; pure .skip) r.eff := by
  unfold aMapUpd at h
  split at h
  · rename_i o g k kt et he hu
    obtain rfl := exV_spec hx he
    split at h
    · rename_i ok L d hg ho hd
      have hyd : RD C.W C.N d vy := by
        cases y <;> first | exact toD_spec G hy hd | exact toD_spec (a := .d _) G hy hd | exact toD_spec (a := .dp _) G hy hd | exact toD_spec (a := .own _ _) G hy hd | (simp [toD] at hd; done)
      have turn : ∀ {b : Nat} {ob : Obj} {L' : List (Value × DV)} {M M' : List (Value × Value)}, C.vl o = .slice (some ⟨b, 0, none⟩) 1 1 → Ents P kt C.W b M → Ents P kt (setBlock C.W b ob) b M' → (∀ x ∈ M', ok x.1) → L'.map Prod.fst = M'.map Prod.fst →
          (∀ i, i < L'.length → RD C.W C.N (L'.getD i default).2 ((M'.map Prod.snd).getD i undef)) → (Instr.mapUpdate t vm vx vy).run P C.W = .ok () (setBlock C.W b ob) → Does P C (do Instr.mapUpdate t vm vx vy; pure .skip) (.put o (.mp ok L') .any) := by
        intro b ob L' M M' e1 he0 e2 e3 e4 e5 hrun
        obtain ⟨es, clock, hb, _⟩ := he0
        obtain ⟨s1, s2, s3, s4⟩ := setBlock_W C.W b ob
        obtain ⟨hF, hG⟩ := G.turn (o := o) (b' := .mp ok L') (W' := setBlock C.W b ob) (vo := C.vl o) (Nat.le_of_eq s1.symm) s2 s3 s4
          (fun k hk hne => heap_setBlock_other hb ob (fun e => hne _ ho rfl (by rw [e1, e]; rfl)))
          (fun k hk => .inr ⟨_, ho, rfl, hk⟩) (fun ob' hob => by rw [ho] at hob; obtain rfl := Option.some.inj hob; exact .inl ⟨rfl, rfl, rfl⟩)
          (fun hF => ok_of_ents (P := P) (kt := kt) (b := b) (M := M') (by show updV C.vl o (C.vl o) o = _; rw [updV_same, e1]) e2 e3 e4 (fun i hi => (e5 i hi).fr hF))
        exact ⟨undef, C.put o (.mp ok L') (setBlock C.W b ob) (C.vl o), .inr ⟨by rw [Sem.run_bind, hrun]; rfl, rfl⟩, trivial, rfl, rfl, hF, hG⟩
      split at h
      · obtain rfl := Option.some.inj h
        obtain ⟨h1, h2, h3, h4, _⟩ := hl
        obtain ⟨b, M, e1, e2, e3, e4, e5⟩ := mp_ents G ho h4
        obtain rfl := mp_val G hm ho hg e1
        obtain ⟨l, hkl⟩ := h4 _ h2
        obtain ⟨ob, hrun, he2⟩ := e2.put_out h3 hu (val := vy) hkl (mem_no e4 h1)
        have hlen : L.length = M.length := by simpa using congrArg List.length e4
        refine turn e1 e2 he2 (fun z hz => ?_) (by simp [e4]) (fun i hi => ?_) hrun
        · rcases List.mem_append.1 hz with hz | hz
          · exact e3 z hz
          · simp only [List.mem_singleton] at hz; subst hz; exact h2
        · rw [List.length_append] at hi
          rcases Nat.lt_or_ge i L.length with q | q
          · have := e5 i q
            rw [List.getD_eq_getElem?_getD, List.getElem?_append_left q, ← List.getD_eq_getElem?_getD, List.map_append, List.getD_eq_getElem?_getD (l := _ ++ _), List.getElem?_append_left (by simp; omega), ← List.getD_eq_getElem?_getD]
            exact this
          · have : i = L.length := by simp at hi; omega
            subst this
            rw [List.getD_eq_getElem?_getD, List.getElem?_append_right (Nat.le_refl _), List.map_append, List.getD_eq_getElem?_getD (l := _ ++ _), List.getElem?_append_right (by simp; omega)]
            simpa [hlen] using hyd
      · split at h
        · rename_i z
          obtain rfl := Option.some.inj h
          obtain ⟨h1, h2, h3, h4, _⟩ := hl
          obtain ⟨b, M, e1, e2, e3, e4, e5⟩ := mp_ents G ho h4
          obtain rfl := mp_val G hm ho hg e1
          obtain ⟨l, hkl⟩ := h4 _ h2
          obtain ⟨i, v, q1, q2, q3, q4⟩ := mem_at e4 h1
          have hr := e5 i q1
          rw [q2, q4] at hr
          replace hr : RD C.W C.N (.v z) v := hr
          cases hr
          cases hyd
          obtain ⟨ob, hrun, he2⟩ := e2.put_same h3 hu hkl q3
          exact turn e1 e2 he2 e3 e4 e5 hrun
        · cases h
    · cases h
  · cases h
def aLenM (P : Program) (H : OH) (T : TypeId) (x : AV) : Option Rs := match P.underlying T, x with
 | some (.map kt _), .own o g => match Nat.beq g 0, look H o with
  | true, some (.mp ok L) => some ⟨[∀ v, ok v → ∃ l, keyOf P kt v = some l], .val (exI .i64 L.length)⟩
  | _, _ => none
 | _, _ => none
theorem aLenM_ok (G : Gam C) {T ty : TypeId} {x : AV} {v : Value} {r : Rs} (hx : Rv C x v) (h : aLenM P C.H T x = some r) (hl : allP r.obl) : Does P C (do pure (.value (← Builtin.len_ #[T] ty #[v]))) r.eff := by
 unfold aLenM at h
 split at h
 ·rename_i kt et o g hu
  split at h
  ·rename_i ok L hg ho
   obtain rfl := Option.some.inj h
   obtain ⟨b, M, e1, e2, e3, e4, e5⟩ := mp_ents G ho hl.1
   obtain rfl := mp_val G hx ho hg e1
   have hlen : L.length = M.length := by simpa using congrArg List.length e4
   exact does_val G (v := .int .i64 L.length) (by rw [Sem.run_bind, e2.len hu ty, hlen]; rfl) (rv_ex _)
  ·cases h
 ·cases h
def aLenA (P : Program) (H : OH) (T : TypeId) (x : AV) : Option Rs := match aLen P H T x with
 | some r => some r
 | none => aLenM P H T x
theorem aLenA_ok (G : Gam C) {T ty : TypeId} {x : AV} {v : Value} {r : Rs} (hx : Rv C x v) (h : aLenA P C.H T x = some r) (hl : allP r.obl) : Does P C (do pure (.value (← Builtin.len_ #[T] ty #[v]))) r.eff := by
 unfold aLenA at h
 split at h
 ·rename_i r' hr
  obtain rfl := Option.some.inj h
  exact aLen_ok G hx hr
 ·exact aLenM_ok G hx h hl
/-! ### The operations that are chosen -/
def aCho (P : Program) (H : OH) (e : Operand → AV) (w : Cho) : Op → Option Rs
 | .lookup t m x c => aLookup P H w t (e m) (e x) c
 | .mapUpdate t m k x => aMapUpd P H w t (e m) (e k) (e x)
 | .insert t m k x => aMapUpd P H w t (e m) (e k) (e x)
 | _ => none
def isCho : Op → Bool
 | .lookup _ _ _ _ => true
 | .mapUpdate _ _ _ _ => true
 | .insert _ _ _ _ => true
 | _ => false
theorem aCho_ok (G : Gam C) {e : Operand → AV} {ρ : Operand → Value} {w : Cho} {op : Oper} {r : Rs} (he : ∀ x, Rv C (e x) (ρ x)) (h : aCho P C.H e w op.op = some r) (hl : allP r.obl) : Does P C (execOp ρ op) r.eff := by
 unfold execOp
 generalize op.op = q at h
 cases q <;> simp only [aCho] at h <;> try (cases h; done)
 case lookup t m x c => exact aLookup_ok G (he m) (he x) h hl
 case mapUpdate t m k x => exact aMapUpd_ok G (he m) (he k) (he x) h hl
 case insert t m k x => exact aMapUpd_ok G (he m) (he k) (he x) h hl
end
end Go.Proofs.YtedokpgkjcnoiaaGreat
namespace Go.Proofs.YtedokpgkjcnoiaaGreat
open Go.RowKit
def ev (t : List AV) : Operand → AV
 | .tmp i => nth t i
 | .const v => .d (.v v)
 | .global g => .d (.v (.pointer (some ⟨g, 0, none⟩)))
 | .func f => .d (.v (.func (.func f) #[] #[]))
def evP (e : Operand → AV) : List (Nat × Operand) → List (Nat × AV)
 | [] => []
 | (i, x) :: r => (i, e x) :: evP e r
def evL (e : Operand → AV) : List Operand → List AV
 | [] => []
 | x :: r => e x :: evL e r
def evO (e : Operand → AV) : Option Operand → Option AV
 | none => none
 | some x => some (e x)
def isBase (H : OH) : AV → Bool
 | .d _ => true
 | .dp _ => true
 | .ptr o g _ _ => curG H o g
 | .own o g => curG H o g
 | _ => false
def isWin : AV → Bool
 | .win _ _ _ _ _ => true
 | _ => false
def isOwn : AV → Bool
 | .own _ _ => true
 | .ptr _ _ _ _ => true
 | _ => false
def aNilC (H : OH) (x : AV) : Option Rs := match x with
 | .ptr o g i j => match curG H o g with
  | true => ret (.ptr o g i j)
  | false => none
 | .dp cs => ret (.dp cs)
 | _ => none
def aEff (P : Program) (H : OH) (e : Operand → AV) (mu : Bool) (o : Nat) : Op → Option Rs
 | .move x => ret (e x)
 | .assign x => ret (e x)
 | .pick c x y => aPick (e c) (e x) (e y)
 | .alloc T => aAlloc P H o T
 | .box T x => aBox H mu o T (e x)
 | .build T ps => aBuild P H T (evP e ps.toList)
 | .buildSlice T n ps => aBuildSlice P H mu o T n (evP e ps.toList)
 | .load T x => aLoad P H T (e x)
 | .store T x y => aStore P H T (e x) (e y)
 | .nilCheck x => aNilC H (e x)
 | .binOp op T x y _ => match e x with
  | .own q g => aBinO P H op T q g (e y)
  | a => aBin P op T a (e y)
 | .unOp op _ x => aUn op (e x)
 | .convert S T x => aConv P H S T (e x)
 | .makeFunc fn first caps => match (evL e first.toList).all (isBase H), (evL e caps.toList).all (isBase H) with
  | true, true => ret (.fn fn (evL e first.toList) (evL e caps.toList))
  | _, _ => none
 | .makeSlice T x y => aMake P H o T (e x) (e y)
 | .makeMap T none => aMakeMap P H o T
 | .slice T x lo hi none => match isOwn (e x) with
  | true => aSliceO P H T (e x) (evO e lo) (evO e hi)
  | false => aSlice P T (e x) (evO e lo) (evO e hi)
 | .fieldAddr T x k => aFieldAddr P H T (e x) k
 | .field T x k => match isAgg? (e x) with
  | true => aField P T (e x) k
  | false => none
 | .indexAddr T x y => match isWin (e x) with
  | true => aIndexW P H T (e x) (e y)
  | false => aIndexAddr P H T (e x) (e y)
 | .index T x y => aIndexS P T (e x) (e y)
 | .extract x k => aExtract (e x) k
 | .call c => match c.callee, c.args.toList, c.argTypes.toList with
  | .builtin .len, [x], [T] => aLenA P H T (e x)
  | .builtin .min, [x, y], _ => aMin (e x) (e y)
  | .builtin .max, [x, y], _ => aMax (e x) (e y)
  | .builtin .append, [x, y], [T, T'] => match Nat.beq T T' with
   | true => aAppend P H o T (e x) (e y)
   | false => none
  | .builtin .copy, [x, y], [T, T'] => aCopy P H T (e x) (e y)
  | _, _, _ => none
 | _ => none
section
variable {P : Program} {C : Cx}
theorem parts_of {e : Operand → AV} {ρ : Operand → Value} (h : ∀ x, Rv C (e x) (ρ x)) : ∀ l : List (Nat × Operand), Parts C (evP e l) (l.map fun (i, x) => (i, ρ x))
 | [] => .nil
 | (i, x) :: r => .cons i _ _ _ _ (h x) (parts_of h r)
theorem optR_of {e : Operand → AV} {ρ : Operand → Value} (h : ∀ x, Rv C (e x) (ρ x)) : ∀ o : Option Operand, OptR C (evO e o) (o.map ρ)
 | none => .none
 | some x => .some _ _ (h x)
theorem base_rb (G : Gam C) {a : AV} {v : Value} (h : Rv C a v) (hb : isBase C.H a = true) : Rb C a v := by
 cases a <;> first | exact h | cases hb
theorem rbs_of {e : Operand → AV} {ρ : Operand → Value} (G : Gam C) (h : ∀ x, Rv C (e x) (ρ x)) : ∀ l : List Operand, (evL e l).all (isBase C.H) = true → Rbs C (evL e l) (l.map ρ)
 | [], _ => ⟨rfl, fun j hj => by cases hj⟩
 | x :: r, hb => by
  simp only [evL, List.all_cons, Bool.and_eq_true] at hb
  have ih := rbs_of G h r hb.2
  refine ⟨by simp [evL, ih.1], fun j hj => ?_⟩
  cases j with
  | zero => exact base_rb G (h x) hb.1
  | succ j => simpa [evL] using ih.2 j (by simpa [evL] using hj)
theorem run_builtin {W : World} {ρ : Operand → Value} {c : Call} {ty : TypeId} {b : Builtin} (h : c.callee = .builtin b) :
    (do let d ← resolve ρ c ty; invoke d.target d.args).run P W = (builtin b c.argTypes ty (c.args.map fun | .const _ => true | _ => false) (c.args.map ρ)).run P W := by
  simp only [resolve, h, Sem.run_bind, Sem.run_pure, Result.andThen_ok, invoke]
  rfl
theorem does_congr {m m' : Sem Next} {r : Eff} (h : m.run P C.W = m'.run P C.W) (k : Does P C m' r) : Does P C m r := by
 obtain ⟨v, C', h1, h2⟩ := k
 exact ⟨v, C', by rw [h]; exact h1, h2⟩
theorem arr_of_list {α : Type} {a : Array α} {l : List α} (h : a.toList = l) : a = l.toArray := by rw [← h]
theorem aEff_ok (G : Gam C) {e : Operand → AV} {ρ : Operand → Value} {mu : Bool} {o : Nat} {op : Oper} {r : Rs} (he : ∀ x, Rv C (e x) (ρ x)) (h : aEff P C.H e mu o op.op = some r) (hl : allP r.obl) :
    Does P C (execOp ρ op) r.eff := by
  unfold execOp
  generalize op.op = q at h
  cases q <;> simp only [aEff] at h <;> try (cases h; done)
  case move x => obtain rfl := Option.some.inj h; exact does_val G rfl (he x)
  case assign x => obtain rfl := Option.some.inj h; exact does_val G rfl (he x)
  case pick c x y => exact aPick_ok G (he c) (he x) (he y) h
  case alloc T => exact aAlloc_ok G h
  case box T x => exact aBox_ok G (he x) h
  case build T ps => exact aBuild_ok G (by simpa using parts_of he ps.toList) h
  case buildSlice T n ps => exact aBuildSlice_ok G (by simpa using parts_of he ps.toList) h
  case load T x => exact aLoad_ok G (he x) h hl
  case store T x y => exact aStore_ok G (he x) (he y) h hl
  case nilCheck x =>
    have hx := he x
    generalize e x = a at h hx
    cases a <;> simp only [aNilC] at h <;> try (cases h; done)
    case ptr o g i j =>
      split at h
      · rename_i hc
        obtain rfl := Option.some.inj h
        have hx' := hx
        obtain ⟨ob, b, n, c, _, _, _, hv⟩ := ptr_cur hx hc
        exact does_val G (v := ρ x) (by simp [hv]) hx'
      · cases h
    case dp cs =>
      obtain rfl := Option.some.inj h
      have hx' := hx
      obtain ⟨b, off, u, hv, _⟩ := hx
      exact does_val G (v := ρ x) (by simp [hv]) hx'
  case binOp op T x y _ =>
    have hx := he x
    split at h
    · rename_i q g hq
      rw [hq] at hx
      exact aBinO_ok G hx (he y) h hl
    · exact aBin_ok G hx (he y) h hl
  case unOp op _ x => exact aUn_ok G (he x) h hl
  case convert S T x => exact aConv_ok G (he x) h hl
  case makeFunc fn first caps =>
    split at h
    · rename_i h1 h2
      obtain rfl := Option.some.inj h
      refine does_val G (v := .func fn (first.map ρ) (caps.map ρ)) rfl ⟨first.toList.map ρ, caps.toList.map ρ, ?_, rbs_of G he _ h1, rbs_of G he _ h2⟩
      congr 1 <;> (apply Array.toList_inj.1; simp)
    · cases h
  case makeSlice T x y => exact aMake_ok G (he x) (he y) h hl
  case makeMap T r =>
    cases r with
    | none => exact aMakeMap_ok G h
    | some _ => cases h
  case slice T x lo hi mx =>
    cases mx with
    | none =>
      simp only [] at h
      split at h
      · exact aSliceO_ok G (he x) (optR_of he lo) (optR_of he hi) h hl
      · exact aSlice_ok G (he x) (optR_of he lo) (optR_of he hi) h hl
    | some _ => cases h
  case fieldAddr T x k => exact aFieldAddr_ok G (he x) h
  case field T x k =>
    split at h
    · exact aField_ok G (he x) ‹_› h
    · cases h
  case indexAddr T x y =>
    split at h
    · exact aIndexW_ok G (he x) (he y) h hl
    · exact aIndexAddr_ok G (he x) (he y) h hl
  case index T x y => exact aIndexS_ok G (he x) (he y) h hl
  case extract x k => exact aExtract_ok G (he x) h
  case call c =>
    split at h
    · rename_i x T hc ha ht
      refine does_congr (m' := do pure (.value (← Builtin.len_ #[T] op.type #[ρ x]))) ((run_builtin hc).trans ?_) (aLenA_ok G (he x) h hl)
      rw [arr_of_list ha, arr_of_list ht]
      simp [builtin]
    · rename_i x y hc ha
      refine does_congr (m' := do pure (.value (← Builtin.min_ c.argTypes op.type #[ρ x, ρ y]))) ((run_builtin hc).trans ?_) (aMin_ok G (he x) (he y) h)
      rw [arr_of_list ha]
      simp [builtin]
    · rename_i x y hc ha
      refine does_congr (m' := do pure (.value (← Builtin.max_ c.argTypes op.type #[ρ x, ρ y]))) ((run_builtin hc).trans ?_) (aMax_ok G (he x) (he y) h)
      rw [arr_of_list ha]
      simp [builtin]
    · rename_i x y T T' hc ha ht
      split at h
      · rename_i hT
        obtain rfl := (beq_nat_iff _ _).1 hT
        refine does_congr (m' := do pure (.value (← Builtin.append_ #[T, T] op.type #[ρ x, ρ y]))) ((run_builtin hc).trans ?_) (aAppend_ok G (he x) (he y) h hl)
        rw [arr_of_list ha, arr_of_list ht]
        simp [builtin]
      · cases h
    · rename_i x y T T' hc ha ht
      refine does_congr (m' := do pure (.value (← Builtin.copy_ #[T, T'] op.type #[ρ x, ρ y]))) ((run_builtin hc).trans ?_) (aCopy_ok G (he x) (he y) h hl)
      rw [arr_of_list ha, arr_of_list ht]
      simp [builtin]
    · cases h
end
end Go.Proofs.YtedokpgkjcnoiaaGreat
