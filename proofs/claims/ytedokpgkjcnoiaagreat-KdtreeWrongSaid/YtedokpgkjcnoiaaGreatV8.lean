/- A map's block as the list of its entries, in the order in which they lie: look-up, store, delete, length, range; no program in sight. -/
import Derived.Maps.RangeWalk
import Derived.Maps.OwnOps
import Derived.Maps.OwnSet
import Derived.WalkKit
import Derived.WalkSpells
import Derived.WalkLawsBesides

set_option linter.unusedVariables false
set_option linter.unusedSimpArgs false
namespace Go.Proofs.YtedokpgkjcnoiaaGreat
open Go.Maps (Keyed)
open Go.ChangeMaps
open Go.MapKept

/-- block b is a map with just these entries (key, element), in this order -/
def Ents (P : Program) (k : TypeId) (w : World) (b : Nat) (L : List (Value × Value)) : Prop :=
 ∃ es clock, w.heap[b]? = some (.map es clock) ∧ Stamped es clock ∧ es.toList.map (fun e => (e.key, e.val)) = L ∧ ∀ x ∈ es.toList, ∃ l, keyOf P k x.key = some l
/-- .. and block r an iterator over it; the entries whose keys are 'left' are still to come -/
def Rng (P : Program) (k : TypeId) (w : World) (b r : Nat) (L : List (Value × Value)) (left : Value → Prop) : Prop :=
 ∃ es clock since seen c0, w.heap[b]? = some (.map es clock) ∧ Stamped es clock ∧ es.toList.map (fun e => (e.key, e.val)) = L ∧ (∀ x ∈ es.toList, ∃ l, keyOf P k x.key = some l) ∧
  w.heap[r]? = some (.mapIter (some b) since seen c0) ∧ (∀ x ∈ es.toList, x.born < since) ∧ since ≤ c0 ∧ since ≤ clock ∧
  (∀ x ∈ es.toList, left x.key ↔ seen.contains x.born = false) ∧ (∀ v, left v → ∃ x ∈ es.toList, x.key = v)

section
variable {P : Program} {k : TypeId} {w w' : World} {b r : Nat} {L : List (Value × Value)} {left : Value → Prop}

theorem Ents.made (w : World) (P : Program) (k : TypeId) : Ents P k (w.alloc (.map #[] 0)) w.heap.size [] :=
 ⟨#[], 0, (MapKept.heap_alloc w _).1, stamped_empty 0, rfl, fun x hx => by simp at hx⟩
theorem Ents.lt (h : Ents P k w b L) : b < w.heap.size := by
 obtain ⟨es, clock, hb, _⟩ := h
 exact (Array.getElem?_eq_some_iff.1 hb).1
theorem Ents.of_block (h : Ents P k w b L) (e : w'.heap[b]? = w.heap[b]?) : Ents P k w' b L := by
 obtain ⟨es, clock, hb, r⟩ := h
 exact ⟨es, clock, e.trans hb, r⟩
theorem Ents.nodup (h : Ents P k w b L) : (L.map Prod.fst).Nodup := by
 obtain ⟨es, clock, _, hs, rfl, _⟩ := h
 rw [List.map_map]
 exact hs.2.2
theorem Ents.look_in (h : Ents P k w b L) (K : Keyed P k) {t e : TypeId} (ht : P.underlying t = some (.map k e)) {key val : Value} {kl : Lit} (hkey : keyOf P k key = some kl) (hm : (key, val) ∈ L) (c : Bool) :
    (Instr.lookup t (.map (some b)) key c).run P w = .ok (if c then .tuple #[val, .bool true] else val) w := by
  obtain ⟨es, clock, hb, hs, rfl, hk⟩ := h
  obtain ⟨e1, he1, he2⟩ := List.mem_map.1 hm
  simp only [Prod.mk.injEq] at he2
  rcases K.find w hkey es.toList hk with ⟨h1, h2⟩ | ⟨j, e0, h1, h2, h3⟩
  · exact absurd he2.1 (h2 e1 he1)
  · have e01 : e0 = e1 := entry_eq_of_key ((stamped_iff es clock).1 hs).2.2 (List.mem_of_getElem? h2) he1 (h3.trans he2.1.symm)
    subst e01
    simp [Instr.lookup, run_underlying ht, MapKept.run_getObj_map hb, K.check w _ hkey, h1, Result.andThen, he2.2]

theorem Ents.look_out (h : Ents P k w b L) (K : Keyed P k) {t e : TypeId} (ht : P.underlying t = some (.map k e)) {z : Value} (hz : (zeroValue e).run P w = .ok z w) {key : Value} {kl : Lit} (hkey : keyOf P k key = some kl) (hm : ∀ x ∈ L, x.1 ≠ key) (c : Bool) :
    (Instr.lookup t (.map (some b)) key c).run P w = .ok (if c then .tuple #[z, .bool false] else z) w := by
  obtain ⟨es, clock, hb, hs, rfl, hk⟩ := h
  rcases K.find w hkey es.toList hk with ⟨h1, h2⟩ | ⟨j, e0, h1, h2, h3⟩
  · simp [Instr.lookup, run_underlying ht, MapKept.run_getObj_map hb, K.check w _ hkey, h1, hz, Result.andThen]
  · exact absurd h3 (hm _ (List.mem_map.2 ⟨e0, List.mem_of_getElem? h2, rfl⟩))

theorem Ents.put_out (h : Ents P k w b L) (K : Keyed P k) {t e : TypeId} (ht : P.underlying t = some (.map k e)) {key val : Value} {kl : Lit} (hkey : keyOf P k key = some kl) (hm : ∀ x ∈ L, x.1 ≠ key) :
    ∃ o, (Instr.mapUpdate t (.map (some b)) key val).run P w = .ok () (setBlock w b o) ∧ Ents P k (setBlock w b o) b (L ++ [(key, val)]) := by
  obtain ⟨es, clock, hb, hs, rfl, hk⟩ := h
  rcases K.find w hkey es.toList hk with ⟨h1, h2⟩ | ⟨j, e0, h1, h2, h3⟩
  · refine ⟨.map (es.push ⟨key, val, clock⟩) (clock + 1), ?_, es.push ⟨key, val, clock⟩, clock + 1, heap_setBlock_same hb _, stamped_push hs h2, by simp, fun x hx => ?_⟩
    · simp [Instr.mapUpdate, run_underlying ht, MapKept.run_getObj_map hb, K.check w false hkey, h1, MapKept.run_setObj_map _ hb, Result.andThen, setBlock]
    · simp only [Array.toList_push, List.mem_append, List.mem_singleton] at hx
      rcases hx with hx | rfl
      · exact hk x hx
      · exact ⟨kl, hkey⟩
  · exact absurd h3 (hm _ (List.mem_map.2 ⟨e0, List.mem_of_getElem? h2, rfl⟩))

/-- a store of what is there -/
theorem Ents.put_same (h : Ents P k w b L) (K : Keyed P k) {t e : TypeId} (ht : P.underlying t = some (.map k e)) {key val : Value} {kl : Lit} (hkey : keyOf P k key = some kl) (hm : (key, val) ∈ L) :
    ∃ o, (Instr.mapUpdate t (.map (some b)) key val).run P w = .ok () (setBlock w b o) ∧ Ents P k (setBlock w b o) b L := by
  obtain ⟨es, clock, hb, hs, rfl, hk⟩ := h
  obtain ⟨e1, he1, he2⟩ := List.mem_map.1 hm
  simp only [Prod.mk.injEq] at he2
  rcases K.find w hkey es.toList hk with ⟨h1, h2⟩ | ⟨j, e0, h1, h2, h3⟩
  · exact absurd he2.1 (h2 e1 he1)
  · have e01 : e0 = e1 := entry_eq_of_key ((stamped_iff es clock).1 hs).2.2 (List.mem_of_getElem? h2) he1 (h3.trans he2.1.symm)
    subst e01
    have hj : es[j]? = some e0 := by simpa using h2
    have hsame : es.modify j (fun e' => { e' with key := key, val := val }) = es := by
      apply Array.ext_getElem?
      intro i
      rw [Array.getElem?_modify]
      split
      · rename_i hi; subst hi
        rw [hj]
        obtain ⟨k0, v0, b0⟩ := e0
        simp only at he2
        obtain ⟨rfl, rfl⟩ := he2
        rfl
      · rfl
    refine ⟨.map es clock, ?_, es, clock, heap_setBlock_same hb _, hs, rfl, hk⟩
    have := hsame
    simp [Instr.mapUpdate, run_underlying ht, MapKept.run_getObj_map hb, K.check w false hkey, h1, hj, h3, K.stays w hkey, MapKept.run_setObj_map _ hb, Result.andThen, setBlock, hsame]

theorem erase_eq_filter {α β : Type} (f : α → β) : ∀ (l : List α) (j : Nat) (e : α), l[j]? = some e → (l.map f).Nodup → ∀ q : α → Bool, (∀ x ∈ l, q x = true ↔ f x ≠ f e) → l.eraseIdx j = l.filter q
 | [], j, e, h, _, _, _ => by simp at h
 | a :: l, 0, e, h, hn, q, hq => by
  simp only [List.getElem?_cons_zero, Option.some.injEq] at h
  subst h
  rw [List.map_cons, List.nodup_cons] at hn
  have h0 : q a = false := by
   cases hc : q a
   ·rfl
   ·exact absurd rfl ((hq a (by simp)).1 hc)
  rw [List.eraseIdx_cons_zero, List.filter_cons, h0]
  simp only [Bool.false_eq_true, if_false]
  refine (List.filter_eq_self.2 fun x hx => (hq x (by simp [hx])).2 fun e1 => hn.1 (e1 ▸ List.mem_map.2 ⟨x, hx, rfl⟩)).symm
 | a :: l, j + 1, e, h, hn, q, hq => by
  simp only [List.getElem?_cons_succ] at h
  rw [List.map_cons, List.nodup_cons] at hn
  have h1 : q a = true := (hq a (by simp)).2 fun e1 => hn.1 (e1 ▸ List.mem_map.2 ⟨e, List.mem_of_getElem? h, rfl⟩)
  rw [List.eraseIdx_cons_succ, List.filter_cons, if_pos h1, erase_eq_filter f l j e h hn.2 q fun x hx => hq x (by simp [hx])]

theorem Ents.len (h : Ents P k w b L) {t e : TypeId} (ht : P.underlying t = some (.map k e)) (ty : TypeId) : (Builtin.len_ #[t] ty #[.map (some b)]).run P w = .ok (.int .i64 L.length) w := by
 obtain ⟨es, clock, hb, hs, rfl, hk⟩ := h
 simp [Builtin.len_, run_underlying ht, MapKept.run_getObj_map hb, Result.andThen, goInt]

theorem Rng.ne (h : Rng P k w b r L left) : r ≠ b := by
 obtain ⟨es, clock, since, seen, c0, hb, _, _, _, hr, _⟩ := h
 rintro rfl
 rw [hb] at hr
 cases hr
theorem Rng.of_block (h : Rng P k w b r L left) (e : w'.heap[b]? = w.heap[b]?) (e' : w'.heap[r]? = w.heap[r]?) : Rng P k w' b r L left := by
 obtain ⟨es, clock, since, seen, c0, hb, hs, hL, hk, hr, x⟩ := h
 exact ⟨es, clock, since, seen, c0, e.trans hb, hs, hL, hk, e'.trans hr, x⟩
/-- delete, outside of a range -/
theorem Ents.del (h : Ents P k w b L) (K : Keyed P k) {t e : TypeId} (ht : P.underlying t = some (.map k e)) {key : Value} {kl : Lit} (hkey : keyOf P k key = some kl) (ty : TypeId) (q : Value × Value → Bool) (hq : ∀ x ∈ L, q x = true ↔ x.1 ≠ key) :
    ∃ o, (Builtin.delete_ #[t, k] ty #[.map (some b), key]).run P w = .ok (.tuple #[]) (setBlock w b o) ∧ Ents P k (setBlock w b o) b (L.filter q) := by
  obtain ⟨es, clock, hb, hs, rfl, hk⟩ := h
  rcases K.find w hkey es.toList hk with ⟨h1, h2⟩ | ⟨j, e0, h1, h2, h3⟩
  · refine ⟨.map es clock, ?_, es, clock, heap_setBlock_same hb _, hs, ?_, hk⟩
    · simp [Builtin.delete_, run_underlying ht, MapKept.run_getObj_map hb, K.check w _ hkey, h1, MapKept.run_setObj_map _ hb, Result.andThen, setBlock]
    · refine (List.filter_eq_self.2 fun x hx => (hq x hx).2 ?_).symm
      obtain ⟨e1, he1, rfl⟩ := List.mem_map.1 hx
      exact h2 e1 he1
  · have hjs : j < es.size := by simpa using (List.getElem?_eq_some_iff.1 h2).1
    have hsub : (es.eraseIdxIfInBounds j).toList = es.toList.eraseIdx j := by
      unfold Array.eraseIdxIfInBounds
      rw [dif_pos hjs]
      simp
    refine ⟨.map (es.eraseIdxIfInBounds j) clock, ?_, es.eraseIdxIfInBounds j, clock, heap_setBlock_same hb _, stamped_erase hs j, ?_, fun x hx => ?_⟩
    · simp [Builtin.delete_, run_underlying ht, MapKept.run_getObj_map hb, K.check w _ hkey, h1, MapKept.run_setObj_map _ hb, Result.andThen, setBlock]
    · rw [hsub, List.filter_map]
      congr 1
      refine erase_eq_filter (fun e : MapEntry => e.key) es.toList j e0 h2 hs.2.2 _ fun x hx => ?_
      rw [h3]
      exact hq _ (List.mem_map.2 ⟨x, hx, rfl⟩)
    · rw [hsub] at hx
      exact hk x ((List.eraseIdx_sublist _ _).subset hx)
/-- delete of a key that has come, inside a range -/
theorem Rng.del (h : Rng P k w b r L left) (K : Keyed P k) {t e : TypeId} (ht : P.underlying t = some (.map k e)) {key : Value} {kl : Lit} (hkey : keyOf P k key = some kl) (ty : TypeId) (q : Value × Value → Bool) (hq : ∀ x ∈ L, q x = true ↔ x.1 ≠ key) (hl : ¬ left key) :
    ∃ o, (Builtin.delete_ #[t, k] ty #[.map (some b), key]).run P w = .ok (.tuple #[]) (setBlock w b o) ∧ Rng P k (setBlock w b o) b r (L.filter q) left ∧ (setBlock w b o).rangeLeft b r ≤ w.rangeLeft b r := by
  have hne := h.ne
  obtain ⟨es, clock, since, seen, c0, hb, hs, rfl, hk, hr, hold, hsc, hsk, hl1, hl2⟩ := h
  have hr' : ∀ o, (setBlock w b o).heap[r]? = some (.mapIter (some b) since seen c0) := fun o => (heap_setBlock_other hb o hne).trans hr
  rcases K.find w hkey es.toList hk with ⟨h1, h2⟩ | ⟨j, e0, h1, h2, h3⟩
  · refine ⟨.map es clock, ?_, ⟨es, clock, since, seen, c0, heap_setBlock_same hb _, hs, ?_, hk, hr' _, hold, hsc, hsk, hl1, hl2⟩, ?_⟩
    · simp [Builtin.delete_, run_underlying ht, MapKept.run_getObj_map hb, K.check w _ hkey, h1, MapKept.run_setObj_map _ hb, Result.andThen, setBlock]
    · refine (List.filter_eq_self.2 fun x hx => (hq x hx).2 ?_).symm
      obtain ⟨e1, he1, rfl⟩ := List.mem_map.1 hx
      exact h2 e1 he1
    · unfold World.rangeLeft
      rw [heap_setBlock_same hb _, hr' _, hb, hr]
      exact Nat.le_refl _
  · have hjs : j < es.size := by simpa using (List.getElem?_eq_some_iff.1 h2).1
    have hsub : (es.eraseIdxIfInBounds j).toList = es.toList.eraseIdx j := by
      unfold Array.eraseIdxIfInBounds
      rw [dif_pos hjs]
      simp
    have hmem : ∀ x ∈ (es.eraseIdxIfInBounds j).toList, x ∈ es.toList := fun x hx => by
      rw [hsub] at hx
      exact (List.eraseIdx_sublist _ _).subset hx
    have hfil : (es.eraseIdxIfInBounds j).toList.map (fun e => (e.key, e.val)) = (es.toList.map (fun e => (e.key, e.val))).filter q := by
      rw [hsub, List.filter_map]
      congr 1
      refine erase_eq_filter (fun e : MapEntry => e.key) es.toList j e0 h2 hs.2.2 _ fun x hx => ?_
      rw [h3]
      exact hq _ (List.mem_map.2 ⟨x, hx, rfl⟩)
    refine ⟨.map (es.eraseIdxIfInBounds j) clock, ?_, ⟨es.eraseIdxIfInBounds j, clock, since, seen, c0, heap_setBlock_same hb _, stamped_erase hs j, hfil, fun x hx => hk x (hmem x hx), hr' _, fun x hx => hold x (hmem x hx), hsc, hsk, fun x hx => hl1 x (hmem x hx), fun v hv => ?_⟩, ?_⟩
    · simp [Builtin.delete_, run_underlying ht, MapKept.run_getObj_map hb, K.check w _ hkey, h1, MapKept.run_setObj_map _ hb, Result.andThen, setBlock]
    · obtain ⟨x, hx, rfl⟩ := hl2 v hv
      have hxk : x.key ≠ key := fun e1 => hl (e1 ▸ hv)
      have : (x.key, x.val) ∈ (es.toList.map (fun e => (e.key, e.val))).filter q := List.mem_filter.2 ⟨List.mem_map.2 ⟨x, hx, rfl⟩, (hq _ (List.mem_map.2 ⟨x, hx, rfl⟩)).2 hxk⟩
      rw [← hfil] at this
      obtain ⟨y, hy, hyx⟩ := List.mem_map.1 this
      exact ⟨y, hy, (Prod.mk.injEq .. ▸ hyx).1⟩
    · unfold World.rangeLeft
      rw [heap_setBlock_same hb _, hr' _, hb, hr]
      show (leftOf (es.eraseIdxIfInBounds j) seen).size ≤ (leftOf es seen).size
      have e1 : ∀ x : Array MapEntry, (leftOf x seen).size = (x.toList.filter fun e => !seen.contains e.born).length := fun x => by
        unfold leftOf
        rw [← Array.length_toList, Array.toList_filter]
      rw [e1, e1, hsub]
      exact (List.Sublist.filter _ (List.eraseIdx_sublist _ _)).length_le
end

/-! ### at the operation, for the walk -/
section
variable {P : Program} {w : World} {ops : Array Oper} {rest : List Oper} {o : Oper} {a : Act} {Q : Exit → Act → World → Prop}
end
end Go.Proofs.YtedokpgkjcnoiaaGreat
