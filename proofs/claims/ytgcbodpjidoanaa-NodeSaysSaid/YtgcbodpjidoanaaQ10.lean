/- A map's block as the list of its entries, in the order in which they lie: look-up, store, delete, length, range; no program in sight. Digests as a map's keys. Contracts of codec.Writer's Row, Digest, Bytes. Contract of codec.Writer's Digest. -/
import Derived.Maps.RangeWalk
import Derived.Maps.OwnOps
import Derived.Maps.OwnSet
import Derived.DeepKeys4
import Derived.Test.YtgcbodpjidoanaaQ1
import Derived.Test.YtgcbodpjidoanaaQ8
import Derived.Test.YtgcbodpjidoanaaQ9
set_option linter.unusedVariables false
set_option linter.unusedSimpArgs false
namespace Go.Proofs.Ytgcbodpjidoanaa
open Go.Maps (Keyed)
open Go.ChangeMaps
open Go.MapKept

/-- block b is a map with just these entries (key, element), in this order -/
def Ents (P : Program) (k : TypeId) (w : World) (b : Nat) (L : List (Value × Value)) : Prop :=
  ∃ es clock, w.heap[b]? = some (.map es clock) ∧ Stamped es clock ∧ es.toList.map (fun e => (e.key, e.val)) = L ∧ ∀ x ∈ es.toList, ∃ l, keyOf P k x.key = some l
/-- .. and block r an iterator over it; the entries whose keys are 'left' are still to come -/
def Rng (P : Program) (k : TypeId) (w : World) (b r : Nat) (L : List (Value × Value)) (left : Value → Prop) : Prop :=
  ∃ es clock since seen c0, w.heap[b]? = some (.map es clock) ∧ Stamped es clock ∧ es.toList.map (fun e => (e.key, e.val)) = L ∧ (∀ x ∈ es.toList, ∃ l, keyOf P k x.key = some l) ∧
    w.heap[r]? = some (.mapIter (some b) since seen c0) ∧ (∀ x ∈ es.toList, x.born < since) ∧ since ≤ c0 ∧ since ≤ clock ∧
    (∀ x ∈ es.toList, left x.key ↔ seen.contains x.born = false) ∧ (∀ v, left v → ∃ x ∈ es.toList, x.key = v)

section
variable {P : Program} {k : TypeId} {w w' : World} {b r : Nat} {L : List (Value × Value)} {left : Value → Prop}

theorem Ents.made (w : World) (P : Program) (k : TypeId) : Ents P k (w.alloc (.map #[] 0)) w.heap.size [] :=
  ⟨#[], 0, (MapKept.heap_alloc w _).1, stamped_empty 0, rfl, fun x hx => by simp at hx⟩
theorem Ents.lt (h : Ents P k w b L) : b < w.heap.size := by
  obtain ⟨es, clock, hb, _⟩ := h
  exact (Array.getElem?_eq_some_iff.1 hb).1
theorem Ents.of_block (h : Ents P k w b L) (e : w'.heap[b]? = w.heap[b]?) : Ents P k w' b L := by
  obtain ⟨es, clock, hb, r⟩ := h
  exact ⟨es, clock, e.trans hb, r⟩
theorem Ents.look_in (h : Ents P k w b L) (K : Keyed P k) {t e : TypeId} (ht : P.underlying t = some (.map k e)) {key val : Value} {kl : Lit} (hkey : keyOf P k key = some kl) (hm : (key, val) ∈ L) (c : Bool) :
    (Instr.lookup t (.map (some b)) key c).run P w = .ok (if c then .tuple #[val, .bool true] else val) w := by
  obtain ⟨es, clock, hb, hs, rfl, hk⟩ := h
  obtain ⟨e1, he1, he2⟩ := List.mem_map.1 hm
  simp only [Prod.mk.injEq] at he2
  rcases K.find w hkey es.toList hk with ⟨h1, h2⟩ | ⟨j, e0, h1, h2, h3⟩
  · exact absurd he2.1 (h2 e1 he1)
  · have e01 : e0 = e1 := entry_eq_of_key ((stamped_iff es clock).1 hs).2.2 (List.mem_of_getElem? h2) he1 (h3.trans he2.1.symm)
    subst e01
    simp [Instr.lookup, run_underlying ht, MapKept.run_getObj_map hb, K.check w _ hkey, h1, Result.andThen, he2.2]

theorem Ents.look_out (h : Ents P k w b L) (K : Keyed P k) {t e : TypeId} (ht : P.underlying t = some (.map k e)) {z : Value} (hz : (zeroValue e).run P w = .ok z w) {key : Value} {kl : Lit} (hkey : keyOf P k key = some kl) (hm : ∀ x ∈ L, x.1 ≠ key) (c : Bool) :
    (Instr.lookup t (.map (some b)) key c).run P w = .ok (if c then .tuple #[z, .bool false] else z) w := by
  obtain ⟨es, clock, hb, hs, rfl, hk⟩ := h
  rcases K.find w hkey es.toList hk with ⟨h1, h2⟩ | ⟨j, e0, h1, h2, h3⟩
  · simp [Instr.lookup, run_underlying ht, MapKept.run_getObj_map hb, K.check w _ hkey, h1, hz, Result.andThen]
  · exact absurd h3 (hm _ (List.mem_map.2 ⟨e0, List.mem_of_getElem? h2, rfl⟩))

theorem Ents.put_out (h : Ents P k w b L) (K : Keyed P k) {t e : TypeId} (ht : P.underlying t = some (.map k e)) {key val : Value} {kl : Lit} (hkey : keyOf P k key = some kl) (hm : ∀ x ∈ L, x.1 ≠ key) :
    ∃ o, (Instr.mapUpdate t (.map (some b)) key val).run P w = .ok () (setBlock w b o) ∧ Ents P k (setBlock w b o) b (L ++ [(key, val)]) := by
  obtain ⟨es, clock, hb, hs, rfl, hk⟩ := h
  rcases K.find w hkey es.toList hk with ⟨h1, h2⟩ | ⟨j, e0, h1, h2, h3⟩
  · refine ⟨.map (es.push ⟨key, val, clock⟩) (clock + 1), ?_, es.push ⟨key, val, clock⟩, clock + 1, heap_setBlock_same hb _, stamped_push hs h2, by simp, fun x hx => ?_⟩
    · simp [Instr.mapUpdate, run_underlying ht, MapKept.run_getObj_map hb, K.check w false hkey, h1, MapKept.run_setObj_map _ hb, Result.andThen, setBlock]
    · simp only [Array.toList_push, List.mem_append, List.mem_singleton] at hx
      rcases hx with hx | rfl
      · exact hk x hx
      · exact ⟨kl, hkey⟩
  · exact absurd h3 (hm _ (List.mem_map.2 ⟨e0, List.mem_of_getElem? h2, rfl⟩))

theorem erase_eq_filter {α β : Type} (f : α → β) : ∀ (l : List α) (j : Nat) (e : α), l[j]? = some e → (l.map f).Nodup → ∀ q : α → Bool, (∀ x ∈ l, q x = true ↔ f x ≠ f e) → l.eraseIdx j = l.filter q
  | [], j, e, h, _, _, _ => by simp at h
  | a :: l, 0, e, h, hn, q, hq => by
    simp only [List.getElem?_cons_zero, Option.some.injEq] at h
    subst h
    rw [List.map_cons, List.nodup_cons] at hn
    have h0 : q a = false := by
      cases hc : q a
      · rfl
      · exact absurd rfl ((hq a (by simp)).1 hc)
    rw [List.eraseIdx_cons_zero, List.filter_cons, h0]
    simp only [Bool.false_eq_true, if_false]
    refine (List.filter_eq_self.2 fun x hx => (hq x (by simp [hx])).2 fun e1 => hn.1 (e1 ▸ List.mem_map.2 ⟨x, hx, rfl⟩)).symm
  | a :: l, j + 1, e, h, hn, q, hq => by
    simp only [List.getElem?_cons_succ] at h
    rw [List.map_cons, List.nodup_cons] at hn
    have h1 : q a = true := (hq a (by simp)).2 fun e1 => hn.1 (e1 ▸ List.mem_map.2 ⟨e, List.mem_of_getElem? h, rfl⟩)
    rw [List.eraseIdx_cons_succ, List.filter_cons, if_pos h1, erase_eq_filter f l j e h hn.2 q fun x hx => hq x (by simp [hx])]

theorem Ents.len (h : Ents P k w b L) {t e : TypeId} (ht : P.underlying t = some (.map k e)) (ty : TypeId) : (Builtin.len_ #[t] ty #[.map (some b)]).run P w = .ok (.int .i64 L.length) w := by
  obtain ⟨es, clock, hb, hs, rfl, hk⟩ := h
  simp [Builtin.len_, run_underlying ht, MapKept.run_getObj_map hb, Result.andThen, goInt]

theorem Rng.ne (h : Rng P k w b r L left) : r ≠ b := by
  obtain ⟨es, clock, since, seen, c0, hb, _, _, _, hr, _⟩ := h
  rintro rfl
  rw [hb] at hr
  cases hr
theorem Rng.of_block (h : Rng P k w b r L left) (e : w'.heap[b]? = w.heap[b]?) (e' : w'.heap[r]? = w.heap[r]?) : Rng P k w' b r L left := by
  obtain ⟨es, clock, since, seen, c0, hb, hs, hL, hk, hr, x⟩ := h
  exact ⟨es, clock, since, seen, c0, e.trans hb, hs, hL, hk, e'.trans hr, x⟩
theorem Rng.next (h : Rng P k w b r L left) (ty : TypeId) :
    ((∀ v, ¬ left v) ∧ (Instr.next (.pointer (some ⟨r, 0, none⟩)) false ty).run P w = .ok (.tuple #[.bool false]) w) ∨
    ∃ key val w', (key, val) ∈ L ∧ left key ∧ (Instr.next (.pointer (some ⟨r, 0, none⟩)) false ty).run P w = .ok (.tuple #[.bool true, key, val]) w' ∧
      Rng P k w' b r L (fun v => left v ∧ v ≠ key) ∧ w'.rangeLeft b r < w.rangeLeft b r ∧ w.grownBy w' (some r) ∧ w'.heap.size = w.heap.size ∧ (Instr.entry (.pointer (some ⟨r, 0, none⟩))).run P w' = .ok (.tuple #[key, val]) w' := by
  have hne := h.ne
  obtain ⟨es, clock, since, seen, c0, hb, hs, rfl, hk, hr, hold, hsc, hsk, hl1, hl2⟩ := h
  rcases run_next_at (P := P) w ty r b since c0 seen es clock hr hb hold hsc with ⟨h0, hrun⟩ | ⟨e, he, w1, hal, hrun⟩
  · refine Or.inl ⟨fun v hv => ?_, hrun⟩
    obtain ⟨x, hx, rfl⟩ := hl2 v hv
    have := (hl1 x hx).1 hv
    rw [all_seen es seen h0 x hx] at this
    cases this
  · obtain ⟨hem, hes⟩ := mem_left he
    have hr1 : w1.heap[r]? = some (.mapIter (some b) since seen c0) := by rcases hal with rfl | rfl <;> exact hr
    have hb1 : w1.heap[b]? = some (.map es clock) := by rcases hal with rfl | rfl <;> exact hb
    have hset := heap_set (o' := .mapIter (some b) since (seen.push e.born) clock) hr1
    have hb' : (setBlock w1 r (.mapIter (some b) since (seen.push e.born) clock)).heap[b]? = some (.map es clock) := (hset.2 b (fun e1 => hne e1.symm)).trans hb1
    have hst := (stamped_iff es clock).1 hs
    refine Or.inr ⟨e.key, e.val, _, List.mem_map.2 ⟨e, hem, rfl⟩, (hl1 e hem).2 hes, hrun,
      ⟨es, clock, since, seen.push e.born, clock, hb', hs, rfl, hk, hset.1, hold, hsk, hsk, fun x hx => ?_, fun v hv => hl2 v hv.1⟩, ?_, ?_, ?_,
      run_entry_at _ r b since seen es clock e hset.1 hb' hem hst.2.1⟩
    · rw [contains_push]
      constructor
      · rintro ⟨h1, h2⟩
        rw [(hl1 x hx).1 h1]
        have : x.born ≠ e.born := fun e1 => h2 (by rw [born_inj hst.2.1 hx hem e1])
        simp [this]
      · intro h1
        simp only [Bool.or_eq_false_iff] at h1
        refine ⟨(hl1 x hx).2 h1.1, fun e1 => ?_⟩
        have : x = e := entry_eq_of_key hst.2.2 hx hem e1
        rw [this] at h1
        simp at h1
    · have hr2 : (setBlock w1 r (.mapIter (some b) since (seen.push e.born) clock)).heap[r]? = some (.mapIter (some b) since (seen.push e.born) clock) := hset.1
      unfold World.rangeLeft
      rw [hb', hr2, hb, hr]
      exact left_shrinks es seen e he
    · rcases hal with rfl | rfl <;> exact ⟨rfl, rfl, rfl, by simp [setBlock], fun i _ hi => hset.2 i (fun e1 => hi (by rw [e1]))⟩
    · rcases hal with rfl | rfl <;> simp [setBlock]

/-- delete, outside of a range -/
theorem Ents.del (h : Ents P k w b L) (K : Keyed P k) {t e : TypeId} (ht : P.underlying t = some (.map k e)) {key : Value} {kl : Lit} (hkey : keyOf P k key = some kl) (ty : TypeId) (q : Value × Value → Bool) (hq : ∀ x ∈ L, q x = true ↔ x.1 ≠ key) :
    ∃ o, (Builtin.delete_ #[t, k] ty #[.map (some b), key]).run P w = .ok (.tuple #[]) (setBlock w b o) ∧ Ents P k (setBlock w b o) b (L.filter q) := by
  obtain ⟨es, clock, hb, hs, rfl, hk⟩ := h
  rcases K.find w hkey es.toList hk with ⟨h1, h2⟩ | ⟨j, e0, h1, h2, h3⟩
  · refine ⟨.map es clock, ?_, es, clock, heap_setBlock_same hb _, hs, ?_, hk⟩
    · simp [Builtin.delete_, run_underlying ht, MapKept.run_getObj_map hb, K.check w _ hkey, h1, MapKept.run_setObj_map _ hb, Result.andThen, setBlock]
    · refine (List.filter_eq_self.2 fun x hx => (hq x hx).2 ?_).symm
      obtain ⟨e1, he1, rfl⟩ := List.mem_map.1 hx
      exact h2 e1 he1
  · have hjs : j < es.size := by simpa using (List.getElem?_eq_some_iff.1 h2).1
    have hsub : (es.eraseIdxIfInBounds j).toList = es.toList.eraseIdx j := by
      unfold Array.eraseIdxIfInBounds
      rw [dif_pos hjs]
      simp
    refine ⟨.map (es.eraseIdxIfInBounds j) clock, ?_, es.eraseIdxIfInBounds j, clock, heap_setBlock_same hb _, stamped_erase hs j, ?_, fun x hx => ?_⟩
    · simp [Builtin.delete_, run_underlying ht, MapKept.run_getObj_map hb, K.check w _ hkey, h1, MapKept.run_setObj_map _ hb, Result.andThen, setBlock]
    · rw [hsub, List.filter_map]
      congr 1
      refine erase_eq_filter (fun e : MapEntry => e.key) es.toList j e0 h2 hs.2.2 _ fun x hx => ?_
      rw [h3]
      exact hq _ (List.mem_map.2 ⟨x, hx, rfl⟩)
    · rw [hsub] at hx
      exact hk x ((List.eraseIdx_sublist _ _).subset hx)
/-- delete of a key that has come, inside a range -/
theorem Rng.del (h : Rng P k w b r L left) (K : Keyed P k) {t e : TypeId} (ht : P.underlying t = some (.map k e)) {key : Value} {kl : Lit} (hkey : keyOf P k key = some kl) (ty : TypeId) (q : Value × Value → Bool) (hq : ∀ x ∈ L, q x = true ↔ x.1 ≠ key) (hl : ¬ left key) :
    ∃ o, (Builtin.delete_ #[t, k] ty #[.map (some b), key]).run P w = .ok (.tuple #[]) (setBlock w b o) ∧ Rng P k (setBlock w b o) b r (L.filter q) left ∧ (setBlock w b o).rangeLeft b r ≤ w.rangeLeft b r := by
  have hne := h.ne
  obtain ⟨es, clock, since, seen, c0, hb, hs, rfl, hk, hr, hold, hsc, hsk, hl1, hl2⟩ := h
  have hr' : ∀ o, (setBlock w b o).heap[r]? = some (.mapIter (some b) since seen c0) := fun o => (heap_setBlock_other hb o hne).trans hr
  rcases K.find w hkey es.toList hk with ⟨h1, h2⟩ | ⟨j, e0, h1, h2, h3⟩
  · refine ⟨.map es clock, ?_, ⟨es, clock, since, seen, c0, heap_setBlock_same hb _, hs, ?_, hk, hr' _, hold, hsc, hsk, hl1, hl2⟩, ?_⟩
    · simp [Builtin.delete_, run_underlying ht, MapKept.run_getObj_map hb, K.check w _ hkey, h1, MapKept.run_setObj_map _ hb, Result.andThen, setBlock]
    · refine (List.filter_eq_self.2 fun x hx => (hq x hx).2 ?_).symm
      obtain ⟨e1, he1, rfl⟩ := List.mem_map.1 hx
      exact h2 e1 he1
    · unfold World.rangeLeft
      rw [heap_setBlock_same hb _, hr' _, hb, hr]
      exact Nat.le_refl _
  · have hjs : j < es.size := by simpa using (List.getElem?_eq_some_iff.1 h2).1
    have hsub : (es.eraseIdxIfInBounds j).toList = es.toList.eraseIdx j := by
      unfold Array.eraseIdxIfInBounds
      rw [dif_pos hjs]
      simp
    have hmem : ∀ x ∈ (es.eraseIdxIfInBounds j).toList, x ∈ es.toList := fun x hx => by
      rw [hsub] at hx
      exact (List.eraseIdx_sublist _ _).subset hx
    have hfil : (es.eraseIdxIfInBounds j).toList.map (fun e => (e.key, e.val)) = (es.toList.map (fun e => (e.key, e.val))).filter q := by
      rw [hsub, List.filter_map]
      congr 1
      refine erase_eq_filter (fun e : MapEntry => e.key) es.toList j e0 h2 hs.2.2 _ fun x hx => ?_
      rw [h3]
      exact hq _ (List.mem_map.2 ⟨x, hx, rfl⟩)
    refine ⟨.map (es.eraseIdxIfInBounds j) clock, ?_, ⟨es.eraseIdxIfInBounds j, clock, since, seen, c0, heap_setBlock_same hb _, stamped_erase hs j, hfil, fun x hx => hk x (hmem x hx), hr' _, fun x hx => hold x (hmem x hx), hsc, hsk, fun x hx => hl1 x (hmem x hx), fun v hv => ?_⟩, ?_⟩
    · simp [Builtin.delete_, run_underlying ht, MapKept.run_getObj_map hb, K.check w _ hkey, h1, MapKept.run_setObj_map _ hb, Result.andThen, setBlock]
    · obtain ⟨x, hx, rfl⟩ := hl2 v hv
      have hxk : x.key ≠ key := fun e1 => hl (e1 ▸ hv)
      have : (x.key, x.val) ∈ (es.toList.map (fun e => (e.key, e.val))).filter q := List.mem_filter.2 ⟨List.mem_map.2 ⟨x, hx, rfl⟩, (hq _ (List.mem_map.2 ⟨x, hx, rfl⟩)).2 hxk⟩
      rw [← hfil] at this
      obtain ⟨y, hy, hyx⟩ := List.mem_map.1 this
      exact ⟨y, hy, (Prod.mk.injEq .. ▸ hyx).1⟩
    · unfold World.rangeLeft
      rw [heap_setBlock_same hb _, hr' _, hb, hr]
      show (leftOf (es.eraseIdxIfInBounds j) seen).size ≤ (leftOf es seen).size
      have e1 : ∀ x : Array MapEntry, (leftOf x seen).size = (x.toList.filter fun e => !seen.contains e.born).length := fun x => by
        unfold leftOf
        rw [← Array.length_toList, Array.toList_filter]
      rw [e1, e1, hsub]
      exact (List.Sublist.filter _ (List.eraseIdx_sublist _ _)).length_le
end

/-! ### at the operation, for the walk -/
section
variable {P : Program} {w : World} {ops : Array Oper} {rest : List Oper} {o : Oper} {a : Act} {Q : Exit → Act → World → Prop}
theorem exec_look (t : TypeId) (m x : Operand) (c : Bool) (hop : o.op = Op.lookup t m x c) (vm vx v : Value) (hm : a.eval m = vm) (hx : a.eval x = vx) (hrun : (Instr.lookup t vm vx c).run P w = .ok v w) : (execOp a.eval o).run P w = .ok (.value v) w := by
  simp [execOp, hop, hm, hx, hrun, Result.andThen]
theorem wpList_upd (hg : o.guard = none) (m x y : Operand) (t : TypeId) (hop : o.op = Op.mapUpdate t m x y) (vm vx vy : Value) (w' : World) (hm : a.eval m = vm) (hx : a.eval x = vx) (hy : a.eval y = vy) (hrun : (Instr.mapUpdate t vm vx vy).run P w = .ok () w')
    (hK : wpList P ops Q rest (a.put o.dst undef) w') : wpList P ops Q (o :: rest) a w := by
  refine wpList_plain hg fun K' hK' => ?_
  unfold Oper.wp
  simp [execOp, hop, hm, hx, hy, hrun, Result.andThen]
  exact hK' _ _ hK
end
end Go.Proofs.Ytgcbodpjidoanaa
namespace Go.Proofs.Ytgcbodpjidoanaa
open Go.RowKit
open Go.Maps (Keyed)
theorem laidOutP : laidOutB Try.prog = true := by kernel_rfl
theorem keyD : Keyed Try.prog 37 :=
  Keyed.of_law (deep_law_laid laidOutP (m := 2) (by omega) (of_decide_eq_true (by kernel_rfl)) (by kernel_rfl) (by rw [Try.underlying37]))
theorem mapM_some {α β : Type} (f : α → Option β) (g : α → β) : ∀ l : List α, (∀ x ∈ l, f x = some (g x)) → l.mapM f = some (l.map g)
  | [], _ => rfl
  | x :: l, h => by rw [List.mapM_cons, h x (by simp), mapM_some f g l fun y hy => h y (by simp [hy])]; rfl
/-- a digest -/
def dg (l : List Nat) : Value := .agg (l.map b8).toArray
theorem b8_inj {x y : Nat} (h : b8 x = b8 y) : x = y := by
  simp only [b8, Value.int.injEq, true_and] at h
  omega
theorem dg_inj {l m : List Nat} (h : dg l = dg m) : l = m := by
  have h1 : (l.map b8).toArray = (m.map b8).toArray := Value.agg.inj h
  exact (List.map_inj_right (fun _ _ => b8_inj)).1 (List.toArray_inj h1)
theorem key_dg (l : List Nat) (hl : l.length = 32) (hb : IsB l) : ∃ kl, keyOf Try.prog 37 (dg l) = some kl := by
  have h1 : Try.prog.keyType 37 = true := by kernel_rfl
  have h2 : Try.prog.cellsOf 37 = 32 := by kernel_rfl
  have h3 : Try.prog.cellsOf 5 = 1 := by kernel_rfl
  have h4 : 2 ≤ Try.prog.types.size := of_decide_eq_true (by kernel_rfl)
  obtain ⟨m, hm⟩ : ∃ m, Try.prog.types.size = m + 1 := ⟨Try.prog.types.size - 1, by omega⟩
  have hlen : (l.map b8).toArray.toList.length = 32 := by simp [hl]
  have hM : (List.range 32).mapM (fun i => Try.prog.keyLits (m + 1) 5 (((dg l).cells.toList.drop (i * Try.prog.cellsOf 5)).take (Try.prog.cellsOf 5))) = some ((List.range 32).map fun i => [Lit.int .u8 (l.getD i 0)]) := by
    refine mapM_some _ _ _ fun i hi => ?_
    have hi' : i < 32 := List.mem_range.1 hi
    rw [h3, Nat.mul_one]
    have e1 : ((dg l).cells.toList.drop i).take 1 = [b8 (l.getD i 0)] := by
      show ((l.map b8).toArray.toList.drop i).take 1 = _
      rw [List.drop_eq_getElem_cons (by omega)]
      simp [List.getD, List.getElem?_eq_getElem (show i < l.length by omega)]
    have hx := hb i
    have hwf : (Lit.int .u8 ((l.getD i 0 : Nat) : Int)).wf = true := WalkArith.wf_u8 (by omega)
    rw [e1]
    unfold Program.keyLits
    simp only [Try.underlying5, b8]
    simp only [true_and]
    rw [if_pos hwf]
  refine ⟨Lit.string (keyBytes (((List.range 32).map fun i => [Lit.int .u8 (l.getD i 0)]).flatten)), ?_⟩
  · unfold keyOf
    simp only [Try.underlying37]
    rw [if_pos (by simp [h1, dg, Value.formed, Try.underlying37, h2, hl]), hm]
    unfold Program.keyLits
    simp only [Try.underlying37]
    rw [if_pos (by rw [h2]; exact hlen), hM]
    rfl
end Go.Proofs.Ytgcbodpjidoanaa
namespace Go.Proofs.Ytgcbodpjidoanaa
open Go.RowKit
/-- a row's bytes -/
def rowB (r : List Int) : List Nat := [r.length] ++ (r.map num8).flatten
theorem rowB_succ (r : List Int) (k : Nat) (hk : k < r.length) : [r.length] ++ ((r.take k).map num8).flatten ++ num8 (r.getD k 0) = [r.length] ++ ((r.take (k + 1)).map num8).flatten := by
  rw [List.take_add_one, List.map_append, List.flatten_append, List.getElem?_eq_getElem hk]
  simp [List.getD, List.getElem?_eq_getElem hk]
theorem rows_len (r : List Int) : ((r.map num8).flatten).length = 8 * r.length := by
  induction r with
  | nil => rfl
  | cons x r ih => simp only [List.map_cons, List.flatten_cons, List.length_append, num8_len, ih, List.length_cons]; omega
set_option maxRecDepth 100000 in
set_option maxHeartbeats 1000000 in
theorem wrow_any (S : Nat → Prop) (g : Nat) (l : List Nat) (r : List Int) (R : Option Addr) (c : Nat) (e : Int) (w : World) (hS : Wr w S g l e) (hR : ArrN S w R r.length (i64s r)) (hI : IsI r) (hr : r.length ≤ 255) (hn : l.length ≤ 140737488000000) :
    Calls Try.prog 173 #[.pointer (some ⟨g, 0, none⟩), .slice R r.length c] w fun e' w' => e' = .returned (.tuple #[]) ∧ WrP S w w' g (l ++ rowB r) e := by
  obtain ⟨n, hN⟩ : ∃ n, n = r.length := ⟨_, rfl⟩
  rw [← hN] at hR hr ⊢
  have t1 : (n : Int) ≤ 255 := by omega
  have m1 : (n : Int) % 256 = (n : Int) := by omega
  have hb : n < 256 := by omega
  have HhS := hideP hS; have HhR := hideP hR; have HhI := hideP hI; have HhN := hideP hN; have Hhb := hideP hb; clear hS hR hI hN hb
  go_enter Try.func173, Try.ntmps173
  go_wp2_with (go_at_call 120; refine (wbyte_any S g l n e _ HhS.out Hhb.out (by omega)).mono ?_; rintro e1 w1 ⟨rfl, s1⟩)
  have S1 := hideP s1
  clear s1
  go_loopw [5, 19] (fun _ v19 wr => ∃ (k : Nat), k ≤ n ∧ v19 = .int .i64 (k : Nat) ∧ Hid (WrP S w wr g (l ++ ([n] ++ ((r.take k).map num8).flatten)) e)) (fun _ v19 _ => n - (intOf v19).toNat)
  case atStart => exact ⟨0, by omega, rfl, hideP (by simpa using S1.out)⟩
  case round =>
    obtain ⟨k, hk, rfl, hV⟩ := hrel
    by_cases hlt : k < n
    · have i1 : (k : Int) < (n : Int) := by omega
      have m2 : IntKind.i64.wrap ((k : Int) + 1) = (k : Int) + 1 := IntWalk.i64_in _ (by omega)
      obtain ⟨b0, off, hA, hB0, hns, hc⟩ := HhR.out (by omega)
      subst hA
      obtain ⟨S2, m2, v2⟩ := hV.out
      have M2 := hideP m2
      have V2 := hideP v2
      clear m2 v2
      have c0 := M2.out.cell (p := ⟨b0, off + k, none⟩) hns (hc k hlt)
      unfold i64s at c0
      obtain ⟨x, hx⟩ : ∃ x, x = r.getD k 0 := ⟨_, rfl⟩
      have hxb := hideP (HhI.out k)
      have hE := hideP (rowB_succ r k (by have := HhN.out; omega))
      rw [← hx] at c0 hxb hE
      rw [← HhN.out] at hE
      have hl := hideP (show (l ++ ([n] ++ ((r.take k).map num8).flatten)).length ≤ 140737488353000 by
        rw [List.length_append, List.length_append, rows_len, List.length_take]; simp only [List.length_cons, List.length_nil]; omega)
      clear hx hc hns
      go_wp2_with (go_at_call 225; refine (wnum_any S2 g _ x e _ V2.out hxb.out.1 hxb.out.2 hl.out).mono ?_; rintro e1 w1 ⟨rfl, s1⟩)
      rw [List.append_assoc, hE.out] at s1
      have ho := hideP (WrP.then M2.out s1)
      clear hV s1
      go_roundw
      case rel => exact ⟨k + 1, by omega, by rw [show ((k + 1 : Nat) : Int) = (k : Int) + 1 by omega], ho.out⟩
      case measure => simp [intOf]; omega
    · have i1 : ¬ ((k : Int) < (n : Int)) := by omega
      have hkn : k = n := by omega
      have ho := hideP hV.out
      rw [hkn, show r.take n = r from by rw [HhN.out]; exact List.take_length, show [n] ++ (r.map num8).flatten = rowB r by rw [HhN.out]; rfl] at ho
      clear hV hlt hk
      go_wp2_with fail
      exact bodyPost_end (results_none rfl _ _ _) rfl ⟨rfl, ho.out⟩
theorem sclone_any (A : Option Addr) (l : List Nat) (c : Nat) (w : World) (hA : Arr w w.heap.size A l.length (u8s l)) (hn : l.length ≤ 140737488351232) :
    Calls Try.prog 159 #[.slice A l.length c] w fun e w' => ∃ R d, e = .returned (.slice R l.length d) ∧ OwnB w' w.heap.size R d l ∧ Below w.heap.size w w' := by
  obtain ⟨i0, hi0, hz0, hz1, hz2⟩ := info_parts info_b8
  rcases A with _ | ad
  · have h0 : l.length = 0 := by
      rcases Nat.eq_zero_or_pos l.length with h | h
      · exact h
      · obtain ⟨_, _, h, _⟩ := hA h; cases h
    obtain rfl : l = [] := List.length_eq_zero_iff.1 h0
    have h1 := Lib.run_eql_slice_nil (P := Try.prog) w 22 5 none 0 c 0 0 Try.underlying22
    simp only [Option.isNone_none] at h1
    clear hA h0
    go_enter Try.func159, Try.ntmps159
    go_wp2
    go_ret
    exact ⟨none, 0, rfl, OwnB.nil _ _, Below.refl _ _⟩
  · have h1 := Lib.run_eql_slice_nil (P := Try.prog) w 22 5 (some ad) l.length c 0 0 Try.underlying22
    simp only [Option.isNone_some] at h1
    have HA := hideP hA
    clear hA
    go_enter Try.func159, Try.ntmps159
    go_wp2_with (at_builtin; refine wpList_append_arr _ rfl (.tmp 5) (.tmp 6) 22 rfl w.heap.size 5 i0 _ 1 Try.underlying22 hi0 hz0 hz1 hz2 rfl (.slice (some ⟨w.heap.size, 0, none⟩) 0 0) 0 [] rfl (World.ownsRow_lit w #[] 0 (Nat.le_refl _) (by unfold maxLen; omega) (by simp)) w.heap.size (some ad) l.length c (u8s l) rfl (HA.out.keep fun p hp => World.cell?_alloc_lt w _ p hp) (fun _ => rfl) (by unfold maxLen; omega) (by omega) (by simp) ?_; intro A3 c3 w3 hown3 hg3 hat3)
    simp only [Nat.zero_add, List.nil_append] at hown3
    rw [map_u8s] at hown3
    have HO := hideP hown3
    clear hown3
    go_ret
    refine ⟨A3, c3, by simp, HO.out, ?_⟩
    refine Below.trans ((Below.refl _ _).alloc (Nat.le_refl _) _) ((Below.refl _ _).grown hg3 (by simp) fun k hk => ?_)
    simp [Value.ownBlock] at hk
    omega
set_option maxRecDepth 100000 in
set_option maxHeartbeats 1000000 in
theorem wbytes_ok (S : Nat → Prop) (g : Nat) (l : List Nat) (w : World) (hS : Wr w S g l 0) (hn : l.length ≤ 140737488351232) :
    Calls Try.prog 123 #[.pointer (some ⟨g, 0, none⟩)] w fun e w' => ∃ R d, e = .returned (.slice R l.length d) ∧ OwnB w' w.heap.size R d l ∧ Below w.heap.size w w' := by
  obtain ⟨A, d, hT, hO, hl, _⟩ := hS
  have c0 := hT.c0
  have c1 := hT.c1
  have ha := hideP hO.arr
  have HhT := hideP hT; have HhO := hideP hO; have Hhl := hideP hl; have Hhn := hideP hn; clear hT hO hl hn
  go_enter Try.func123, Try.ntmps123
  go_wp2_with (go_at_call 159; refine (sclone_any A l d _ ha.out Hhn.out).mono ?_; rintro e1 w1 ⟨R, d1, rfl, o1, b1⟩)
  go_ret
  exact ⟨R, d1, rfl, o1, b1⟩
end Go.Proofs.Ytgcbodpjidoanaa
namespace Go.Proofs.Ytgcbodpjidoanaa
open Go.RowKit
set_option maxRecDepth 100000 in
set_option maxHeartbeats 400000 in
theorem wdigest_any (S : Nat → Prop) (g : Nat) (l d : List Nat) (e : Int) (w : World) (hS : Wr w S g l e) (hd : d.length = 32) (hI : IsB d) (hn : l.length ≤ 140737488000000) :
    Calls Try.prog 174 #[.pointer (some ⟨g, 0, none⟩), dg d] w fun e' w' => e' = .returned (.tuple #[]) ∧ WrP S w w' g (l ++ d) e := by
  unfold dg
  have hz := hideP (Nat.le_of_lt hS.lt)
  have HhS := hideP hS; have Hhd := hideP hd; have HhI := hideP hI; clear hS hd hI
  go_enter Try.func174, Try.ntmps174
  have hX := hideP (show Arr (w.alloc (.cells (d.map b8).toArray 37)) _ (some ⟨w.heap.size, 0, none⟩) 32 (u8s d) from Arr.of_new w (d.map b8).toArray 37 32 (u8s d) (by simp [Hhd.out]) (fun i hi => by
    simp [u8s, b8, List.getD, List.getElem?_eq_getElem (show i < d.length by rw [Hhd.out]; exact hi)]))
  have h1 := hideP (show Wr (w.alloc (.cells (d.map b8).toArray 37)) S g l e from HhS.out.ext (Ext.alloc _ _))
  go_wp2_with (go_at_call 190; refine (put_trueK S g l d e _ _ 32 32 _ Hhd.out.symm h1.out hX.out HhI.out (by rw [Hhd.out]; omega)).mono ?_; rintro e1 w1 ⟨rfl, s1⟩)
  exact bodyPost_end (results_none rfl _ _ _) rfl ⟨rfl, WrP.then (Mv.alloc _ _ _) s1⟩
end Go.Proofs.Ytgcbodpjidoanaa
