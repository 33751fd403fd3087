/- ObA -/
import Derived.Test.YtglmohcnmpbfmaaBase
import Derived.Maps.AppendAt
import Derived.Deep.AppendLies
import Derived.Lib.Bytealg
import Derived.Laws.Rows
import Derived.Laws.Externs
import Derived.Laws.StructEq
import Derived.Laws.ResultCell
import Derived.Test.YtglmohcnmpbfmaaProg
import Derived.StillTail
set_option linter.unusedVariables false
set_option linter.unusedSimpArgs false
namespace Go.Proofs.Ytglmohcnmpbfmaa
open Go.RowKit

/-- bytes as Go's string -/
def bstr (l : List Nat) : ByteArray := ⟨(l.map UInt8.ofNat).toArray⟩
theorem ofNat_inj {a b : Nat} (ha : a < 256) (hb : b < 256) (h : UInt8.ofNat a = UInt8.ofNat b) : a = b := by
  have := congrArg UInt8.toNat h
  simpa [UInt8.toNat_ofNat', Nat.mod_eq_of_lt ha, Nat.mod_eq_of_lt hb] using this
theorem IsB.cons {x : Nat} {l : List Nat} (h : IsB (x :: l)) : x < 256 ∧ IsB l := ⟨h 0, fun i => h (i + 1)⟩
section
variable {P : Program} (w : World)

/-- 'append(out, x..)', the elements in a new block of their own (buildSlice), out nil or the call's own. -/
theorem run_append_cells (base : Nat) (t ty e : TypeId) (i : TypeInfo) (z : Value) (size bytes : Nat) (ht : P.underlying t = some (.slice e)) (hi : P.info? e = some i) (hz : i.zero = some z)
    (hsize : i.size = size) (hby : i.bytes = bytes) (hzs : z.cells.size = size) (hsz : 0 < size)
    (v : Value) (n : Nat) (xs : List Value) (hown : w.ownsRow base e size v n xs) (cs : Array Value) (m : Nat) (hm : cs.toList.length = m * size) (h1 : ∀ u ∈ cs.toList, u.oneCell' = true) (hm0 : 0 < m)
    (h63 : n + m ≤ maxLen) (hbytes : (n + m) * bytes ≤ 140737488355328) (hbase : base ≤ w.heap.size) :
    ∃ g c w', (Builtin.append_ #[t, t] ty #[v, .slice (some ⟨w.heap.size, 0, none⟩) m m]).run P (w.alloc (.cells cs e)) = .ok (.slice (some ⟨g, 0, none⟩) (n + m) c) w' ∧
      w'.ownsRow base e size (.slice (some ⟨g, 0, none⟩) (n + m) c) (n + m) (xs ++ cs.toList) ∧ w.grownBy w' v.ownBlock ∧ (v.ownBlock = some g ∨ w.heap.size ≤ g) := by
  obtain ⟨v', w', hrun, h2, h3, h4, h5⟩ := run_append_own_at (P := P) (w.alloc (.cells cs e)) base t ty e i z size bytes ht hi hz hsize hby hzs hsz v n xs (hown.alloc _) ⟨w.heap.size, 0, none⟩ m m cs.toList hm
    (World.news_of_block (heap_alloc_new w _)) h1 h63 hbytes (by simp; omega)
  rcases h2.2 with ⟨hv, h0⟩ | ⟨g, cap, cur, hv, hb, hh, hcap, hmx, hs, ht⟩
  · omega
  · subst hv
    refine ⟨g, cap, w', hrun, h2, ?_, ?_⟩
    · refine ⟨h3.os, h3.tape, h3.output, Nat.le_trans (by simp) h3.size, fun k hk hne => ?_⟩
      rw [h3.block k (by simp; omega) hne]
      exact Below.heap_alloc w _ k hk
    · rcases h5 with h5 | h5
      · left; rw [← h5]; rfl
      · right
        have : g = (w.alloc (.cells cs e)).heap.size := by simpa [Value.ownBlock] using h5
        rw [this]; simp

theorem wpList_append_cells {ops : Array Oper} {rest : List Oper} {o : Oper} {a : Act} {Q : Exit → Act → World → Prop} (hgd : o.guard = none) (s x : Operand) (t : TypeId)
    (ho : o.op = .call { callee := .builtin .append, args := #[s, x], argTypes := #[t, t] })
    (base : Nat) (e : TypeId) (i : TypeInfo) (z : Value) (size bytes : Nat) (ht : P.underlying t = some (.slice e)) (hi : P.info? e = some i) (hz : i.zero = some z)
    (hsize : i.size = size) (hby : i.bytes = bytes) (hzs : z.cells.size = size) (hsz : 0 < size)
    (v : Value) (n : Nat) (xs : List Value) (hs : a.eval s = v) (hown : w.ownsRow base e size v n xs) (cs : Array Value) (m : Nat) (hx : a.eval x = .slice (some ⟨w.heap.size, 0, none⟩) m m)
    (hm : cs.toList.length = m * size) (h1 : ∀ u ∈ cs.toList, u.oneCell' = true) (hm0 : 0 < m)
    (h63 : n + m ≤ maxLen) (hbytes : (n + m) * bytes ≤ 140737488355328) (hbase : base ≤ w.heap.size)
    (h : ∀ g c w', w'.ownsRow base e size (.slice (some ⟨g, 0, none⟩) (n + m) c) (n + m) (xs ++ cs.toList) → w.grownBy w' v.ownBlock → (v.ownBlock = some g ∨ w.heap.size ≤ g) →
      wpList P ops Q rest (a.put o.dst (.slice (some ⟨g, 0, none⟩) (n + m) c)) w') : wpList P ops Q (o :: rest) a (w.alloc (.cells cs e)) := by
  obtain ⟨g, c, w', hrun, h2, h3, h4⟩ := run_append_cells (P := P) w base t o.type e i z size bytes ht hi hz hsize hby hzs hsz v n xs hown cs m hm h1 hm0 h63 hbytes hbase
  refine wpList_plain hgd fun K hK => ?_
  unfold Oper.wp execOp
  simp only [ho, resolve, invoke, builtin, Sem.run_bind, Sem.run_pure, Result.andThen_ok, List.map_toArray, List.map_cons, List.map_nil, hs, hx, hrun]
  exact hK _ _ (h g c w' h2 h3 h4)

theorem run_append_nil (base : Nat) (t ty e : TypeId) (i : TypeInfo) (size : Nat) (ht : P.underlying t = some (.slice e)) (hi : P.info? e = some i)
    (v : Value) (n : Nat) (xs : List Value) (hown : w.ownsRow base e size v n xs) (c : Nat) : (Builtin.append_ #[t, t] ty #[v, .slice none 0 c]).run P w = .ok v w := by
  rcases hown.2 with ⟨rfl, rfl⟩ | ⟨g, cap, cur, rfl, _, _, hnc, _⟩
  · simp [Builtin.append_, run_underlying ht, sizeOf, typeInfo, hi, Builtin.lenOf, Builtin.firstCells]
  · simp [Builtin.append_, run_underlying ht, sizeOf, typeInfo, hi, Builtin.lenOf, Builtin.firstCells, hnc, storeCells]

/-- 'append(out, xs...)', elements of one cell, xs nil, empty or not. -/
theorem run_append_arr (base : Nat) (t ty e : TypeId) (i : TypeInfo) (z : Value) (bytes : Nat) (ht : P.underlying t = some (.slice e)) (hi : P.info? e = some i) (hz : i.zero = some z)
    (hsize : i.size = 1) (hby : i.bytes = bytes) (hzs : z.cells.size = 1)
    (v : Value) (n : Nat) (xs : List Value) (hown : w.ownsRow base e 1 v n xs)
    (B : Nat) (A : Option Addr) (m c : Nat) (f : Nat → Value) (hr : Arr w B A m f) (h1 : ∀ j, (f j).oneCell' = true)
    (h63 : n + m ≤ maxLen) (hbytes : (n + m) * bytes ≤ 140737488355328) (hbase : base ≤ w.heap.size) :
    ∃ A' c' w', (Builtin.append_ #[t, t] ty #[v, .slice A m c]).run P w = .ok (.slice A' (n + m) c') w' ∧ w'.ownsRow base e 1 (.slice A' (n + m) c') (n + m) (xs ++ (List.range m).map f) ∧ w.grownBy w' v.ownBlock ∧
      ((Value.slice A' (n + m) c').ownBlock = v.ownBlock ∨ (Value.slice A' (n + m) c').ownBlock = some w.heap.size) := by
  have shape : ∀ v' w', World.ownsRow w' base e 1 v' (n + m) (xs ++ (List.range m).map f) → ∃ A' c', v' = .slice A' (n + m) c' := fun v' w' h => by
    rcases h.2 with ⟨rfl, h0⟩ | ⟨g, cap, cur, rfl, _⟩
    · exact ⟨none, 0, by rw [h0]⟩
    · exact ⟨_, _, rfl⟩
  rcases A with _ | ad
  · have hm : m = 0 := by
      rcases Nat.eq_zero_or_pos m with h0 | h0
      · exact h0
      · obtain ⟨_, _, h, _⟩ := hr h0
        cases h
    subst hm
    have hown' : w.ownsRow base e 1 v (n + 0) (xs ++ (List.range 0).map f) := by simpa using hown
    obtain ⟨A', c', rfl⟩ := shape v w hown'
    exact ⟨A', c', w, run_append_nil w base t ty e i 1 ht hi _ n xs hown c, hown', World.grownBy.refl w _, .inl rfl⟩
  · have hcells : ∀ j u, ((List.range m).map f)[j]? = some u → w.cell? (ad.add j) = some u := by
      intro j u hu
      have hj : j < m := by
        rcases Nat.lt_or_ge j m with h | h
        · exact h
        · rw [List.getElem?_eq_none (by simpa using h)] at hu; cases hu
      obtain ⟨b, off, e1, hb, hc⟩ := hr (by omega)
      injection e1 with e1
      subst e1
      simp only [List.getElem?_map, List.getElem?_range hj, Option.map_some] at hu
      injection hu with hu
      subst hu
      have hadd : (⟨b, off, none⟩ : Addr).add j = ⟨b, off + j, none⟩ := by unfold Addr.add; split <;> simp_all
      rw [hadd]
      exact hc j hj
    obtain ⟨v', w', hrun, h2, h3, _, h5⟩ := run_append_own_at (P := P) w base t ty e i z 1 bytes ht hi hz hsize hby hzs (by omega) v n xs hown ad m c ((List.range m).map f) (by simp) hcells
      (fun u hu => by obtain ⟨j, _, rfl⟩ := List.mem_map.1 hu; exact h1 j) h63 hbytes hbase
    obtain ⟨A', c', rfl⟩ := shape v' w' h2
    exact ⟨A', c', w', hrun, h2, h3, h5⟩

theorem wpList_append_arr {ops : Array Oper} {rest : List Oper} {o : Oper} {a : Act} {Q : Exit → Act → World → Prop} (hgd : o.guard = none) (s x : Operand) (t : TypeId)
    (ho : o.op = .call { callee := .builtin .append, args := #[s, x], argTypes := #[t, t] })
    (base : Nat) (e : TypeId) (i : TypeInfo) (z : Value) (bytes : Nat) (ht : P.underlying t = some (.slice e)) (hi : P.info? e = some i) (hz : i.zero = some z)
    (hsize : i.size = 1) (hby : i.bytes = bytes) (hzs : z.cells.size = 1)
    (v : Value) (n : Nat) (xs : List Value) (hs : a.eval s = v) (hown : w.ownsRow base e 1 v n xs)
    (B : Nat) (A : Option Addr) (m c : Nat) (f : Nat → Value) (hx : a.eval x = .slice A m c) (hr : Arr w B A m f) (h1 : ∀ j, (f j).oneCell' = true)
    (h63 : n + m ≤ maxLen) (hbytes : (n + m) * bytes ≤ 140737488355328) (hbase : base ≤ w.heap.size)
    (h : ∀ A' c' w', w'.ownsRow base e 1 (.slice A' (n + m) c') (n + m) (xs ++ (List.range m).map f) → w.grownBy w' v.ownBlock →
      ((Value.slice A' (n + m) c').ownBlock = v.ownBlock ∨ (Value.slice A' (n + m) c').ownBlock = some w.heap.size) → wpList P ops Q rest (a.put o.dst (.slice A' (n + m) c')) w') : wpList P ops Q (o :: rest) a w := by
  obtain ⟨A', c', w', hrun, h2, h3, h4⟩ := run_append_arr (P := P) w base t o.type e i z bytes ht hi hz hsize hby hzs v n xs hown B A m c f hr h1 h63 hbytes hbase
  refine wpList_plain hgd fun K hK => ?_
  unfold Oper.wp execOp
  simp only [ho, resolve, invoke, builtin, Sem.run_bind, Sem.run_pure, Result.andThen_ok, List.map_toArray, List.map_cons, List.map_nil, hs, hx, hrun]
  exact hK _ _ (h A' c' w' h2 h3 h4)
end

/-- Below a base, behind an append to a row of the call's own -/
theorem below_own {w w' : World} {base B : Nat} {e : TypeId} {size n : Nat} {v : Value} {xs : List Value} (hown : w.ownsRow base e size v n xs) (hg : w.grownBy w' v.ownBlock) (hB : B ≤ base) (hs : B ≤ w.heap.size) : Below B w w' :=
  (Below.refl _ _).grown hg hs fun k hk => Nat.le_trans hB (hown.lt k hk).1

/-! ### A block whose first n cells are known, not frozen -/
def Blk (w : World) (g : Nat) (t : TypeId) (n : Nat) (f : Nat → Value) : Prop :=
  ∃ cs : Array Value, w.heap[g]? = some (.cells cs t (0, 0)) ∧ n ≤ cs.size ∧ ∀ i, i < n → cs[i]? = some (f i)
section
variable {w w' : World} {g : Nat} {t : TypeId} {n : Nat} {f f' : Nat → Value}
theorem Blk.lt (h : Blk w g t n f) : g < w.heap.size := by
  obtain ⟨cs, hg, _⟩ := h
  exact (Array.getElem?_eq_some_iff.1 hg).1
theorem Blk.cell (h : Blk w g t n f) {i : Nat} (hi : i < n) : w.cell? ⟨g, i, none⟩ = some (f i) := by
  obtain ⟨cs, hg, _, hc⟩ := h
  rw [cell_of_row w g i cs t (0, 0) hg]; exact hc i hi
theorem Blk.frozen (h : Blk w g t n f) (i : Nat) : w.frozen? ⟨g, i, none⟩ = false := by
  obtain ⟨cs, hg, _⟩ := h
  exact frozen_of_row w g i cs t hg
theorem Blk.congr (h : Blk w g t n f) (e : ∀ i, i < n → f i = f' i) : Blk w g t n f' := by
  obtain ⟨cs, hg, hn, hc⟩ := h
  exact ⟨cs, hg, hn, fun i hi => by rw [hc i hi, e i hi]⟩
theorem Blk.of_block (h : Blk w g t n f) (e : w'.heap[g]? = w.heap[g]?) : Blk w' g t n f := by
  obtain ⟨cs, hg, r⟩ := h
  exact ⟨cs, e.trans hg, r⟩
theorem Blk.set (h : Blk w g t n f) (i : Nat) (v : Value) : Blk (w.setCell ⟨g, i, none⟩ v) g t n (fun j => if j = i then v else f j) := by
  obtain ⟨cs, hg, hn, hc⟩ := h
  refine ⟨cs.setIfInBounds i v, ?_, by simpa using hn, fun j hj => ?_⟩
  · simp [World.setCell, Array.getElem?_modify, hg]
  · rw [Array.getElem?_setIfInBounds]
    by_cases e : i = j
    · subst e; simp; omega
    · rw [if_neg e]
      show cs[j]? = some (if j = i then v else f j)
      rw [if_neg (fun h => e h.symm)]; exact hc j hj
theorem Blk.setOther (h : Blk w g t n f) {a : Addr} (ha : g ≠ a.block) (v : Value) : Blk (w.setCell a v) g t n f := h.of_block (Below.heap_setCell _ _ _ _ ha)
theorem Blk.alloc (h : Blk w g t n f) (o : Obj) : Blk (w.alloc o) g t n f := h.of_block (Below.heap_alloc _ _ _ h.lt)
theorem Blk.drew (h : Blk w g t n f) : Blk w.drew g t n f := h
theorem Blk.drewN (h : Blk w g t n f) (k : Nat) : Blk (w.drewN k) g t n f := h
theorem Blk.below {B : Nat} (h : Blk w g t n f) (hb : Below B w w') (hB : g < B) : Blk w' g t n f := h.of_block (hb.block g hB)
/-- an owned row that is not empty is such a block -/
theorem Blk.of_own {base : Nat} {e : TypeId} {A : Option Addr} {c : Nat} {xs : List Value} (h : w.ownsRow base e 1 (.slice A n c) n xs) (hn : 0 < n) (hf : ∀ i, i < n → xs[i]? = some (f i)) :
    ∃ g, A = some ⟨g, 0, none⟩ ∧ base ≤ g ∧ Blk w g e n f := by
  rcases h.2 with ⟨he, h0⟩ | ⟨r, cap, cur, hv, hb, hh, hcap, hm, hs, ht⟩
  · omega
  · injection hv with hA _ _
    subst hA
    refine ⟨r, rfl, hb, cur, hh, by omega, fun i hi => ?_⟩
    have h1 := hf i hi
    rw [← ht, List.getElem?_take] at h1
    split at h1
    · simpa using h1
    · cases h1
end

theorem below_new (w : World) (o : Obj) : Below w.heap.size w (w.alloc o) := (Below.refl _ _).alloc (Nat.le_refl _) o

/-! ### Lists of bytes in order -/
def lexLt : List Nat → List Nat → Bool
  | _, [] => false
  | [], _ :: _ => true
  | a :: x, b :: y => decide (a < b) || (decide (a = b) && lexLt x y)
def lessB (a b : List Nat) : Bool := if a.length = b.length then lexLt a b else decide (a.length < b.length)
/-- a block of one cell -/
def One (w : World) (g : Nat) (t : TypeId) (x : Value) : Prop := w.heap[g]? = some (.cells #[x] t (0, 0))
section
variable {w w' : World} {g : Nat} {t : TypeId} {x : Value}
theorem One.c0 (h : One w g t x) : w.cell? ⟨g, 0, none⟩ = some x := by rw [cell_of_row w g 0 _ t (0, 0) h]; rfl
theorem One.fz (h : One w g t x) (i : Nat) : w.frozen? ⟨g, i, none⟩ = false := frozen_of_row w g i _ t h
theorem One.lt (h : One w g t x) : g < w.heap.size := (Array.getElem?_eq_some_iff.1 h).1
theorem One.below {B : Nat} (h : One w g t x) (hb : Below B w w') (hB : g < B) : One w' g t x := (hb.block g hB).trans h
theorem One.after (h : One w g t x) (hb : Below w.heap.size w w') : One w' g t x := h.below hb h.lt
theorem One.set (h : One w g t x) (u : Value) : One (w.setCell ⟨g, 0, none⟩ u) g t u := by
  unfold One at *
  simp [World.setCell, Array.getElem?_modify, h]
theorem One.setOther (h : One w g t x) {a : Addr} (ha : g ≠ a.block) (v : Value) : One (w.setCell a v) g t x := (Below.heap_setCell _ _ _ _ ha).trans h
theorem One.alloc (h : One w g t x) (o : Obj) : One (w.alloc o) g t x := (Below.heap_alloc _ _ _ h.lt).trans h
theorem One.drewN (h : One w g t x) (k : Nat) : One (w.drewN k) g t x := h
theorem One.new (w : World) (t : TypeId) (x : Value) : One (w.alloc (.cells #[x] t)) w.heap.size t x := heap_alloc_new _ _
end
/-- a block of two cells -/
def Two (w : World) (g : Nat) (t : TypeId) (x y : Value) : Prop := w.heap[g]? = some (.cells #[x, y] t (0, 0))
section
variable {w w' : World} {g : Nat} {t : TypeId} {x y : Value}
theorem Two.c0 (h : Two w g t x y) : w.cell? ⟨g, 0, none⟩ = some x := by rw [cell_of_row w g 0 _ t (0, 0) h]; rfl
theorem Two.c1 (h : Two w g t x y) : w.cell? ⟨g, 1, none⟩ = some y := by rw [cell_of_row w g 1 _ t (0, 0) h]; rfl
theorem Two.fz (h : Two w g t x y) (i : Nat) : w.frozen? ⟨g, i, none⟩ = false := frozen_of_row w g i _ t h
theorem Two.lt (h : Two w g t x y) : g < w.heap.size := (Array.getElem?_eq_some_iff.1 h).1
theorem Two.below {B : Nat} (h : Two w g t x y) (hb : Below B w w') (hB : g < B) : Two w' g t x y := (hb.block g hB).trans h
theorem Two.after (h : Two w g t x y) (hb : Below w.heap.size w w') : Two w' g t x y := h.below hb h.lt
theorem Two.set2 (h : Two w g t x y) (u v : Value) : Two ((w.setCell ⟨g, 0, none⟩ u).setCell ⟨g, 1, none⟩ v) g t u v := by
  unfold Two at *
  simp [World.setCell, Array.getElem?_modify, h]
theorem Two.setOther (h : Two w g t x y) {a : Addr} (ha : g ≠ a.block) (v : Value) : Two (w.setCell a v) g t x y := (Below.heap_setCell _ _ _ _ ha).trans h
theorem Two.alloc (h : Two w g t x y) (o : Obj) : Two (w.alloc o) g t x y := (Below.heap_alloc _ _ _ h.lt).trans h
theorem Two.drewN (h : Two w g t x y) (k : Nat) : Two (w.drewN k) g t x y := h
theorem Two.new (w : World) (t : TypeId) (x y : Value) : Two (w.alloc (.cells #[x, y] t)) w.heap.size t x y := heap_alloc_new _ _
/-- the same, where the place is known as a number -/
theorem Two.new' (w : World) (t : TypeId) (x y : Value) (g : Nat) (h : w.heap.size = g) : Two (w.alloc (.cells #[x, y] t)) g t x y := by subst h; exact heap_alloc_new _ _
theorem One.new' (w : World) (t : TypeId) (x : Value) (g : Nat) (h : w.heap.size = g) : One (w.alloc (.cells #[x] t)) g t x := by subst h; exact heap_alloc_new _ _
end
end Go.Proofs.Ytglmohcnmpbfmaa
namespace Go.Proofs.Ytglmohcnmpbfmaa
open Go.RowKit

/-- how far two numbers are apart -/
def apart (a b : Int) : Nat := (a - b).natAbs
def gap (x lo hi : Int) : Nat := if x < lo then apart x lo else if hi < x then apart x hi else 0
/-- a distance's value: high and low word -/
def dvp (h l : Nat) : Value := .agg #[.int .u64 h, .int .u64 l]
def dv (D : Nat) : Value := dvp (D / 18446744073709551616) (D % 18446744073709551616)
def I64 (z : Int) : Prop := -9223372036854775808 ≤ z ∧ z ≤ 9223372036854775807
theorem apart_lt {a b : Int} (ha : I64 a) (hb : I64 b) : apart a b < 18446744073709551616 := by unfold apart I64 at *; omega
theorem gap_lt {x l h : Int} (hx : I64 x) (hl : I64 l) (hh : I64 h) : gap x l h < 18446744073709551616 := by
  unfold gap
  split
  · exact apart_lt hx hl
  · split
    · exact apart_lt hx hh
    · omega

theorem apart_any (a b : Int) (w : World) (ha : I64 a) (hb : I64 b) : Calls Try.prog 242 #[.int .i64 a, .int .i64 b] w fun e w' => e = .returned (.int .u64 (apart a b)) ∧ w = w' := by
  have key : IntKind.u64.wrap (IntKind.u64.wrap (if a < b then b else a) - IntKind.u64.wrap (if a < b then a else b)) = (apart a b : Int) := by
    unfold apart; unfold I64 at ha hb; simp only [IntKind.wrap, IntKind.signed, IntKind.bits]; split <;> simp <;> omega
  obtain ⟨x, hx⟩ : ∃ x, x = apart a b := ⟨_, rfl⟩
  rw [← hx] at key ⊢
  unfold I64 at ha hb
  clear hx
  by_cases h : a < b
  · rw [if_pos h, if_pos h] at key
    have key' := hideP key; clear key
    go_enter Try.func242, Try.ntmps242
    go_wp2
    go_ret
    exact ⟨ret_int key'.out, rfl⟩
  · rw [if_neg h, if_neg h] at key
    have key' := hideP key; clear key
    by_cases e : a = b
    · subst e
      go_enter Try.func242, Try.ntmps242
      go_wp2
      go_ret
      exact ⟨ret_int (by have := key'.out; simpa [IntKind.wrap, IntKind.signed] using this), rfl⟩
    · have h' : b < a := by omega
      go_enter Try.func242, Try.ntmps242
      go_wp2
      go_ret
      exact ⟨ret_int key'.out, rfl⟩

theorem gap_any (x lo hi : Int) (w : World) (hx : I64 x) (hl : I64 lo) (hh : I64 hi) : Calls Try.prog 268 #[.int .i64 x, .int .i64 lo, .int .i64 hi] w fun e w' => e = .returned (.int .u64 (gap x lo hi)) ∧ w = w' := by
  unfold gap
  by_cases h : x < lo
  · rw [if_pos h]
    have t : decide (x < lo) = true := by simp [h]
    go_enter Try.func268, Try.ntmps268
    go_wp2_with fail
    refine (apart_any x lo w hx hl).mono ?_
    rintro e w' ⟨rfl, rfl⟩
    go_wp2
    go_ret
    exact ⟨rfl, rfl⟩
  · rw [if_neg h]
    have t : decide (x < lo) = false := by simp [h]
    by_cases h' : hi < x
    · rw [if_pos h']
      have t : decide (hi < x) = true := by simp [h']
      go_enter Try.func268, Try.ntmps268
      go_wp2_with fail
      refine (apart_any x hi w hx hh).mono ?_
      rintro e w' ⟨rfl, rfl⟩
      go_wp2
      go_ret
      exact ⟨rfl, rfl⟩
    · rw [if_neg h']
      have t : decide (hi < x) = false := by simp [h']
      go_enter Try.func268, Try.ntmps268
      go_wp2
      go_ret
      exact ⟨rfl, rfl⟩

theorem add64_any (x y : Nat) (hx : x < 18446744073709551616) (hy : y < 18446744073709551616) (w : World) : (callFunc 289 #[.int .u64 x, .int .u64 y, .int .u64 0]).run Try.prog w =
    .ok (.value (.tuple #[.int .u64 ((x + y) % 18446744073709551616 : Nat), .int .u64 ((x + y) / 18446744073709551616 : Nat)])) w := by
  rw [run_callFunc_extern (P := Try.prog) (f := 289) (fn := Try.f289) (e := add64Entry) Try.func289 (by kernel_rfl) (by kernel_rfl) (by kernel_rfl) (by kernel_rfl), run_add64 x y 0 (by omega) (by omega) (by omega) (by omega)]
  simp only [Result.andThen]
  congr 5 <;> omega

/-- the end of a function whose one result is a distance in a variable -/
theorem ret_dist {fn : Func} {p : Tmp} {a : Act} {w : World} {R : Ending → World → Prop} (h : fn.results = #[.cell p 165]) {g : Nat} {x y : Value}
    (hp : a.tmps.getD p undef = .pointer (some ⟨g, 0, none⟩)) (hg : w.heap[g]? = some (.cells #[x, y] 165 (0, 0))) (hd : a.defers = []) (hR : R (.returned (.agg #[x, y])) w) : bodyPost Try.prog fn R .ret a w :=
  bodyPost_ret (results_cell_row h _ w g 165 #[x, y] (0, 0) _ hp hg Try.underlying165 rfl (by kernel_rfl)) hd hR

theorem dist_add (D n : Nat) (w : World) (hD : D < 340282366920938463463374607431768211456) (hn : n < 18446744073709551616) :
    Calls Try.prog 286 #[dv D, .int .u64 n] w fun e w' => e = .returned (dv ((D + n) % 340282366920938463463374607431768211456)) ∧ Below w.heap.size w w' := by
  unfold dv dvp
  obtain ⟨h, hh⟩ : ∃ h, h = D / 18446744073709551616 := ⟨_, rfl⟩
  obtain ⟨l, hl⟩ : ∃ l, l = D % 18446744073709551616 := ⟨_, rfl⟩
  obtain ⟨a, ha⟩ : ∃ a, a = (D + n) % 340282366920938463463374607431768211456 / 18446744073709551616 := ⟨_, rfl⟩
  obtain ⟨b, hb⟩ : ∃ b, b = (D + n) % 340282366920938463463374607431768211456 % 18446744073709551616 := ⟨_, rfl⟩
  rw [← hh, ← hl, ← ha, ← hb]
  have hadd := add64_any l n (by omega) hn
  obtain ⟨s, hs⟩ : ∃ s, s = (l + n) % 18446744073709551616 := ⟨_, rfl⟩
  obtain ⟨c, hc⟩ : ∃ c, c = (l + n) / 18446744073709551616 := ⟨_, rfl⟩
  rw [← hs, ← hc] at hadd
  have e1 : IntKind.u64.wrap ((h : Int) + (c : Int)) = (a : Int) := by simp only [IntKind.wrap, IntKind.signed, IntKind.bits]; simp; omega
  have e2 : s = b := by omega
  subst e2
  have E1 := hideP e1
  clear hh hl ha hb hs hc e1
  go_enter Try.func286, Try.ntmps286
  go_wp2_with (rw [hadd])
  refine ret_dist rfl rfl (heap_alloc2_new _ _ _) rfl ?_
  exact ⟨by rw [E1.out], ((Below.refl _ _).alloc (Nat.le_refl _) _).alloc (by simp) _⟩

theorem dist_cmp (a b : Nat) (w : World) (ha : a < 340282366920938463463374607431768211456) (hb : b < 340282366920938463463374607431768211456) :
    Calls Try.prog 220 #[dv a, dv b] w fun e w' => e = .returned (.int .i64 (if a < b then -1 else if b < a then 1 else 0)) ∧ Below w.heap.size w w' := by
  obtain ⟨r, hr⟩ : ∃ r : Int, r = if a < b then -1 else if b < a then 1 else 0 := ⟨_, rfl⟩
  rw [← hr]
  unfold dv dvp
  obtain ⟨h, hh⟩ : ∃ h, h = a / 18446744073709551616 := ⟨_, rfl⟩
  obtain ⟨l, hl⟩ : ∃ l, l = a % 18446744073709551616 := ⟨_, rfl⟩
  obtain ⟨h', hh'⟩ : ∃ h, h = b / 18446744073709551616 := ⟨_, rfl⟩
  obtain ⟨l', hl'⟩ : ∃ l, l = b % 18446744073709551616 := ⟨_, rfl⟩
  rw [← hh, ← hl, ← hh', ← hl']
  have HH := hideP hh; have HL := hideP hl; have HH' := hideP hh'; have HL' := hideP hl'; have HR := hideP hr
  clear hh hl hh' hl' hr
  go_enter Try.func220, Try.ntmps220
  go_wp2
  all_goals go_ret
  all_goals refine ⟨ret_int ?_, ((Below.refl _ _).alloc (Nat.le_refl _) _).alloc (by simp) _⟩
  all_goals
    have e1 := HH.out
    have e2 := HL.out
    have e3 := HH'.out
    have e4 := HL'.out
    rw [HR.out]
  all_goals (repeat' split)
  all_goals omega

theorem dist_sum (A : Option Addr) (l : List Nat) (c : Nat) (w : World) (hA : Arr w w.heap.size A l.length (u64s l)) (hl : ∀ i, l.getD i 0 < 18446744073709551616) (hn : l.length ≤ 17592186043904) :
    Calls Try.prog 271 #[.slice A l.length c] w fun e w' => e = .returned (dv (l.sum % 340282366920938463463374607431768211456)) ∧ Below w.heap.size w w' := by
  have HA := hideP hA; have HL := hideP hl
  clear hA hl
  go_enter Try.func271, Try.ntmps271
  go_wp2
  obtain ⟨g, hg⟩ : ∃ g, g = w.heap.size := ⟨_, rfl⟩
  obtain ⟨w0, hw0⟩ : ∃ w0, w0 = (w.alloc (Obj.cells #[.int .u64 0, .int .u64 0] 165)).alloc (Obj.cells #[.int .u64 0, .int .u64 0] 165) := ⟨_, rfl⟩
  have r0 : Two w0 g 165 (.int .u64 (0 : Nat)) (.int .u64 (0 : Nat)) := by
    rw [hw0, hg]; exact (Below.heap_alloc _ _ _ (by simp)).trans (heap_alloc_new _ _)
  have r1 : Two w0 (g + 1) 165 (.int .u64 (0 : Nat)) (.int .u64 (0 : Nat)) := by rw [hw0, hg]; exact heap_alloc2_new _ _ _
  have rb : Below w.heap.size w w0 := by rw [hw0]; exact ((Below.refl _ _).alloc (Nat.le_refl _) _).alloc (by simp) _
  rw [← hw0, ← hg]
  clear hw0
  have HG := hideP hg
  clear hg
  go_loopw [8] (fun v8 wr => ∃ k D : Nat, k ≤ l.length ∧ v8 = .int .i64 k ∧ Hid (D = (l.take k).sum % 340282366920938463463374607431768211456) ∧
    Hid (Two wr g 165 (.int .u64 (0 : Nat)) (.int .u64 (0 : Nat)) ∧ Two wr (g + 1) 165 (.int .u64 (D / 18446744073709551616 : Nat)) (.int .u64 (D % 18446744073709551616 : Nat)) ∧ Below w.heap.size w wr)) (fun v8 _ => l.length - (intOf v8).toNat)
  case atStart => exact ⟨0, 0, by omega, rfl, rfl, r0, r1, rb⟩
  case round =>
    obtain ⟨k, D, hk, rfl, hD, hW⟩ := hrel
    clear r0 r1 rb
    by_cases hlt : k < l.length
    · have t : decide ((k : Int) < l.length) = true := by simp; omega
      obtain ⟨b, off, rfl, hb, hc⟩ := (HA.out.below hW.out.2.2) (by omega)
      have k1 := hc k hlt
      unfold u64s at k1
      have hx := HL.out k
      obtain ⟨x, ex⟩ : ∃ x, x = l.getD k 0 := ⟨_, rfl⟩
      rw [← ex] at k1 hx
      have EX := hideP ex
      clear hc ex
      have q0 := hW.out.2.1.c0
      have q1 := hW.out.2.1.c1
      go_wp2_with fail
      refine (dist_add D x wr (by have := hD.out; omega) hx).mono ?_
      unfold dv dvp
      rintro e w1 ⟨rfl, hb1⟩
      obtain ⟨D', hD'⟩ : ∃ D', D' = (D + x) % 340282366920938463463374607431768211456 := ⟨_, rfl⟩
      rw [← hD']
      have hs : D' = (l.take (k + 1)).sum % 340282366920938463463374607431768211456 := by
        rw [hD', hD.out, List.take_add_one, List.sum_append, List.getElem?_eq_getElem hlt, EX.out]
        simp [List.getD, List.getElem?_eq_getElem hlt, Nat.add_mod]
      have r0 := hW.out.1.below hb1 (hW.out.1.lt)
      have r1 := hW.out.2.1.below hb1 (hW.out.2.1.lt)
      have rb := hW.out.2.2.trans (hb1.mono hW.out.2.2.size)
      have f0 := r1.fz 0
      have f1 := r1.fz 1
      have p0 := r1.c0
      have p1 := r1.c1
      have HS := hideP hs; have R0 := hideP r0; have R1 := hideP r1; have RB := hideP rb
      clear hs r0 r1 rb hb1 hD' q0 q1
      go_wp2
      go_roundw
      case rel =>
        refine ⟨k + 1, D', by omega, by go_num, HS.out, ?_, ?_, ?_⟩
        · exact (R0.out.setOther (by simp) _).setOther (by simp) _
        · exact R1.out.set2 _ _
        · have := HG.out
          exact (RB.out.setCell (p := ⟨g + 1, 0, none⟩) (by simp; omega) _).setCell (p := ⟨g + 1, 1, none⟩) (by simp; omega) _
      case measure => simp [intOf]; omega
    · have t : decide ((k : Int) < l.length) = false := by simp; omega
      have q0 := hW.out.2.1.c0
      have q1 := hW.out.2.1.c1
      have f0 := hW.out.1.fz 0
      have f1 := hW.out.1.fz 1
      have p0 := hW.out.1.c0
      have p1 := hW.out.1.c1
      go_wp2
      refine ret_dist rfl rfl (hW.out.1.set2 _ _) rfl ?_
      refine ⟨?_, ?_⟩
      · have e : k = l.length := by omega
        have := hD.out
        rw [e, List.take_length] at this
        rw [this]; rfl
      · have := HG.out
        exact (hW.out.2.2.setCell (p := ⟨g, 0, none⟩) (by simp; omega) _).setCell (p := ⟨g, 1, none⟩) (by simp; omega) _
end Go.Proofs.Ytglmohcnmpbfmaa
namespace Go.Proofs.Ytglmohcnmpbfmaa
open Go.RowKit

/-- all that w holds W holds too -/
structure Ext (w W : World) : Prop where
  size : w.heap.size ≤ W.heap.size
  block : ∀ k, k < w.heap.size → W.heap[k]? = w.heap[k]?
  os : W.os = w.os
  tape : W.tape = w.tape
  output : W.output = w.output
theorem Ext.refl (w : World) : Ext w w := ⟨Nat.le_refl _, fun _ _ => rfl, rfl, rfl, rfl⟩
theorem Ext.trans {a b c : World} (h : Ext a b) (k : Ext b c) : Ext a c :=
  ⟨Nat.le_trans h.size k.size, fun i hi => (k.block i (Nat.lt_of_lt_of_le hi h.size)).trans (h.block i hi), k.os.trans h.os, k.tape.trans h.tape, k.output.trans h.output⟩
theorem Ext.of_below {w W : World} (h : Below w.heap.size w W) : Ext w W := ⟨h.size, h.block, h.os, h.tape, h.output⟩
theorem Ext.below {w W : World} (h : Ext w W) : Below w.heap.size w W := ⟨h.os, h.tape, h.output, h.size, h.block⟩
theorem Ext.alloc (w : World) (o : Obj) : Ext w (w.alloc o) := ⟨by simp, fun k hk => Below.heap_alloc w o k hk, rfl, rfl, rfl⟩
theorem Ext.drew {w W : World} (h : Ext w W) : Ext w W.drew := ⟨h.size, h.block, h.os, h.tape, h.output⟩
theorem Ext.drewN {w W : World} (h : Ext w W) (n : Nat) : Ext w (W.drewN n) := ⟨h.size, h.block, h.os, h.tape, h.output⟩
theorem Ext.drew_left {w W : World} (h : Ext w.drew W) : Ext w W := ⟨h.size, h.block, h.os, h.tape, h.output⟩
theorem Ext.cell {w W : World} (h : Ext w W) {p : Addr} {v : Value} (hc : w.cell? p = some v) : W.cell? p = some v :=
  (World.cell?_of_block (w := w) (h.block p.block (World.block_lt_of_cell? w p hc))).trans hc
theorem ownsRow_ext {w W : World} {base : Nat} {e : TypeId} {size n : Nat} {v : Value} {xs : List Value} (h : w.ownsRow base e size v n xs) (hW : Ext w W) : W.ownsRow base e size v n xs := by
  refine ⟨h.1, h.2.imp id ?_⟩
  rintro ⟨g, cap, cur, hv, hb, hh, r⟩
  exact ⟨g, cap, cur, hv, hb, (hW.block g (Array.getElem?_eq_some_iff.1 hh).1).trans hh, r⟩
theorem Two.ext {w W : World} {g : Nat} {t : TypeId} {x y : Value} (h : Two w g t x y) (hW : Ext w W) : Two W g t x y := (hW.block g h.lt).trans h
theorem One.ext {w W : World} {g : Nat} {t : TypeId} {x : Value} (h : One w g t x) (hW : Ext w W) : One W g t x := (hW.block g h.lt).trans h
theorem below_ext {w w1 W : World} (h : Below w.heap.size w w1) (hW : Ext w1 W) : Below w.heap.size w W := h.trans (hW.below.mono h.size)
theorem Arr.ext {w W : World} {A : Option Addr} {n : Nat} {f : Nat → Value} (h : Arr w w.heap.size A n f) (hW : Ext w W) : Arr W W.heap.size A n f := h.after hW.below

section
variable {P : Program} {ops : Array Oper} {md : Region.Mode}

/-- no way out but the plain one -/
def QF : Exit → Act → World → Prop := fun _ _ _ => False

theorem Oper.wp_toQ {o : Oper} {a : Act} {w : World} {K : Act → World → Prop} {Q : Exit → Act → World → Prop} (h : o.wp P a w K QF) : o.wp P a w K Q := by
  unfold Oper.wp at *
  generalize (execOp a.eval o).run P w = r at *
  cases r with
  | ok n w' =>
    cases n <;> simp only [Oper.upon] at h ⊢ <;> try exact h
    case enter f args =>
      exact Calls.mono h fun e w'' he => by
        cases e with
        | returned v => exact he
        | panicked c => exact he.elim
        | outgrown => obtain ⟨_, _, h⟩ := he; exact h.elim
  | halt x w' =>
    cases x <;> simp only [Oper.upon] at h ⊢ <;> first | exact h | exact (h : False).elim

/-- operation i comes up; it leaves all memory that was there as it was -/
def eOp (P : Program) (ops : Array Oper) (i : Nat) (K : Act → World → Prop) (a : Act) (w : World) : Prop :=
  match ops[i]? with
  | none => K a w
  | some o => if Region.wanted o (yielded ops a.tmps) then o.wp P a w (fun a' w' => Ext w w' ∧ K a' w') QF else K (a.put o.dst undef) w

theorem eOp_mono {i : Nat} {a : Act} {w : World} {K K' : Act → World → Prop} (h : ∀ a w, K a w → K' a w) (hh : eOp P ops i K a w) : eOp P ops i K' a w := by
  unfold eOp at *
  split
  · exact h _ _ (by simpa [*] using hh)
  · rename_i o ho
    simp only [ho] at hh
    split
    · rename_i hw; simp only [hw, if_true] at hh; exact Oper.wp_mono (fun a w h2 => ⟨h2.1, h _ _ h2.2⟩) hh
    · rename_i hw; simp only [hw] at hh; exact h _ _ hh

theorem wpOp_of_eOp {Q : Exit → Act → World → Prop} {i : Nat} {a : Act} {w : World} {K K' : Act → World → Prop} (h : ∀ a w, K a w → K' a w) (hh : eOp P ops i K a w) : wpOp P ops Q i K' a w := by
  unfold eOp at hh
  unfold wpOp
  split
  · rename_i ho; simp only [ho] at hh; exact h _ _ hh
  · rename_i o ho
    simp only [ho] at hh
    split
    · rename_i hw; simp only [hw, if_true] at hh; exact .inl (Oper.wp_mono (fun a w h2 => h _ _ h2.2) (Oper.wp_toQ hh))
    · rename_i hw; simp only [hw] at hh; exact h _ _ hh

/-- what is asked of a quiet operation's run in the world W -/
def qUpon (P : Program) (W : World) (v : Value) : Result Next → Prop
  | .ok (.value u) w' => w' = W ∧ u = v
  | .ok .skip w' => w' = W ∧ v = undef
  | .ok (.enter f args) w' => w' = W ∧ Calls P f args W (fun e w2 => e = .returned v ∧ Ext W w2)
  | _ => False

def Sil (P : Program) (ops : Array Oper) (o : Oper) (v : Value) (a : Act) (w : World) : Prop :=
  (Region.wanted o (yielded ops a.tmps) = true ∧ ∀ W, Ext w W → qUpon P W v ((execOp a.eval o).run P W)) ∨ (Region.wanted o (yielded ops a.tmps) = false ∧ v = undef)

theorem Sil.later {o : Oper} {v : Value} {a : Act} {w w' : World} (h : Sil P ops o v a w) (hw : Ext w w') : Sil P ops o v a w' :=
  h.imp (fun ⟨h1, h2⟩ => ⟨h1, fun W hW => h2 W (hw.trans hW)⟩) id
theorem Sil.of_same {o : Oper} {v : Value} {a a' : Act} {w : World} (h : Sil P ops o v a w) (he : execOp a'.eval o = execOp a.eval o)
    (hw : Region.wanted o (yielded ops a'.tmps) = Region.wanted o (yielded ops a.tmps)) : Sil P ops o v a' w := by
  unfold Sil at *
  rw [he, hw]
  exact h

theorem Sil.eOp {i : Nat} {o : Oper} {v : Value} {a : Act} {w : World} (hi : ops[i]? = some o) (hy : Sil P ops o v a w) {K : Act → World → Prop} (h : ∀ w', Ext w w' → K (a.put o.dst v) w') : eOp P ops i K a w := by
  unfold Go.Proofs.Ytglmohcnmpbfmaa.eOp
  simp only [hi]
  rcases hy with ⟨hw, hv⟩ | ⟨hw, rfl⟩
  · have h0 := hv w (Ext.refl w)
    simp only [hw, if_true, Oper.wp]
    generalize (execOp a.eval o).run P w = r at h0
    cases r with
    | ok n w' =>
      cases n <;> simp only [qUpon] at h0 <;> simp only [Oper.upon]
      case value u => obtain ⟨rfl, rfl⟩ := h0; exact ⟨Ext.refl _, h _ (Ext.refl _)⟩
      case skip => obtain ⟨rfl, rfl⟩ := h0; exact ⟨Ext.refl _, h _ (Ext.refl _)⟩
      case enter f args =>
        obtain ⟨rfl, hc⟩ := h0
        exact hc.mono fun e w2 ⟨he, hx⟩ => by subst he; exact ⟨hx, h _ hx⟩
    | halt x w' => simp only [qUpon] at h0
  · simp only [hw, Bool.false_eq_true, if_false]
    exact h _ (Ext.refl _)

theorem put_defers (a : Act) (x : Option Tmp) (v : Value) (d : List Deferred) : ({ a.put x v with defers := d } : Act) = ({ a with defers := d } : Act).put x v := by cases x <;> rfl
theorem defers_put (a : Act) (x : Option Tmp) (v : Value) : (a.put x v).defers = a.defers := by cases x <;> rfl
theorem eOp_put {j : Nat} {oi oj : Oper} {v : Value} (hj : ops[j]? = some oj) (hap : oi.apart ops oj = true) (hsi : ∀ cs b, oi.op ≠ .select cs b) (hsj : ∀ cs b, oj.op ≠ .select cs b)
    {K : Act → World → Prop} {a : Act} {w : World} (hy : Sil P ops oi v a w) (h : eOp P ops j K (a.put oi.dst v) w) :
    eOp P ops j (fun a' w' => Sil P ops oi v a' w' ∧ K (a'.put oi.dst v) w') a w := by
  obtain ⟨h1, h2, h3⟩ := Oper.apart_spec hap
  have keep : ∀ (a : Act) (w : World), Sil P ops oi v a w → ∀ u, Sil P ops oi v (a.put oj.dst u) w := fun a w hy u =>
    hy.of_same (execOp_put oi hsi a oj.dst u h3) (wanted_put oi a oj.dst u h3)
  unfold eOp at *
  simp only [hj] at *
  rw [wanted_put oj a oi.dst v h1] at h
  split
  · rename_i hw
    simp only [hw, if_true] at h
    unfold Oper.wp at *
    rw [execOp_put oj hsj a oi.dst v h1] at h
    generalize (execOp a.eval oj).run P w = r at *
    cases r with
    | ok n w' =>
      cases n <;> simp only [Oper.upon] at h ⊢
      case value u => exact ⟨h.1, keep a w' (hy.later h.1) u, by rw [← Act.put_comm a v u h2]; exact h.2⟩
      case skip => exact ⟨h.1, keep a w' (hy.later h.1) undef, by rw [← Act.put_comm a v undef h2]; exact h.2⟩
      case defer d =>
        have hd : Sil P ops oi v ({ a with defers := d :: a.defers } : Act) w' := (hy.later h.1).of_same rfl rfl
        refine ⟨h.1, keep _ w' hd undef, ?_⟩
        have h4 := h.2
        rw [defers_put, put_defers, Act.put_comm _ v undef h2] at h4
        exact h4
      case enter f args =>
        exact Calls.mono h fun e w2 he => by
          cases e with
          | returned u => exact ⟨he.1, keep a w2 (hy.later he.1) u, by rw [← Act.put_comm a v u h2]; exact he.2⟩
          | panicked c => exact he
          | outgrown => exact he
      case row row args =>
        exact Rows.mono h fun u w2 he => ⟨he.1, keep a w2 (hy.later he.1) u, by rw [← Act.put_comm a v u h2]; exact he.2⟩
      all_goals exact h
    | halt x w' => cases x <;> simp only [Oper.upon] at h ⊢ <;> exact h
  · rename_i hw
    simp only [hw] at h
    exact ⟨keep a w hy _, by rw [← Act.put_comm a v undef h2]; exact h⟩

/-- whatever comes up, of the first n operations; in every world that may have come about -/
def wpEL (P : Program) (md : Region.Mode) (ops : Array Oper) (n : Nat) (L : Array Bool → Act → World → Prop) : Nat → Array Bool → Act → World → Prop
  | 0, listed, a, w => ∀ W, Ext w W → L listed a W
  | f + 1, listed, a, w => Region.ready md ops listed ≠ [] ∧ ∀ i ∈ Region.ready md ops listed, i < n ∧ ∀ W, Ext w W → eOp P ops i (wpEL P md ops n L f (listed.setIfInBounds i true)) a W

theorem wpEL_later {n : Nat} {L : Array Bool → Act → World → Prop} : ∀ {f : Nat} {listed : Array Bool} {a : Act} {w w' : World}, wpEL P md ops n L f listed a w → Ext w w' → wpEL P md ops n L f listed a w'
  | 0, _, _, _, _, h, hw => fun W hW => h W (hw.trans hW)
  | _ + 1, _, _, _, _, h, hw => ⟨h.1, fun i hi => ⟨(h.2 i hi).1, fun W hW => (h.2 i hi).2 W (hw.trans hW)⟩⟩

theorem wpAny_of_EL {n g : Nat} {L : Array Bool → Act → World → Prop} {Q : Exit → Act → World → Prop} (hL : ∀ listed a w, L listed a w → wpAny P md ops Q g listed a w) :
    ∀ (f : Nat) (listed : Array Bool) (a : Act) (w : World), wpEL P md ops n L f listed a w → wpAny P md ops Q (f + g) listed a w
  | 0, listed, a, w, h => by rw [Nat.zero_add]; exact hL _ _ _ (h w (Ext.refl w))
  | f + 1, listed, a, w, h => by
    rw [show f + 1 + g = (f + g) + 1 by omega]
    exact ⟨fun h0 => absurd h0 h.1, fun i hi => wpOp_of_eOp (fun a' w' h' => wpAny_of_EL hL f _ a' w' h') ((h.2 i hi).2 w (Ext.refl w))⟩

theorem wpEL_first {n i : Nat} {oi : Oper} {v : Value} {L : Array Bool → Act → World → Prop} (hi : ops[i]? = some oi) (hsel : ∀ (j : Nat) (o : Oper) cs b, ops[j]? = some o → o.op ≠ .select cs b)
    (hjn : ∀ listed, HeadInv md ops n listed → listed.getD i true = false → ∀ j ∈ Region.ready md ops listed, j < n) (hin : i < n)
    (hdone : ∀ listed a w, L listed a w → ∀ j ∈ Region.ready md ops listed, n ≤ j) :
    ∀ (f : Nat) (listed : Array Bool) (a : Act) (w : World), HeadInv md ops n listed →
      (∀ j oj, ops[j]? = some oj → j ≠ i → listed.getD j true = false → (∀ e ∈ oj.after, Region.binds md e = true → e.on ≠ i) → oi.apart ops oj = true) →
      i ∈ Region.ready md ops listed → Sil P ops oi v a w →
      wpEL P md ops n L f (listed.setIfInBounds i true) (a.put oi.dst v) w → wpEL P md ops n L (f + 1) listed a w := by
  intro f
  induction f with
  | zero =>
    intro listed a w inv _ hr hy H
    have hun := (mem_ready.1 hr).1
    refine ⟨fun h => (by rw [h] at hr; cases hr), fun j hj => ?_⟩
    have hjn' := hjn listed inv hun j hj
    refine ⟨hjn', fun W hW => ?_⟩
    by_cases hji : j = i
    · subst hji
      exact (hy.later hW).eOp hi fun w' hw' W' hW' => H W' ((hW.trans hw').trans hW')
    · have := hdone _ _ _ (H w (Ext.refl w)) j (ready_mono hj hji)
      omega
  | succ f ih =>
    intro listed a w inv hfree hr hy H
    have hun := (mem_ready.1 hr).1
    refine ⟨fun h => (by rw [h] at hr; cases hr), fun j hj => ?_⟩
    have hjn' := hjn listed inv hun j hj
    refine ⟨hjn', fun W hW => ?_⟩
    by_cases hji : j = i
    · subst hji
      exact (hy.later hW).eOp hi fun w' hw' => wpEL_later H (hW.trans hw')
    · have h1 := (H.2 j (ready_mono hj hji)).2 W hW
      obtain ⟨hjun, oj, hoj, hall⟩ := mem_ready.1 hj
      have hnot : ∀ e ∈ oj.after, Region.binds md e = true → e.on ≠ i := fun e he hb heq => by
        have h1 := hall e he hb
        rw [heq] at h1
        rcases Nat.lt_or_ge i listed.size with h' | h'
        · simp [h'] at hun h1; rw [hun] at h1; cases h1
        · simp [Array.getElem?_eq_none h'] at h1
      have h2 := eOp_put hoj (hfree j oj hoj hji hjun hnot) (fun cs b => hsel i oi cs b hi) (fun cs b => hsel j oj cs b hoj) (hy.later hW) h1
      have hfree' : ∀ k ok, ops[k]? = some ok → k ≠ i → (listed.setIfInBounds j true).getD k true = false →
          (∀ e ∈ ok.after, Region.binds md e = true → e.on ≠ i) → oi.apart ops ok = true := fun k ok hk hki hun' hno => by
        refine hfree k ok hk hki ?_ hno
        by_cases hjk : j = k
        · subst hjk; exact hjun
        · rw [getD_set_ne true hjk] at hun'; exact hun'
      refine eOp_mono (fun a' w' h3 => ih (listed.setIfInBounds j true) a' w' (inv.set hj hjn') hfree' (ready_mono hr (Ne.symm hji)) h3.1 ?_) h2
      rw [Array.setIfInBounds_comm _ _ hji]
      exact h3.2

/-! ### The plan: which operation is taken when; true: quiet, false: loud -/
def planB (md : Region.Mode) (ops : Array Oper) (n g : Nat) : List (Bool × Nat) → Array Bool → Bool
  | [], listed => if n < ops.size then Region.seqB md ops g n listed else (Region.ready md ops listed).isEmpty
  | (s, i) :: r, listed => decide (i < n) && (if s then (Region.ready md ops listed).contains i && Region.free md ops listed i else decide (Region.ready md ops listed = [i])) && planB md ops n g r (listed.setIfInBounds i true)

def wpFlat (P : Program) (ops : Array Oper) (Lq : Act → World → Prop) : List (Bool × Nat) → Act → World → Prop
  | [], a, w => ∀ W, Ext w W → Lq a W
  | (true, i) :: r, a, w => match ops[i]? with
    | none => False
    | some o => if Region.wanted o (yielded ops a.tmps) then ∃ v, (∀ W, Ext w W → qUpon P W v ((execOp a.eval o).run P W)) ∧ wpFlat P ops Lq r (a.put o.dst v) w else wpFlat P ops Lq r (a.put o.dst undef) w
  | (false, i) :: r, a, w => ∀ W, Ext w W → eOp P ops i (wpFlat P ops Lq r) a W

theorem wpEL_of_flat {n g : Nat} {Lq : Act → World → Prop} (hsel : Region.noSelect ops = true)
    (hjn : ∀ i, i < n → ∀ listed, HeadInv md ops n listed → listed.getD i true = false → ∀ j ∈ Region.ready md ops listed, j < n)
    (hdone : ∀ listed, planB md ops n g [] listed = true → ∀ j ∈ Region.ready md ops listed, n ≤ j) :
    ∀ (r : List (Bool × Nat)) (listed : Array Bool) (a : Act) (w : World), HeadInv md ops n listed → planB md ops n g r listed = true → wpFlat P ops Lq r a w →
      wpEL P md ops n (fun listed' a' w' => planB md ops n g [] listed' = true ∧ Lq a' w') r.length listed a w
  | [], listed, a, w, inv, hB, h => fun W hW => ⟨hB, h W hW⟩
  | (s, i) :: r, listed, a, w, inv, hB, h => by
    simp only [planB, Bool.and_eq_true, decide_eq_true_eq] at hB
    obtain ⟨⟨hin, hs⟩, hB'⟩ := hB
    cases s
    · simp only [Bool.false_eq_true, if_false, decide_eq_true_eq] at hs
      refine ⟨by rw [hs]; simp, fun j hj => ?_⟩
      rw [hs] at hj
      have hji : j = i := by simpa using hj
      subst hji
      refine ⟨hin, fun W hW => eOp_mono (fun a' w' h' => wpEL_of_flat hsel hjn hdone r _ a' w' (inv.set (by rw [hs]; simp) hin) hB' h') (h W hW)⟩
    · simp only [if_true, Bool.and_eq_true] at hs
      obtain ⟨hr, hf⟩ := hs
      have hr' : i ∈ Region.ready md ops listed := by simpa using hr
      obtain ⟨_, oi, hoi, _⟩ := mem_ready.1 hr'
      simp only [wpFlat, hoi] at h
      have inv' := inv.set hr' hin
      by_cases hw : Region.wanted oi (yielded ops a.tmps) = true
      · simp only [hw, if_true] at h
        obtain ⟨v, h1, h2⟩ := h
        exact wpEL_first hoi (Region.noSelect_spec hsel) (hjn i hin) hin (fun listed' a' w' hL => hdone listed' hL.1) r.length listed a w inv (Region.free_spec hoi hf) hr' (.inl ⟨hw, h1⟩)
          (wpEL_of_flat hsel hjn hdone r _ _ w inv' hB' h2)
      · simp only [hw] at h
        exact wpEL_first (v := undef) hoi (Region.noSelect_spec hsel) (hjn i hin) hin (fun listed' a' w' hL => hdone listed' hL.1) r.length listed a w inv (Region.free_spec hoi hf) hr' (.inr ⟨by simpa using hw, rfl⟩)
          (wpEL_of_flat hsel hjn hdone r _ _ w inv' hB' h)

/-! ### The plan with the operations written out -/
def nthO : List Oper → Nat → Oper
  | [], _ => default
  | x :: _, 0 => x
  | _ :: xs, n + 1 => nthO xs n
theorem nthO_zero (x : Oper) (xs : List Oper) : nthO (x :: xs) 0 = x := rfl
theorem nthO_succ (x : Oper) (xs : List Oper) (n : Nat) : nthO (x :: xs) (n + 1) = nthO xs n := rfl
theorem nthO_get : ∀ (l : List Oper) (i : Nat), i < l.length → l[i]? = some (nthO l i)
  | [], _, h => absurd h (by simp)
  | _ :: _, 0, _ => rfl
  | _ :: xs, n + 1, h => by
    rw [List.getElem?_cons_succ]
    exact nthO_get xs n (by simpa using h)
def pick (l : List Oper) (r : List (Bool × Nat)) : List (Bool × Oper) := r.map fun x => (x.1, nthO l x.2)

/-- what is behind it is not reckoned out -/
structure Held (p : Prop) : Prop where
  out : p

def wpPlan (P : Program) (ops : Array Oper) (Lq : Act → World → Prop) : List (Bool × Oper) → Act → World → Prop
  | [], a, w => ∀ W, Ext w W → Lq a W
  | (true, o) :: r, a, w => if Region.wanted o (yielded ops a.tmps) then ∃ v, (∀ W, Ext w W → qUpon P W v ((execOp a.eval o).run P W)) ∧ Held (wpPlan P ops Lq r (a.put o.dst v) w) else Held (wpPlan P ops Lq r (a.put o.dst undef) w)
  | (false, o) :: r, a, w => ∀ W, Ext w W → if Region.wanted o (yielded ops a.tmps) then o.wp P a W (fun a' w' => Ext W w' ∧ wpPlan P ops Lq r a' w') QF else Held (wpPlan P ops Lq r (a.put o.dst undef) W)

theorem wpFlat_of_plan {l : List Oper} {Lq : Act → World → Prop} : ∀ (r : List (Bool × Nat)), (∀ x ∈ r, x.2 < l.length) → ∀ (a : Act) (w : World), wpPlan P l.toArray Lq (pick l r) a w → wpFlat P l.toArray Lq r a w
  | [], _, a, w, h => h
  | (s, i) :: r, hr, a, w, h => by
    have hi : l.toArray[i]? = some (nthO l i) := by
      have := nthO_get l i (hr (s, i) (by simp))
      simpa using this
    have ih : ∀ (a : Act) (w : World), wpPlan P l.toArray Lq (pick l r) a w → wpFlat P l.toArray Lq r a w := wpFlat_of_plan r fun x hx => hr x (by simp [hx])
    cases s
    · simp only [pick, List.map_cons, wpPlan] at h
      simp only [wpFlat]
      intro W hW
      have h1 := h W hW
      unfold eOp
      simp only [hi]
      split
      · rename_i hw
        simp only [hw, if_true] at h1
        exact Oper.wp_mono (fun a' w' h2 => ⟨h2.1, ih a' w' h2.2⟩) h1
      · rename_i hw
        simp only [hw] at h1
        exact ih _ _ h1.out
    · simp only [pick, List.map_cons, wpPlan] at h
      simp only [wpFlat, hi]
      split
      · rename_i hw
        simp only [hw, if_true] at h
        obtain ⟨v, h1, h2⟩ := h
        exact ⟨v, h1, ih _ _ h2.out⟩
      · rename_i hw
        simp only [hw] at h
        exact ih _ _ h.out

/-- the whole check, by the kernel -/
def eagerB (l : List Oper) (n : Nat) (r : List (Bool × Nat)) : Bool :=
  Region.noSelect l.toArray && decide (n ≤ l.length) && decide (r.length = n) && (r.all fun x => decide (x.2 < l.length)) &&
  (if n < l.length then Region.sinkB .any l.toArray n && Region.chainB .any l.toArray n else true) && planB .any l.toArray n (l.length - n) r (Array.replicate l.length false)

/-- ONE WALK SERVES EVERY ORDER. r: the plan over the first n operations; what is left (a tail that all of them precede) goes in its order. -/
theorem wp_region_eager {id : Nat} {Q : Exit → Act → World → Prop} {a : Act} {w : World} {l : List Oper} (n : Nat) (r : List (Bool × Nat)) (hm : P.follows .mixedOrders = true) (hB : eagerB l n r = true)
    (h : wpPlan P l.toArray (fun a' w' => wpList P l.toArray Q (l.drop n) a' w') (pick l r) a w.drew) : (Code.region id l.toArray true).wp P Q a w := by
  simp only [eagerB, Bool.and_eq_true, decide_eq_true_eq] at hB
  obtain ⟨⟨⟨⟨⟨hsel, hn⟩, hlen⟩, hall⟩, htail⟩, hplan⟩ := hB
  have hsz : l.toArray.size = l.length := by simp
  have hplan' : planB .any l.toArray n (l.length - n) r (Array.replicate l.toArray.size false) = true := by rw [hsz]; exact hplan
  have inv0 : HeadInv .any l.toArray n (Array.replicate l.toArray.size false) :=
    ⟨by simp, fun j oj _ hl => (by rw [getD_replicate_false] at hl; cases hl), fun t _ ht => getD_in (by simpa using ht) (getD_replicate_false _ _)⟩
  have hfl := wpFlat_of_plan (P := P) r (fun x hx => by have := List.all_eq_true.1 hall x hx; simpa using this) a w.drew h
  have hjn : ∀ i, i < n → ∀ listed, HeadInv .any l.toArray n listed → listed.getD i true = false → ∀ j ∈ Region.ready .any l.toArray listed, j < n := fun i hi listed inv hun j hj => by
    by_cases hlt : n < l.length
    · rw [if_pos hlt] at htail
      simp only [Bool.and_eq_true] at htail
      rcases Nat.lt_or_ge j n with h1 | h1
      · exact h1
      · exact absurd hj (tail_waits htail.1 htail.2 (by rw [hsz]; exact hlt) inv _ i rfl hi hun j h1)
    · obtain ⟨_, oj, hoj, _⟩ := mem_ready.1 hj
      have := (Array.getElem?_eq_some_iff.1 hoj).1
      rw [hsz] at this; omega
  have hdone : ∀ listed, planB .any l.toArray n (l.length - n) [] listed = true → ∀ j ∈ Region.ready .any l.toArray listed, n ≤ j := fun listed hp j hj => by
    simp only [planB] at hp
    split at hp
    · exact seqB_ready hp j hj
    · simp only [List.isEmpty_iff] at hp
      rw [hp] at hj; cases hj
  have hEL := wpEL_of_flat (P := P) (g := l.length - n) hsel hjn hdone r _ a w.drew inv0 hplan' hfl
  refine wp_region_any hm ?_
  have := wpAny_of_EL (Q := Q) (g := l.length - n) (fun listed a' w' hL => by
    obtain ⟨hp, hq⟩ := hL
    by_cases hlt : n < l.length
    · simp only [planB, hsz, if_pos hlt] at hp
      have := wpAny_of_seq (md := .any) (Q' := Q) (l.drop n) n listed a' w' (fun j => by simp [List.getElem?_drop]) (by rw [List.length_drop]; exact hp) hq
      rwa [List.length_drop] at this
    · simp only [planB, hsz, if_neg hlt, List.isEmpty_iff] at hp
      have hnl : n = l.length := by omega
      subst hnl
      rw [List.drop_length] at hq
      rw [Nat.sub_self]
      exact ⟨hp, hq⟩) _ _ _ _ hEL
  rw [hlen, show n + (l.length - n) = l.toArray.size by rw [hsz]; omega] at this
  exact this

/-! ### The steps of the walk -/
section
variable {Lq : Act → World → Prop} {r : List (Bool × Oper)} {a : Act} {w : World} {o : Oper}
theorem wpPlan_nil (h : ∀ W, Ext w W → Lq a W) : wpPlan P ops Lq [] a w := h
/-- a quiet operation, what follows behind a variable -/
theorem wpPlan_val (v : Value) (hw : Region.wanted o (yielded ops a.tmps) = true) (hv : ∀ W, Ext w W → (execOp a.eval o).run P W = .ok (.value v) W) (h : wpPlan P ops Lq r (a.put o.dst v) w) : wpPlan P ops Lq ((true, o) :: r) a w := by
  simp only [wpPlan, hw, if_true]
  exact ⟨v, fun W hW => by rw [hv W hW]; exact ⟨rfl, rfl⟩, ⟨h⟩⟩
theorem wpPlan_skip (hw : Region.wanted o (yielded ops a.tmps) = false) (h : wpPlan P ops Lq r (a.put o.dst undef) w) : wpPlan P ops Lq ((true, o) :: r) a w := by
  simp only [wpPlan, hw, Bool.false_eq_true, if_false]
  exact ⟨h⟩
/-- a quiet call: one value, in every later world -/
theorem wpPlan_call (v : Value) (f : FuncId) (args : Array Value) (hw : Region.wanted o (yielded ops a.tmps) = true) (hv : ∀ W, (execOp a.eval o).run P W = .ok (.enter f args) W)
    (hc : ∀ W, Ext w W → Calls P f args W fun e w2 => e = .returned v ∧ Ext W w2) (h : wpPlan P ops Lq r (a.put o.dst v) w) : wpPlan P ops Lq ((true, o) :: r) a w := by
  simp only [wpPlan, hw, if_true]
  exact ⟨v, fun W hW => by rw [hv W]; exact ⟨rfl, hc W hW⟩, ⟨h⟩⟩
theorem wpPlan_valK (hw : Region.wanted o (yielded ops a.tmps) = true) (h : ∀ K : Act → Prop, (∀ a, wpPlan P ops Lq r a w → K a) → ∃ v, (∀ W, Ext w W → (execOp a.eval o).run P W = .ok (.value v) W) ∧ K (a.put o.dst v)) : wpPlan P ops Lq ((true, o) :: r) a w := by
  obtain ⟨v, h1, h2⟩ := h _ fun _ h => h
  exact wpPlan_val v hw h1 h2
theorem wpPlan_skipK (hw : Region.wanted o (yielded ops a.tmps) = false) (h : ∀ K : Act → Prop, (∀ a, wpPlan P ops Lq r a w → K a) → K (a.put o.dst undef)) : wpPlan P ops Lq ((true, o) :: r) a w :=
  wpPlan_skip hw (h _ fun _ h => h)
theorem wpPlan_callK (v : Value) (f : FuncId) (args : Array Value) (hw : Region.wanted o (yielded ops a.tmps) = true) (hv : ∀ W, (execOp a.eval o).run P W = .ok (.enter f args) W)
    (hc : ∀ W, Ext w W → Calls P f args W fun e w2 => e = .returned v ∧ Ext W w2) (h : ∀ K : Act → Prop, (∀ a, wpPlan P ops Lq r a w → K a) → K (a.put o.dst v)) : wpPlan P ops Lq ((true, o) :: r) a w :=
  wpPlan_call v f args hw hv hc (h _ fun _ h => h)
/-- a loud operation that yields a value and a later world -/
theorem wpPlan_build (hw : Region.wanted o (yielded ops a.tmps) = true) (h : ∀ W, Ext w W → ∃ v w', (execOp a.eval o).run P W = .ok (.value v) w' ∧ Ext W w' ∧ wpPlan P ops Lq r (a.put o.dst v) w') : wpPlan P ops Lq ((false, o) :: r) a w := by
  intro W hW
  obtain ⟨v, w', h1, h2, h3⟩ := h W hW
  simp only [hw, if_true, Oper.wp, h1, Oper.upon]
  exact ⟨h2, h3⟩
theorem wpPlan_buildK (hw : Region.wanted o (yielded ops a.tmps) = true) (h : ∀ W, Ext w W → ∃ v w', ((execOp a.eval o).run P W = .ok (.value v) w' ∧ Ext W w') ∧ (∀ K : Act → Prop, (∀ a, wpPlan P ops Lq r a w' → K a) → K (a.put o.dst v))) : wpPlan P ops Lq ((false, o) :: r) a w :=
  wpPlan_build hw fun W hW => by
    obtain ⟨v, w', h1, h3⟩ := h W hW
    exact ⟨v, w', h1.1, h1.2, h3 _ fun _ h => h⟩
end
end
end Go.Proofs.Ytglmohcnmpbfmaa
namespace Go.Proofs.Ytglmohcnmpbfmaa
open Go.RowKit

def isPt (n : Nat) : Bool := decide (1 ≤ n) && decide (n ≤ 8)
theorem isPoint_any (A : Option Addr) (n c : Nat) (w : World) : Calls Try.prog 239 #[.slice A n c] w fun e w' => e = .returned (.bool (isPt n)) ∧ w = w' := by
  unfold isPt
  by_cases h : 1 ≤ n
  · have t : decide ((1 : Int) ≤ n) = true := by simp; omega
    go_enter Try.func239, Try.ntmps239
    go_wp2
    go_ret
    exact ⟨by simp [h]; omega, rfl⟩
  · have t : decide ((1 : Int) ≤ n) = false := by simp; omega
    go_enter Try.func239, Try.ntmps239
    go_wp2
    go_ret
    exact ⟨by simp [h], rfl⟩

theorem info_u64' : (Try.prog.info? 163).map (fun i => (i.zero, i.size, i.bytes)) = some (some (.int .u64 0), 1, 8) := by kernel_rfl

theorem run_enter {f : FuncId} {fn : Func} (hf : Try.prog.funcs[f]? = some fn) (hn : (fn.name == "runtime.NumGoroutine") = false) (hb : fn.body.isNone = false) (args : Array Value) (w : World) : (callFunc f args).run Try.prog w = .ok (.enter f args) w := by
  have h1 : (fn.name = "runtime.NumGoroutine") = False := by simpa using hn
  simp [callFunc, hf, h1, hb, program, Sem.run]
  intro h; simp [h] at hb

/-- what the sides say, from 0 on -/
def sides (f : Nat → Nat) (k : Nat) : List Nat := (List.range k).map f

theorem total_any (n : Nat) (fv : Value) (fn : Nat) (caps : Array Value) (hfv : fv = .func (.func fn) #[] caps) (f : Nat → Nat) (hf : ∀ i, i < n → f i < 18446744073709551616) (w : World) (hn : n ≤ 1000000)
    (henter : ∀ args W, (callFunc fn args).run Try.prog W = .ok (.enter fn args) W)
    (hside : ∀ (i : Nat) (W : World), i < n → Below w.heap.size w W → Calls Try.prog fn (#[.int .i64 i] ++ caps) W fun e W' => e = .returned (.int .u64 (f i)) ∧ ∃ nq, W.drewN nq = W') :
    Calls Try.prog 240 #[.int .i64 n, fv] w fun e w' => e = .returned (dv ((sides f n).sum % 340282366920938463463374607431768211456)) ∧ Below w.heap.size w w' := by
  subst hfv
  have HS := hideP hside; have HF := hideP hf
  clear hside hf
  go_enter Try.func240, Try.ntmps240
  go_wp2
  obtain ⟨g, hg⟩ : ∃ g, g = w.heap.size := ⟨_, rfl⟩
  obtain ⟨w0, hw0⟩ : ∃ w0, w0 = w.alloc (Obj.cells #[.int .u64 0, .int .u64 0] 165) := ⟨_, rfl⟩
  have r0 : Two w0 g 165 (.int .u64 (0 : Nat)) (.int .u64 (0 : Nat)) := by rw [hw0, hg]; exact heap_alloc_new _ _
  have rb : Below w.heap.size w w0 := by rw [hw0]; exact (Below.refl _ _).alloc (Nat.le_refl _) _
  rw [← hw0, ← hg]
  clear hw0
  have HG := hideP hg
  clear hg
  obtain ⟨i0, hi0, hz0, hz1, hz2⟩ := info_parts info_u64'
  have hown0 : w0.ownsRow (g + 1) 163 1 (.slice none 0 0) 0 [] := World.ownsRow_nil _ _ _ _
  go_loopw [5, 8] (fun v5 v8 wr => ∃ (k s : Nat) (R : Option Addr), k ≤ n ∧ v8 = .int .i64 k ∧ v5 = .slice R k s ∧
    Hid (wr.ownsRow (g + 1) 163 1 (.slice R k s) k ((sides f k).map fun (x : Nat) => Value.int .u64 x) ∧ Two wr g 165 (.int .u64 (0 : Nat)) (.int .u64 (0 : Nat)) ∧ Below w.heap.size w wr)) (fun _ v8 _ => n - (intOf v8).toNat)
  case atStart => exact ⟨0, 0, none, by omega, rfl, rfl, hown0, r0, rb⟩
  case round =>
    obtain ⟨k, s, R, hk, rfl, rfl, hW⟩ := hrel
    clear r0 rb hown0
    by_cases hlt : k < n
    · have t : decide ((k : Int) < n) = true := by simp; omega
      go_wp2_with fail
      refine (HS.out k wr hlt hW.out.2.2).mono ?_
      rintro e w1 ⟨rfl, nq, hw1⟩
      have hown : w1.ownsRow (g + 1) 163 1 (.slice R k s) k ((sides f k).map fun (x : Nat) => Value.int .u64 x) := by rw [← hw1]; exact hW.out.1
      have htwo : Two w1 g 165 (.int .u64 (0 : Nat)) (.int .u64 (0 : Nat)) := by rw [← hw1]; exact hW.out.2.1
      have hbel : Below w.heap.size w w1 := by rw [← hw1]; exact below_drewN hW.out.2.2 _
      clear hw1 hW
      have hx := HF.out k hlt
      obtain ⟨x, ex⟩ : ∃ x, x = f k := ⟨_, rfl⟩
      rw [← ex] at hx ⊢
      have EX := hideP ex; have HB := hideP hbel; have HT := hideP htwo
      clear ex hbel htwo
      have hg1 : g + 1 ≤ w1.heap.size := by have := HT.out.lt; omega
      go_wp2_with (at_builtin; refine wpList_append_cells _ rfl (.tmp 11) (.tmp 15) 287 rfl (g + 1) 163 i0 _ 1 8 Try.underlying287 hi0 hz0 hz1 hz2 rfl (by decide) (.slice R k s) k ((sides f k).map fun (x : Nat) => Value.int .u64 x) rfl hown _ 1 rfl rfl (by simp [Value.oneCell']) (by omega) (by unfold maxLen; omega) (by omega) hg1 ?_; intro g3 c3 w3 hown3 hg3 hat3)
      go_roundw
      case rel => 
        refine ⟨k + 1, c3, some ⟨g3, 0, none⟩, by omega, by go_num, rfl, ?_, ?_, ?_⟩
        · have : (sides f (k + 1)).map (fun (x : Nat) => Value.int .u64 x) = (sides f k).map (fun (x : Nat) => Value.int .u64 x) ++ [.int .u64 x] := by
            rw [EX.out]; simp [sides, List.range_succ]
          rw [this]
          simpa using hown3
        · exact HT.out.below (below_own hown hg3 (Nat.le_refl _) hg1) (by omega)
        · have := HG.out
          exact HB.out.trans ((below_own hown hg3 (by omega) HB.out.size))
      case measure => simp [intOf]; omega
    · have t : decide ((k : Int) < n) = false := by simp; omega
      have e : k = n := by omega
      have hA : Arr wr wr.heap.size R (sides f k).length (u64s (sides f k)) := by
        have hl : (sides f k).length = k := by simp [sides]
        rw [hl]
        refine Arr.of_own hW.out.1 fun i hi => ?_
        unfold u64s
        simp [List.getD, sides, List.getElem?_map, List.getElem?_range hi]
      have hl : k = (sides f k).length := by simp [sides]
      have hsum := dist_sum R (sides f k) s wr hA (fun i => by
        by_cases hi : i < k
        · have := HF.out i (by omega)
          simp [sides, List.getD, List.getElem?_map, List.getElem?_range hi]; exact this
        · rw [getD_out _ _ _ (by simp [sides]; omega)]; omega) (by rw [← hl]; omega)
      rw [← hl] at hsum
      have HSUM := hideP hsum
      have E := hideP e
      clear hsum hA hl e
      go_wp2_with fail
      refine HSUM.out.mono ?_
      unfold dv dvp
      rintro e1 w1 ⟨rfl, hb1⟩
      have r1 := hW.out.2.1.below hb1 (hW.out.2.1.lt)
      have hbel := hW.out.2.2.trans (hb1.mono hW.out.2.2.size)
      have f0 := r1.fz 0
      have f1 := r1.fz 1
      have p0 := r1.c0
      have p1 := r1.c1
      obtain ⟨u, hu⟩ : ∃ u, u = (sides f k).sum % 340282366920938463463374607431768211456 / 18446744073709551616 := ⟨_, rfl⟩
      obtain ⟨v, hv⟩ : ∃ v, v = (sides f k).sum % 340282366920938463463374607431768211456 % 18446744073709551616 := ⟨_, rfl⟩
      have hu' : (sides f n).sum % 340282366920938463463374607431768211456 / 18446744073709551616 = u := by rw [hu, E.out]
      have hv' : (sides f n).sum % 340282366920938463463374607431768211456 % 18446744073709551616 = v := by rw [hv, E.out]
      rw [← hu, ← hv]
      have HU := hideP hu'; have HV := hideP hv'
      clear hu hv hu' hv'
      have R1 := hideP r1; have HB := hideP hbel
      clear r1 hbel hb1
      go_wp2
      refine ret_dist rfl rfl (R1.out.set2 _ _) rfl ?_
      refine ⟨?_, ?_⟩
      · unfold dv dvp; rw [HU.out, HV.out]
      · have := HG.out
        exact (HB.out.setCell (p := ⟨g, 0, none⟩) (by simp; omega) _).setCell (p := ⟨g, 1, none⟩) (by simp; omega) _

def IsI' (l : List Int) : Prop := ∀ i, I64 (l.getD i 0)
theorem apart_quiet (a b : Int) (w : World) (ha : I64 a) (hb : I64 b) : Calls Try.prog 242 #[.int .i64 a, .int .i64 b] w fun e w' => e = .returned (.int .u64 (apart a b)) ∧ w' = w :=
  (apart_any a b w ha hb).mono fun _ _ h => ⟨h.1, h.2.symm⟩
theorem between1 (i : Nat) (g1 g2 : Nat) (A B : Option Addr) (p q : List Int) (n m c d : Nat) (w : World) (h1 : w.cell? ⟨g1, 0, none⟩ = some (.slice A n c)) (h2 : w.cell? ⟨g2, 0, none⟩ = some (.slice B m d))
    (hA : Arr w w.heap.size A n (i64s p)) (hB : Arr w w.heap.size B m (i64s q)) (hp : IsI p) (hq : IsI q) (hi : i < n) (hi' : i < m) :
    Calls Try.prog 241 (#[.int .i64 i] ++ #[.pointer (some ⟨g1, 0, none⟩), .pointer (some ⟨g2, 0, none⟩)]) w fun e w' => e = .returned (.int .u64 (apart (p.getD i 0) (q.getD i 0))) ∧ ∃ nq, w.drewN nq = w' := by
  obtain ⟨b, off, rfl, hb, hc⟩ := hA (by omega)
  obtain ⟨b', off', rfl, hb', hc'⟩ := hB (by omega)
  have k1 := hc i hi
  have k2 := hc' i hi'
  have z1 := hp i
  have z2 := hq i
  unfold i64s at k1 k2
  obtain ⟨x, ex⟩ : ∃ x, x = p.getD i 0 := ⟨_, rfl⟩
  obtain ⟨y, ey⟩ : ∃ y, y = q.getD i 0 := ⟨_, rfl⟩
  rw [← ex] at k1 z1 ⊢
  rw [← ey] at k2 z2 ⊢
  have hxy := apart_lt z1 z2
  have Z1 : I64 x := z1
  have Z2 : I64 y := z2
  have i0 : (0 : Int) ≤ (i : Int) := by omega
  have i1 : (i : Int) < (n : Int) := by omega
  have i2 : (i : Int) < (m : Int) := by omega
  clear hc hc' hA hB hp hq ex ey
  go_enter Try.func241, Try.ntmps241
  go_wp2
  go_quiet (first | (go_at_call 242; exact Calls.quiet_of_same (apart_quiet x y _ Z1 Z2)))
  go_wp2
  go_ret
  exact ⟨rfl, ⟨_, rfl⟩⟩

theorem sides_le (f : Nat → Nat) (n : Nat) (hf : ∀ i, i < n → f i < 18446744073709551616) : (sides f n).sum ≤ n * 18446744073709551615 := by
  induction n with
  | zero => simp [sides]
  | succ n ih =>
    have h1 := ih (fun i hi => hf i (by omega))
    have h2 := hf n (by omega)
    have h3 : (sides f (n + 1)).sum = (sides f n).sum + f n := by simp [sides, List.range_succ]
    omega
/-- the distance of two points of n numbers -/
def dpt (p q : List Int) (n : Nat) : Nat := (sides (fun i => apart (p.getD i 0) (q.getD i 0)) n).sum
def dbox (p lo hi : List Int) (n : Nat) : Nat := (sides (fun i => gap (p.getD i 0) (lo.getD i 0) (hi.getD i 0)) n).sum
theorem dpt_lt (p q : List Int) (n : Nat) (hp : IsI p) (hq : IsI q) (hn : n ≤ 8) : dpt p q n < 147573952589676412928 := by
  have := sides_le (fun i => apart (p.getD i 0) (q.getD i 0)) n (fun i _ => apart_lt (hp i) (hq i))
  unfold dpt; omega
theorem dbox_lt (p lo hi : List Int) (n : Nat) (hp : IsI p) (hq : IsI lo) (hr : IsI hi) (hn : n ≤ 8) : dbox p lo hi n < 147573952589676412928 := by
  have := sides_le (fun i => gap (p.getD i 0) (lo.getD i 0) (hi.getD i 0)) n (fun i _ => gap_lt (hp i) (hq i) (hr i))
  unfold dbox; omega

/-- the end of a function whose results are a distance in a variable and an error -/
theorem ret_dist2 {fn : Func} {p u : Tmp} {a : Act} {w : World} {R : Ending → World → Prop} (h : fn.results = #[.cell p 165, .tmp u]) {g : Nat} {x y v : Value}
    (hp : a.tmps.getD p undef = .pointer (some ⟨g, 0, none⟩)) (hu : a.tmps.getD u undef = v) (hg : w.heap[g]? = some (.cells #[x, y] 165 (0, 0))) (hd : a.defers = []) (hR : R (.returned (.tuple #[.agg #[x, y], v])) w) : bodyPost Try.prog fn R .ret a w := by
  refine bodyPost_ret (v := .tuple #[.agg #[x, y], v]) ?_ hd hR
  rw [results_cell_tmp h, hp, hu]
  simp [asAddr, run_loadVar_row w g 165 165 #[x, y] (0, 0) _ hg Try.underlying165 rfl (by kernel_rfl)]

set_option maxHeartbeats 1000000 in
theorem between_in (A B : Option Addr) (p q : List Int) (n c d : Nat) (w : World) (hA : Arr w w.heap.size A n (i64s p)) (hB : Arr w w.heap.size B n (i64s q)) (hp : IsI p) (hq : IsI q) (h1 : 1 ≤ n) (h8 : n ≤ 8) :
    Calls Try.prog 189 #[.slice A n c, .slice B n d] w fun e w' => e = .returned (.tuple #[dv (dpt p q n), .int .i64 0]) ∧ Below w.heap.size w w' := by
  have HP := hideP hp; have HQ := hideP hq
  have hpt : isPt n = true := by unfold isPt; simp; omega
  have hD := dpt_lt p q n hp hq h8
  obtain ⟨D, eD⟩ : ∃ D, D = dpt p q n := ⟨_, rfl⟩
  have eD' : (sides (fun i => apart (p.getD i 0) (q.getD i 0)) n).sum % 340282366920938463463374607431768211456 = D := by
    rw [eD]; exact Nat.mod_eq_of_lt (by unfold dpt at hD; omega)
  rw [← eD]
  have HA := hideP hA; have HB := hideP hB
  have ED := hideP eD'
  clear hp hq hD eD eD' hA hB
  go_enter Try.func189, Try.ntmps189
  go_wp2_with fail
  obtain ⟨w1, hw1⟩ : ∃ w1, w1 = ((w.alloc (Obj.cells #[Value.slice A n c] 31)).alloc (Obj.cells #[Value.slice B n d] 31)).alloc (Obj.cells #[.int .u64 0, .int .u64 0] 165) := ⟨_, rfl⟩
  have c1 : One w1 w.heap.size 31 (.slice A n c) := by rw [hw1]; exact ((One.new _ _ _).alloc _).alloc _
  have c2 : One w1 (w.heap.size + 1) 31 (.slice B n d) := by rw [hw1]; exact (One.new' _ _ _ _ (by simp)).alloc _
  have c3 : Two w1 (w.heap.size + 1 + 1) 165 (.int .u64 (0 : Nat)) (.int .u64 (0 : Nat)) := by rw [hw1]; exact Two.new' _ _ _ _ _ (by simp)
  have cb : Below w.heap.size w w1 := by rw [hw1]; exact (((Below.refl _ _).alloc (Nat.le_refl _) _).alloc (by simp) _).alloc (by simp; omega) _
  rw [← hw1]
  clear hw1
  have C1 := hideP c1; have C2 := hideP c2; have C3 := hideP c3; have CB := hideP cb
  have k1 := c1.c0
  have k2 := c2.c0
  clear c1 c2 c3 cb
  refine (isPoint_any A n c w1).mono ?_
  rintro e w' ⟨rfl, rfl⟩
  rw [hpt]
  go_wp2_with fail
  refine (total_any n _ 241 #[.pointer (some ⟨w.heap.size, 0, none⟩), .pointer (some ⟨w.heap.size + 1, 0, none⟩)] rfl (fun i => apart (p.getD i 0) (q.getD i 0)) (fun i _ => apart_lt (HP.out i) (HQ.out i)) w1 (by omega) (run_enter Try.func241 rfl rfl) (fun i W hi hW => ?_)).mono ?_
  · exact between1 i _ _ A B p q n n c d W (C1.out.after hW).c0 (C2.out.after hW).c0 ((HA.out.after CB.out).after hW) ((HB.out.after CB.out).after hW) HP.out HQ.out hi hi
  rw [ED.out]
  unfold dv dvp
  rintro e w2 ⟨rfl, hb2⟩
  clear k1 k2
  have r1 := C3.out.after hb2
  have rb := CB.out.trans (hb2.mono CB.out.size)
  have f0 := r1.fz 0
  have f1 := r1.fz 1
  have p0 := r1.c0
  have p1 := r1.c1
  have R1 := hideP r1; have RB := hideP rb
  clear r1 rb hb2
  go_wp2
  refine ret_dist2 rfl rfl rfl (R1.out.set2 _ _) rfl ?_
  refine ⟨rfl, ?_⟩
  exact (RB.out.setCell (p := ⟨_, 0, none⟩) (by simp; omega) _).setCell (p := ⟨_, 1, none⟩) (by simp; omega) _

theorem gap_quiet (x lo hi : Int) (w : World) (hx : I64 x) (hl : I64 lo) (hh : I64 hi) : Calls Try.prog 268 #[.int .i64 x, .int .i64 lo, .int .i64 hi] w fun e w' => e = .returned (.int .u64 (gap x lo hi)) ∧ w' = w :=
  (gap_any x lo hi w hx hl hh).mono fun _ _ h => ⟨h.1, h.2.symm⟩
theorem toBox1 (i : Nat) (g1 g2 : Nat) (A L H : Option Addr) (p lo hi : List Int) (n m k c d s : Nat) (w : World) (h1 : w.cell? ⟨g1, 0, none⟩ = some (.slice A n c)) (h2 : w.cell? ⟨g2, 0, none⟩ = some (.slice L m d)) (h3 : w.cell? ⟨g2, 1, none⟩ = some (.slice H k s))
    (hA : Arr w w.heap.size A n (i64s p)) (hL : Arr w w.heap.size L m (i64s lo)) (hH : Arr w w.heap.size H k (i64s hi)) (hp : IsI p) (hl : IsI lo) (hh : IsI hi) (hi1 : i < n) (hi2 : i < m) (hi3 : i < k) :
    Calls Try.prog 267 (#[.int .i64 i] ++ #[.pointer (some ⟨g1, 0, none⟩), .pointer (some ⟨g2, 0, none⟩)]) w fun e w' => e = .returned (.int .u64 (gap (p.getD i 0) (lo.getD i 0) (hi.getD i 0))) ∧ ∃ nq, w.drewN nq = w' := by
  obtain ⟨b, off, rfl, hb, hc⟩ := hA (by omega)
  obtain ⟨b', off', rfl, hb', hc'⟩ := hL (by omega)
  obtain ⟨b'', off'', rfl, hb'', hc''⟩ := hH (by omega)
  have k1 := hc i hi1
  have k2 := hc' i hi2
  have k3 := hc'' i hi3
  have z1 := hp i
  have z2 := hl i
  have z3 := hh i
  unfold i64s at k1 k2 k3
  obtain ⟨x, ex⟩ : ∃ x, x = p.getD i 0 := ⟨_, rfl⟩
  obtain ⟨y, ey⟩ : ∃ y, y = lo.getD i 0 := ⟨_, rfl⟩
  obtain ⟨z, ez⟩ : ∃ z, z = hi.getD i 0 := ⟨_, rfl⟩
  rw [← ex] at k1 z1 ⊢
  rw [← ey] at k2 z2 ⊢
  rw [← ez] at k3 z3 ⊢
  have hxy := gap_lt z1 z2 z3
  have Z1 : I64 x := z1
  have Z2 : I64 y := z2
  have Z3 : I64 z := z3
  have i0 : (0 : Int) ≤ (i : Int) := by omega
  have i1 : (i : Int) < (n : Int) := by omega
  have i2 : (i : Int) < (m : Int) := by omega
  have i3 : (i : Int) < (k : Int) := by omega
  clear hc hc' hc'' hA hL hH hp hl hh ex ey ez
  go_enter Try.func267, Try.ntmps267
  go_wp2
  go_quiet (first | (go_at_call 268; exact Calls.quiet_of_same (gap_quiet x y z _ Z1 Z2 Z3)))
  go_wp2
  go_ret
  exact ⟨rfl, ⟨_, rfl⟩⟩

set_option maxHeartbeats 1000000 in
theorem toBox_in (A L H : Option Addr) (p lo hi : List Int) (n c d s : Nat) (w : World) (hA : Arr w w.heap.size A n (i64s p)) (hL : Arr w w.heap.size L n (i64s lo)) (hH : Arr w w.heap.size H n (i64s hi)) (hp : IsI p) (hl : IsI lo) (hh : IsI hi) (h1 : 1 ≤ n) (h8 : n ≤ 8) :
    Calls Try.prog 219 #[.slice A n c, .agg #[.slice L n d, .slice H n s]] w fun e w' => e = .returned (.tuple #[dv (dbox p lo hi n), .int .i64 0]) ∧ Below w.heap.size w w' := by
  have HP := hideP hp; have HL := hideP hl; have HH := hideP hh
  have hpt : isPt n = true := by unfold isPt; simp; omega
  have hD := dbox_lt p lo hi n hp hl hh h8
  obtain ⟨D, eD⟩ : ∃ D, D = dbox p lo hi n := ⟨_, rfl⟩
  have eD' : (sides (fun i => gap (p.getD i 0) (lo.getD i 0) (hi.getD i 0)) n).sum % 340282366920938463463374607431768211456 = D := by
    rw [eD]; exact Nat.mod_eq_of_lt (by unfold dbox at hD; omega)
  rw [← eD]
  have HA := hideP hA; have AL := hideP hL; have AH := hideP hH
  have ED := hideP eD'
  clear hp hl hh hD eD eD' hA hL hH
  go_enter Try.func219, Try.ntmps219
  go_wp2_with fail
  obtain ⟨w1, hw1⟩ : ∃ w1, w1 = ((w.alloc (Obj.cells #[Value.slice A n c] 31)).alloc (Obj.cells #[Value.slice L n d, Value.slice H n s] 33)).alloc (Obj.cells #[.int .u64 0, .int .u64 0] 165) := ⟨_, rfl⟩
  have c1 : One w1 w.heap.size 31 (.slice A n c) := by rw [hw1]; exact ((One.new _ _ _).alloc _).alloc _
  have c2 : Two w1 (w.heap.size + 1) 33 (.slice L n d) (.slice H n s) := by rw [hw1]; exact (Two.new' _ _ _ _ _ (by simp)).alloc _
  have c3 : Two w1 (w.heap.size + 1 + 1) 165 (.int .u64 (0 : Nat)) (.int .u64 (0 : Nat)) := by rw [hw1]; exact Two.new' _ _ _ _ _ (by simp)
  have cb : Below w.heap.size w w1 := by rw [hw1]; exact (((Below.refl _ _).alloc (Nat.le_refl _) _).alloc (by simp) _).alloc (by simp; omega) _
  rw [← hw1]
  clear hw1
  have C1 := hideP c1; have C2 := hideP c2; have C3 := hideP c3; have CB := hideP cb
  have k1 := c1.c0
  have k2 := c2.c0
  have k3 := c2.c1
  clear c1 c2 c3 cb
  refine (isPoint_any A n c w1).mono ?_
  rintro e w' ⟨rfl, rfl⟩
  rw [hpt]
  go_wp2_with fail
  refine (total_any n _ 267 #[.pointer (some ⟨w.heap.size, 0, none⟩), .pointer (some ⟨w.heap.size + 1, 0, none⟩)] rfl (fun i => gap (p.getD i 0) (lo.getD i 0) (hi.getD i 0)) (fun i _ => gap_lt (HP.out i) (HL.out i) (HH.out i)) w1 (by omega) (run_enter Try.func267 rfl rfl) (fun i W hi hW => ?_)).mono ?_
  · exact toBox1 i _ _ A L H p lo _ n n n c d s W (C1.out.after hW).c0 (C2.out.after hW).c0 (C2.out.after hW).c1 ((HA.out.after CB.out).after hW) ((AL.out.after CB.out).after hW) ((AH.out.after CB.out).after hW) HP.out HL.out HH.out hi hi hi
  rw [ED.out]
  unfold dv dvp
  rintro e w2 ⟨rfl, hb2⟩
  clear k1 k2 k3
  have r1 := C3.out.after hb2
  have rb := CB.out.trans (hb2.mono CB.out.size)
  have f0 := r1.fz 0
  have f1 := r1.fz 1
  have p0 := r1.c0
  have p1 := r1.c1
  have R1 := hideP r1; have RB := hideP rb
  clear r1 rb hb2
  go_wp2
  refine ret_dist2 rfl rfl rfl (R1.out.set2 _ _) rfl ?_
  refine ⟨rfl, ?_⟩
  exact (RB.out.setCell (p := ⟨_, 0, none⟩) (by simp; omega) _).setCell (p := ⟨_, 1, none⟩) (by simp; omega) _

end Go.Proofs.Ytglmohcnmpbfmaa
namespace Go.Proofs.Ytglmohcnmpbfmaa
open Go.RowKit
theorem bstep {w w1 w2 : World} (h : Below w.heap.size w w1) (k : Below w1.heap.size w1 w2) : Below w.heap.size w w2 := h.trans (k.mono h.size)
theorem cell_below {B : Nat} {w w' : World} {a : Addr} {v : Value} (h : Below B w w') (hb : a.block < B) (hc : w.cell? a = some v) : w'.cell? a = some v :=
  (World.cell?_of_block (w := w) (h.block a.block hb)).trans hc
/-- two rows of the call's own don't share a block -/
def Sep (v u : Value) : Prop := v.ownBlock = none ∨ v.ownBlock ≠ u.ownBlock
theorem Sep.symm {v u : Value} (h : Sep v u) : Sep u v := by
  unfold Sep at *
  rcases h with h | h
  · rcases hu : u.ownBlock with _ | b
    · exact .inl rfl
    · right; rw [h]; simp
  · exact .inr (Ne.symm h)
theorem Sep.after {w : World} {base : Nat} {e : TypeId} {size n : Nat} {v u u' : Value} {xs : List Value} (h : Sep v u) (hv : w.ownsRow base e size v n xs) (hat : u'.ownBlock = u.ownBlock ∨ u'.ownBlock = some w.heap.size) : Sep v u' := by
  unfold Sep at *
  rcases hat with hat | hat
  · rw [hat]; exact h
  · rcases hb : v.ownBlock with _ | b
    · exact .inl rfl
    · right
      have := (hv.lt b hb).2
      rw [hat]
      intro hh
      injection hh with hh
      omega
end Go.Proofs.Ytglmohcnmpbfmaa
namespace Go.Proofs.Ytglmohcnmpbfmaa
open Go.RowKit

theorem sides_succ (f : Nat → Nat) (k : Nat) : (sides f (k + 1)).sum = (sides f k).sum + f k := by simp [sides, List.range_succ]
theorem sides_congr (f g : Nat → Nat) : ∀ k, (∀ i, i < k → f i = g i) → (sides f k).sum = (sides g k).sum
  | 0, _ => rfl
  | k + 1, h => by rw [sides_succ, sides_succ, sides_congr f g k fun i hi => h i (by omega), h k (by omega)]
theorem sides_mono (f g : Nat → Nat) : ∀ k, (∀ i, i < k → f i ≤ g i) → (sides f k).sum ≤ (sides g k).sum
  | 0, _ => Nat.le_refl _
  | k + 1, h => by rw [sides_succ, sides_succ]; have := sides_mono f g k fun i hi => h i (by omega); have := h k (by omega); omega
theorem dpt_comm (p q : List Int) (n : Nat) : dpt p q n = dpt q p n := sides_congr _ _ n fun i _ => by unfold apart; omega
/-- the first k numbers are the same -/
def eqTo (p q : List Int) (k : Nat) : Bool := (List.range k).all fun i => p.getD i 0 == q.getD i 0
/-- the nearest number of a side -/
def clamp (x lo hi : Int) : Int := if hi < if x < lo then lo else x then hi else if x < lo then lo else x
/-- side by side -/
def clamps (q lo hi : List Int) (k : Nat) : List Int := (List.range k).map fun i => clamp (q.getD i 0) (lo.getD i 0) (hi.getD i 0)
/-- the way by a third point, as the law reckons it -/
theorem third (C D : Nat) (hC : C < 147573952589676412928) (hD : D < 147573952589676412928) :
    (C + D % 18446744073709551616) % 340282366920938463463374607431768211456 = C + D % 18446744073709551616 ∧
    IntKind.u64.wrap (((C + D % 18446744073709551616) / 18446744073709551616 : Nat) + (D / 18446744073709551616 : Nat) : Int) = ((C + D) / 18446744073709551616 : Nat) ∧
    (C + D % 18446744073709551616) % 18446744073709551616 = (C + D) % 18446744073709551616 := by
  refine ⟨by omega, ?_, by omega⟩
  simp only [IntKind.wrap, IntKind.signed, IntKind.bits]
  simp
  omega
end Go.Proofs.Ytglmohcnmpbfmaa
namespace Go.Proofs.Ytglmohcnmpbfmaa
open Go.RowKit

/-- a plan: q: a quiet operation, l: a loud one, alt: either of two plans -/
inductive Tr where
  | nil : Tr
  | q (i : Nat) (t : Tr) : Tr
  | l (i : Nat) (t : Tr) : Tr
  | alt (t u : Tr) : Tr
def Tr.heads : Tr → List Nat
  | .l i _ => [i]
  | .alt t u => t.heads ++ u.heads
  | _ => []
def Tr.deep : Tr → Nat → Bool
  | .nil, n => n == 0
  | .q _ t, n + 1 => t.deep n
  | .l _ t, n + 1 => t.deep n
  | .alt t u, n => t.deep n && u.deep n
  | _, _ => false
def Tr.within (m : Nat) : Tr → Bool
  | .nil => true
  | .q i t => decide (i < m) && t.within m
  | .l i t => decide (i < m) && t.within m
  | .alt t u => t.within m && u.within m

section
variable {P : Program} {ops : Array Oper} {md : Region.Mode}
def treeB (md : Region.Mode) (ops : Array Oper) (n g : Nat) : Tr → Bool → Array Bool → Bool
  | .nil, top, listed => top && planB md ops n g [] listed
  | .q i t, top, listed => top && (decide (i < n) && ((Region.ready md ops listed).contains i && Region.free md ops listed i)) && treeB md ops n g t true (listed.setIfInBounds i true)
  | .l i t, top, listed => decide (i < n) && (!top || decide (Region.ready md ops listed = [i])) && ((Region.ready md ops listed).contains i && treeB md ops n g t true (listed.setIfInBounds i true))
  | .alt t u, top, listed => (!top || decide (Region.ready md ops listed = (Tr.alt t u).heads)) && (treeB md ops n g t false listed && treeB md ops n g u false listed)

/-- the plan with the operations written out -/
inductive TO where
  | nil : TO
  | q (o : Oper) (t : TO) : TO
  | l (o : Oper) (t : TO) : TO
  | alt (t u : TO) : TO
def pickT (l : List Oper) : Tr → TO
  | .nil => .nil
  | .q i t => .q (nthO l i) (pickT l t)
  | .l i t => .l (nthO l i) (pickT l t)
  | .alt t u => .alt (pickT l t) (pickT l u)

def wpT (P : Program) (ops : Array Oper) (Lq : Act → World → Prop) : TO → Act → World → Prop
  | .nil, a, w => ∀ W, Ext w W → Lq a W
  | .q o t, a, w => if Region.wanted o (yielded ops a.tmps) then ∃ v, (∀ W, Ext w W → qUpon P W v ((execOp a.eval o).run P W)) ∧ Held (wpT P ops Lq t (a.put o.dst v) w) else Held (wpT P ops Lq t (a.put o.dst undef) w)
  | .l o t, a, w => ∀ W, Ext w W → if Region.wanted o (yielded ops a.tmps) then o.wp P a W (fun a' w' => Ext W w' ∧ wpT P ops Lq t a' w') QF else Held (wpT P ops Lq t (a.put o.dst undef) W)
  | .alt t u, a, w => Held (wpT P ops Lq t a w) ∧ Held (wpT P ops Lq u a w)

theorem wpEL_of_tree {l : List Oper} {n g : Nat} {Lq : Act → World → Prop} (hsel : Region.noSelect l.toArray = true)
    (hjn : ∀ i, i < n → ∀ listed, HeadInv md l.toArray n listed → listed.getD i true = false → ∀ j ∈ Region.ready md l.toArray listed, j < n)
    (hdone : ∀ listed, planB md l.toArray n g [] listed = true → ∀ j ∈ Region.ready md l.toArray listed, n ≤ j) :
    ∀ (t : Tr) (f : Nat) (listed : Array Bool) (a : Act) (w : World), t.deep f = true → t.within l.length = true → HeadInv md l.toArray n listed → wpT P l.toArray Lq (pickT l t) a w →
      (treeB md l.toArray n g t true listed = true → wpEL P md l.toArray n (fun listed' a' w' => planB md l.toArray n g [] listed' = true ∧ Lq a' w') f listed a w) ∧
      (treeB md l.toArray n g t false listed = true → ∃ f', f = f' + 1 ∧ t.heads ≠ [] ∧ ∀ i ∈ t.heads, i < n ∧ ∀ W, Ext w W → eOp P l.toArray i (wpEL P md l.toArray n (fun listed' a' w' => planB md l.toArray n g [] listed' = true ∧ Lq a' w') f' (listed.setIfInBounds i true)) a W) := by
  intro t
  induction t with
  | nil =>
    intro f listed a w hd hin inv h
    have hf : f = 0 := by simpa [Tr.deep] using hd
    subst hf
    refine ⟨fun hB => fun W hW => ⟨by simpa [treeB] using hB, h W hW⟩, fun hB => by simp [treeB] at hB⟩
  | q i t ih =>
    intro f listed a w hd hin inv h
    rcases f with _ | f
    · simp [Tr.deep] at hd
    simp only [Tr.within, Bool.and_eq_true, decide_eq_true_eq] at hin
    refine ⟨fun hB => ?_, fun hB => by simp [treeB] at hB⟩
    simp only [treeB, Bool.true_and, Bool.and_eq_true, decide_eq_true_eq] at hB
    obtain ⟨⟨hi, hr, hf⟩, hB'⟩ := hB
    have hr' : i ∈ Region.ready md l.toArray listed := by simpa using hr
    have hoi : l.toArray[i]? = some (nthO l i) := by
      have := nthO_get l i hin.1
      simpa using this
    have inv' := inv.set hr' hi
    simp only [pickT, wpT] at h
    by_cases hw : Region.wanted (nthO l i) (yielded l.toArray a.tmps) = true
    · simp only [hw, if_true] at h
      obtain ⟨v, h1, h2⟩ := h
      exact wpEL_first hoi (Region.noSelect_spec hsel) (hjn i hi) hi (fun listed' a' w' hL => hdone listed' hL.1) f listed a w inv (Region.free_spec hoi hf) hr' (.inl ⟨hw, h1⟩)
        ((ih f _ _ w (by simpa [Tr.deep] using hd) hin.2 inv' h2.out).1 hB')
    · simp only [hw] at h
      exact wpEL_first (v := undef) hoi (Region.noSelect_spec hsel) (hjn i hi) hi (fun listed' a' w' hL => hdone listed' hL.1) f listed a w inv (Region.free_spec hoi hf) hr' (.inr ⟨by simpa using hw, rfl⟩)
        ((ih f _ _ w (by simpa [Tr.deep] using hd) hin.2 inv' h.out).1 hB')
  | l i t ih =>
    intro f listed a w hd hin inv h
    rcases f with _ | f
    · simp [Tr.deep] at hd
    simp only [Tr.within, Bool.and_eq_true, decide_eq_true_eq] at hin
    have hoi : l.toArray[i]? = some (nthO l i) := by
      have := nthO_get l i hin.1
      simpa using this
    have key : ∀ hi : i < n, i ∈ Region.ready md l.toArray listed → treeB md l.toArray n g t true (listed.setIfInBounds i true) = true →
        ∀ W, Ext w W → eOp P l.toArray i (wpEL P md l.toArray n (fun listed' a' w' => planB md l.toArray n g [] listed' = true ∧ Lq a' w') f (listed.setIfInBounds i true)) a W := by
      intro hi hr hB' W hW
      have ih' := fun a' w' h' => (ih f (listed.setIfInBounds i true) a' w' (by simpa [Tr.deep] using hd) hin.2 (inv.set hr hi) h').1 hB'
      simp only [pickT, wpT] at h
      have h1 := h W hW
      unfold eOp
      simp only [hoi]
      split
      · rename_i hw
        simp only [hw, if_true] at h1
        exact Oper.wp_mono (fun a' w' h2 => ⟨h2.1, ih' a' w' h2.2⟩) h1
      · rename_i hw
        simp only [hw] at h1
        exact ih' _ _ h1.out
    constructor
    · intro hB
      simp only [treeB, Bool.not_true, Bool.false_or, Bool.and_eq_true, decide_eq_true_eq] at hB
      obtain ⟨⟨hi, hrd⟩, hr, hB'⟩ := hB
      have hr' : i ∈ Region.ready md l.toArray listed := by simpa using hr
      refine ⟨by rw [hrd]; simp, fun j hj => ?_⟩
      rw [hrd] at hj
      have hji : j = i := by simpa using hj
      subst hji
      exact ⟨hi, key hi hr' hB'⟩
    · intro hB
      simp only [treeB, Bool.not_false, Bool.true_or, Bool.and_true, Bool.and_eq_true, decide_eq_true_eq] at hB
      obtain ⟨hi, hr, hB'⟩ := hB
      have hr' : i ∈ Region.ready md l.toArray listed := by simpa using hr
      refine ⟨f, rfl, by simp [Tr.heads], fun j hj => ?_⟩
      have hji : j = i := by simpa [Tr.heads] using hj
      subst hji
      exact ⟨hi, key hi hr' hB'⟩
  | alt t u iht ihu =>
    intro f listed a w hd hin inv h
    simp only [Tr.deep, Bool.and_eq_true] at hd
    simp only [Tr.within, Bool.and_eq_true] at hin
    simp only [pickT, wpT] at h
    have h2 : treeB md l.toArray n g t false listed = true → treeB md l.toArray n g u false listed = true → ∃ f', f = f' + 1 ∧ (Tr.alt t u).heads ≠ [] ∧ ∀ i ∈ (Tr.alt t u).heads, i < n ∧ ∀ W, Ext w W → eOp P l.toArray i (wpEL P md l.toArray n (fun listed' a' w' => planB md l.toArray n g [] listed' = true ∧ Lq a' w') f' (listed.setIfInBounds i true)) a W := by
      intro ht hu
      obtain ⟨f', e1, ne1, k1⟩ := (iht f listed a w hd.1 hin.1 inv h.1.out).2 ht
      obtain ⟨f'', e2, ne2, k2⟩ := (ihu f listed a w hd.2 hin.2 inv h.2.out).2 hu
      obtain rfl : f' = f'' := by omega
      refine ⟨f', e1, by simp [Tr.heads, ne1], fun i hi => ?_⟩
      rcases List.mem_append.1 (show i ∈ t.heads ++ u.heads from hi) with h | h
      · exact k1 i h
      · exact k2 i h
    constructor
    · intro hB
      simp only [treeB, Bool.not_true, Bool.false_or, Bool.and_eq_true, decide_eq_true_eq] at hB
      obtain ⟨hrd, ht, hu⟩ := hB
      obtain ⟨f', rfl, ne, k⟩ := h2 ht hu
      refine ⟨by rw [hrd]; exact ne, fun j hj => ?_⟩
      rw [hrd] at hj
      exact k j hj
    · intro hB
      simp only [treeB, Bool.not_false, Bool.true_or, Bool.true_and, Bool.and_eq_true] at hB
      exact h2 hB.1 hB.2

/-- the whole check, by the kernel -/
def forkB (l : List Oper) (n : Nat) (t : Tr) : Bool :=
  Region.noSelect l.toArray && decide (n ≤ l.length) && t.deep n && t.within l.length &&
  (if n < l.length then Region.sinkB .any l.toArray n && Region.chainB .any l.toArray n else true) && treeB .any l.toArray n (l.length - n) t true (Array.replicate l.length false)

theorem wp_region_fork {id : Nat} {Q : Exit → Act → World → Prop} {a : Act} {w : World} {l : List Oper} (n : Nat) (t : Tr) (hm : P.follows .mixedOrders = true) (hB : forkB l n t = true)
    (h : wpT P l.toArray (fun a' w' => wpList P l.toArray Q (l.drop n) a' w') (pickT l t) a w.drew) : (Code.region id l.toArray true).wp P Q a w := by
  simp only [forkB, Bool.and_eq_true, decide_eq_true_eq] at hB
  obtain ⟨⟨⟨⟨⟨hsel, hn⟩, hdeep⟩, hwi⟩, htail⟩, hplan⟩ := hB
  have hsz : l.toArray.size = l.length := by simp
  have hplan' : treeB .any l.toArray n (l.length - n) t true (Array.replicate l.toArray.size false) = true := by rw [hsz]; exact hplan
  have inv0 : HeadInv .any l.toArray n (Array.replicate l.toArray.size false) :=
    ⟨by simp, fun j oj _ hl => (by rw [getD_replicate_false] at hl; cases hl), fun t _ ht => getD_in (by simpa using ht) (getD_replicate_false _ _)⟩
  have hjn : ∀ i, i < n → ∀ listed, HeadInv .any l.toArray n listed → listed.getD i true = false → ∀ j ∈ Region.ready .any l.toArray listed, j < n := fun i hi listed inv hun j hj => by
    by_cases hlt : n < l.length
    · rw [if_pos hlt] at htail
      simp only [Bool.and_eq_true] at htail
      rcases Nat.lt_or_ge j n with h1 | h1
      · exact h1
      · exact absurd hj (tail_waits htail.1 htail.2 (by rw [hsz]; exact hlt) inv _ i rfl hi hun j h1)
    · obtain ⟨_, oj, hoj, _⟩ := mem_ready.1 hj
      have := (Array.getElem?_eq_some_iff.1 hoj).1
      rw [hsz] at this; omega
  have hdone : ∀ listed, planB .any l.toArray n (l.length - n) [] listed = true → ∀ j ∈ Region.ready .any l.toArray listed, n ≤ j := fun listed hp j hj => by
    simp only [planB] at hp
    split at hp
    · exact seqB_ready hp j hj
    · simp only [List.isEmpty_iff] at hp
      rw [hp] at hj; cases hj
  have hEL := (wpEL_of_tree (P := P) (g := l.length - n) hsel hjn hdone t n _ a w.drew hdeep hwi inv0 h).1 hplan'
  refine wp_region_any hm ?_
  have := wpAny_of_EL (Q := Q) (g := l.length - n) (fun listed a' w' hL => by
    obtain ⟨hp, hq⟩ := hL
    by_cases hlt : n < l.length
    · simp only [planB, hsz, if_pos hlt] at hp
      have := wpAny_of_seq (md := .any) (Q' := Q) (l.drop n) n listed a' w' (fun j => by simp [List.getElem?_drop]) (by rw [List.length_drop]; exact hp) hq
      rwa [List.length_drop] at this
    · simp only [planB, hsz, if_neg hlt, List.isEmpty_iff] at hp
      have hnl : n = l.length := by omega
      subst hnl
      rw [List.drop_length] at hq
      rw [Nat.sub_self]
      exact ⟨hp, hq⟩) _ _ _ _ hEL
  rw [show n + (l.length - n) = l.toArray.size by rw [hsz]; omega] at this
  exact this

/-! ### The steps of the walk -/
section
variable {Lq : Act → World → Prop} {r : TO} {a : Act} {w : World} {o : Oper}
theorem wpT_nil (h : ∀ W, Ext w W → Lq a W) : wpT P ops Lq .nil a w := h
theorem wpT_valK (hw : Region.wanted o (yielded ops a.tmps) = true) (h : ∀ K : Act → Prop, (∀ a, wpT P ops Lq r a w → K a) → ∃ v, (∀ W, Ext w W → (execOp a.eval o).run P W = .ok (.value v) W) ∧ K (a.put o.dst v)) : wpT P ops Lq (.q o r) a w := by
  obtain ⟨v, hv, h2⟩ := h _ fun _ h => h
  simp only [wpT, hw, if_true]
  exact ⟨v, fun W hW => by rw [hv W hW]; exact ⟨rfl, rfl⟩, ⟨h2⟩⟩
/-- a loud call: whatever it returns -/
theorem wpT_loudK (f : FuncId) (args : Array Value) (hw : Region.wanted o (yielded ops a.tmps) = true) (hv : ∀ W, (execOp a.eval o).run P W = .ok (.enter f args) W)
    (hc : ∀ W, Ext w W → Calls P f args W fun e w2 => ∃ v, e = .returned v ∧ Ext W w2 ∧ (∀ K : Act → Prop, (∀ a, wpT P ops Lq r a w2 → K a) → K (a.put o.dst v))) : wpT P ops Lq (.l o r) a w := by
  intro W hW
  simp only [hw, if_true, Oper.wp, hv W, Oper.upon]
  exact (hc W hW).mono fun e w2 ⟨v, he, hx, hp⟩ => by subst he; exact ⟨hx, hp _ fun _ h => h⟩
end
end
end Go.Proofs.Ytglmohcnmpbfmaa
