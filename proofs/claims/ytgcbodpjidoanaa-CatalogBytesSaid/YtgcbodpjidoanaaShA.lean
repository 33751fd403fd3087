/- ShA -/
import Derived.Test.YtgcbodpjidoanaaBase
import Derived.Test.YtgcbodpjidoanaaProg
import Derived.Laws.BitsAllLaws
import Derived.Maps.AppendAt
import Derived.Deep.AppendLies
import Derived.Lib.Bytealg
import Derived.Laws.Rows
import Derived.Laws.Externs
import Derived.Laws.StructEq
import Derived.Laws.ResultCell
import Derived.StillTail
import Derived.IntWalk
set_option linter.unusedVariables false
set_option linter.unusedSimpArgs false
namespace Go.Proofs.Ytgcbodpjidoanaa
open Go.RowKit
/-- a word as Go's number -/
def n32 (x : UInt32) : Int := (x.toNat : Int)
theorem n32_bd (x : UInt32) : 0 ≤ n32 x ∧ n32 x ≤ 4294967295 := by unfold n32; have := x.toNat_lt; omega
def shr (x : UInt32) (n : Nat) : UInt32 := UInt32.ofNat (x.toNat / 2 ^ n)
def shl (x : UInt32) (n : Nat) : UInt32 := UInt32.ofNat (x.toNat * 2 ^ n)
def rotr (x : UInt32) (n : Nat) : UInt32 := shr x n ||| shl x (32 - n)
theorem n32_ofNat (n : Nat) : n32 (UInt32.ofNat n) = ((n % 4294967296 : Nat) : Int) := by unfold n32; rw [UInt32.toNat_ofNat']
theorem n32_xor (x y : UInt32) : bits .xor .u32 (n32 x) (n32 y) = n32 (x ^^^ y) := by
  unfold n32; rw [u32_xor_nat _ _ x.toNat_lt y.toNat_lt, UInt32.toNat_xor]
theorem n32_and (x y : UInt32) : bits .and .u32 (n32 x) (n32 y) = n32 (x &&& y) := by
  unfold n32; rw [u32_and_nat _ _ x.toNat_lt y.toNat_lt, UInt32.toNat_and]
theorem n32_or (x y : UInt32) : bits .or .u32 (n32 x) (n32 y) = n32 (x ||| y) := by
  unfold n32; rw [u32_or_nat _ _ x.toNat_lt y.toNat_lt, UInt32.toNat_or]
theorem n32_add (x y : UInt32) : IntKind.u32.wrap (n32 x + n32 y) = n32 (x + y) := by
  unfold n32; rw [IntKind.wrap_u32', UInt32.toNat_add]; omega
theorem n32_shl (x : UInt32) (n : Nat) : IntKind.u32.wrap (n32 x * 2 ^ n) = n32 (shl x n) := by
  unfold shl; rw [n32_ofNat, IntKind.wrap_u32']; unfold n32
  rw [show ((x.toNat : Int) * 2 ^ n) = ((x.toNat * 2 ^ n : Nat) : Int) by simp]
  omega
theorem n32_shr (x : UInt32) (n : Nat) : n32 x / 2 ^ n = n32 (shr x n) := by
  unfold shr; rw [n32_ofNat]; unfold n32
  have h : x.toNat / 2 ^ n < 4294967296 := Nat.lt_of_le_of_lt (Nat.div_le_self _ _) x.toNat_lt
  rw [Nat.mod_eq_of_lt h]
  simp
theorem rot_eq (x : UInt32) (n m : Nat) (hm : m = 32 - n) (hn : n ≤ 32) : bits .or .u32 (n32 x * 2 ^ min m 32 % 4294967296) (n32 x / 2 ^ min n 32) = n32 (rotr x n) := by
  rw [Nat.min_eq_left (by omega), Nat.min_eq_left hn, n32_shr, ← IntKind.wrap_u32', n32_shl, n32_or]
  unfold rotr; rw [hm, UInt32.or_comm]
theorem rot_eq' (x : UInt32) (n m : Nat) (hm : m = 32 - n) (hn : n ≤ 32) : bits .or .u32 (n32 x / 2 ^ min n 32) (n32 x * 2 ^ min m 32 % 4294967296) = n32 (rotr x n) := by
  rw [Nat.min_eq_left (show n ≤ 32 from hn), Nat.min_eq_left (show m ≤ 32 by omega), n32_shr, ← IntKind.wrap_u32', n32_shl, n32_or]
  unfold rotr; rw [hm]
theorem n32_not' (y : UInt32) : IntKind.u32.wrap (4294967295 - n32 y) = n32 (~~~ y) := by
  unfold n32; rw [IntKind.wrap_u32', UInt32.toNat_not]
  have := y.toNat_lt
  simp [UInt32.size]
  omega
theorem ones_xor (y : UInt32) : (4294967295 : UInt32) ^^^ y = ~~~ y := by
  apply UInt32.toBitVec_inj.1
  rw [UInt32.toBitVec_xor, UInt32.toBitVec_not]
  exact BitVec.allOnes_xor
theorem n32_not (y : UInt32) : bits .xor .u32 (if IntKind.u32.signed = true then -1 else IntKind.u32.max) (n32 y) = n32 (~~~ y) := by
  rw [← ones_xor, ← n32_xor]
  rfl
theorem rot_any (x : UInt32) (k : Int) (n : Nat) (hn : n ≤ 32) (hk : bits .and .u64 (IntKind.u64.wrap k) 31 = ((32 - n : Nat) : Int)) (w : World) :
    Calls Try.prog 262 #[.int .u32 (n32 x), .int .i64 k] w fun e w' => e = .returned (.int .u32 (n32 (rotr x n))) ∧ w = w' := by
  obtain ⟨m, hm⟩ : ∃ m, m = 32 - n := ⟨_, rfl⟩
  rw [← hm] at hk
  have h3 : IntKind.u64.wrap (32 - (m : Int)) = (n : Int) := by rw [IntKind.wrap_u64]; omega
  have h5 := hideP (rot_eq x n m hm hn)
  clear hm hn
  go_enter Try.func262, Try.ntmps262
  go_wp2
  go_ret
  exact ⟨ret_int h5.out, rfl⟩
theorem turned_any (x : UInt32) (n : Nat) (hn : n ≤ 32) (w : World) :
    Calls Try.prog 263 #[.int .u32 (n32 x), .int .u64 n] w fun e w' => e = .returned (.int .u32 (n32 (rotr x n))) ∧ w = w' := by
  obtain ⟨m, hm⟩ : ∃ m, m = 32 - n := ⟨_, rfl⟩
  have h3 : IntKind.u64.wrap (32 - (n : Int)) = (m : Int) := by rw [IntKind.wrap_u64]; omega
  have h5 := hideP (rot_eq' x n m hm hn)
  clear hm hn
  go_enter Try.func263, Try.ntmps263
  go_wp2
  go_ret
  exact ⟨ret_int h5.out, rfl⟩
end Go.Proofs.Ytgcbodpjidoanaa
namespace Go.Proofs.Ytgcbodpjidoanaa
open Go.RowKit

/-- bytes as Go's string -/
def bstr (l : List Nat) : ByteArray := ⟨(l.map UInt8.ofNat).toArray⟩
theorem IsB.cons {x : Nat} {l : List Nat} (h : IsB (x :: l)) : x < 256 ∧ IsB l := ⟨h 0, fun i => h (i + 1)⟩
section
variable {P : Program} (w : World)

/-- 'append(out, x..)', the elements in a new block of their own (buildSlice), out nil or the call's own. -/
theorem run_append_cells (base : Nat) (t ty e : TypeId) (i : TypeInfo) (z : Value) (size bytes : Nat) (ht : P.underlying t = some (.slice e)) (hi : P.info? e = some i) (hz : i.zero = some z)
    (hsize : i.size = size) (hby : i.bytes = bytes) (hzs : z.cells.size = size) (hsz : 0 < size)
    (v : Value) (n : Nat) (xs : List Value) (hown : w.ownsRow base e size v n xs) (cs : Array Value) (m : Nat) (hm : cs.toList.length = m * size) (h1 : ∀ u ∈ cs.toList, u.oneCell' = true) (hm0 : 0 < m)
    (h63 : n + m ≤ maxLen) (hbytes : (n + m) * bytes ≤ 140737488355328) (hbase : base ≤ w.heap.size) :
    ∃ g c w', (Builtin.append_ #[t, t] ty #[v, .slice (some ⟨w.heap.size, 0, none⟩) m m]).run P (w.alloc (.cells cs e)) = .ok (.slice (some ⟨g, 0, none⟩) (n + m) c) w' ∧
      w'.ownsRow base e size (.slice (some ⟨g, 0, none⟩) (n + m) c) (n + m) (xs ++ cs.toList) ∧ w.grownBy w' v.ownBlock ∧ (v.ownBlock = some g ∨ w.heap.size ≤ g) := by
  obtain ⟨v', w', hrun, h2, h3, h4, h5⟩ := run_append_own_at (P := P) (w.alloc (.cells cs e)) base t ty e i z size bytes ht hi hz hsize hby hzs hsz v n xs (hown.alloc _) ⟨w.heap.size, 0, none⟩ m m cs.toList hm
    (World.news_of_block (heap_alloc_new w _)) h1 h63 hbytes (by simp; omega)
  rcases h2.2 with ⟨hv, h0⟩ | ⟨g, cap, cur, hv, hb, hh, hcap, hmx, hs, ht⟩
  · omega
  · subst hv
    refine ⟨g, cap, w', hrun, h2, ?_, ?_⟩
    · refine ⟨h3.os, h3.tape, h3.output, Nat.le_trans (by simp) h3.size, fun k hk hne => ?_⟩
      rw [h3.block k (by simp; omega) hne]
      exact Below.heap_alloc w _ k hk
    · rcases h5 with h5 | h5
      · left; rw [← h5]; rfl
      · right
        have : g = (w.alloc (.cells cs e)).heap.size := by simpa [Value.ownBlock] using h5
        rw [this]; simp

theorem wpList_append_cells {ops : Array Oper} {rest : List Oper} {o : Oper} {a : Act} {Q : Exit → Act → World → Prop} (hgd : o.guard = none) (s x : Operand) (t : TypeId)
    (ho : o.op = .call { callee := .builtin .append, args := #[s, x], argTypes := #[t, t] })
    (base : Nat) (e : TypeId) (i : TypeInfo) (z : Value) (size bytes : Nat) (ht : P.underlying t = some (.slice e)) (hi : P.info? e = some i) (hz : i.zero = some z)
    (hsize : i.size = size) (hby : i.bytes = bytes) (hzs : z.cells.size = size) (hsz : 0 < size)
    (v : Value) (n : Nat) (xs : List Value) (hs : a.eval s = v) (hown : w.ownsRow base e size v n xs) (cs : Array Value) (m : Nat) (hx : a.eval x = .slice (some ⟨w.heap.size, 0, none⟩) m m)
    (hm : cs.toList.length = m * size) (h1 : ∀ u ∈ cs.toList, u.oneCell' = true) (hm0 : 0 < m)
    (h63 : n + m ≤ maxLen) (hbytes : (n + m) * bytes ≤ 140737488355328) (hbase : base ≤ w.heap.size)
    (h : ∀ g c w', w'.ownsRow base e size (.slice (some ⟨g, 0, none⟩) (n + m) c) (n + m) (xs ++ cs.toList) → w.grownBy w' v.ownBlock → (v.ownBlock = some g ∨ w.heap.size ≤ g) →
      wpList P ops Q rest (a.put o.dst (.slice (some ⟨g, 0, none⟩) (n + m) c)) w') : wpList P ops Q (o :: rest) a (w.alloc (.cells cs e)) := by
  obtain ⟨g, c, w', hrun, h2, h3, h4⟩ := run_append_cells (P := P) w base t o.type e i z size bytes ht hi hz hsize hby hzs hsz v n xs hown cs m hm h1 hm0 h63 hbytes hbase
  refine wpList_plain hgd fun K hK => ?_
  unfold Oper.wp execOp
  simp only [ho, resolve, invoke, builtin, Sem.run_bind, Sem.run_pure, Result.andThen_ok, List.map_toArray, List.map_cons, List.map_nil, hs, hx, hrun]
  exact hK _ _ (h g c w' h2 h3 h4)

theorem run_append_nil (base : Nat) (t ty e : TypeId) (i : TypeInfo) (size : Nat) (ht : P.underlying t = some (.slice e)) (hi : P.info? e = some i)
    (v : Value) (n : Nat) (xs : List Value) (hown : w.ownsRow base e size v n xs) (c : Nat) : (Builtin.append_ #[t, t] ty #[v, .slice none 0 c]).run P w = .ok v w := by
  rcases hown.2 with ⟨rfl, rfl⟩ | ⟨g, cap, cur, rfl, _, _, hnc, _⟩
  · simp [Builtin.append_, run_underlying ht, sizeOf, typeInfo, hi, Builtin.lenOf, Builtin.firstCells]
  · simp [Builtin.append_, run_underlying ht, sizeOf, typeInfo, hi, Builtin.lenOf, Builtin.firstCells, hnc, storeCells]

/-- 'append(out, xs...)', elements of one cell, xs nil, empty or not. -/
theorem run_append_arr (base : Nat) (t ty e : TypeId) (i : TypeInfo) (z : Value) (bytes : Nat) (ht : P.underlying t = some (.slice e)) (hi : P.info? e = some i) (hz : i.zero = some z)
    (hsize : i.size = 1) (hby : i.bytes = bytes) (hzs : z.cells.size = 1)
    (v : Value) (n : Nat) (xs : List Value) (hown : w.ownsRow base e 1 v n xs)
    (B : Nat) (A : Option Addr) (m c : Nat) (f : Nat → Value) (hr : Arr w B A m f) (h1 : ∀ j, (f j).oneCell' = true)
    (h63 : n + m ≤ maxLen) (hbytes : (n + m) * bytes ≤ 140737488355328) (hbase : base ≤ w.heap.size) :
    ∃ A' c' w', (Builtin.append_ #[t, t] ty #[v, .slice A m c]).run P w = .ok (.slice A' (n + m) c') w' ∧ w'.ownsRow base e 1 (.slice A' (n + m) c') (n + m) (xs ++ (List.range m).map f) ∧ w.grownBy w' v.ownBlock ∧
      ((Value.slice A' (n + m) c').ownBlock = v.ownBlock ∨ (Value.slice A' (n + m) c').ownBlock = some w.heap.size) := by
  have shape : ∀ v' w', World.ownsRow w' base e 1 v' (n + m) (xs ++ (List.range m).map f) → ∃ A' c', v' = .slice A' (n + m) c' := fun v' w' h => by
    rcases h.2 with ⟨rfl, h0⟩ | ⟨g, cap, cur, rfl, _⟩
    · exact ⟨none, 0, by rw [h0]⟩
    · exact ⟨_, _, rfl⟩
  rcases A with _ | ad
  · have hm : m = 0 := by
      rcases Nat.eq_zero_or_pos m with h0 | h0
      · exact h0
      · obtain ⟨_, _, h, _⟩ := hr h0
        cases h
    subst hm
    have hown' : w.ownsRow base e 1 v (n + 0) (xs ++ (List.range 0).map f) := by simpa using hown
    obtain ⟨A', c', rfl⟩ := shape v w hown'
    exact ⟨A', c', w, run_append_nil w base t ty e i 1 ht hi _ n xs hown c, hown', World.grownBy.refl w _, .inl rfl⟩
  · have hcells : ∀ j u, ((List.range m).map f)[j]? = some u → w.cell? (ad.add j) = some u := by
      intro j u hu
      have hj : j < m := by
        rcases Nat.lt_or_ge j m with h | h
        · exact h
        · rw [List.getElem?_eq_none (by simpa using h)] at hu; cases hu
      obtain ⟨b, off, e1, hb, hc⟩ := hr (by omega)
      injection e1 with e1
      subst e1
      simp only [List.getElem?_map, List.getElem?_range hj, Option.map_some] at hu
      injection hu with hu
      subst hu
      have hadd : (⟨b, off, none⟩ : Addr).add j = ⟨b, off + j, none⟩ := by unfold Addr.add; split <;> simp_all
      rw [hadd]
      exact hc j hj
    obtain ⟨v', w', hrun, h2, h3, _, h5⟩ := run_append_own_at (P := P) w base t ty e i z 1 bytes ht hi hz hsize hby hzs (by omega) v n xs hown ad m c ((List.range m).map f) (by simp) hcells
      (fun u hu => by obtain ⟨j, _, rfl⟩ := List.mem_map.1 hu; exact h1 j) h63 hbytes hbase
    obtain ⟨A', c', rfl⟩ := shape v' w' h2
    exact ⟨A', c', w', hrun, h2, h3, h5⟩

theorem wpList_append_arr {ops : Array Oper} {rest : List Oper} {o : Oper} {a : Act} {Q : Exit → Act → World → Prop} (hgd : o.guard = none) (s x : Operand) (t : TypeId)
    (ho : o.op = .call { callee := .builtin .append, args := #[s, x], argTypes := #[t, t] })
    (base : Nat) (e : TypeId) (i : TypeInfo) (z : Value) (bytes : Nat) (ht : P.underlying t = some (.slice e)) (hi : P.info? e = some i) (hz : i.zero = some z)
    (hsize : i.size = 1) (hby : i.bytes = bytes) (hzs : z.cells.size = 1)
    (v : Value) (n : Nat) (xs : List Value) (hs : a.eval s = v) (hown : w.ownsRow base e 1 v n xs)
    (B : Nat) (A : Option Addr) (m c : Nat) (f : Nat → Value) (hx : a.eval x = .slice A m c) (hr : Arr w B A m f) (h1 : ∀ j, (f j).oneCell' = true)
    (h63 : n + m ≤ maxLen) (hbytes : (n + m) * bytes ≤ 140737488355328) (hbase : base ≤ w.heap.size)
    (h : ∀ A' c' w', w'.ownsRow base e 1 (.slice A' (n + m) c') (n + m) (xs ++ (List.range m).map f) → w.grownBy w' v.ownBlock →
      ((Value.slice A' (n + m) c').ownBlock = v.ownBlock ∨ (Value.slice A' (n + m) c').ownBlock = some w.heap.size) → wpList P ops Q rest (a.put o.dst (.slice A' (n + m) c')) w') : wpList P ops Q (o :: rest) a w := by
  obtain ⟨A', c', w', hrun, h2, h3, h4⟩ := run_append_arr (P := P) w base t o.type e i z bytes ht hi hz hsize hby hzs v n xs hown B A m c f hr h1 h63 hbytes hbase
  refine wpList_plain hgd fun K hK => ?_
  unfold Oper.wp execOp
  simp only [ho, resolve, invoke, builtin, Sem.run_bind, Sem.run_pure, Result.andThen_ok, List.map_toArray, List.map_cons, List.map_nil, hs, hx, hrun]
  exact hK _ _ (h A' c' w' h2 h3 h4)
end

/-- Below a base, behind an append to a row of the call's own -/
theorem below_own {w w' : World} {base B : Nat} {e : TypeId} {size n : Nat} {v : Value} {xs : List Value} (hown : w.ownsRow base e size v n xs) (hg : w.grownBy w' v.ownBlock) (hB : B ≤ base) (hs : B ≤ w.heap.size) : Below B w w' :=
  (Below.refl _ _).grown hg hs fun k hk => Nat.le_trans hB (hown.lt k hk).1

/-! ### A block whose first n cells are known, not frozen -/
def Blk (w : World) (g : Nat) (t : TypeId) (n : Nat) (f : Nat → Value) : Prop :=
  ∃ cs : Array Value, w.heap[g]? = some (.cells cs t (0, 0)) ∧ n ≤ cs.size ∧ ∀ i, i < n → cs[i]? = some (f i)
section
variable {w w' : World} {g : Nat} {t : TypeId} {n : Nat} {f f' : Nat → Value}
theorem Blk.lt (h : Blk w g t n f) : g < w.heap.size := by
  obtain ⟨cs, hg, _⟩ := h
  exact (Array.getElem?_eq_some_iff.1 hg).1
theorem Blk.cell (h : Blk w g t n f) {i : Nat} (hi : i < n) : w.cell? ⟨g, i, none⟩ = some (f i) := by
  obtain ⟨cs, hg, _, hc⟩ := h
  rw [cell_of_row w g i cs t (0, 0) hg]; exact hc i hi
theorem Blk.frozen (h : Blk w g t n f) (i : Nat) : w.frozen? ⟨g, i, none⟩ = false := by
  obtain ⟨cs, hg, _⟩ := h
  exact frozen_of_row w g i cs t hg
theorem Blk.congr (h : Blk w g t n f) (e : ∀ i, i < n → f i = f' i) : Blk w g t n f' := by
  obtain ⟨cs, hg, hn, hc⟩ := h
  exact ⟨cs, hg, hn, fun i hi => by rw [hc i hi, e i hi]⟩
theorem Blk.of_block (h : Blk w g t n f) (e : w'.heap[g]? = w.heap[g]?) : Blk w' g t n f := by
  obtain ⟨cs, hg, r⟩ := h
  exact ⟨cs, e.trans hg, r⟩
theorem Blk.set (h : Blk w g t n f) (i : Nat) (v : Value) : Blk (w.setCell ⟨g, i, none⟩ v) g t n (fun j => if j = i then v else f j) := by
  obtain ⟨cs, hg, hn, hc⟩ := h
  refine ⟨cs.setIfInBounds i v, ?_, by simpa using hn, fun j hj => ?_⟩
  · simp [World.setCell, Array.getElem?_modify, hg]
  · rw [Array.getElem?_setIfInBounds]
    by_cases e : i = j
    · subst e; simp; omega
    · rw [if_neg e]
      show cs[j]? = some (if j = i then v else f j)
      rw [if_neg (fun h => e h.symm)]; exact hc j hj
theorem Blk.setOther (h : Blk w g t n f) {a : Addr} (ha : g ≠ a.block) (v : Value) : Blk (w.setCell a v) g t n f := h.of_block (Below.heap_setCell _ _ _ _ ha)
theorem Blk.alloc (h : Blk w g t n f) (o : Obj) : Blk (w.alloc o) g t n f := h.of_block (Below.heap_alloc _ _ _ h.lt)
theorem Blk.drew (h : Blk w g t n f) : Blk w.drew g t n f := h
theorem Blk.drewN (h : Blk w g t n f) (k : Nat) : Blk (w.drewN k) g t n f := h
theorem Blk.below {B : Nat} (h : Blk w g t n f) (hb : Below B w w') (hB : g < B) : Blk w' g t n f := h.of_block (hb.block g hB)
theorem Blk.of_row {m : Nat} (h : w.rowIs g t m f) (hn : n ≤ m) : Blk w g t n f := by
  obtain ⟨cs, hg, hs, hc⟩ := h
  exact ⟨cs, hg, by omega, fun i hi => hc i (by omega)⟩
/-- an owned row that is not empty is such a block -/
theorem Blk.of_own {base : Nat} {e : TypeId} {A : Option Addr} {c : Nat} {xs : List Value} (h : w.ownsRow base e 1 (.slice A n c) n xs) (hn : 0 < n) (hf : ∀ i, i < n → xs[i]? = some (f i)) :
    ∃ g, A = some ⟨g, 0, none⟩ ∧ base ≤ g ∧ Blk w g e n f := by
  rcases h.2 with ⟨he, h0⟩ | ⟨r, cap, cur, hv, hb, hh, hcap, hm, hs, ht⟩
  · omega
  · injection hv with hA _ _
    subst hA
    refine ⟨r, rfl, hb, cur, hh, by omega, fun i hi => ?_⟩
    have h1 := hf i hi
    rw [← ht, List.getElem?_take] at h1
    split at h1
    · simpa using h1
    · cases h1
end

theorem below_new (w : World) (o : Obj) : Below w.heap.size w (w.alloc o) := (Below.refl _ _).alloc (Nat.le_refl _) o

/-! ### Lists of bytes in order -/
def lexLt : List Nat → List Nat → Bool
  | _, [] => false
  | [], _ :: _ => true
  | a :: x, b :: y => decide (a < b) || (decide (a = b) && lexLt x y)
def lessB (a b : List Nat) : Bool := if a.length = b.length then lexLt a b else decide (a.length < b.length)
/-- a block of one cell -/
def One (w : World) (g : Nat) (t : TypeId) (x : Value) : Prop := w.heap[g]? = some (.cells #[x] t (0, 0))
section
variable {w w' : World} {g : Nat} {t : TypeId} {x : Value}
theorem One.c0 (h : One w g t x) : w.cell? ⟨g, 0, none⟩ = some x := by rw [cell_of_row w g 0 _ t (0, 0) h]; rfl
theorem One.fz (h : One w g t x) (i : Nat) : w.frozen? ⟨g, i, none⟩ = false := frozen_of_row w g i _ t h
theorem One.lt (h : One w g t x) : g < w.heap.size := (Array.getElem?_eq_some_iff.1 h).1
theorem One.below {B : Nat} (h : One w g t x) (hb : Below B w w') (hB : g < B) : One w' g t x := (hb.block g hB).trans h
theorem One.after (h : One w g t x) (hb : Below w.heap.size w w') : One w' g t x := h.below hb h.lt
theorem One.set (h : One w g t x) (u : Value) : One (w.setCell ⟨g, 0, none⟩ u) g t u := by
  unfold One at *
  simp [World.setCell, Array.getElem?_modify, h]
theorem One.setOther (h : One w g t x) {a : Addr} (ha : g ≠ a.block) (v : Value) : One (w.setCell a v) g t x := (Below.heap_setCell _ _ _ _ ha).trans h
theorem One.alloc (h : One w g t x) (o : Obj) : One (w.alloc o) g t x := (Below.heap_alloc _ _ _ h.lt).trans h
theorem One.drewN (h : One w g t x) (k : Nat) : One (w.drewN k) g t x := h
theorem One.new (w : World) (t : TypeId) (x : Value) : One (w.alloc (.cells #[x] t)) w.heap.size t x := heap_alloc_new _ _
end
/-- a block of two cells -/
def Two (w : World) (g : Nat) (t : TypeId) (x y : Value) : Prop := w.heap[g]? = some (.cells #[x, y] t (0, 0))
section
variable {w w' : World} {g : Nat} {t : TypeId} {x y : Value}
theorem Two.c0 (h : Two w g t x y) : w.cell? ⟨g, 0, none⟩ = some x := by rw [cell_of_row w g 0 _ t (0, 0) h]; rfl
theorem Two.c1 (h : Two w g t x y) : w.cell? ⟨g, 1, none⟩ = some y := by rw [cell_of_row w g 1 _ t (0, 0) h]; rfl
theorem Two.fz (h : Two w g t x y) (i : Nat) : w.frozen? ⟨g, i, none⟩ = false := frozen_of_row w g i _ t h
theorem Two.lt (h : Two w g t x y) : g < w.heap.size := (Array.getElem?_eq_some_iff.1 h).1
theorem Two.below {B : Nat} (h : Two w g t x y) (hb : Below B w w') (hB : g < B) : Two w' g t x y := (hb.block g hB).trans h
theorem Two.after (h : Two w g t x y) (hb : Below w.heap.size w w') : Two w' g t x y := h.below hb h.lt
theorem Two.setOther (h : Two w g t x y) {a : Addr} (ha : g ≠ a.block) (v : Value) : Two (w.setCell a v) g t x y := (Below.heap_setCell _ _ _ _ ha).trans h
theorem Two.alloc (h : Two w g t x y) (o : Obj) : Two (w.alloc o) g t x y := (Below.heap_alloc _ _ _ h.lt).trans h
theorem Two.drewN (h : Two w g t x y) (k : Nat) : Two (w.drewN k) g t x y := h
theorem Two.new (w : World) (t : TypeId) (x y : Value) : Two (w.alloc (.cells #[x, y] t)) w.heap.size t x y := heap_alloc_new _ _
/-- the same, where the place is known as a number -/
theorem Two.new' (w : World) (t : TypeId) (x y : Value) (g : Nat) (h : w.heap.size = g) : Two (w.alloc (.cells #[x, y] t)) g t x y := by subst h; exact heap_alloc_new _ _
theorem One.new' (w : World) (t : TypeId) (x : Value) (g : Nat) (h : w.heap.size = g) : One (w.alloc (.cells #[x] t)) g t x := by subst h; exact heap_alloc_new _ _
end
end Go.Proofs.Ytgcbodpjidoanaa
namespace Go.Proofs.Ytgcbodpjidoanaa
open Go.RowKit

/-- all that w holds W holds too -/
structure Ext (w W : World) : Prop where
  size : w.heap.size ≤ W.heap.size
  block : ∀ k, k < w.heap.size → W.heap[k]? = w.heap[k]?
  os : W.os = w.os
  tape : W.tape = w.tape
  output : W.output = w.output
theorem Ext.refl (w : World) : Ext w w := ⟨Nat.le_refl _, fun _ _ => rfl, rfl, rfl, rfl⟩
theorem Ext.trans {a b c : World} (h : Ext a b) (k : Ext b c) : Ext a c :=
  ⟨Nat.le_trans h.size k.size, fun i hi => (k.block i (Nat.lt_of_lt_of_le hi h.size)).trans (h.block i hi), k.os.trans h.os, k.tape.trans h.tape, k.output.trans h.output⟩
theorem Ext.of_below {w W : World} (h : Below w.heap.size w W) : Ext w W := ⟨h.size, h.block, h.os, h.tape, h.output⟩
theorem Ext.below {w W : World} (h : Ext w W) : Below w.heap.size w W := ⟨h.os, h.tape, h.output, h.size, h.block⟩
theorem Ext.alloc (w : World) (o : Obj) : Ext w (w.alloc o) := ⟨by simp, fun k hk => Below.heap_alloc w o k hk, rfl, rfl, rfl⟩
theorem Ext.drew {w W : World} (h : Ext w W) : Ext w W.drew := ⟨h.size, h.block, h.os, h.tape, h.output⟩
theorem Ext.drewN {w W : World} (h : Ext w W) (n : Nat) : Ext w (W.drewN n) := ⟨h.size, h.block, h.os, h.tape, h.output⟩
theorem Ext.drew_left {w W : World} (h : Ext w.drew W) : Ext w W := ⟨h.size, h.block, h.os, h.tape, h.output⟩
theorem Ext.cell {w W : World} (h : Ext w W) {p : Addr} {v : Value} (hc : w.cell? p = some v) : W.cell? p = some v :=
  (World.cell?_of_block (w := w) (h.block p.block (World.block_lt_of_cell? w p hc))).trans hc
theorem ownsRow_ext {w W : World} {base : Nat} {e : TypeId} {size n : Nat} {v : Value} {xs : List Value} (h : w.ownsRow base e size v n xs) (hW : Ext w W) : W.ownsRow base e size v n xs := by
  refine ⟨h.1, h.2.imp id ?_⟩
  rintro ⟨g, cap, cur, hv, hb, hh, r⟩
  exact ⟨g, cap, cur, hv, hb, (hW.block g (Array.getElem?_eq_some_iff.1 hh).1).trans hh, r⟩
theorem Two.ext {w W : World} {g : Nat} {t : TypeId} {x y : Value} (h : Two w g t x y) (hW : Ext w W) : Two W g t x y := (hW.block g h.lt).trans h
theorem One.ext {w W : World} {g : Nat} {t : TypeId} {x : Value} (h : One w g t x) (hW : Ext w W) : One W g t x := (hW.block g h.lt).trans h
theorem below_ext {w w1 W : World} (h : Below w.heap.size w w1) (hW : Ext w1 W) : Below w.heap.size w W := h.trans (hW.below.mono h.size)
theorem Arr.ext {w W : World} {A : Option Addr} {n : Nat} {f : Nat → Value} (h : Arr w w.heap.size A n f) (hW : Ext w W) : Arr W W.heap.size A n f := h.after hW.below

section
variable {P : Program} {ops : Array Oper} {md : Region.Mode}

/-- no way out but the plain one -/
def QF : Exit → Act → World → Prop := fun _ _ _ => False

theorem Oper.wp_toQ {o : Oper} {a : Act} {w : World} {K : Act → World → Prop} {Q : Exit → Act → World → Prop} (h : o.wp P a w K QF) : o.wp P a w K Q := by
  unfold Oper.wp at *
  generalize (execOp a.eval o).run P w = r at *
  cases r with
  | ok n w' =>
    cases n <;> simp only [Oper.upon] at h ⊢ <;> try exact h
    case enter f args =>
      exact Calls.mono h fun e w'' he => by
        cases e with
        | returned v => exact he
        | panicked c => exact he.elim
        | outgrown => obtain ⟨_, _, h⟩ := he; exact h.elim
  | halt x w' =>
    cases x <;> simp only [Oper.upon] at h ⊢ <;> first | exact h | exact (h : False).elim

/-- operation i comes up; it leaves all memory that was there as it was -/
def eOp (P : Program) (ops : Array Oper) (i : Nat) (K : Act → World → Prop) (a : Act) (w : World) : Prop :=
  match ops[i]? with
  | none => K a w
  | some o => if Region.wanted o (yielded ops a.tmps) then o.wp P a w (fun a' w' => Ext w w' ∧ K a' w') QF else K (a.put o.dst undef) w

theorem eOp_mono {i : Nat} {a : Act} {w : World} {K K' : Act → World → Prop} (h : ∀ a w, K a w → K' a w) (hh : eOp P ops i K a w) : eOp P ops i K' a w := by
  unfold eOp at *
  split
  · exact h _ _ (by simpa [*] using hh)
  · rename_i o ho
    simp only [ho] at hh
    split
    · rename_i hw; simp only [hw, if_true] at hh; exact Oper.wp_mono (fun a w h2 => ⟨h2.1, h _ _ h2.2⟩) hh
    · rename_i hw; simp only [hw] at hh; exact h _ _ hh

theorem wpOp_of_eOp {Q : Exit → Act → World → Prop} {i : Nat} {a : Act} {w : World} {K K' : Act → World → Prop} (h : ∀ a w, K a w → K' a w) (hh : eOp P ops i K a w) : wpOp P ops Q i K' a w := by
  unfold eOp at hh
  unfold wpOp
  split
  · rename_i ho; simp only [ho] at hh; exact h _ _ hh
  · rename_i o ho
    simp only [ho] at hh
    split
    · rename_i hw; simp only [hw, if_true] at hh; exact .inl (Oper.wp_mono (fun a w h2 => h _ _ h2.2) (Oper.wp_toQ hh))
    · rename_i hw; simp only [hw] at hh; exact h _ _ hh

/-- what is asked of a quiet operation's run in the world W -/
def qUpon (P : Program) (W : World) (v : Value) : Result Next → Prop
  | .ok (.value u) w' => w' = W ∧ u = v
  | .ok .skip w' => w' = W ∧ v = undef
  | .ok (.enter f args) w' => w' = W ∧ Calls P f args W (fun e w2 => e = .returned v ∧ Ext W w2)
  | _ => False

def Sil (P : Program) (ops : Array Oper) (o : Oper) (v : Value) (a : Act) (w : World) : Prop :=
  (Region.wanted o (yielded ops a.tmps) = true ∧ ∀ W, Ext w W → qUpon P W v ((execOp a.eval o).run P W)) ∨ (Region.wanted o (yielded ops a.tmps) = false ∧ v = undef)

theorem Sil.later {o : Oper} {v : Value} {a : Act} {w w' : World} (h : Sil P ops o v a w) (hw : Ext w w') : Sil P ops o v a w' :=
  h.imp (fun ⟨h1, h2⟩ => ⟨h1, fun W hW => h2 W (hw.trans hW)⟩) id
theorem Sil.of_same {o : Oper} {v : Value} {a a' : Act} {w : World} (h : Sil P ops o v a w) (he : execOp a'.eval o = execOp a.eval o)
    (hw : Region.wanted o (yielded ops a'.tmps) = Region.wanted o (yielded ops a.tmps)) : Sil P ops o v a' w := by
  unfold Sil at *
  rw [he, hw]
  exact h

theorem Sil.eOp {i : Nat} {o : Oper} {v : Value} {a : Act} {w : World} (hi : ops[i]? = some o) (hy : Sil P ops o v a w) {K : Act → World → Prop} (h : ∀ w', Ext w w' → K (a.put o.dst v) w') : eOp P ops i K a w := by
  unfold Go.Proofs.Ytgcbodpjidoanaa.eOp
  simp only [hi]
  rcases hy with ⟨hw, hv⟩ | ⟨hw, rfl⟩
  · have h0 := hv w (Ext.refl w)
    simp only [hw, if_true, Oper.wp]
    generalize (execOp a.eval o).run P w = r at h0
    cases r with
    | ok n w' =>
      cases n <;> simp only [qUpon] at h0 <;> simp only [Oper.upon]
      case value u => obtain ⟨rfl, rfl⟩ := h0; exact ⟨Ext.refl _, h _ (Ext.refl _)⟩
      case skip => obtain ⟨rfl, rfl⟩ := h0; exact ⟨Ext.refl _, h _ (Ext.refl _)⟩
      case enter f args =>
        obtain ⟨rfl, hc⟩ := h0
        exact hc.mono fun e w2 ⟨he, hx⟩ => by subst he; exact ⟨hx, h _ hx⟩
    | halt x w' => simp only [qUpon] at h0
  · simp only [hw, Bool.false_eq_true, if_false]
    exact h _ (Ext.refl _)

theorem put_defers (a : Act) (x : Option Tmp) (v : Value) (d : List Deferred) : ({ a.put x v with defers := d } : Act) = ({ a with defers := d } : Act).put x v := by cases x <;> rfl
theorem defers_put (a : Act) (x : Option Tmp) (v : Value) : (a.put x v).defers = a.defers := by cases x <;> rfl
theorem eOp_put {j : Nat} {oi oj : Oper} {v : Value} (hj : ops[j]? = some oj) (hap : oi.apart ops oj = true) (hsi : ∀ cs b, oi.op ≠ .select cs b) (hsj : ∀ cs b, oj.op ≠ .select cs b)
    {K : Act → World → Prop} {a : Act} {w : World} (hy : Sil P ops oi v a w) (h : eOp P ops j K (a.put oi.dst v) w) :
    eOp P ops j (fun a' w' => Sil P ops oi v a' w' ∧ K (a'.put oi.dst v) w') a w := by
  obtain ⟨h1, h2, h3⟩ := Oper.apart_spec hap
  have keep : ∀ (a : Act) (w : World), Sil P ops oi v a w → ∀ u, Sil P ops oi v (a.put oj.dst u) w := fun a w hy u =>
    hy.of_same (execOp_put oi hsi a oj.dst u h3) (wanted_put oi a oj.dst u h3)
  unfold eOp at *
  simp only [hj] at *
  rw [wanted_put oj a oi.dst v h1] at h
  split
  · rename_i hw
    simp only [hw, if_true] at h
    unfold Oper.wp at *
    rw [execOp_put oj hsj a oi.dst v h1] at h
    generalize (execOp a.eval oj).run P w = r at *
    cases r with
    | ok n w' =>
      cases n <;> simp only [Oper.upon] at h ⊢
      case value u => exact ⟨h.1, keep a w' (hy.later h.1) u, by rw [← Act.put_comm a v u h2]; exact h.2⟩
      case skip => exact ⟨h.1, keep a w' (hy.later h.1) undef, by rw [← Act.put_comm a v undef h2]; exact h.2⟩
      case defer d =>
        have hd : Sil P ops oi v ({ a with defers := d :: a.defers } : Act) w' := (hy.later h.1).of_same rfl rfl
        refine ⟨h.1, keep _ w' hd undef, ?_⟩
        have h4 := h.2
        rw [defers_put, put_defers, Act.put_comm _ v undef h2] at h4
        exact h4
      case enter f args =>
        exact Calls.mono h fun e w2 he => by
          cases e with
          | returned u => exact ⟨he.1, keep a w2 (hy.later he.1) u, by rw [← Act.put_comm a v u h2]; exact he.2⟩
          | panicked c => exact he
          | outgrown => exact he
      case row row args =>
        exact Rows.mono h fun u w2 he => ⟨he.1, keep a w2 (hy.later he.1) u, by rw [← Act.put_comm a v u h2]; exact he.2⟩
      all_goals exact h
    | halt x w' => cases x <;> simp only [Oper.upon] at h ⊢ <;> exact h
  · rename_i hw
    simp only [hw] at h
    exact ⟨keep a w hy _, by rw [← Act.put_comm a v undef h2]; exact h⟩

/-- whatever comes up, of the first n operations; in every world that may have come about -/
def wpEL (P : Program) (md : Region.Mode) (ops : Array Oper) (n : Nat) (L : Array Bool → Act → World → Prop) : Nat → Array Bool → Act → World → Prop
  | 0, listed, a, w => ∀ W, Ext w W → L listed a W
  | f + 1, listed, a, w => Region.ready md ops listed ≠ [] ∧ ∀ i ∈ Region.ready md ops listed, i < n ∧ ∀ W, Ext w W → eOp P ops i (wpEL P md ops n L f (listed.setIfInBounds i true)) a W

theorem wpEL_later {n : Nat} {L : Array Bool → Act → World → Prop} : ∀ {f : Nat} {listed : Array Bool} {a : Act} {w w' : World}, wpEL P md ops n L f listed a w → Ext w w' → wpEL P md ops n L f listed a w'
  | 0, _, _, _, _, h, hw => fun W hW => h W (hw.trans hW)
  | _ + 1, _, _, _, _, h, hw => ⟨h.1, fun i hi => ⟨(h.2 i hi).1, fun W hW => (h.2 i hi).2 W (hw.trans hW)⟩⟩

theorem wpAny_of_EL {n g : Nat} {L : Array Bool → Act → World → Prop} {Q : Exit → Act → World → Prop} (hL : ∀ listed a w, L listed a w → wpAny P md ops Q g listed a w) :
    ∀ (f : Nat) (listed : Array Bool) (a : Act) (w : World), wpEL P md ops n L f listed a w → wpAny P md ops Q (f + g) listed a w
  | 0, listed, a, w, h => by rw [Nat.zero_add]; exact hL _ _ _ (h w (Ext.refl w))
  | f + 1, listed, a, w, h => by
    rw [show f + 1 + g = (f + g) + 1 by omega]
    exact ⟨fun h0 => absurd h0 h.1, fun i hi => wpOp_of_eOp (fun a' w' h' => wpAny_of_EL hL f _ a' w' h') ((h.2 i hi).2 w (Ext.refl w))⟩

theorem wpEL_first {n i : Nat} {oi : Oper} {v : Value} {L : Array Bool → Act → World → Prop} (hi : ops[i]? = some oi) (hsel : ∀ (j : Nat) (o : Oper) cs b, ops[j]? = some o → o.op ≠ .select cs b)
    (hjn : ∀ listed, HeadInv md ops n listed → listed.getD i true = false → ∀ j ∈ Region.ready md ops listed, j < n) (hin : i < n)
    (hdone : ∀ listed a w, L listed a w → ∀ j ∈ Region.ready md ops listed, n ≤ j) :
    ∀ (f : Nat) (listed : Array Bool) (a : Act) (w : World), HeadInv md ops n listed →
      (∀ j oj, ops[j]? = some oj → j ≠ i → listed.getD j true = false → (∀ e ∈ oj.after, Region.binds md e = true → e.on ≠ i) → oi.apart ops oj = true) →
      i ∈ Region.ready md ops listed → Sil P ops oi v a w →
      wpEL P md ops n L f (listed.setIfInBounds i true) (a.put oi.dst v) w → wpEL P md ops n L (f + 1) listed a w := by
  intro f
  induction f with
  | zero =>
    intro listed a w inv _ hr hy H
    have hun := (mem_ready.1 hr).1
    refine ⟨fun h => (by rw [h] at hr; cases hr), fun j hj => ?_⟩
    have hjn' := hjn listed inv hun j hj
    refine ⟨hjn', fun W hW => ?_⟩
    by_cases hji : j = i
    · subst hji
      exact (hy.later hW).eOp hi fun w' hw' W' hW' => H W' ((hW.trans hw').trans hW')
    · have := hdone _ _ _ (H w (Ext.refl w)) j (ready_mono hj hji)
      omega
  | succ f ih =>
    intro listed a w inv hfree hr hy H
    have hun := (mem_ready.1 hr).1
    refine ⟨fun h => (by rw [h] at hr; cases hr), fun j hj => ?_⟩
    have hjn' := hjn listed inv hun j hj
    refine ⟨hjn', fun W hW => ?_⟩
    by_cases hji : j = i
    · subst hji
      exact (hy.later hW).eOp hi fun w' hw' => wpEL_later H (hW.trans hw')
    · have h1 := (H.2 j (ready_mono hj hji)).2 W hW
      obtain ⟨hjun, oj, hoj, hall⟩ := mem_ready.1 hj
      have hnot : ∀ e ∈ oj.after, Region.binds md e = true → e.on ≠ i := fun e he hb heq => by
        have h1 := hall e he hb
        rw [heq] at h1
        rcases Nat.lt_or_ge i listed.size with h' | h'
        · simp [h'] at hun h1; rw [hun] at h1; cases h1
        · simp [Array.getElem?_eq_none h'] at h1
      have h2 := eOp_put hoj (hfree j oj hoj hji hjun hnot) (fun cs b => hsel i oi cs b hi) (fun cs b => hsel j oj cs b hoj) (hy.later hW) h1
      have hfree' : ∀ k ok, ops[k]? = some ok → k ≠ i → (listed.setIfInBounds j true).getD k true = false →
          (∀ e ∈ ok.after, Region.binds md e = true → e.on ≠ i) → oi.apart ops ok = true := fun k ok hk hki hun' hno => by
        refine hfree k ok hk hki ?_ hno
        by_cases hjk : j = k
        · subst hjk; exact hjun
        · rw [getD_set_ne true hjk] at hun'; exact hun'
      refine eOp_mono (fun a' w' h3 => ih (listed.setIfInBounds j true) a' w' (inv.set hj hjn') hfree' (ready_mono hr (Ne.symm hji)) h3.1 ?_) h2
      rw [Array.setIfInBounds_comm _ _ hji]
      exact h3.2

/-! ### The plan: which operation is taken when; true: quiet, false: loud -/
def planB (md : Region.Mode) (ops : Array Oper) (n g : Nat) : List (Bool × Nat) → Array Bool → Bool
  | [], listed => if n < ops.size then Region.seqB md ops g n listed else (Region.ready md ops listed).isEmpty
  | (s, i) :: r, listed => decide (i < n) && (if s then (Region.ready md ops listed).contains i && Region.free md ops listed i else decide (Region.ready md ops listed = [i])) && planB md ops n g r (listed.setIfInBounds i true)

def wpFlat (P : Program) (ops : Array Oper) (Lq : Act → World → Prop) : List (Bool × Nat) → Act → World → Prop
  | [], a, w => ∀ W, Ext w W → Lq a W
  | (true, i) :: r, a, w => match ops[i]? with
    | none => False
    | some o => if Region.wanted o (yielded ops a.tmps) then ∃ v, (∀ W, Ext w W → qUpon P W v ((execOp a.eval o).run P W)) ∧ wpFlat P ops Lq r (a.put o.dst v) w else wpFlat P ops Lq r (a.put o.dst undef) w
  | (false, i) :: r, a, w => ∀ W, Ext w W → eOp P ops i (wpFlat P ops Lq r) a W

theorem wpEL_of_flat {n g : Nat} {Lq : Act → World → Prop} (hsel : Region.noSelect ops = true)
    (hjn : ∀ i, i < n → ∀ listed, HeadInv md ops n listed → listed.getD i true = false → ∀ j ∈ Region.ready md ops listed, j < n)
    (hdone : ∀ listed, planB md ops n g [] listed = true → ∀ j ∈ Region.ready md ops listed, n ≤ j) :
    ∀ (r : List (Bool × Nat)) (listed : Array Bool) (a : Act) (w : World), HeadInv md ops n listed → planB md ops n g r listed = true → wpFlat P ops Lq r a w →
      wpEL P md ops n (fun listed' a' w' => planB md ops n g [] listed' = true ∧ Lq a' w') r.length listed a w
  | [], listed, a, w, inv, hB, h => fun W hW => ⟨hB, h W hW⟩
  | (s, i) :: r, listed, a, w, inv, hB, h => by
    simp only [planB, Bool.and_eq_true, decide_eq_true_eq] at hB
    obtain ⟨⟨hin, hs⟩, hB'⟩ := hB
    cases s
    · simp only [Bool.false_eq_true, if_false, decide_eq_true_eq] at hs
      refine ⟨by rw [hs]; simp, fun j hj => ?_⟩
      rw [hs] at hj
      have hji : j = i := by simpa using hj
      subst hji
      refine ⟨hin, fun W hW => eOp_mono (fun a' w' h' => wpEL_of_flat hsel hjn hdone r _ a' w' (inv.set (by rw [hs]; simp) hin) hB' h') (h W hW)⟩
    · simp only [if_true, Bool.and_eq_true] at hs
      obtain ⟨hr, hf⟩ := hs
      have hr' : i ∈ Region.ready md ops listed := by simpa using hr
      obtain ⟨_, oi, hoi, _⟩ := mem_ready.1 hr'
      simp only [wpFlat, hoi] at h
      have inv' := inv.set hr' hin
      by_cases hw : Region.wanted oi (yielded ops a.tmps) = true
      · simp only [hw, if_true] at h
        obtain ⟨v, h1, h2⟩ := h
        exact wpEL_first hoi (Region.noSelect_spec hsel) (hjn i hin) hin (fun listed' a' w' hL => hdone listed' hL.1) r.length listed a w inv (Region.free_spec hoi hf) hr' (.inl ⟨hw, h1⟩)
          (wpEL_of_flat hsel hjn hdone r _ _ w inv' hB' h2)
      · simp only [hw] at h
        exact wpEL_first (v := undef) hoi (Region.noSelect_spec hsel) (hjn i hin) hin (fun listed' a' w' hL => hdone listed' hL.1) r.length listed a w inv (Region.free_spec hoi hf) hr' (.inr ⟨by simpa using hw, rfl⟩)
          (wpEL_of_flat hsel hjn hdone r _ _ w inv' hB' h)

/-! ### The plan with the operations written out -/
def nthO : List Oper → Nat → Oper
  | [], _ => default
  | x :: _, 0 => x
  | _ :: xs, n + 1 => nthO xs n
theorem nthO_zero (x : Oper) (xs : List Oper) : nthO (x :: xs) 0 = x := rfl
theorem nthO_succ (x : Oper) (xs : List Oper) (n : Nat) : nthO (x :: xs) (n + 1) = nthO xs n := rfl
theorem nthO_get : ∀ (l : List Oper) (i : Nat), i < l.length → l[i]? = some (nthO l i)
  | [], _, h => absurd h (by simp)
  | _ :: _, 0, _ => rfl
  | _ :: xs, n + 1, h => by
    rw [List.getElem?_cons_succ]
    exact nthO_get xs n (by simpa using h)
def pick (l : List Oper) (r : List (Bool × Nat)) : List (Bool × Oper) := r.map fun x => (x.1, nthO l x.2)

/-- what is behind it is not reckoned out -/
structure Held (p : Prop) : Prop where
  out : p

def wpPlan (P : Program) (ops : Array Oper) (Lq : Act → World → Prop) : List (Bool × Oper) → Act → World → Prop
  | [], a, w => ∀ W, Ext w W → Lq a W
  | (true, o) :: r, a, w => if Region.wanted o (yielded ops a.tmps) then ∃ v, (∀ W, Ext w W → qUpon P W v ((execOp a.eval o).run P W)) ∧ Held (wpPlan P ops Lq r (a.put o.dst v) w) else Held (wpPlan P ops Lq r (a.put o.dst undef) w)
  | (false, o) :: r, a, w => ∀ W, Ext w W → if Region.wanted o (yielded ops a.tmps) then o.wp P a W (fun a' w' => Ext W w' ∧ wpPlan P ops Lq r a' w') QF else Held (wpPlan P ops Lq r (a.put o.dst undef) W)

theorem wpFlat_of_plan {l : List Oper} {Lq : Act → World → Prop} : ∀ (r : List (Bool × Nat)), (∀ x ∈ r, x.2 < l.length) → ∀ (a : Act) (w : World), wpPlan P l.toArray Lq (pick l r) a w → wpFlat P l.toArray Lq r a w
  | [], _, a, w, h => h
  | (s, i) :: r, hr, a, w, h => by
    have hi : l.toArray[i]? = some (nthO l i) := by
      have := nthO_get l i (hr (s, i) (by simp))
      simpa using this
    have ih : ∀ (a : Act) (w : World), wpPlan P l.toArray Lq (pick l r) a w → wpFlat P l.toArray Lq r a w := wpFlat_of_plan r fun x hx => hr x (by simp [hx])
    cases s
    · simp only [pick, List.map_cons, wpPlan] at h
      simp only [wpFlat]
      intro W hW
      have h1 := h W hW
      unfold eOp
      simp only [hi]
      split
      · rename_i hw
        simp only [hw, if_true] at h1
        exact Oper.wp_mono (fun a' w' h2 => ⟨h2.1, ih a' w' h2.2⟩) h1
      · rename_i hw
        simp only [hw] at h1
        exact ih _ _ h1.out
    · simp only [pick, List.map_cons, wpPlan] at h
      simp only [wpFlat, hi]
      split
      · rename_i hw
        simp only [hw, if_true] at h
        obtain ⟨v, h1, h2⟩ := h
        exact ⟨v, h1, ih _ _ h2.out⟩
      · rename_i hw
        simp only [hw] at h
        exact ih _ _ h.out

/-- the whole check, by the kernel -/
def eagerB (l : List Oper) (n : Nat) (r : List (Bool × Nat)) : Bool :=
  Region.noSelect l.toArray && decide (n ≤ l.length) && decide (r.length = n) && (r.all fun x => decide (x.2 < l.length)) &&
  (if n < l.length then Region.sinkB .any l.toArray n && Region.chainB .any l.toArray n else true) && planB .any l.toArray n (l.length - n) r (Array.replicate l.length false)

/-- ONE WALK SERVES EVERY ORDER. r: the plan over the first n operations; what is left (a tail that all of them precede) goes in its order. -/
theorem wp_region_eager {id : Nat} {Q : Exit → Act → World → Prop} {a : Act} {w : World} {l : List Oper} (n : Nat) (r : List (Bool × Nat)) (hm : P.follows .mixedOrders = true) (hB : eagerB l n r = true)
    (h : wpPlan P l.toArray (fun a' w' => wpList P l.toArray Q (l.drop n) a' w') (pick l r) a w.drew) : (Code.region id l.toArray true).wp P Q a w := by
  simp only [eagerB, Bool.and_eq_true, decide_eq_true_eq] at hB
  obtain ⟨⟨⟨⟨⟨hsel, hn⟩, hlen⟩, hall⟩, htail⟩, hplan⟩ := hB
  have hsz : l.toArray.size = l.length := by simp
  have hplan' : planB .any l.toArray n (l.length - n) r (Array.replicate l.toArray.size false) = true := by rw [hsz]; exact hplan
  have inv0 : HeadInv .any l.toArray n (Array.replicate l.toArray.size false) :=
    ⟨by simp, fun j oj _ hl => (by rw [getD_replicate_false] at hl; cases hl), fun t _ ht => getD_in (by simpa using ht) (getD_replicate_false _ _)⟩
  have hfl := wpFlat_of_plan (P := P) r (fun x hx => by have := List.all_eq_true.1 hall x hx; simpa using this) a w.drew h
  have hjn : ∀ i, i < n → ∀ listed, HeadInv .any l.toArray n listed → listed.getD i true = false → ∀ j ∈ Region.ready .any l.toArray listed, j < n := fun i hi listed inv hun j hj => by
    by_cases hlt : n < l.length
    · rw [if_pos hlt] at htail
      simp only [Bool.and_eq_true] at htail
      rcases Nat.lt_or_ge j n with h1 | h1
      · exact h1
      · exact absurd hj (tail_waits htail.1 htail.2 (by rw [hsz]; exact hlt) inv _ i rfl hi hun j h1)
    · obtain ⟨_, oj, hoj, _⟩ := mem_ready.1 hj
      have := (Array.getElem?_eq_some_iff.1 hoj).1
      rw [hsz] at this; omega
  have hdone : ∀ listed, planB .any l.toArray n (l.length - n) [] listed = true → ∀ j ∈ Region.ready .any l.toArray listed, n ≤ j := fun listed hp j hj => by
    simp only [planB] at hp
    split at hp
    · exact seqB_ready hp j hj
    · simp only [List.isEmpty_iff] at hp
      rw [hp] at hj; cases hj
  have hEL := wpEL_of_flat (P := P) (g := l.length - n) hsel hjn hdone r _ a w.drew inv0 hplan' hfl
  refine wp_region_any hm ?_
  have := wpAny_of_EL (Q := Q) (g := l.length - n) (fun listed a' w' hL => by
    obtain ⟨hp, hq⟩ := hL
    by_cases hlt : n < l.length
    · simp only [planB, hsz, if_pos hlt] at hp
      have := wpAny_of_seq (md := .any) (Q' := Q) (l.drop n) n listed a' w' (fun j => by simp [List.getElem?_drop]) (by rw [List.length_drop]; exact hp) hq
      rwa [List.length_drop] at this
    · simp only [planB, hsz, if_neg hlt, List.isEmpty_iff] at hp
      have hnl : n = l.length := by omega
      subst hnl
      rw [List.drop_length] at hq
      rw [Nat.sub_self]
      exact ⟨hp, hq⟩) _ _ _ _ hEL
  rw [hlen, show n + (l.length - n) = l.toArray.size by rw [hsz]; omega] at this
  exact this

/-! ### The steps of the walk -/
section
variable {Lq : Act → World → Prop} {r : List (Bool × Oper)} {a : Act} {w : World} {o : Oper}
theorem wpPlan_nil (h : ∀ W, Ext w W → Lq a W) : wpPlan P ops Lq [] a w := h
/-- a quiet operation, what follows behind a variable -/
theorem wpPlan_val (v : Value) (hw : Region.wanted o (yielded ops a.tmps) = true) (hv : ∀ W, Ext w W → (execOp a.eval o).run P W = .ok (.value v) W) (h : wpPlan P ops Lq r (a.put o.dst v) w) : wpPlan P ops Lq ((true, o) :: r) a w := by
  simp only [wpPlan, hw, if_true]
  exact ⟨v, fun W hW => by rw [hv W hW]; exact ⟨rfl, rfl⟩, ⟨h⟩⟩
theorem wpPlan_skip (hw : Region.wanted o (yielded ops a.tmps) = false) (h : wpPlan P ops Lq r (a.put o.dst undef) w) : wpPlan P ops Lq ((true, o) :: r) a w := by
  simp only [wpPlan, hw, Bool.false_eq_true, if_false]
  exact ⟨h⟩
/-- a quiet call: one value, in every later world -/
theorem wpPlan_call (v : Value) (f : FuncId) (args : Array Value) (hw : Region.wanted o (yielded ops a.tmps) = true) (hv : ∀ W, (execOp a.eval o).run P W = .ok (.enter f args) W)
    (hc : ∀ W, Ext w W → Calls P f args W fun e w2 => e = .returned v ∧ Ext W w2) (h : wpPlan P ops Lq r (a.put o.dst v) w) : wpPlan P ops Lq ((true, o) :: r) a w := by
  simp only [wpPlan, hw, if_true]
  exact ⟨v, fun W hW => by rw [hv W]; exact ⟨rfl, hc W hW⟩, ⟨h⟩⟩
theorem wpPlan_valK (hw : Region.wanted o (yielded ops a.tmps) = true) (h : ∀ K : Act → Prop, (∀ a, wpPlan P ops Lq r a w → K a) → ∃ v, (∀ W, Ext w W → (execOp a.eval o).run P W = .ok (.value v) W) ∧ K (a.put o.dst v)) : wpPlan P ops Lq ((true, o) :: r) a w := by
  obtain ⟨v, h1, h2⟩ := h _ fun _ h => h
  exact wpPlan_val v hw h1 h2
theorem wpPlan_skipK (hw : Region.wanted o (yielded ops a.tmps) = false) (h : ∀ K : Act → Prop, (∀ a, wpPlan P ops Lq r a w → K a) → K (a.put o.dst undef)) : wpPlan P ops Lq ((true, o) :: r) a w :=
  wpPlan_skip hw (h _ fun _ h => h)
theorem wpPlan_callK (v : Value) (f : FuncId) (args : Array Value) (hw : Region.wanted o (yielded ops a.tmps) = true) (hv : ∀ W, (execOp a.eval o).run P W = .ok (.enter f args) W)
    (hc : ∀ W, Ext w W → Calls P f args W fun e w2 => e = .returned v ∧ Ext W w2) (h : ∀ K : Act → Prop, (∀ a, wpPlan P ops Lq r a w → K a) → K (a.put o.dst v)) : wpPlan P ops Lq ((true, o) :: r) a w :=
  wpPlan_call v f args hw hv hc (h _ fun _ h => h)
/-- a loud operation that yields a value and a later world -/
theorem wpPlan_build (hw : Region.wanted o (yielded ops a.tmps) = true) (h : ∀ W, Ext w W → ∃ v w', (execOp a.eval o).run P W = .ok (.value v) w' ∧ Ext W w' ∧ wpPlan P ops Lq r (a.put o.dst v) w') : wpPlan P ops Lq ((false, o) :: r) a w := by
  intro W hW
  obtain ⟨v, w', h1, h2, h3⟩ := h W hW
  simp only [hw, if_true, Oper.wp, h1, Oper.upon]
  exact ⟨h2, h3⟩
theorem wpPlan_buildK (hw : Region.wanted o (yielded ops a.tmps) = true) (h : ∀ W, Ext w W → ∃ v w', ((execOp a.eval o).run P W = .ok (.value v) w' ∧ Ext W w') ∧ (∀ K : Act → Prop, (∀ a, wpPlan P ops Lq r a w' → K a) → K (a.put o.dst v))) : wpPlan P ops Lq ((false, o) :: r) a w :=
  wpPlan_build hw fun W hW => by
    obtain ⟨v, w', h1, h3⟩ := h W hW
    exact ⟨v, w', h1.1, h1.2, h3 _ fun _ h => h⟩
end
end
end Go.Proofs.Ytgcbodpjidoanaa
namespace Go.Proofs.Ytgcbodpjidoanaa
open Go.RowKit
theorem bstep {w w1 w2 : World} (h : Below w.heap.size w w1) (k : Below w1.heap.size w1 w2) : Below w.heap.size w w2 := h.trans (k.mono h.size)
theorem cell_below {B : Nat} {w w' : World} {a : Addr} {v : Value} (h : Below B w w') (hb : a.block < B) (hc : w.cell? a = some v) : w'.cell? a = some v :=
  (World.cell?_of_block (w := w) (h.block a.block hb)).trans hc
/-- two rows of the call's own don't share a block -/
def Sep (v u : Value) : Prop := v.ownBlock = none ∨ v.ownBlock ≠ u.ownBlock
theorem Sep.symm {v u : Value} (h : Sep v u) : Sep u v := by
  unfold Sep at *
  rcases h with h | h
  · rcases hu : u.ownBlock with _ | b
    · exact .inl rfl
    · right; rw [h]; simp
  · exact .inr (Ne.symm h)
theorem Sep.after {w : World} {base : Nat} {e : TypeId} {size n : Nat} {v u u' : Value} {xs : List Value} (h : Sep v u) (hv : w.ownsRow base e size v n xs) (hat : u'.ownBlock = u.ownBlock ∨ u'.ownBlock = some w.heap.size) : Sep v u' := by
  unfold Sep at *
  rcases hat with hat | hat
  · rw [hat]; exact h
  · rcases hb : v.ownBlock with _ | b
    · exact .inl rfl
    · right
      have := (hv.lt b hb).2
      rw [hat]
      intro hh
      injection hh with hh
      omega
end Go.Proofs.Ytgcbodpjidoanaa
namespace Go.Proofs.Ytgcbodpjidoanaa
open Go.RowKit
/-- 64 words, none set -/
def z64 : List UInt32 := List.replicate 64 0
def v32 (x : UInt32) : Value := .int .u32 (n32 x)
def s0 (x : UInt32) : UInt32 := rotr x 7 ^^^ rotr x 18 ^^^ shr x 3
def s1 (x : UInt32) : UInt32 := rotr x 17 ^^^ rotr x 19 ^^^ shr x 10
/-- a word of four bytes -/
def wd (b : List Nat) (i : Nat) : UInt32 := UInt32.ofNat (b.getD (4 * i) 0 * 16777216 + b.getD (4 * i + 1) 0 * 65536 + b.getD (4 * i + 2) 0 * 256 + b.getD (4 * i + 3) 0)
def wrd (b : List Nat) (i : Nat) : UInt32 := if h : i < 16 then wd b i else wrd b (i - 16) + s0 (wrd b (i - 15)) + wrd b (i - 7) + s1 (wrd b (i - 2))
termination_by i
decreasing_by all_goals omega
theorem wrd_lo {b : List Nat} {i : Nat} (h : i < 16) : wrd b i = wd b i := by rw [wrd, dif_pos h]
theorem wrd_hi {b : List Nat} {i : Nat} (h : 16 ≤ i) : wrd b i = wrd b (i - 16) + s0 (wrd b (i - 15)) + wrd b (i - 7) + s1 (wrd b (i - 2)) := by rw [wrd, dif_neg (by omega)]
def kk : List UInt32 := [0x428a2f98, 0x71374491, 0xb5c0fbcf, 0xe9b5dba5, 0x3956c25b, 0x59f111f1, 0x923f82a4, 0xab1c5ed5, 0xd807aa98, 0x12835b01, 0x243185be, 0x550c7dc3, 0x72be5d74, 0x80deb1fe, 0x9bdc06a7, 0xc19bf174, 0xe49b69c1, 0xefbe4786, 0x0fc19dc6, 0x240ca1cc, 0x2de92c6f, 0x4a7484aa, 0x5cb0a9dc, 0x76f988da, 0x983e5152, 0xa831c66d, 0xb00327c8, 0xbf597fc7, 0xc6e00bf3, 0xd5a79147, 0x06ca6351, 0x14292967, 0x27b70a85, 0x2e1b2138, 0x4d2c6dfc, 0x53380d13, 0x650a7354, 0x766a0abb, 0x81c2c92e, 0x92722c85, 0xa2bfe8a1, 0xa81a664b, 0xc24b8b70, 0xc76c51a3, 0xd192e819, 0xd6990624, 0xf40e3585, 0x106aa070, 0x19a4c116, 0x1e376c08, 0x2748774c, 0x34b0bcb5, 0x391c0cb3, 0x4ed8aa4a, 0x5b9cca4f, 0x682e6ff3, 0x748f82ee, 0x78a5636f, 0x84c87814, 0x8cc70208, 0x90befffa, 0xa4506ceb, 0xbef9a3f7, 0xc67178f2]
def h0 : List UInt32 := [0x6a09e667, 0xbb67ae85, 0x3c6ef372, 0xa54ff53a, 0x510e527f, 0x9b05688c, 0x1f83d9ab, 0x5be0cd19]
def one (v : List UInt32) (k w : UInt32) : UInt32 :=
  v.getD 7 0 + (rotr (v.getD 4 0) 6 ^^^ rotr (v.getD 4 0) 11 ^^^ rotr (v.getD 4 0) 25) + (v.getD 4 0 &&& v.getD 5 0 ^^^ ~~~ (v.getD 4 0) &&& v.getD 6 0) + k + w
def two (v : List UInt32) : UInt32 :=
  (rotr (v.getD 0 0) 2 ^^^ rotr (v.getD 0 0) 13 ^^^ rotr (v.getD 0 0) 22) + (v.getD 0 0 &&& v.getD 1 0 ^^^ v.getD 0 0 &&& v.getD 2 0 ^^^ v.getD 1 0 &&& v.getD 2 0)
def rnd (v : List UInt32) (k w : UInt32) : List UInt32 := [one v k w + two v, v.getD 0 0, v.getD 1 0, v.getD 2 0, v.getD 3 0 + one v k w, v.getD 4 0, v.getD 5 0, v.getD 6 0]
def rnds (h : List UInt32) (b : List Nat) : Nat → List UInt32
  | 0 => h
  | i + 1 => rnd (rnds h b i) (kk.getD i 0) (wrd b i)
/-- eight words turned by a block -/
def turnS (h : List UInt32) (b : List Nat) : List UInt32 := (List.range 8).map fun i => (rnds h b 64).getD i 0 + h.getD i 0
/-- a block of cells, known whole -/
def Row (w : World) (g : Nat) (t : TypeId) (cs : List Value) : Prop := w.heap[g]? = some (.cells cs.toArray t (0, 0))
section
variable {w W : World} {g : Nat} {t : TypeId} {cs : List Value}
theorem Row.cell (h : Row w g t cs) (i : Nat) : w.cell? ⟨g, i, none⟩ = cs[i]? := by rw [cell_of_row w g i _ t (0, 0) h]; simp
theorem Row.fz (h : Row w g t cs) (i : Nat) : w.frozen? ⟨g, i, none⟩ = false := frozen_of_row w g i _ t h
theorem Row.lt (h : Row w g t cs) : g < w.heap.size := (Array.getElem?_eq_some_iff.1 h).1
theorem Row.below {B : Nat} (h : Row w g t cs) (hb : Below B w W) (hB : g < B) : Row W g t cs := (hb.block g hB).trans h
theorem Row.after (h : Row w g t cs) (hb : Below w.heap.size w W) : Row W g t cs := h.below hb h.lt
theorem Row.ext (h : Row w g t cs) (hW : Ext w W) : Row W g t cs := (hW.block g h.lt).trans h
theorem Row.set (h : Row w g t cs) (i : Nat) (v : Value) : Row (w.setCell ⟨g, i, none⟩ v) g t (cs.set i v) := by
  unfold Row at *
  simp [World.setCell, Array.getElem?_modify, h]
theorem Row.setOther (h : Row w g t cs) {a : Addr} (ha : g ≠ a.block) (v : Value) : Row (w.setCell a v) g t cs := (Below.heap_setCell _ _ _ _ ha).trans h
theorem Row.alloc (h : Row w g t cs) (o : Obj) : Row (w.alloc o) g t cs := (Below.heap_alloc _ _ _ h.lt).trans h
theorem Row.new (w : World) (t : TypeId) (cs : List Value) : Row (w.alloc (.cells cs.toArray t)) w.heap.size t cs := heap_alloc_new _ _
theorem Row.new' (w : World) (t : TypeId) (cs : List Value) (g : Nat) (h : w.heap.size = g) : Row (w.alloc (.cells cs.toArray t)) g t cs := by subst h; exact heap_alloc_new _ _
end
/-- the end of a function whose one result is an array or a struct in a variable -/
theorem ret_row {fn : Func} {p : Tmp} {ty : TypeId} {a : Act} {w : World} {R : Ending → World → Prop} (h : fn.results = #[.cell p ty]) {g : Nat} {t : TypeId} {cs : List Value} {n : Nat} {el : TypeId}
    (hp : a.tmps.getD p undef = .pointer (some ⟨g, 0, none⟩)) (hg : Row w g t cs) (hu : Try.prog.underlying ty = some (.array n el)) (hi : (Try.prog.info? ty).map (·.size) = some cs.length)
    (hdf : a.defers = []) (hR : R (.returned (.agg cs.toArray)) w) : bodyPost Try.prog fn R .ret a w :=
  bodyPost_ret (results_cell_row h _ w g t cs.toArray (0, 0) _ hp hg hu rfl (by simpa using hi)) hdf hR
theorem Row.setRow {w : World} {g : Nat} {t : TypeId} {cs : List Value} (h : Row w g t cs) (cs' : List Value) : Row (w.setRow g cs'.toArray) g t cs' := setRow_heap w g _ _ t (0, 0) h
theorem Row.setRowOther {w : World} {g g' : Nat} {t : TypeId} {cs : List Value} (h : Row w g t cs) (hne : g ≠ g') (X : Array Value) : Row (w.setRow g' X) g t cs := (setRow_other w g' g X hne).trans h
theorem below_setRow' {B g : Nat} {w0 w : World} (hb : Below B w0 w) (hBg : B ≤ g) (cs : Array Value) : Below B w0 (w.setRow g cs) :=
  hb.trans ⟨rfl, rfl, rfl, by simp [World.setRow], fun k hk => setRow_other w g k cs (by omega)⟩
theorem all_v32 (l : List UInt32) : ((l.map v32).toArray).all (·.oneCell') = true := by
  rw [Array.all_eq_true_iff_forall_mem]
  intro v hv
  simp at hv
  obtain ⟨x, _, rfl⟩ := hv
  rfl
/-- a block of words -/
def Row32 (w : World) (g : Nat) (t : TypeId) (l : List UInt32) : Prop := Row w g t (l.map v32)
section
variable {w W : World} {g : Nat} {t : TypeId} {l : List UInt32}
theorem Row32.cell (h : Row32 w g t l) (i : Nat) (hi : i < l.length) : w.cell? ⟨g, i, none⟩ = some (v32 (l.getD i 0)) := by
  rw [Row.cell h i]; simp [List.getD, List.getElem?_eq_getElem hi]
theorem Row32.set (h : Row32 w g t l) (i : Nat) (x : UInt32) : Row32 (w.setCell ⟨g, i, none⟩ (v32 x)) g t (l.set i x) := by
  unfold Row32; rw [List.map_set]; exact Row.set h i _
end
end Go.Proofs.Ytgcbodpjidoanaa
namespace Go.Proofs.Ytgcbodpjidoanaa
open Go.RowKit

/-- a plan: q: a quiet operation, l: a loud one, alt: either of two plans -/
inductive Tr where
  | nil : Tr
  | q (i : Nat) (t : Tr) : Tr
  | l (i : Nat) (t : Tr) : Tr
  | alt (t u : Tr) : Tr
def Tr.heads : Tr → List Nat
  | .l i _ => [i]
  | .alt t u => t.heads ++ u.heads
  | _ => []
def Tr.deep : Tr → Nat → Bool
  | .nil, n => n == 0
  | .q _ t, n + 1 => t.deep n
  | .l _ t, n + 1 => t.deep n
  | .alt t u, n => t.deep n && u.deep n
  | _, _ => false
def Tr.within (m : Nat) : Tr → Bool
  | .nil => true
  | .q i t => decide (i < m) && t.within m
  | .l i t => decide (i < m) && t.within m
  | .alt t u => t.within m && u.within m

section
variable {P : Program} {ops : Array Oper} {md : Region.Mode}
def treeB (md : Region.Mode) (ops : Array Oper) (n g : Nat) : Tr → Bool → Array Bool → Bool
  | .nil, top, listed => top && planB md ops n g [] listed
  | .q i t, top, listed => top && (decide (i < n) && ((Region.ready md ops listed).contains i && Region.free md ops listed i)) && treeB md ops n g t true (listed.setIfInBounds i true)
  | .l i t, top, listed => decide (i < n) && (!top || decide (Region.ready md ops listed = [i])) && ((Region.ready md ops listed).contains i && treeB md ops n g t true (listed.setIfInBounds i true))
  | .alt t u, top, listed => (!top || decide (Region.ready md ops listed = (Tr.alt t u).heads)) && (treeB md ops n g t false listed && treeB md ops n g u false listed)

/-- the plan with the operations written out -/
inductive TO where
  | nil : TO
  | q (o : Oper) (t : TO) : TO
  | l (o : Oper) (t : TO) : TO
  | alt (t u : TO) : TO
def pickT (l : List Oper) : Tr → TO
  | .nil => .nil
  | .q i t => .q (nthO l i) (pickT l t)
  | .l i t => .l (nthO l i) (pickT l t)
  | .alt t u => .alt (pickT l t) (pickT l u)

def wpT (P : Program) (ops : Array Oper) (Lq : Act → World → Prop) : TO → Act → World → Prop
  | .nil, a, w => ∀ W, Ext w W → Lq a W
  | .q o t, a, w => if Region.wanted o (yielded ops a.tmps) then ∃ v, (∀ W, Ext w W → qUpon P W v ((execOp a.eval o).run P W)) ∧ Held (wpT P ops Lq t (a.put o.dst v) w) else Held (wpT P ops Lq t (a.put o.dst undef) w)
  | .l o t, a, w => ∀ W, Ext w W → if Region.wanted o (yielded ops a.tmps) then o.wp P a W (fun a' w' => Ext W w' ∧ wpT P ops Lq t a' w') QF else Held (wpT P ops Lq t (a.put o.dst undef) W)
  | .alt t u, a, w => Held (wpT P ops Lq t a w) ∧ Held (wpT P ops Lq u a w)

/-- the whole check, by the kernel -/
def forkB (l : List Oper) (n : Nat) (t : Tr) : Bool :=
  Region.noSelect l.toArray && decide (n ≤ l.length) && t.deep n && t.within l.length &&
  (if n < l.length then Region.sinkB .any l.toArray n && Region.chainB .any l.toArray n else true) && treeB .any l.toArray n (l.length - n) t true (Array.replicate l.length false)

/-! ### The steps of the walk -/
section
variable {Lq : Act → World → Prop} {r : TO} {a : Act} {w : World} {o : Oper}
end
end
end Go.Proofs.Ytgcbodpjidoanaa
namespace Go.Proofs.Ytgcbodpjidoanaa
open Go.RowKit

/-- all that w holds W holds too, but in blocks of S -/
structure But (S : Nat → Prop) (w W : World) : Prop where
  size : w.heap.size ≤ W.heap.size
  block : ∀ k, k < w.heap.size → ¬ S k → W.heap[k]? = w.heap[k]?
  os : W.os = w.os
  tape : W.tape = w.tape
  output : W.output = w.output
theorem But.refl {S : Nat → Prop} (w : World) : But S w w := ⟨Nat.le_refl _, fun _ _ _ => rfl, rfl, rfl, rfl⟩
theorem But.trans {S : Nat → Prop} {a b c : World} (h : But S a b) (k : But S b c) : But S a c :=
  ⟨Nat.le_trans h.size k.size, fun i hi hs => (k.block i (Nat.lt_of_lt_of_le hi h.size) hs).trans (h.block i hi hs), k.os.trans h.os, k.tape.trans h.tape, k.output.trans h.output⟩
theorem But.of_ext {S : Nat → Prop} {w W : World} (h : Ext w W) : But S w W := ⟨h.size, fun k hk _ => h.block k hk, h.os, h.tape, h.output⟩
theorem But.drew_left {S : Nat → Prop} {w W : World} (h : But S w.drew W) : But S w W := ⟨h.size, h.block, h.os, h.tape, h.output⟩
theorem But.cell {S : Nat → Prop} {w W : World} (h : But S w W) {p : Addr} {v : Value} (hc : w.cell? p = some v) (hs : ¬ S p.block) : W.cell? p = some v :=
  (World.cell?_of_block (w := w) (h.block p.block (World.block_lt_of_cell? w p hc) hs)).trans hc
theorem But.setRow {S : Nat → Prop} (W : World) (g : Nat) (cs : Array Value) (hs : S g) : But S W (W.setRow g cs) :=
  ⟨by simp [World.setRow], fun k hk hne => setRow_other W g k cs (fun e => hne (by rw [e]; exact hs)), rfl, rfl, rfl⟩
theorem But.set {S : Nat → Prop} (w : World) (a : Addr) (v : Value) (hs : S a.block) : But S w (w.setCell a v) :=
  ⟨by simp, fun k _ hk => Below.heap_setCell _ _ _ _ (fun e => hk (e ▸ hs)), rfl, rfl, rfl⟩

section
variable {P : Program} {ops : Array Oper} {md : Region.Mode} {S : Nat → Prop}

/-- operation i comes up; it leaves all memory that was there as it was -/
def mOp (S : Nat → Prop) (P : Program) (ops : Array Oper) (i : Nat) (K : Act → World → Prop) (a : Act) (w : World) : Prop :=
  match ops[i]? with
  | none => K a w
  | some o => if Region.wanted o (yielded ops a.tmps) then o.wp P a w (fun a' w' => But S w w' ∧ K a' w') QF else K (a.put o.dst undef) w

theorem mOp_mono {i : Nat} {a : Act} {w : World} {K K' : Act → World → Prop} (h : ∀ a w, K a w → K' a w) (hh : mOp S P ops i K a w) : mOp S P ops i K' a w := by
  unfold mOp at *
  split
  · exact h _ _ (by simpa [*] using hh)
  · rename_i o ho
    simp only [ho] at hh
    split
    · rename_i hw; simp only [hw, if_true] at hh; exact Oper.wp_mono (fun a w h2 => ⟨h2.1, h _ _ h2.2⟩) hh
    · rename_i hw; simp only [hw] at hh; exact h _ _ hh

theorem wpOp_of_mOp {Q : Exit → Act → World → Prop} {i : Nat} {a : Act} {w : World} {K K' : Act → World → Prop} (h : ∀ a w, K a w → K' a w) (hh : mOp S P ops i K a w) : wpOp P ops Q i K' a w := by
  unfold mOp at hh
  unfold wpOp
  split
  · rename_i ho; simp only [ho] at hh; exact h _ _ hh
  · rename_i o ho
    simp only [ho] at hh
    split
    · rename_i hw; simp only [hw, if_true] at hh; exact .inl (Oper.wp_mono (fun a w h2 => h _ _ h2.2) (Oper.wp_toQ hh))
    · rename_i hw; simp only [hw] at hh; exact h _ _ hh

def MSil (S : Nat → Prop) (P : Program) (ops : Array Oper) (o : Oper) (v : Value) (a : Act) (w : World) : Prop :=
  (Region.wanted o (yielded ops a.tmps) = true ∧ ∀ W, But S w W → qUpon P W v ((execOp a.eval o).run P W)) ∨ (Region.wanted o (yielded ops a.tmps) = false ∧ v = undef)

theorem MSil.later {o : Oper} {v : Value} {a : Act} {w w' : World} (h : MSil S P ops o v a w) (hw : But S w w') : MSil S P ops o v a w' :=
  h.imp (fun ⟨h1, h2⟩ => ⟨h1, fun W hW => h2 W (hw.trans hW)⟩) id
theorem MSil.of_same {o : Oper} {v : Value} {a a' : Act} {w : World} (h : MSil S P ops o v a w) (he : execOp a'.eval o = execOp a.eval o)
    (hw : Region.wanted o (yielded ops a'.tmps) = Region.wanted o (yielded ops a.tmps)) : MSil S P ops o v a' w := by
  unfold MSil at *
  rw [he, hw]
  exact h

theorem MSil.mOp {i : Nat} {o : Oper} {v : Value} {a : Act} {w : World} (hi : ops[i]? = some o) (hy : MSil S P ops o v a w) {K : Act → World → Prop} (h : ∀ w', Ext w w' → K (a.put o.dst v) w') : mOp S P ops i K a w := by
  unfold Go.Proofs.Ytgcbodpjidoanaa.mOp
  simp only [hi]
  rcases hy with ⟨hw, hv⟩ | ⟨hw, rfl⟩
  · have h0 := hv w (But.refl w)
    simp only [hw, if_true, Oper.wp]
    generalize (execOp a.eval o).run P w = r at h0
    cases r with
    | ok n w' =>
      cases n <;> simp only [qUpon] at h0 <;> simp only [Oper.upon]
      case value u => obtain ⟨rfl, rfl⟩ := h0; exact ⟨But.refl _, h _ (Ext.refl _)⟩
      case skip => obtain ⟨rfl, rfl⟩ := h0; exact ⟨But.refl _, h _ (Ext.refl _)⟩
      case enter f args =>
        obtain ⟨rfl, hc⟩ := h0
        exact hc.mono fun e w2 ⟨he, hx⟩ => by subst he; exact ⟨But.of_ext hx, h _ hx⟩
    | halt x w' => simp only [qUpon] at h0
  · simp only [hw, Bool.false_eq_true, if_false]
    exact h _ (Ext.refl _)

theorem mOp_put {j : Nat} {oi oj : Oper} {v : Value} (hj : ops[j]? = some oj) (hap : oi.apart ops oj = true) (hsi : ∀ cs b, oi.op ≠ .select cs b) (hsj : ∀ cs b, oj.op ≠ .select cs b)
    {K : Act → World → Prop} {a : Act} {w : World} (hy : MSil S P ops oi v a w) (h : mOp S P ops j K (a.put oi.dst v) w) :
    mOp S P ops j (fun a' w' => MSil S P ops oi v a' w' ∧ K (a'.put oi.dst v) w') a w := by
  obtain ⟨h1, h2, h3⟩ := Oper.apart_spec hap
  have keep : ∀ (a : Act) (w : World), MSil S P ops oi v a w → ∀ u, MSil S P ops oi v (a.put oj.dst u) w := fun a w hy u =>
    hy.of_same (execOp_put oi hsi a oj.dst u h3) (wanted_put oi a oj.dst u h3)
  unfold mOp at *
  simp only [hj] at *
  rw [wanted_put oj a oi.dst v h1] at h
  split
  · rename_i hw
    simp only [hw, if_true] at h
    unfold Oper.wp at *
    rw [execOp_put oj hsj a oi.dst v h1] at h
    generalize (execOp a.eval oj).run P w = r at *
    cases r with
    | ok n w' =>
      cases n <;> simp only [Oper.upon] at h ⊢
      case value u => exact ⟨h.1, keep a w' (hy.later h.1) u, by rw [← Act.put_comm a v u h2]; exact h.2⟩
      case skip => exact ⟨h.1, keep a w' (hy.later h.1) undef, by rw [← Act.put_comm a v undef h2]; exact h.2⟩
      case defer d =>
        have hd : MSil S P ops oi v ({ a with defers := d :: a.defers } : Act) w' := (hy.later h.1).of_same rfl rfl
        refine ⟨h.1, keep _ w' hd undef, ?_⟩
        have h4 := h.2
        rw [defers_put, put_defers, Act.put_comm _ v undef h2] at h4
        exact h4
      case enter f args =>
        exact Calls.mono h fun e w2 he => by
          cases e with
          | returned u => exact ⟨he.1, keep a w2 (hy.later he.1) u, by rw [← Act.put_comm a v u h2]; exact he.2⟩
          | panicked c => exact he
          | outgrown => exact he
      case row row args =>
        exact Rows.mono h fun u w2 he => ⟨he.1, keep a w2 (hy.later he.1) u, by rw [← Act.put_comm a v u h2]; exact he.2⟩
      all_goals exact h
    | halt x w' => cases x <;> simp only [Oper.upon] at h ⊢ <;> exact h
  · rename_i hw
    simp only [hw] at h
    exact ⟨keep a w hy _, by rw [← Act.put_comm a v undef h2]; exact h⟩

/-- whatever comes up, of the first n operations; in every world that may have come about -/
def wpML (S : Nat → Prop) (P : Program) (md : Region.Mode) (ops : Array Oper) (n : Nat) (L : Array Bool → Act → World → Prop) : Nat → Array Bool → Act → World → Prop
  | 0, listed, a, w => ∀ W, Ext w W → L listed a W
  | f + 1, listed, a, w => Region.ready md ops listed ≠ [] ∧ ∀ i ∈ Region.ready md ops listed, i < n ∧ ∀ W, Ext w W → mOp S P ops i (wpML S P md ops n L f (listed.setIfInBounds i true)) a W

theorem wpML_later {n : Nat} {L : Array Bool → Act → World → Prop} : ∀ {f : Nat} {listed : Array Bool} {a : Act} {w w' : World}, wpML S P md ops n L f listed a w → Ext w w' → wpML S P md ops n L f listed a w'
  | 0, _, _, _, _, h, hw => fun W hW => h W (hw.trans hW)
  | _ + 1, _, _, _, _, h, hw => ⟨h.1, fun i hi => ⟨(h.2 i hi).1, fun W hW => (h.2 i hi).2 W (hw.trans hW)⟩⟩

theorem wpAny_of_ML {n g : Nat} {L : Array Bool → Act → World → Prop} {Q : Exit → Act → World → Prop} (hL : ∀ listed a w, L listed a w → wpAny P md ops Q g listed a w) :
    ∀ (f : Nat) (listed : Array Bool) (a : Act) (w : World), wpML S P md ops n L f listed a w → wpAny P md ops Q (f + g) listed a w
  | 0, listed, a, w, h => by rw [Nat.zero_add]; exact hL _ _ _ (h w (Ext.refl w))
  | f + 1, listed, a, w, h => by
    rw [show f + 1 + g = (f + g) + 1 by omega]
    exact ⟨fun h0 => absurd h0 h.1, fun i hi => wpOp_of_mOp (fun a' w' h' => wpAny_of_ML hL f _ a' w' h') ((h.2 i hi).2 w (Ext.refl w))⟩

theorem wpML_first {n i : Nat} {oi : Oper} {v : Value} {L : Array Bool → Act → World → Prop} (hi : ops[i]? = some oi) (hsel : ∀ (j : Nat) (o : Oper) cs b, ops[j]? = some o → o.op ≠ .select cs b)
    (hjn : ∀ listed, HeadInv md ops n listed → listed.getD i true = false → ∀ j ∈ Region.ready md ops listed, j < n) (hin : i < n)
    (hdone : ∀ listed a w, L listed a w → ∀ j ∈ Region.ready md ops listed, n ≤ j) :
    ∀ (f : Nat) (listed : Array Bool) (a : Act) (w : World), HeadInv md ops n listed →
      (∀ j oj, ops[j]? = some oj → j ≠ i → listed.getD j true = false → (∀ e ∈ oj.after, Region.binds md e = true → e.on ≠ i) → oi.apart ops oj = true) →
      i ∈ Region.ready md ops listed → MSil S P ops oi v a w →
      wpML S P md ops n L f (listed.setIfInBounds i true) (a.put oi.dst v) w → wpML S P md ops n L (f + 1) listed a w := by
  intro f
  induction f with
  | zero =>
    intro listed a w inv _ hr hy H
    have hun := (mem_ready.1 hr).1
    refine ⟨fun h => (by rw [h] at hr; cases hr), fun j hj => ?_⟩
    have hjn' := hjn listed inv hun j hj
    refine ⟨hjn', fun W hW => ?_⟩
    by_cases hji : j = i
    · subst hji
      exact (hy.later (But.of_ext hW)).mOp hi fun w' hw' W' hW' => H W' ((hW.trans hw').trans hW')
    · have := hdone _ _ _ (H w (Ext.refl w)) j (ready_mono hj hji)
      omega
  | succ f ih =>
    intro listed a w inv hfree hr hy H
    have hun := (mem_ready.1 hr).1
    refine ⟨fun h => (by rw [h] at hr; cases hr), fun j hj => ?_⟩
    have hjn' := hjn listed inv hun j hj
    refine ⟨hjn', fun W hW => ?_⟩
    by_cases hji : j = i
    · subst hji
      exact (hy.later (But.of_ext hW)).mOp hi fun w' hw' => wpML_later H (hW.trans hw')
    · have h1 := (H.2 j (ready_mono hj hji)).2 W hW
      obtain ⟨hjun, oj, hoj, hall⟩ := mem_ready.1 hj
      have hnot : ∀ e ∈ oj.after, Region.binds md e = true → e.on ≠ i := fun e he hb heq => by
        have h1 := hall e he hb
        rw [heq] at h1
        rcases Nat.lt_or_ge i listed.size with h' | h'
        · simp [h'] at hun h1; rw [hun] at h1; cases h1
        · simp [Array.getElem?_eq_none h'] at h1
      have h2 := mOp_put hoj (hfree j oj hoj hji hjun hnot) (fun cs b => hsel i oi cs b hi) (fun cs b => hsel j oj cs b hoj) (hy.later (But.of_ext hW)) h1
      have hfree' : ∀ k ok, ops[k]? = some ok → k ≠ i → (listed.setIfInBounds j true).getD k true = false →
          (∀ e ∈ ok.after, Region.binds md e = true → e.on ≠ i) → oi.apart ops ok = true := fun k ok hk hki hun' hno => by
        refine hfree k ok hk hki ?_ hno
        by_cases hjk : j = k
        · subst hjk; exact hjun
        · rw [getD_set_ne true hjk] at hun'; exact hun'
      refine mOp_mono (fun a' w' h3 => ih (listed.setIfInBounds j true) a' w' (inv.set hj hjn') hfree' (ready_mono hr (Ne.symm hji)) h3.1 ?_) h2
      rw [Array.setIfInBounds_comm _ _ hji]
      exact h3.2

def wpM (S : Nat → Prop) (P : Program) (ops : Array Oper) (Lq : Act → World → Prop) : TO → Act → World → Prop
  | .nil, a, w => ∀ W, Ext w W → Lq a W
  | .q o t, a, w => if Region.wanted o (yielded ops a.tmps) then ∃ v, (∀ W, But S w W → qUpon P W v ((execOp a.eval o).run P W)) ∧ Held (wpM S P ops Lq t (a.put o.dst v) w) else Held (wpM S P ops Lq t (a.put o.dst undef) w)
  | .l o t, a, w => ∀ W, Ext w W → if Region.wanted o (yielded ops a.tmps) then o.wp P a W (fun a' w' => But S W w' ∧ wpM S P ops Lq t a' w') QF else Held (wpM S P ops Lq t (a.put o.dst undef) W)
  | .alt t u, a, w => Held (wpM S P ops Lq t a w) ∧ Held (wpM S P ops Lq u a w)

theorem wpML_of_tree {S : Nat → Prop} {l : List Oper} {n g : Nat} {Lq : Act → World → Prop} (hsel : Region.noSelect l.toArray = true)
    (hjn : ∀ i, i < n → ∀ listed, HeadInv md l.toArray n listed → listed.getD i true = false → ∀ j ∈ Region.ready md l.toArray listed, j < n)
    (hdone : ∀ listed, planB md l.toArray n g [] listed = true → ∀ j ∈ Region.ready md l.toArray listed, n ≤ j) :
    ∀ (t : Tr) (f : Nat) (listed : Array Bool) (a : Act) (w : World), t.deep f = true → t.within l.length = true → HeadInv md l.toArray n listed → wpM S P l.toArray Lq (pickT l t) a w →
      (treeB md l.toArray n g t true listed = true → wpML S P md l.toArray n (fun listed' a' w' => planB md l.toArray n g [] listed' = true ∧ Lq a' w') f listed a w) ∧
      (treeB md l.toArray n g t false listed = true → ∃ f', f = f' + 1 ∧ t.heads ≠ [] ∧ ∀ i ∈ t.heads, i < n ∧ ∀ W, Ext w W → mOp S P l.toArray i (wpML S P md l.toArray n (fun listed' a' w' => planB md l.toArray n g [] listed' = true ∧ Lq a' w') f' (listed.setIfInBounds i true)) a W) := by
  intro t
  induction t with
  | nil =>
    intro f listed a w hd hin inv h
    have hf : f = 0 := by simpa [Tr.deep] using hd
    subst hf
    refine ⟨fun hB => fun W hW => ⟨by simpa [treeB] using hB, h W hW⟩, fun hB => by simp [treeB] at hB⟩
  | q i t ih =>
    intro f listed a w hd hin inv h
    rcases f with _ | f
    · simp [Tr.deep] at hd
    simp only [Tr.within, Bool.and_eq_true, decide_eq_true_eq] at hin
    refine ⟨fun hB => ?_, fun hB => by simp [treeB] at hB⟩
    simp only [treeB, Bool.true_and, Bool.and_eq_true, decide_eq_true_eq] at hB
    obtain ⟨⟨hi, hr, hf⟩, hB'⟩ := hB
    have hr' : i ∈ Region.ready md l.toArray listed := by simpa using hr
    have hoi : l.toArray[i]? = some (nthO l i) := by
      have := nthO_get l i hin.1
      simpa using this
    have inv' := inv.set hr' hi
    simp only [pickT, wpM] at h
    by_cases hw : Region.wanted (nthO l i) (yielded l.toArray a.tmps) = true
    · simp only [hw, if_true] at h
      obtain ⟨v, h1, h2⟩ := h
      exact wpML_first hoi (Region.noSelect_spec hsel) (hjn i hi) hi (fun listed' a' w' hL => hdone listed' hL.1) f listed a w inv (Region.free_spec hoi hf) hr' (.inl ⟨hw, h1⟩)
        ((ih f _ _ w (by simpa [Tr.deep] using hd) hin.2 inv' h2.out).1 hB')
    · simp only [hw] at h
      exact wpML_first (v := undef) hoi (Region.noSelect_spec hsel) (hjn i hi) hi (fun listed' a' w' hL => hdone listed' hL.1) f listed a w inv (Region.free_spec hoi hf) hr' (.inr ⟨by simpa using hw, rfl⟩)
        ((ih f _ _ w (by simpa [Tr.deep] using hd) hin.2 inv' h.out).1 hB')
  | l i t ih =>
    intro f listed a w hd hin inv h
    rcases f with _ | f
    · simp [Tr.deep] at hd
    simp only [Tr.within, Bool.and_eq_true, decide_eq_true_eq] at hin
    have hoi : l.toArray[i]? = some (nthO l i) := by
      have := nthO_get l i hin.1
      simpa using this
    have key : ∀ hi : i < n, i ∈ Region.ready md l.toArray listed → treeB md l.toArray n g t true (listed.setIfInBounds i true) = true →
        ∀ W, Ext w W → mOp S P l.toArray i (wpML S P md l.toArray n (fun listed' a' w' => planB md l.toArray n g [] listed' = true ∧ Lq a' w') f (listed.setIfInBounds i true)) a W := by
      intro hi hr hB' W hW
      have ih' := fun a' w' h' => (ih f (listed.setIfInBounds i true) a' w' (by simpa [Tr.deep] using hd) hin.2 (inv.set hr hi) h').1 hB'
      simp only [pickT, wpM] at h
      have h1 := h W hW
      unfold mOp
      simp only [hoi]
      split
      · rename_i hw
        simp only [hw, if_true] at h1
        exact Oper.wp_mono (fun a' w' h2 => ⟨h2.1, ih' a' w' h2.2⟩) h1
      · rename_i hw
        simp only [hw] at h1
        exact ih' _ _ h1.out
    constructor
    · intro hB
      simp only [treeB, Bool.not_true, Bool.false_or, Bool.and_eq_true, decide_eq_true_eq] at hB
      obtain ⟨⟨hi, hrd⟩, hr, hB'⟩ := hB
      have hr' : i ∈ Region.ready md l.toArray listed := by simpa using hr
      refine ⟨by rw [hrd]; simp, fun j hj => ?_⟩
      rw [hrd] at hj
      have hji : j = i := by simpa using hj
      subst hji
      exact ⟨hi, key hi hr' hB'⟩
    · intro hB
      simp only [treeB, Bool.not_false, Bool.true_or, Bool.and_true, Bool.and_eq_true, decide_eq_true_eq] at hB
      obtain ⟨hi, hr, hB'⟩ := hB
      have hr' : i ∈ Region.ready md l.toArray listed := by simpa using hr
      refine ⟨f, rfl, by simp [Tr.heads], fun j hj => ?_⟩
      have hji : j = i := by simpa [Tr.heads] using hj
      subst hji
      exact ⟨hi, key hi hr' hB'⟩
  | alt t u iht ihu =>
    intro f listed a w hd hin inv h
    simp only [Tr.deep, Bool.and_eq_true] at hd
    simp only [Tr.within, Bool.and_eq_true] at hin
    simp only [pickT, wpM] at h
    have h2 : treeB md l.toArray n g t false listed = true → treeB md l.toArray n g u false listed = true → ∃ f', f = f' + 1 ∧ (Tr.alt t u).heads ≠ [] ∧ ∀ i ∈ (Tr.alt t u).heads, i < n ∧ ∀ W, Ext w W → mOp S P l.toArray i (wpML S P md l.toArray n (fun listed' a' w' => planB md l.toArray n g [] listed' = true ∧ Lq a' w') f' (listed.setIfInBounds i true)) a W := by
      intro ht hu
      obtain ⟨f', e1, ne1, k1⟩ := (iht f listed a w hd.1 hin.1 inv h.1.out).2 ht
      obtain ⟨f'', e2, ne2, k2⟩ := (ihu f listed a w hd.2 hin.2 inv h.2.out).2 hu
      obtain rfl : f' = f'' := by omega
      refine ⟨f', e1, by simp [Tr.heads, ne1], fun i hi => ?_⟩
      rcases List.mem_append.1 (show i ∈ t.heads ++ u.heads from hi) with h | h
      · exact k1 i h
      · exact k2 i h
    constructor
    · intro hB
      simp only [treeB, Bool.not_true, Bool.false_or, Bool.and_eq_true, decide_eq_true_eq] at hB
      obtain ⟨hrd, ht, hu⟩ := hB
      obtain ⟨f', rfl, ne, k⟩ := h2 ht hu
      refine ⟨by rw [hrd]; exact ne, fun j hj => ?_⟩
      rw [hrd] at hj
      exact k j hj
    · intro hB
      simp only [treeB, Bool.not_false, Bool.true_or, Bool.true_and, Bool.and_eq_true] at hB
      exact h2 hB.1 hB.2

theorem wp_region_mut {S : Nat → Prop} {id : Nat} {Q : Exit → Act → World → Prop} {a : Act} {w : World} {l : List Oper} (n : Nat) (t : Tr) (hm : P.follows .mixedOrders = true) (hB : forkB l n t = true)
    (h : wpM S P l.toArray (fun a' w' => wpList P l.toArray Q (l.drop n) a' w') (pickT l t) a w.drew) : (Code.region id l.toArray true).wp P Q a w := by
  simp only [forkB, Bool.and_eq_true, decide_eq_true_eq] at hB
  obtain ⟨⟨⟨⟨⟨hsel, hn⟩, hdeep⟩, hwi⟩, htail⟩, hplan⟩ := hB
  have hsz : l.toArray.size = l.length := by simp
  have hplan' : treeB .any l.toArray n (l.length - n) t true (Array.replicate l.toArray.size false) = true := by rw [hsz]; exact hplan
  have inv0 : HeadInv .any l.toArray n (Array.replicate l.toArray.size false) :=
    ⟨by simp, fun j oj _ hl => (by rw [getD_replicate_false] at hl; cases hl), fun t _ ht => getD_in (by simpa using ht) (getD_replicate_false _ _)⟩
  have hjn : ∀ i, i < n → ∀ listed, HeadInv .any l.toArray n listed → listed.getD i true = false → ∀ j ∈ Region.ready .any l.toArray listed, j < n := fun i hi listed inv hun j hj => by
    by_cases hlt : n < l.length
    · rw [if_pos hlt] at htail
      simp only [Bool.and_eq_true] at htail
      rcases Nat.lt_or_ge j n with h1 | h1
      · exact h1
      · exact absurd hj (tail_waits htail.1 htail.2 (by rw [hsz]; exact hlt) inv _ i rfl hi hun j h1)
    · obtain ⟨_, oj, hoj, _⟩ := mem_ready.1 hj
      have := (Array.getElem?_eq_some_iff.1 hoj).1
      rw [hsz] at this; omega
  have hdone : ∀ listed, planB .any l.toArray n (l.length - n) [] listed = true → ∀ j ∈ Region.ready .any l.toArray listed, n ≤ j := fun listed hp j hj => by
    simp only [planB] at hp
    split at hp
    · exact seqB_ready hp j hj
    · simp only [List.isEmpty_iff] at hp
      rw [hp] at hj; cases hj
  have hEL := (wpML_of_tree (P := P) (g := l.length - n) hsel hjn hdone t n _ a w.drew hdeep hwi inv0 h).1 hplan'
  refine wp_region_any hm ?_
  have := wpAny_of_ML (Q := Q) (g := l.length - n) (fun listed a' w' hL => by
    obtain ⟨hp, hq⟩ := hL
    by_cases hlt : n < l.length
    · simp only [planB, hsz, if_pos hlt] at hp
      have := wpAny_of_seq (md := .any) (Q' := Q) (l.drop n) n listed a' w' (fun j => by simp [List.getElem?_drop]) (by rw [List.length_drop]; exact hp) hq
      rwa [List.length_drop] at this
    · simp only [planB, hsz, if_neg hlt, List.isEmpty_iff] at hp
      have hnl : n = l.length := by omega
      subst hnl
      rw [List.drop_length] at hq
      rw [Nat.sub_self]
      exact ⟨hp, hq⟩) _ _ _ _ hEL
  rw [show n + (l.length - n) = l.toArray.size by rw [hsz]; omega] at this
  exact this

/-! ### The steps of the walk -/
section
variable {Lq : Act → World → Prop} {r : TO} {a : Act} {w : World} {o : Oper}
theorem wpM_nil (h : ∀ W, Ext w W → Lq a W) : wpM S P ops Lq .nil a w := h
theorem wpM_alt {t u : TO} (ht : wpM S P ops Lq t a w) (hu : wpM S P ops Lq u a w) : wpM S P ops Lq (.alt t u) a w := ⟨⟨ht⟩, ⟨hu⟩⟩
theorem wpM_valK (hw : Region.wanted o (yielded ops a.tmps) = true) (h : ∀ K : Act → Prop, (∀ a, wpM S P ops Lq r a w → K a) → ∃ v, (∀ W, But S w W → (execOp a.eval o).run P W = .ok (.value v) W) ∧ K (a.put o.dst v)) : wpM S P ops Lq (.q o r) a w := by
  obtain ⟨v, hv, h2⟩ := h _ fun _ h => h
  simp only [wpM, hw, if_true]
  exact ⟨v, fun W hW => by rw [hv W hW]; exact ⟨rfl, rfl⟩, ⟨h2⟩⟩
theorem wpM_callK (v : Value) (f : FuncId) (args : Array Value) (hw : Region.wanted o (yielded ops a.tmps) = true) (hv : ∀ W, (execOp a.eval o).run P W = .ok (.enter f args) W)
    (hc : ∀ W, But S w W → Calls P f args W fun e w2 => e = .returned v ∧ Ext W w2) (h : ∀ K : Act → Prop, (∀ a, wpM S P ops Lq r a w → K a) → K (a.put o.dst v)) : wpM S P ops Lq (.q o r) a w := by
  simp only [wpM, hw, if_true]
  exact ⟨v, fun W hW => by rw [hv W]; exact ⟨rfl, hc W hW⟩, ⟨h _ fun _ h => h⟩⟩
theorem wpM_buildK (hw : Region.wanted o (yielded ops a.tmps) = true) (h : ∀ W, Ext w W → ∃ v w', ((execOp a.eval o).run P W = .ok (.value v) w' ∧ Ext W w') ∧ (∀ K : Act → Prop, (∀ a, wpM S P ops Lq r a w' → K a) → K (a.put o.dst v))) : wpM S P ops Lq (.l o r) a w := by
  intro W hW
  obtain ⟨v, w', h1, h3⟩ := h W hW
  simp only [hw, if_true, Oper.wp, h1.1, Oper.upon]
  exact ⟨But.of_ext h1.2, h3 _ fun _ h => h⟩
/-- an operation that yields nothing and turns memory, in blocks of S alone (a store) -/
theorem wpM_storeK (hw : Region.wanted o (yielded ops a.tmps) = true) (h : ∀ W, Ext w W → ∃ w', ((execOp a.eval o).run P W = .ok .skip w' ∧ But S W w') ∧ (∀ K : Act → Prop, (∀ a, wpM S P ops Lq r a w' → K a) → K (a.put o.dst undef))) : wpM S P ops Lq (.l o r) a w := by
  intro W hW
  obtain ⟨w', h1, h3⟩ := h W hW
  simp only [hw, if_true, Oper.wp, h1.1, Oper.upon]
  exact ⟨h1.2, h3 _ fun _ h => h⟩
end
end
end Go.Proofs.Ytgcbodpjidoanaa
namespace Go.Proofs.Ytgcbodpjidoanaa
open Go.RowKit
def b8 (x : Nat) : Value := .int .u8 (x : Nat)
theorem info_b8 : (Try.prog.info? 5).map (fun i => (i.zero, i.size, i.bytes)) = some (some (.int .u8 0), 1, 1) := by kernel_rfl
/-- a row of bytes of the call's own -/
def OwnB (w : World) (base : Nat) (A : Option Addr) (c : Nat) (l : List Nat) : Prop := w.ownsRow base 5 1 (.slice A l.length c) l.length (l.map b8)
theorem OwnB.arr {w : World} {base : Nat} {A : Option Addr} {c : Nat} {l : List Nat} (h : OwnB w base A c l) : Arr w w.heap.size A l.length (u8s l) :=
  Arr.of_own h fun i hi => by unfold u8s b8; simp [List.getD, List.getElem?_map, List.getElem?_eq_getElem hi]
theorem OwnB.ext {w W : World} {base : Nat} {A : Option Addr} {c : Nat} {l : List Nat} (h : OwnB w base A c l) (hW : Ext w W) : OwnB W base A c l := ownsRow_ext h hW
theorem OwnB.after {w W : World} {base : Nat} {A : Option Addr} {c : Nat} {l : List Nat} (h : OwnB w base A c l) (hW : Below w.heap.size w W) : OwnB W base A c l := h.ext (Ext.of_below hW)
theorem OwnB.nil (w : World) (base : Nat) : OwnB w base none 0 [] := World.ownsRow_nil w base _ _
theorem OwnB.lit0 (w : World) : OwnB (w.alloc (.cells #[] 5)) w.heap.size (some ⟨w.heap.size, 0, none⟩) 0 [] := World.ownsRow_lit w #[] 0 (Nat.le_refl _) (Nat.zero_le _) rfl
theorem OwnB.at {w : World} {base : Nat} {A : Option Addr} {c : Nat} {l : List Nat} (h : OwnB w base A c l) (h0 : 0 < l.length) : ∃ g, A = some ⟨g, 0, none⟩ ∧ base ≤ g ∧ g < w.heap.size ∧ l.length ≤ c ∧ ∀ i, i < l.length → w.cell? ⟨g, i, none⟩ = some (b8 (l.getD i 0)) := by
  rcases h.2 with ⟨hv, h1⟩ | ⟨g, cap, cur, hv, hb, hh, hnc, hcm, hs, ht⟩
  · omega
  · injection hv with hA _ hc
    subst hA hc
    refine ⟨g, rfl, hb, (Array.getElem?_eq_some_iff.1 hh).1, hnc, fun i hi => ?_⟩
    rw [World.ownsRow.cellAt h i (by omega)]
    simp [List.getD, List.getElem?_eq_getElem hi]
theorem map_u8s (l : List Nat) : (List.range l.length).map (u8s l) = l.map b8 := by
  refine List.ext_getElem? fun i => ?_
  rcases Nat.lt_or_ge i l.length with h | h
  · simp [List.getElem?_map, List.getElem?_range h, u8s, b8, List.getD, List.getElem?_eq_getElem h]
  · simp [h]
/-- one byte more -/
theorem wpList_app1 {ops : Array Oper} {rest : List Oper} {o : Oper} {a : Act} {w : World} {Q : Exit → Act → World → Prop} (hgd : o.guard = none) (s x : Operand)
    (ho : o.op = .call { callee := .builtin .append, args := #[s, x], argTypes := #[22, 22] }) (base : Nat) (A : Option Addr) (c n : Nat) (l : List Nat) (hl : n = l.length) (hs : a.eval s = .slice A n c) (hown : OwnB w base A c l)
    (y : Nat) (hx : a.eval x = .slice (some ⟨w.heap.size, 0, none⟩) 1 1) (hn : n ≤ 140737488355000) (hbase : base ≤ w.heap.size)
    (h : ∀ A' c' w', OwnB w' base A' c' (l ++ [y]) → Below base w w' → wpList Try.prog ops Q rest (a.put o.dst (.slice A' (n + 1) c')) w') : wpList Try.prog ops Q (o :: rest) a (w.alloc (.cells #[b8 y] 5)) := by
  obtain ⟨i0, hi0, hz0, hz1, hz2⟩ := info_parts info_b8
  subst hl
  refine wpList_append_cells w hgd s x 22 ho base 5 i0 _ 1 1 Try.underlying22 hi0 hz0 hz1 hz2 rfl (by decide) (.slice A l.length c) l.length (l.map b8) hs hown #[b8 y] 1 hx rfl (by simp [b8, Value.oneCell']) (by omega) (by unfold maxLen; omega) (by omega) hbase ?_
  intro g c3 w3 hown3 hg3 hat3
  refine h _ _ w3 ?_ (below_own hown hg3 (Nat.le_refl _) hbase)
  unfold OwnB
  rw [List.length_append, List.map_append]
  exact hown3
/-- the bytes of a slice more -/
theorem wpList_appn {ops : Array Oper} {rest : List Oper} {o : Oper} {a : Act} {w : World} {Q : Exit → Act → World → Prop} (hgd : o.guard = none) (s x : Operand)
    (ho : o.op = .call { callee := .builtin .append, args := #[s, x], argTypes := #[22, 22] }) (base : Nat) (A : Option Addr) (c n : Nat) (l : List Nat) (hl : n = l.length) (hs : a.eval s = .slice A n c) (hown : OwnB w base A c l)
    (B : Nat) (X : Option Addr) (m d : Nat) (k : List Nat) (hk : m = k.length) (hx : a.eval x = .slice X m d) (hX : Arr w B X m (u8s k)) (hn : n + m ≤ 140737488355000) (hbase : base ≤ w.heap.size)
    (h : ∀ A' c' w', OwnB w' base A' c' (l ++ k) → Below base w w' → wpList Try.prog ops Q rest (a.put o.dst (.slice A' (n + m) c')) w') : wpList Try.prog ops Q (o :: rest) a w := by
  obtain ⟨i0, hi0, hz0, hz1, hz2⟩ := info_parts info_b8
  subst hl hk
  refine wpList_append_arr w hgd s x 22 ho base 5 i0 _ 1 Try.underlying22 hi0 hz0 hz1 hz2 rfl (.slice A l.length c) l.length (l.map b8) hs hown B X k.length d (u8s k) hx hX (fun _ => rfl) (by unfold maxLen; omega) (by omega) hbase ?_
  intro A3 c3 w3 hown3 hg3 hat3
  refine h _ _ w3 ?_ (below_own hown hg3 (Nat.le_refl _) hbase)
  unfold OwnB
  rw [List.length_append, List.map_append, ← map_u8s k]
  exact hown3
/-- eight bytes of a number, the highest first -/
def be8 (n : Nat) : List Nat := (List.range 8).map fun i => n / 2 ^ (56 - 8 * i) % 256
theorem be8_succ (n k : Nat) (hk : k < 8) : (be8 n).take k ++ [n / 2 ^ (56 - 8 * k) % 256] = (be8 n).take (k + 1) := by
  rw [List.take_succ_eq_append_getElem (by simp [be8]; exact hk)]
  simp [be8]
theorem isB_be8 (n : Nat) : IsB (be8 n) := fun i => by
  unfold be8
  rcases Nat.lt_or_ge i 8 with h | h
  · simp [List.getD, List.getElem?_map, List.getElem?_range h]; omega
  · rw [getD_out _ _ _ (by simp; exact h)]; omega
/-- a text, filled up to whole blocks -/
def zeros (n : Nat) : Nat := (119 - n % 64) % 64
def padl (b : List Nat) : List Nat := b ++ [128] ++ List.replicate (zeros b.length) 0 ++ be8 (8 * b.length)
theorem padl_len (b : List Nat) : (padl b).length % 64 = 0 ∧ (padl b).length = b.length + 9 + zeros b.length := by
  unfold padl zeros
  simp [be8]
  omega
def blk (l : List Nat) (i : Nat) : List Nat := (l.drop (64 * i)).take 64
def compN (h : List UInt32) (l : List Nat) : Nat → List UInt32
  | 0 => h
  | i + 1 => turnS (compN h l i) (blk l i)
def sumW (b : List Nat) : List UInt32 := compN h0 (padl b) ((padl b).length / 64)
theorem turnS_len (h : List UInt32) (b : List Nat) : (turnS h b).length = 8 := by simp [turnS]
theorem compN_len (h : List UInt32) (l : List Nat) (hh : h.length = 8) : ∀ i, (compN h l i).length = 8
  | 0 => hh
  | i + 1 => turnS_len _ _
/-- 32 bytes of eight words -/
def dig (h : List UInt32) : List Nat := (List.range 32).map fun i => (h.getD (i / 4) 0).toNat / 2 ^ (24 - 8 * (i % 4)) % 256
theorem blk_get (l : List Nat) (i j : Nat) (hj : j < 64) : (blk l i).getD j 0 = l.getD (64 * i + j) 0 := by
  unfold blk List.getD
  rw [List.getElem?_take, if_pos hj, List.getElem?_drop]
theorem isB_blk {l : List Nat} (h : IsB l) (i : Nat) : IsB (blk l i) := fun j => by
  rcases Nat.lt_or_ge j 64 with hj | hj
  · rw [blk_get _ _ _ hj]; exact h _
  · rw [getD_out _ _ _ (by unfold blk; simp; omega)]; omega
theorem isB_append {x y : List Nat} (hx : IsB x) (hy : IsB y) : IsB (x ++ y) := fun i => by
  unfold List.getD
  rw [List.getElem?_append]
  split
  · exact hx i
  · exact hy _
theorem isB_padl {b : List Nat} (h : IsB b) : IsB (padl b) := by
  unfold padl
  refine isB_append (isB_append (isB_append h fun i => ?_) fun i => ?_) (isB_be8 _)
  · cases i with
    | zero => decide
    | succ i => rw [getD_out _ _ _ (by simp)]; omega
  · unfold List.getD; rw [List.getElem?_replicate]; split <;> simp
set_option maxRecDepth 100000 in
set_option maxHeartbeats 1000000 in
theorem eight_any (n : Nat) (hn : n < 18446744073709551616) (w : World) :
    Calls Try.prog 196 #[.int .u64 n] w fun e w' => ∃ A c, e = .returned (.slice A 8 c) ∧ Below w.heap.size w w' ∧ OwnB w' w.heap.size A c (be8 n) := by
  go_enter Try.func196, Try.ntmps196
  go_wp2_with fail
  go_loopw [3, 4] (fun v3 v4 wr => ∃ (k : Nat) (A : Option Addr) (c : Nat), k ≤ 8 ∧ v3 = .slice A k c ∧ v4 = .int .i64 (56 - 8 * (k : Int)) ∧ Hid (OwnB wr w.heap.size A c ((be8 n).take k) ∧ Below w.heap.size w wr)) (fun _ v4 _ => (intOf v4 + 8).toNat)
  case atStart => exact ⟨0, none, 0, by omega, rfl, rfl, OwnB.nil _ _, Below.refl _ _⟩
  case round =>
    obtain ⟨k, A, c, hk, rfl, rfl, hV⟩ := hrel
    by_cases hlt : k < 8
    · have t' : decide ((0 : Int) ≤ 56 - 8 * (k : Int)) = true := by simp; omega
      have t2' : decide (8 * (k : Int) ≤ 56) = true := by simp; omega
      have i1 : (0 : Int) ≤ 56 - 8 * (k : Int) := by omega
      have i2 : 8 * (k : Int) ≤ 56 := by omega
      have e1 : ((56 : Int) - 8 * (k : Int)).toNat = 56 - 8 * k := by omega
      have m1 : IntKind.i64.wrap (56 - 8 * (k : Int) - 8) = 56 - 8 * ((k : Int) + 1) := by rw [show (56 : Int) - 8 * (k : Int) - 8 = 56 - 8 * ((k : Int) + 1) by omega]; exact IntWalk.i64_in _ (by omega)
      obtain ⟨y, hy⟩ : ∃ y, y = n / 2 ^ (56 - 8 * k) % 256 := ⟨_, rfl⟩
      have hy' : (n : Int) / 2 ^ (56 - 8 * k) % 256 = (y : Int) := by rw [hy]; simp
      have hE := hideP (show (be8 n).take k ++ [y] = (be8 n).take (k + 1) by rw [hy]; exact be8_succ n k hlt)
      have hl := hideP (show k = ((be8 n).take k).length by simp [be8]; omega)
      have hsz := hideP hV.out.2.size
      clear hy
      go_wp2_with (at_builtin; refine wpList_app1 rfl (.tmp 9) (.tmp 14) rfl w.heap.size A c k ((be8 n).take k) hl.out rfl hV.out.1 y rfl (by omega) hsz.out ?_; intro A3 c3 w3 hown3 hb3)
      rw [hE.out] at hown3
      have ho := hideP hown3
      have hb := hideP (hV.out.2.trans hb3)
      clear hV hown3 hb3
      go_roundw
      case rel => exact ⟨k + 1, A3, c3, by omega, rfl, by rw [show ((k + 1 : Nat) : Int) = (k : Int) + 1 by omega], ho.out, hb.out⟩
      case measure => simp [intOf]; omega
    · have t' : decide ((0 : Int) ≤ 56 - 8 * (k : Int)) = false := by simp; omega
      have t2' : decide (8 * (k : Int) ≤ 56) = false := by simp; omega
      have hk8 : k = 8 := by omega
      have ho := hideP hV.out.1
      have hb := hideP hV.out.2
      rw [hk8, show (be8 n).take 8 = be8 n from List.take_of_length_le (by simp [be8])] at ho
      clear hV hlt hk
      obtain ⟨K, hK⟩ : ∃ K, K = k := ⟨_, rfl⟩
      go_wp2_with fail
      go_ret
      exact ⟨A, c, by rw [hk8]; rfl, hb.out, ho.out⟩
end Go.Proofs.Ytgcbodpjidoanaa
