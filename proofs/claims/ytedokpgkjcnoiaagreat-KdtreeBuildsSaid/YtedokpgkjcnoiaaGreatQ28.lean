/- block.IsName; a pure contract of the old kind, as one of the new. Words of 32 bits; turning them. Laws on operations: bytes as a string, bytes compared, one element appended; no program in sight. -/
import Derived.Laws.RangeAny
import Derived.Test.YtedokpgkjcnoiaaGreatProg
import Derived.Laws.BitsAllLaws
import Derived.Maps.AppendAt
import Derived.Deep.AppendLies
import Derived.Lib.Bytealg
import Derived.Laws.Rows
import Derived.Laws.Externs
import Derived.Laws.StructEq
import Derived.Laws.ResultCell
import Derived.Test.YtedokpgkjcnoiaaGreatQ22
import Derived.Test.YtedokpgkjcnoiaaGreatQ23
set_option linter.unusedVariables false
set_option linter.unusedSimpArgs false
namespace Go.Proofs.YtedokpgkjcnoiaaGreat
open Go.RowKit
def nb (s : ByteArray) : List Nat := s.data.toList.map UInt8.toNat
/-! ### what is read: bytes in hand -/
theorem enters_of {P : Program} {f : FuncId} {fn : Func} {c : Code} (hf : P.funcs[f]? = some fn) (hb : fn.body = some c) (hn : (fn.name == "runtime.NumGoroutine") = false) : Enters P f := fun vs W => by
 unfold callFunc
 simp only [program, Sem.run_bind, Sem.run]
 simp [hf, hn, hb]
 simpa using hn
end Go.Proofs.YtedokpgkjcnoiaaGreat
namespace Go.Proofs.YtedokpgkjcnoiaaGreat
open Go.RowKit
/-- a word as Go's number -/
def n32 (x : UInt32) : Int := (x.toNat : Int)
theorem n32_bd (x : UInt32) : 0 ≤ n32 x ∧ n32 x ≤ 4294967295 := by unfold n32; have := x.toNat_lt; omega
def shr (x : UInt32) (n : Nat) : UInt32 := UInt32.ofNat (x.toNat / 2 ^ n)
def shl (x : UInt32) (n : Nat) : UInt32 := UInt32.ofNat (x.toNat * 2 ^ n)
def rotr (x : UInt32) (n : Nat) : UInt32 := shr x n ||| shl x (32 - n)
theorem n32_ofNat (n : Nat) : n32 (UInt32.ofNat n) = ((n % 4294967296 : Nat) : Int) := by unfold n32; rw [UInt32.toNat_ofNat']
theorem n32_xor (x y : UInt32) : bits .xor .u32 (n32 x) (n32 y) = n32 (x ^^^ y) := by
 unfold n32; rw [u32_xor_nat _ _ x.toNat_lt y.toNat_lt, UInt32.toNat_xor]
theorem n32_and (x y : UInt32) : bits .and .u32 (n32 x) (n32 y) = n32 (x &&& y) := by
 unfold n32; rw [u32_and_nat _ _ x.toNat_lt y.toNat_lt, UInt32.toNat_and]
theorem n32_or (x y : UInt32) : bits .or .u32 (n32 x) (n32 y) = n32 (x ||| y) := by
 unfold n32; rw [u32_or_nat _ _ x.toNat_lt y.toNat_lt, UInt32.toNat_or]
theorem n32_add (x y : UInt32) : IntKind.u32.wrap (n32 x + n32 y) = n32 (x + y) := by
 unfold n32; rw [IntKind.wrap_u32', UInt32.toNat_add]; omega
theorem n32_shl (x : UInt32) (n : Nat) : IntKind.u32.wrap (n32 x * 2 ^ n) = n32 (shl x n) := by
 unfold shl; rw [n32_ofNat, IntKind.wrap_u32']; unfold n32
 rw [show ((x.toNat : Int) * 2 ^ n) = ((x.toNat * 2 ^ n : Nat) : Int) by simp]
 omega
theorem n32_shr (x : UInt32) (n : Nat) : n32 x / 2 ^ n = n32 (shr x n) := by
 unfold shr; rw [n32_ofNat]; unfold n32
 have h : x.toNat / 2 ^ n < 4294967296 := Nat.lt_of_le_of_lt (Nat.div_le_self _ _) x.toNat_lt
 rw [Nat.mod_eq_of_lt h]
 simp
theorem rot_eq (x : UInt32) (n m : Nat) (hm : m = 32 - n) (hn : n ≤ 32) : bits .or .u32 (n32 x * 2 ^ min m 32 % 4294967296) (n32 x / 2 ^ min n 32) = n32 (rotr x n) := by
 rw [Nat.min_eq_left (by omega), Nat.min_eq_left hn, n32_shr, ← IntKind.wrap_u32', n32_shl, n32_or]
 unfold rotr; rw [hm, UInt32.or_comm]
theorem rot_eq' (x : UInt32) (n m : Nat) (hm : m = 32 - n) (hn : n ≤ 32) : bits .or .u32 (n32 x / 2 ^ min n 32) (n32 x * 2 ^ min m 32 % 4294967296) = n32 (rotr x n) := by
 rw [Nat.min_eq_left (show n ≤ 32 from hn), Nat.min_eq_left (show m ≤ 32 by omega), n32_shr, ← IntKind.wrap_u32', n32_shl, n32_or]
 unfold rotr; rw [hm]
theorem n32_not' (y : UInt32) : IntKind.u32.wrap (4294967295 - n32 y) = n32 (~~~ y) := by
 unfold n32; rw [IntKind.wrap_u32', UInt32.toNat_not]
 have := y.toNat_lt
 simp [UInt32.size]
 omega
theorem ones_xor (y : UInt32) : (4294967295 : UInt32) ^^^ y = ~~~ y := by
 apply UInt32.toBitVec_inj.1
 rw [UInt32.toBitVec_xor, UInt32.toBitVec_not]
 exact BitVec.allOnes_xor
theorem n32_not (y : UInt32) : bits .xor .u32 (if IntKind.u32.signed = true then -1 else IntKind.u32.max) (n32 y) = n32 (~~~ y) := by
 rw [← ones_xor, ← n32_xor]
 rfl
theorem rot_any (x : UInt32) (k : Int) (n : Nat) (hn : n ≤ 32) (hk : bits .and .u64 (IntKind.u64.wrap k) 31 = ((32 - n : Nat) : Int)) (w : World) :
    Calls Tryz.prog 160 #[.int .u32 (n32 x), .int .i64 k] w fun e w' => e = .returned (.int .u32 (n32 (rotr x n))) ∧ w = w' := by
  obtain ⟨m, hm⟩ : ∃ m, m = 32 - n := ⟨_, rfl⟩
  rw [← hm] at hk
  have h3 : IntKind.u64.wrap (32 - (m : Int)) = (n : Int) := by rw [IntKind.wrap_u64]; omega
  have h5 := hideP (rot_eq x n m hm hn)
  clear hm hn
  go_enter Tryz.func160, Tryz.ntmps160
  go_wp2
  go_ret
  exact ⟨ret_int h5.out, rfl⟩
theorem turned_any (x : UInt32) (n : Nat) (hn : n ≤ 32) (w : World) :
    Calls Tryz.prog 157 #[.int .u32 (n32 x), .int .u64 n] w fun e w' => e = .returned (.int .u32 (n32 (rotr x n))) ∧ w = w' := by
  obtain ⟨m, hm⟩ : ∃ m, m = 32 - n := ⟨_, rfl⟩
  have h3 : IntKind.u64.wrap (32 - (n : Int)) = (m : Int) := by rw [IntKind.wrap_u64]; omega
  have h5 := hideP (rot_eq' x n m hm hn)
  clear hm hn
  go_enter Tryz.func157, Tryz.ntmps157
  go_wp2
  go_ret
  exact ⟨ret_int h5.out, rfl⟩
end Go.Proofs.YtedokpgkjcnoiaaGreat
namespace Go.Proofs.YtedokpgkjcnoiaaGreat
open Go.RowKit

theorem IsB.cons {x : Nat} {l : List Nat} (h : IsB (x :: l)) : x < 256 ∧ IsB l := ⟨h 0, fun i => h (i + 1)⟩
section
variable {P : Program} (w : World)

/-- 'append(out, x..)', the elements in a new block of their own (buildSlice), out nil or the call's own. -/
theorem run_append_cells (base : Nat) (t ty e : TypeId) (i : TypeInfo) (z : Value) (size bytes : Nat) (ht : P.underlying t = some (.slice e)) (hi : P.info? e = some i) (hz : i.zero = some z)
    (hsize : i.size = size) (hby : i.bytes = bytes) (hzs : z.cells.size = size) (hsz : 0 < size)
    (v : Value) (n : Nat) (xs : List Value) (hown : w.ownsRow base e size v n xs) (cs : Array Value) (m : Nat) (hm : cs.toList.length = m * size) (h1 : ∀ u ∈ cs.toList, u.oneCell' = true) (hm0 : 0 < m)
    (h63 : n + m ≤ maxLen) (hbytes : (n + m) * bytes ≤ 140737488355328) (hbase : base ≤ w.heap.size) :
    ∃ g c w', (Builtin.append_ #[t, t] ty #[v, .slice (some ⟨w.heap.size, 0, none⟩) m m]).run P (w.alloc (.cells cs e)) = .ok (.slice (some ⟨g, 0, none⟩) (n + m) c) w' ∧
      w'.ownsRow base e size (.slice (some ⟨g, 0, none⟩) (n + m) c) (n + m) (xs ++ cs.toList) ∧ w.grownBy w' v.ownBlock ∧ (v.ownBlock = some g ∨ w.heap.size ≤ g) := by
  obtain ⟨v', w', hrun, h2, h3, h4, h5⟩ := run_append_own_at (P := P) (w.alloc (.cells cs e)) base t ty e i z size bytes ht hi hz hsize hby hzs hsz v n xs (hown.alloc _) ⟨w.heap.size, 0, none⟩ m m cs.toList hm
    (World.news_of_block (heap_alloc_new w _)) h1 h63 hbytes (by simp; omega)
  rcases h2.2 with ⟨hv, h0⟩ | ⟨g, cap, cur, hv, hb, hh, hcap, hmx, hs, ht⟩
  · omega
  · subst hv
    refine ⟨g, cap, w', hrun, h2, ?_, ?_⟩
    · refine ⟨h3.os, h3.tape, h3.output, Nat.le_trans (by simp) h3.size, fun k hk hne => ?_⟩
      rw [h3.block k (by simp; omega) hne]
      exact Below.heap_alloc w _ k hk
    · rcases h5 with h5 | h5
      · left; rw [← h5]; rfl
      · right
        have : g = (w.alloc (.cells cs e)).heap.size := by simpa [Value.ownBlock] using h5
        rw [this]; simp

theorem wpList_append_cells {ops : Array Oper} {rest : List Oper} {o : Oper} {a : Act} {Q : Exit → Act → World → Prop} (hgd : o.guard = none) (s x : Operand) (t : TypeId)
    (ho : o.op = .call { callee := .builtin .append, args := #[s, x], argTypes := #[t, t] })
    (base : Nat) (e : TypeId) (i : TypeInfo) (z : Value) (size bytes : Nat) (ht : P.underlying t = some (.slice e)) (hi : P.info? e = some i) (hz : i.zero = some z)
    (hsize : i.size = size) (hby : i.bytes = bytes) (hzs : z.cells.size = size) (hsz : 0 < size)
    (v : Value) (n : Nat) (xs : List Value) (hs : a.eval s = v) (hown : w.ownsRow base e size v n xs) (cs : Array Value) (m : Nat) (hx : a.eval x = .slice (some ⟨w.heap.size, 0, none⟩) m m)
    (hm : cs.toList.length = m * size) (h1 : ∀ u ∈ cs.toList, u.oneCell' = true) (hm0 : 0 < m)
    (h63 : n + m ≤ maxLen) (hbytes : (n + m) * bytes ≤ 140737488355328) (hbase : base ≤ w.heap.size)
    (h : ∀ g c w', w'.ownsRow base e size (.slice (some ⟨g, 0, none⟩) (n + m) c) (n + m) (xs ++ cs.toList) → w.grownBy w' v.ownBlock → (v.ownBlock = some g ∨ w.heap.size ≤ g) →
      wpList P ops Q rest (a.put o.dst (.slice (some ⟨g, 0, none⟩) (n + m) c)) w') : wpList P ops Q (o :: rest) a (w.alloc (.cells cs e)) := by
  obtain ⟨g, c, w', hrun, h2, h3, h4⟩ := run_append_cells (P := P) w base t o.type e i z size bytes ht hi hz hsize hby hzs hsz v n xs hown cs m hm h1 hm0 h63 hbytes hbase
  refine wpList_plain hgd fun K hK => ?_
  unfold Oper.wp execOp
  simp only [ho, resolve, invoke, builtin, Sem.run_bind, Sem.run_pure, Result.andThen_ok, List.map_toArray, List.map_cons, List.map_nil, hs, hx, hrun]
  exact hK _ _ (h g c w' h2 h3 h4)

theorem run_append_nil (base : Nat) (t ty e : TypeId) (i : TypeInfo) (size : Nat) (ht : P.underlying t = some (.slice e)) (hi : P.info? e = some i)
    (v : Value) (n : Nat) (xs : List Value) (hown : w.ownsRow base e size v n xs) (c : Nat) : (Builtin.append_ #[t, t] ty #[v, .slice none 0 c]).run P w = .ok v w := by
  rcases hown.2 with ⟨rfl, rfl⟩ | ⟨g, cap, cur, rfl, _, _, hnc, _⟩
  · simp [Builtin.append_, run_underlying ht, sizeOf, typeInfo, hi, Builtin.lenOf, Builtin.firstCells]
  · simp [Builtin.append_, run_underlying ht, sizeOf, typeInfo, hi, Builtin.lenOf, Builtin.firstCells, hnc, storeCells]

/-- 'append(out, xs...)', elements of one cell, xs nil, empty or not. -/
theorem run_append_arr (base : Nat) (t ty e : TypeId) (i : TypeInfo) (z : Value) (bytes : Nat) (ht : P.underlying t = some (.slice e)) (hi : P.info? e = some i) (hz : i.zero = some z)
    (hsize : i.size = 1) (hby : i.bytes = bytes) (hzs : z.cells.size = 1)
    (v : Value) (n : Nat) (xs : List Value) (hown : w.ownsRow base e 1 v n xs)
    (B : Nat) (A : Option Addr) (m c : Nat) (f : Nat → Value) (hr : Arr w B A m f) (h1 : ∀ j, (f j).oneCell' = true)
    (h63 : n + m ≤ maxLen) (hbytes : (n + m) * bytes ≤ 140737488355328) (hbase : base ≤ w.heap.size) :
    ∃ A' c' w', (Builtin.append_ #[t, t] ty #[v, .slice A m c]).run P w = .ok (.slice A' (n + m) c') w' ∧ w'.ownsRow base e 1 (.slice A' (n + m) c') (n + m) (xs ++ (List.range m).map f) ∧ w.grownBy w' v.ownBlock ∧
      ((Value.slice A' (n + m) c').ownBlock = v.ownBlock ∨ (Value.slice A' (n + m) c').ownBlock = some w.heap.size) := by
  have shape : ∀ v' w', World.ownsRow w' base e 1 v' (n + m) (xs ++ (List.range m).map f) → ∃ A' c', v' = .slice A' (n + m) c' := fun v' w' h => by
    rcases h.2 with ⟨rfl, h0⟩ | ⟨g, cap, cur, rfl, _⟩
    · exact ⟨none, 0, by rw [h0]⟩
    · exact ⟨_, _, rfl⟩
  rcases A with _ | ad
  · have hm : m = 0 := by
      rcases Nat.eq_zero_or_pos m with h0 | h0
      · exact h0
      · obtain ⟨_, _, h, _⟩ := hr h0
        cases h
    subst hm
    have hown' : w.ownsRow base e 1 v (n + 0) (xs ++ (List.range 0).map f) := by simpa using hown
    obtain ⟨A', c', rfl⟩ := shape v w hown'
    exact ⟨A', c', w, run_append_nil w base t ty e i 1 ht hi _ n xs hown c, hown', World.grownBy.refl w _, .inl rfl⟩
  · have hcells : ∀ j u, ((List.range m).map f)[j]? = some u → w.cell? (ad.add j) = some u := by
      intro j u hu
      have hj : j < m := by
        rcases Nat.lt_or_ge j m with h | h
        · exact h
        · rw [List.getElem?_eq_none (by simpa using h)] at hu; cases hu
      obtain ⟨b, off, e1, hb, hc⟩ := hr (by omega)
      injection e1 with e1
      subst e1
      simp only [List.getElem?_map, List.getElem?_range hj, Option.map_some] at hu
      injection hu with hu
      subst hu
      have hadd : (⟨b, off, none⟩ : Addr).add j = ⟨b, off + j, none⟩ := by unfold Addr.add; split <;> simp_all
      rw [hadd]
      exact hc j hj
    obtain ⟨v', w', hrun, h2, h3, _, h5⟩ := run_append_own_at (P := P) w base t ty e i z 1 bytes ht hi hz hsize hby hzs (by omega) v n xs hown ad m c ((List.range m).map f) (by simp) hcells
      (fun u hu => by obtain ⟨j, _, rfl⟩ := List.mem_map.1 hu; exact h1 j) h63 hbytes hbase
    obtain ⟨A', c', rfl⟩ := shape v' w' h2
    exact ⟨A', c', w', hrun, h2, h3, h5⟩

theorem wpList_append_arr {ops : Array Oper} {rest : List Oper} {o : Oper} {a : Act} {Q : Exit → Act → World → Prop} (hgd : o.guard = none) (s x : Operand) (t : TypeId)
    (ho : o.op = .call { callee := .builtin .append, args := #[s, x], argTypes := #[t, t] })
    (base : Nat) (e : TypeId) (i : TypeInfo) (z : Value) (bytes : Nat) (ht : P.underlying t = some (.slice e)) (hi : P.info? e = some i) (hz : i.zero = some z)
    (hsize : i.size = 1) (hby : i.bytes = bytes) (hzs : z.cells.size = 1)
    (v : Value) (n : Nat) (xs : List Value) (hs : a.eval s = v) (hown : w.ownsRow base e 1 v n xs)
    (B : Nat) (A : Option Addr) (m c : Nat) (f : Nat → Value) (hx : a.eval x = .slice A m c) (hr : Arr w B A m f) (h1 : ∀ j, (f j).oneCell' = true)
    (h63 : n + m ≤ maxLen) (hbytes : (n + m) * bytes ≤ 140737488355328) (hbase : base ≤ w.heap.size)
    (h : ∀ A' c' w', w'.ownsRow base e 1 (.slice A' (n + m) c') (n + m) (xs ++ (List.range m).map f) → w.grownBy w' v.ownBlock →
      ((Value.slice A' (n + m) c').ownBlock = v.ownBlock ∨ (Value.slice A' (n + m) c').ownBlock = some w.heap.size) → wpList P ops Q rest (a.put o.dst (.slice A' (n + m) c')) w') : wpList P ops Q (o :: rest) a w := by
  obtain ⟨A', c', w', hrun, h2, h3, h4⟩ := run_append_arr (P := P) w base t o.type e i z bytes ht hi hz hsize hby hzs v n xs hown B A m c f hr h1 h63 hbytes hbase
  refine wpList_plain hgd fun K hK => ?_
  unfold Oper.wp execOp
  simp only [ho, resolve, invoke, builtin, Sem.run_bind, Sem.run_pure, Result.andThen_ok, List.map_toArray, List.map_cons, List.map_nil, hs, hx, hrun]
  exact hK _ _ (h A' c' w' h2 h3 h4)
end

/-- Below a base, behind an append to a row of the call's own -/
theorem below_own {w w' : World} {base B : Nat} {e : TypeId} {size n : Nat} {v : Value} {xs : List Value} (hown : w.ownsRow base e size v n xs) (hg : w.grownBy w' v.ownBlock) (hB : B ≤ base) (hs : B ≤ w.heap.size) : Below B w w' :=
 (Below.refl _ _).grown hg hs fun k hk => Nat.le_trans hB (hown.lt k hk).1

/-! ### A block whose first n cells are known, not frozen -/
def Blk (w : World) (g : Nat) (t : TypeId) (n : Nat) (f : Nat → Value) : Prop :=
 ∃ cs : Array Value, w.heap[g]? = some (.cells cs t (0, 0)) ∧ n ≤ cs.size ∧ ∀ i, i < n → cs[i]? = some (f i)
section
variable {w w' : World} {g : Nat} {t : TypeId} {n : Nat} {f f' : Nat → Value}
theorem Blk.lt (h : Blk w g t n f) : g < w.heap.size := by
 obtain ⟨cs, hg, _⟩ := h
 exact (Array.getElem?_eq_some_iff.1 hg).1
theorem Blk.cell (h : Blk w g t n f) {i : Nat} (hi : i < n) : w.cell? ⟨g, i, none⟩ = some (f i) := by
 obtain ⟨cs, hg, _, hc⟩ := h
 rw [cell_of_row w g i cs t (0, 0) hg]; exact hc i hi
theorem Blk.frozen (h : Blk w g t n f) (i : Nat) : w.frozen? ⟨g, i, none⟩ = false := by
 obtain ⟨cs, hg, _⟩ := h
 exact frozen_of_row w g i cs t hg
theorem Blk.congr (h : Blk w g t n f) (e : ∀ i, i < n → f i = f' i) : Blk w g t n f' := by
 obtain ⟨cs, hg, hn, hc⟩ := h
 exact ⟨cs, hg, hn, fun i hi => by rw [hc i hi, e i hi]⟩
theorem Blk.of_block (h : Blk w g t n f) (e : w'.heap[g]? = w.heap[g]?) : Blk w' g t n f := by
 obtain ⟨cs, hg, r⟩ := h
 exact ⟨cs, e.trans hg, r⟩
theorem Blk.set (h : Blk w g t n f) (i : Nat) (v : Value) : Blk (w.setCell ⟨g, i, none⟩ v) g t n (fun j => if j = i then v else f j) := by
 obtain ⟨cs, hg, hn, hc⟩ := h
 refine ⟨cs.setIfInBounds i v, ?_, by simpa using hn, fun j hj => ?_⟩
 ·simp [World.setCell, Array.getElem?_modify, hg]
 ·rw [Array.getElem?_setIfInBounds]
  by_cases e : i = j
  ·subst e; simp; omega
  ·rw [if_neg e]
   show cs[j]? = some (if j = i then v else f j)
   rw [if_neg (fun h => e h.symm)]; exact hc j hj
theorem Blk.setOther (h : Blk w g t n f) {a : Addr} (ha : g ≠ a.block) (v : Value) : Blk (w.setCell a v) g t n f := h.of_block (Below.heap_setCell _ _ _ _ ha)
theorem Blk.alloc (h : Blk w g t n f) (o : Obj) : Blk (w.alloc o) g t n f := h.of_block (Below.heap_alloc _ _ _ h.lt)
theorem Blk.drew (h : Blk w g t n f) : Blk w.drew g t n f := h
theorem Blk.drewN (h : Blk w g t n f) (k : Nat) : Blk (w.drewN k) g t n f := h
theorem Blk.below {B : Nat} (h : Blk w g t n f) (hb : Below B w w') (hB : g < B) : Blk w' g t n f := h.of_block (hb.block g hB)
theorem Blk.of_row {m : Nat} (h : w.rowIs g t m f) (hn : n ≤ m) : Blk w g t n f := by
 obtain ⟨cs, hg, hs, hc⟩ := h
 exact ⟨cs, hg, by omega, fun i hi => hc i (by omega)⟩
/-- an owned row that is not empty is such a block -/
theorem Blk.of_own {base : Nat} {e : TypeId} {A : Option Addr} {c : Nat} {xs : List Value} (h : w.ownsRow base e 1 (.slice A n c) n xs) (hn : 0 < n) (hf : ∀ i, i < n → xs[i]? = some (f i)) :
    ∃ g, A = some ⟨g, 0, none⟩ ∧ base ≤ g ∧ Blk w g e n f := by
  rcases h.2 with ⟨he, h0⟩ | ⟨r, cap, cur, hv, hb, hh, hcap, hm, hs, ht⟩
  · omega
  · injection hv with hA _ _
    subst hA
    refine ⟨r, rfl, hb, cur, hh, by omega, fun i hi => ?_⟩
    have h1 := hf i hi
    rw [← ht, List.getElem?_take] at h1
    split at h1
    · simpa using h1
    · cases h1
end

theorem below_new (w : World) (o : Obj) : Below w.heap.size w (w.alloc o) := (Below.refl _ _).alloc (Nat.le_refl _) o

/-! ### Lists of bytes in order -/
def lexLt : List Nat → List Nat → Bool
 | _, [] => false
 | [], _ :: _ => true
 | a :: x, b :: y => decide (a < b) || (decide (a = b) && lexLt x y)
theorem ofNat_lt {a b : Nat} (ha : a < 256) (hb : b < 256) : (UInt8.ofNat a < UInt8.ofNat b) ↔ a < b := by
 rw [UInt8.lt_iff_toNat_lt]; simp [UInt8.toNat_ofNat', Nat.mod_eq_of_lt ha, Nat.mod_eq_of_lt hb]
/-- a block of one cell -/
def One (w : World) (g : Nat) (t : TypeId) (x : Value) : Prop := w.heap[g]? = some (.cells #[x] t (0, 0))
section
variable {w w' : World} {g : Nat} {t : TypeId} {x : Value}
theorem One.c0 (h : One w g t x) : w.cell? ⟨g, 0, none⟩ = some x := by rw [cell_of_row w g 0 _ t (0, 0) h]; rfl
theorem One.fz (h : One w g t x) (i : Nat) : w.frozen? ⟨g, i, none⟩ = false := frozen_of_row w g i _ t h
theorem One.lt (h : One w g t x) : g < w.heap.size := (Array.getElem?_eq_some_iff.1 h).1
theorem One.below {B : Nat} (h : One w g t x) (hb : Below B w w') (hB : g < B) : One w' g t x := (hb.block g hB).trans h
theorem One.after (h : One w g t x) (hb : Below w.heap.size w w') : One w' g t x := h.below hb h.lt
theorem One.set (h : One w g t x) (u : Value) : One (w.setCell ⟨g, 0, none⟩ u) g t u := by
 unfold One at *
 simp [World.setCell, Array.getElem?_modify, h]
theorem One.setOther (h : One w g t x) {a : Addr} (ha : g ≠ a.block) (v : Value) : One (w.setCell a v) g t x := (Below.heap_setCell _ _ _ _ ha).trans h
theorem One.alloc (h : One w g t x) (o : Obj) : One (w.alloc o) g t x := (Below.heap_alloc _ _ _ h.lt).trans h
theorem One.drewN (h : One w g t x) (k : Nat) : One (w.drewN k) g t x := h
theorem One.new (w : World) (t : TypeId) (x : Value) : One (w.alloc (.cells #[x] t)) w.heap.size t x := heap_alloc_new _ _
end
/-- a block of two cells -/
def Two (w : World) (g : Nat) (t : TypeId) (x y : Value) : Prop := w.heap[g]? = some (.cells #[x, y] t (0, 0))
section
variable {w w' : World} {g : Nat} {t : TypeId} {x y : Value}
theorem Two.c0 (h : Two w g t x y) : w.cell? ⟨g, 0, none⟩ = some x := by rw [cell_of_row w g 0 _ t (0, 0) h]; rfl
theorem Two.c1 (h : Two w g t x y) : w.cell? ⟨g, 1, none⟩ = some y := by rw [cell_of_row w g 1 _ t (0, 0) h]; rfl
theorem Two.fz (h : Two w g t x y) (i : Nat) : w.frozen? ⟨g, i, none⟩ = false := frozen_of_row w g i _ t h
theorem Two.lt (h : Two w g t x y) : g < w.heap.size := (Array.getElem?_eq_some_iff.1 h).1
theorem Two.below {B : Nat} (h : Two w g t x y) (hb : Below B w w') (hB : g < B) : Two w' g t x y := (hb.block g hB).trans h
theorem Two.after (h : Two w g t x y) (hb : Below w.heap.size w w') : Two w' g t x y := h.below hb h.lt
theorem Two.setOther (h : Two w g t x y) {a : Addr} (ha : g ≠ a.block) (v : Value) : Two (w.setCell a v) g t x y := (Below.heap_setCell _ _ _ _ ha).trans h
theorem Two.alloc (h : Two w g t x y) (o : Obj) : Two (w.alloc o) g t x y := (Below.heap_alloc _ _ _ h.lt).trans h
theorem Two.drewN (h : Two w g t x y) (k : Nat) : Two (w.drewN k) g t x y := h
theorem Two.new (w : World) (t : TypeId) (x y : Value) : Two (w.alloc (.cells #[x, y] t)) w.heap.size t x y := heap_alloc_new _ _
/-- the same, where the place is known as a number -/
theorem Two.new' (w : World) (t : TypeId) (x y : Value) (g : Nat) (h : w.heap.size = g) : Two (w.alloc (.cells #[x, y] t)) g t x y := by subst h; exact heap_alloc_new _ _
theorem One.new' (w : World) (t : TypeId) (x : Value) (g : Nat) (h : w.heap.size = g) : One (w.alloc (.cells #[x] t)) g t x := by subst h; exact heap_alloc_new _ _
end
end Go.Proofs.YtedokpgkjcnoiaaGreat
