/- Words of 32 bits; turning them. What the sum of a text is made of: words, rounds; no program in sight. Rows of bytes of the call's own; eight bytes of a number; the sum of a text, in plain words. -/
import Derived.Test.YtgcbodpjidoanaaProg
import Derived.Laws.BitsAllLaws
import Derived.IntWalk
import Derived.Test.YtgcbodpjidoanaaQ1
import Derived.Test.YtgcbodpjidoanaaQ4
set_option linter.unusedVariables false
set_option linter.unusedSimpArgs false
namespace Go.Proofs.Ytgcbodpjidoanaa
open Go.RowKit
/-- a word as Go's number -/
def n32 (x : UInt32) : Int := (x.toNat : Int)
theorem n32_bd (x : UInt32) : 0 ≤ n32 x ∧ n32 x ≤ 4294967295 := by unfold n32; have := x.toNat_lt; omega
def shr (x : UInt32) (n : Nat) : UInt32 := UInt32.ofNat (x.toNat / 2 ^ n)
def shl (x : UInt32) (n : Nat) : UInt32 := UInt32.ofNat (x.toNat * 2 ^ n)
def rotr (x : UInt32) (n : Nat) : UInt32 := shr x n ||| shl x (32 - n)
theorem n32_ofNat (n : Nat) : n32 (UInt32.ofNat n) = ((n % 4294967296 : Nat) : Int) := by unfold n32; rw [UInt32.toNat_ofNat']
theorem n32_xor (x y : UInt32) : bits .xor .u32 (n32 x) (n32 y) = n32 (x ^^^ y) := by
  unfold n32; rw [u32_xor_nat _ _ x.toNat_lt y.toNat_lt, UInt32.toNat_xor]
theorem n32_and (x y : UInt32) : bits .and .u32 (n32 x) (n32 y) = n32 (x &&& y) := by
  unfold n32; rw [u32_and_nat _ _ x.toNat_lt y.toNat_lt, UInt32.toNat_and]
theorem n32_or (x y : UInt32) : bits .or .u32 (n32 x) (n32 y) = n32 (x ||| y) := by
  unfold n32; rw [u32_or_nat _ _ x.toNat_lt y.toNat_lt, UInt32.toNat_or]
theorem n32_add (x y : UInt32) : IntKind.u32.wrap (n32 x + n32 y) = n32 (x + y) := by
  unfold n32; rw [IntKind.wrap_u32', UInt32.toNat_add]; omega
theorem n32_shl (x : UInt32) (n : Nat) : IntKind.u32.wrap (n32 x * 2 ^ n) = n32 (shl x n) := by
  unfold shl; rw [n32_ofNat, IntKind.wrap_u32']; unfold n32
  rw [show ((x.toNat : Int) * 2 ^ n) = ((x.toNat * 2 ^ n : Nat) : Int) by simp]
  omega
theorem n32_shr (x : UInt32) (n : Nat) : n32 x / 2 ^ n = n32 (shr x n) := by
  unfold shr; rw [n32_ofNat]; unfold n32
  have h : x.toNat / 2 ^ n < 4294967296 := Nat.lt_of_le_of_lt (Nat.div_le_self _ _) x.toNat_lt
  rw [Nat.mod_eq_of_lt h]
  simp
theorem rot_eq (x : UInt32) (n m : Nat) (hm : m = 32 - n) (hn : n ≤ 32) : bits .or .u32 (n32 x * 2 ^ min m 32 % 4294967296) (n32 x / 2 ^ min n 32) = n32 (rotr x n) := by
  rw [Nat.min_eq_left (by omega), Nat.min_eq_left hn, n32_shr, ← IntKind.wrap_u32', n32_shl, n32_or]
  unfold rotr; rw [hm, UInt32.or_comm]
theorem rot_eq' (x : UInt32) (n m : Nat) (hm : m = 32 - n) (hn : n ≤ 32) : bits .or .u32 (n32 x / 2 ^ min n 32) (n32 x * 2 ^ min m 32 % 4294967296) = n32 (rotr x n) := by
  rw [Nat.min_eq_left (show n ≤ 32 from hn), Nat.min_eq_left (show m ≤ 32 by omega), n32_shr, ← IntKind.wrap_u32', n32_shl, n32_or]
  unfold rotr; rw [hm]
theorem n32_not' (y : UInt32) : IntKind.u32.wrap (4294967295 - n32 y) = n32 (~~~ y) := by
  unfold n32; rw [IntKind.wrap_u32', UInt32.toNat_not]
  have := y.toNat_lt
  simp [UInt32.size]
  omega
theorem ones_xor (y : UInt32) : (4294967295 : UInt32) ^^^ y = ~~~ y := by
  apply UInt32.toBitVec_inj.1
  rw [UInt32.toBitVec_xor, UInt32.toBitVec_not]
  exact BitVec.allOnes_xor
theorem n32_not (y : UInt32) : bits .xor .u32 (if IntKind.u32.signed = true then -1 else IntKind.u32.max) (n32 y) = n32 (~~~ y) := by
  rw [← ones_xor, ← n32_xor]
  rfl
theorem rot_any (x : UInt32) (k : Int) (n : Nat) (hn : n ≤ 32) (hk : bits .and .u64 (IntKind.u64.wrap k) 31 = ((32 - n : Nat) : Int)) (w : World) :
    Calls Try.prog 262 #[.int .u32 (n32 x), .int .i64 k] w fun e w' => e = .returned (.int .u32 (n32 (rotr x n))) ∧ w = w' := by
  obtain ⟨m, hm⟩ : ∃ m, m = 32 - n := ⟨_, rfl⟩
  rw [← hm] at hk
  have h3 : IntKind.u64.wrap (32 - (m : Int)) = (n : Int) := by rw [IntKind.wrap_u64]; omega
  have h5 := hideP (rot_eq x n m hm hn)
  clear hm hn
  go_enter Try.func262, Try.ntmps262
  go_wp2
  go_ret
  exact ⟨ret_int h5.out, rfl⟩
theorem turned_any (x : UInt32) (n : Nat) (hn : n ≤ 32) (w : World) :
    Calls Try.prog 263 #[.int .u32 (n32 x), .int .u64 n] w fun e w' => e = .returned (.int .u32 (n32 (rotr x n))) ∧ w = w' := by
  obtain ⟨m, hm⟩ : ∃ m, m = 32 - n := ⟨_, rfl⟩
  have h3 : IntKind.u64.wrap (32 - (n : Int)) = (m : Int) := by rw [IntKind.wrap_u64]; omega
  have h5 := hideP (rot_eq' x n m hm hn)
  clear hm hn
  go_enter Try.func263, Try.ntmps263
  go_wp2
  go_ret
  exact ⟨ret_int h5.out, rfl⟩
end Go.Proofs.Ytgcbodpjidoanaa
namespace Go.Proofs.Ytgcbodpjidoanaa
open Go.RowKit
/-- 64 words, none set -/
def z64 : List UInt32 := List.replicate 64 0
def v32 (x : UInt32) : Value := .int .u32 (n32 x)
def s0 (x : UInt32) : UInt32 := rotr x 7 ^^^ rotr x 18 ^^^ shr x 3
def s1 (x : UInt32) : UInt32 := rotr x 17 ^^^ rotr x 19 ^^^ shr x 10
/-- a word of four bytes -/
def wd (b : List Nat) (i : Nat) : UInt32 := UInt32.ofNat (b.getD (4 * i) 0 * 16777216 + b.getD (4 * i + 1) 0 * 65536 + b.getD (4 * i + 2) 0 * 256 + b.getD (4 * i + 3) 0)
def wrd (b : List Nat) (i : Nat) : UInt32 := if h : i < 16 then wd b i else wrd b (i - 16) + s0 (wrd b (i - 15)) + wrd b (i - 7) + s1 (wrd b (i - 2))
termination_by i
decreasing_by all_goals omega
theorem wrd_lo {b : List Nat} {i : Nat} (h : i < 16) : wrd b i = wd b i := by rw [wrd, dif_pos h]
theorem wrd_hi {b : List Nat} {i : Nat} (h : 16 ≤ i) : wrd b i = wrd b (i - 16) + s0 (wrd b (i - 15)) + wrd b (i - 7) + s1 (wrd b (i - 2)) := by rw [wrd, dif_neg (by omega)]
def kk : List UInt32 := [0x428a2f98, 0x71374491, 0xb5c0fbcf, 0xe9b5dba5, 0x3956c25b, 0x59f111f1, 0x923f82a4, 0xab1c5ed5, 0xd807aa98, 0x12835b01, 0x243185be, 0x550c7dc3, 0x72be5d74, 0x80deb1fe, 0x9bdc06a7, 0xc19bf174, 0xe49b69c1, 0xefbe4786, 0x0fc19dc6, 0x240ca1cc, 0x2de92c6f, 0x4a7484aa, 0x5cb0a9dc, 0x76f988da, 0x983e5152, 0xa831c66d, 0xb00327c8, 0xbf597fc7, 0xc6e00bf3, 0xd5a79147, 0x06ca6351, 0x14292967, 0x27b70a85, 0x2e1b2138, 0x4d2c6dfc, 0x53380d13, 0x650a7354, 0x766a0abb, 0x81c2c92e, 0x92722c85, 0xa2bfe8a1, 0xa81a664b, 0xc24b8b70, 0xc76c51a3, 0xd192e819, 0xd6990624, 0xf40e3585, 0x106aa070, 0x19a4c116, 0x1e376c08, 0x2748774c, 0x34b0bcb5, 0x391c0cb3, 0x4ed8aa4a, 0x5b9cca4f, 0x682e6ff3, 0x748f82ee, 0x78a5636f, 0x84c87814, 0x8cc70208, 0x90befffa, 0xa4506ceb, 0xbef9a3f7, 0xc67178f2]
def h0 : List UInt32 := [0x6a09e667, 0xbb67ae85, 0x3c6ef372, 0xa54ff53a, 0x510e527f, 0x9b05688c, 0x1f83d9ab, 0x5be0cd19]
def one (v : List UInt32) (k w : UInt32) : UInt32 :=
  v.getD 7 0 + (rotr (v.getD 4 0) 6 ^^^ rotr (v.getD 4 0) 11 ^^^ rotr (v.getD 4 0) 25) + (v.getD 4 0 &&& v.getD 5 0 ^^^ ~~~ (v.getD 4 0) &&& v.getD 6 0) + k + w
def two (v : List UInt32) : UInt32 :=
  (rotr (v.getD 0 0) 2 ^^^ rotr (v.getD 0 0) 13 ^^^ rotr (v.getD 0 0) 22) + (v.getD 0 0 &&& v.getD 1 0 ^^^ v.getD 0 0 &&& v.getD 2 0 ^^^ v.getD 1 0 &&& v.getD 2 0)
def rnd (v : List UInt32) (k w : UInt32) : List UInt32 := [one v k w + two v, v.getD 0 0, v.getD 1 0, v.getD 2 0, v.getD 3 0 + one v k w, v.getD 4 0, v.getD 5 0, v.getD 6 0]
def rnds (h : List UInt32) (b : List Nat) : Nat → List UInt32
  | 0 => h
  | i + 1 => rnd (rnds h b i) (kk.getD i 0) (wrd b i)
/-- eight words turned by a block -/
def turnS (h : List UInt32) (b : List Nat) : List UInt32 := (List.range 8).map fun i => (rnds h b 64).getD i 0 + h.getD i 0
/-- a block of cells, known whole -/
def Row (w : World) (g : Nat) (t : TypeId) (cs : List Value) : Prop := w.heap[g]? = some (.cells cs.toArray t (0, 0))
section
variable {w W : World} {g : Nat} {t : TypeId} {cs : List Value}
theorem Row.cell (h : Row w g t cs) (i : Nat) : w.cell? ⟨g, i, none⟩ = cs[i]? := by rw [cell_of_row w g i _ t (0, 0) h]; simp
theorem Row.fz (h : Row w g t cs) (i : Nat) : w.frozen? ⟨g, i, none⟩ = false := frozen_of_row w g i _ t h
theorem Row.lt (h : Row w g t cs) : g < w.heap.size := (Array.getElem?_eq_some_iff.1 h).1
theorem Row.below {B : Nat} (h : Row w g t cs) (hb : Below B w W) (hB : g < B) : Row W g t cs := (hb.block g hB).trans h
theorem Row.after (h : Row w g t cs) (hb : Below w.heap.size w W) : Row W g t cs := h.below hb h.lt
theorem Row.ext (h : Row w g t cs) (hW : Ext w W) : Row W g t cs := (hW.block g h.lt).trans h
theorem Row.set (h : Row w g t cs) (i : Nat) (v : Value) : Row (w.setCell ⟨g, i, none⟩ v) g t (cs.set i v) := by
  unfold Row at *
  simp [World.setCell, Array.getElem?_modify, h]
theorem Row.setOther (h : Row w g t cs) {a : Addr} (ha : g ≠ a.block) (v : Value) : Row (w.setCell a v) g t cs := (Below.heap_setCell _ _ _ _ ha).trans h
theorem Row.alloc (h : Row w g t cs) (o : Obj) : Row (w.alloc o) g t cs := (Below.heap_alloc _ _ _ h.lt).trans h
theorem Row.new (w : World) (t : TypeId) (cs : List Value) : Row (w.alloc (.cells cs.toArray t)) w.heap.size t cs := heap_alloc_new _ _
theorem Row.new' (w : World) (t : TypeId) (cs : List Value) (g : Nat) (h : w.heap.size = g) : Row (w.alloc (.cells cs.toArray t)) g t cs := by subst h; exact heap_alloc_new _ _
end
/-- the end of a function whose one result is an array or a struct in a variable -/
theorem ret_row {fn : Func} {p : Tmp} {ty : TypeId} {a : Act} {w : World} {R : Ending → World → Prop} (h : fn.results = #[.cell p ty]) {g : Nat} {t : TypeId} {cs : List Value} {n : Nat} {el : TypeId}
    (hp : a.tmps.getD p undef = .pointer (some ⟨g, 0, none⟩)) (hg : Row w g t cs) (hu : Try.prog.underlying ty = some (.array n el)) (hi : (Try.prog.info? ty).map (·.size) = some cs.length)
    (hdf : a.defers = []) (hR : R (.returned (.agg cs.toArray)) w) : bodyPost Try.prog fn R .ret a w :=
  bodyPost_ret (results_cell_row h _ w g t cs.toArray (0, 0) _ hp hg hu rfl (by simpa using hi)) hdf hR
theorem Row.setRow {w : World} {g : Nat} {t : TypeId} {cs : List Value} (h : Row w g t cs) (cs' : List Value) : Row (w.setRow g cs'.toArray) g t cs' := setRow_heap w g _ _ t (0, 0) h
theorem Row.setRowOther {w : World} {g g' : Nat} {t : TypeId} {cs : List Value} (h : Row w g t cs) (hne : g ≠ g') (X : Array Value) : Row (w.setRow g' X) g t cs := (setRow_other w g' g X hne).trans h
theorem below_setRow' {B g : Nat} {w0 w : World} (hb : Below B w0 w) (hBg : B ≤ g) (cs : Array Value) : Below B w0 (w.setRow g cs) :=
  hb.trans ⟨rfl, rfl, rfl, by simp [World.setRow], fun k hk => setRow_other w g k cs (by omega)⟩
theorem all_v32 (l : List UInt32) : ((l.map v32).toArray).all (·.oneCell') = true := by
  rw [Array.all_eq_true_iff_forall_mem]
  intro v hv
  simp at hv
  obtain ⟨x, _, rfl⟩ := hv
  rfl
/-- a block of words -/
def Row32 (w : World) (g : Nat) (t : TypeId) (l : List UInt32) : Prop := Row w g t (l.map v32)
section
variable {w W : World} {g : Nat} {t : TypeId} {l : List UInt32}
theorem Row32.cell (h : Row32 w g t l) (i : Nat) (hi : i < l.length) : w.cell? ⟨g, i, none⟩ = some (v32 (l.getD i 0)) := by
  rw [Row.cell h i]; simp [List.getD, List.getElem?_eq_getElem hi]
theorem Row32.set (h : Row32 w g t l) (i : Nat) (x : UInt32) : Row32 (w.setCell ⟨g, i, none⟩ (v32 x)) g t (l.set i x) := by
  unfold Row32; rw [List.map_set]; exact Row.set h i _
end
end Go.Proofs.Ytgcbodpjidoanaa
namespace Go.Proofs.Ytgcbodpjidoanaa
open Go.RowKit
def b8 (x : Nat) : Value := .int .u8 (x : Nat)
theorem info_b8 : (Try.prog.info? 5).map (fun i => (i.zero, i.size, i.bytes)) = some (some (.int .u8 0), 1, 1) := by kernel_rfl
/-- a row of bytes of the call's own -/
def OwnB (w : World) (base : Nat) (A : Option Addr) (c : Nat) (l : List Nat) : Prop := w.ownsRow base 5 1 (.slice A l.length c) l.length (l.map b8)
theorem OwnB.arr {w : World} {base : Nat} {A : Option Addr} {c : Nat} {l : List Nat} (h : OwnB w base A c l) : Arr w w.heap.size A l.length (u8s l) :=
  Arr.of_own h fun i hi => by unfold u8s b8; simp [List.getD, List.getElem?_map, List.getElem?_eq_getElem hi]
theorem OwnB.ext {w W : World} {base : Nat} {A : Option Addr} {c : Nat} {l : List Nat} (h : OwnB w base A c l) (hW : Ext w W) : OwnB W base A c l := ownsRow_ext h hW
theorem OwnB.after {w W : World} {base : Nat} {A : Option Addr} {c : Nat} {l : List Nat} (h : OwnB w base A c l) (hW : Below w.heap.size w W) : OwnB W base A c l := h.ext (Ext.of_below hW)
theorem OwnB.nil (w : World) (base : Nat) : OwnB w base none 0 [] := World.ownsRow_nil w base _ _
theorem OwnB.lit0 (w : World) : OwnB (w.alloc (.cells #[] 5)) w.heap.size (some ⟨w.heap.size, 0, none⟩) 0 [] := World.ownsRow_lit w #[] 0 (Nat.le_refl _) (Nat.zero_le _) rfl
theorem OwnB.lit1 (w : World) (x : Nat) : OwnB (w.alloc (.cells #[b8 x] 5)) w.heap.size (some ⟨w.heap.size, 0, none⟩) 1 [x] := World.ownsRow_lit w #[b8 x] 1 (Nat.le_refl _) (by decide) rfl
theorem OwnB.at {w : World} {base : Nat} {A : Option Addr} {c : Nat} {l : List Nat} (h : OwnB w base A c l) (h0 : 0 < l.length) : ∃ g, A = some ⟨g, 0, none⟩ ∧ base ≤ g ∧ g < w.heap.size ∧ l.length ≤ c ∧ ∀ i, i < l.length → w.cell? ⟨g, i, none⟩ = some (b8 (l.getD i 0)) := by
  rcases h.2 with ⟨hv, h1⟩ | ⟨g, cap, cur, hv, hb, hh, hnc, hcm, hs, ht⟩
  · omega
  · injection hv with hA _ hc
    subst hA hc
    refine ⟨g, rfl, hb, (Array.getElem?_eq_some_iff.1 hh).1, hnc, fun i hi => ?_⟩
    rw [World.ownsRow.cellAt h i (by omega)]
    simp [List.getD, List.getElem?_eq_getElem hi]
theorem map_u8s (l : List Nat) : (List.range l.length).map (u8s l) = l.map b8 := by
  refine List.ext_getElem? fun i => ?_
  rcases Nat.lt_or_ge i l.length with h | h
  · simp [List.getElem?_map, List.getElem?_range h, u8s, b8, List.getD, List.getElem?_eq_getElem h]
  · simp [h]
/-- one byte more -/
theorem wpList_app1 {ops : Array Oper} {rest : List Oper} {o : Oper} {a : Act} {w : World} {Q : Exit → Act → World → Prop} (hgd : o.guard = none) (s x : Operand)
    (ho : o.op = .call { callee := .builtin .append, args := #[s, x], argTypes := #[22, 22] }) (base : Nat) (A : Option Addr) (c n : Nat) (l : List Nat) (hl : n = l.length) (hs : a.eval s = .slice A n c) (hown : OwnB w base A c l)
    (y : Nat) (hx : a.eval x = .slice (some ⟨w.heap.size, 0, none⟩) 1 1) (hn : n ≤ 140737488355000) (hbase : base ≤ w.heap.size)
    (h : ∀ A' c' w', OwnB w' base A' c' (l ++ [y]) → Below base w w' → wpList Try.prog ops Q rest (a.put o.dst (.slice A' (n + 1) c')) w') : wpList Try.prog ops Q (o :: rest) a (w.alloc (.cells #[b8 y] 5)) := by
  obtain ⟨i0, hi0, hz0, hz1, hz2⟩ := info_parts info_b8
  subst hl
  refine wpList_append_cells w hgd s x 22 ho base 5 i0 _ 1 1 Try.underlying22 hi0 hz0 hz1 hz2 rfl (by decide) (.slice A l.length c) l.length (l.map b8) hs hown #[b8 y] 1 hx rfl (by simp [b8, Value.oneCell']) (by omega) (by unfold maxLen; omega) (by omega) hbase ?_
  intro g c3 w3 hown3 hg3 hat3
  refine h _ _ w3 ?_ (below_own hown hg3 (Nat.le_refl _) hbase)
  unfold OwnB
  rw [List.length_append, List.map_append]
  exact hown3
/-- the bytes of a slice more -/
theorem wpList_appn {ops : Array Oper} {rest : List Oper} {o : Oper} {a : Act} {w : World} {Q : Exit → Act → World → Prop} (hgd : o.guard = none) (s x : Operand)
    (ho : o.op = .call { callee := .builtin .append, args := #[s, x], argTypes := #[22, 22] }) (base : Nat) (A : Option Addr) (c n : Nat) (l : List Nat) (hl : n = l.length) (hs : a.eval s = .slice A n c) (hown : OwnB w base A c l)
    (B : Nat) (X : Option Addr) (m d : Nat) (k : List Nat) (hk : m = k.length) (hx : a.eval x = .slice X m d) (hX : Arr w B X m (u8s k)) (hn : n + m ≤ 140737488355000) (hbase : base ≤ w.heap.size)
    (h : ∀ A' c' w', OwnB w' base A' c' (l ++ k) → Below base w w' → wpList Try.prog ops Q rest (a.put o.dst (.slice A' (n + m) c')) w') : wpList Try.prog ops Q (o :: rest) a w := by
  obtain ⟨i0, hi0, hz0, hz1, hz2⟩ := info_parts info_b8
  subst hl hk
  refine wpList_append_arr w hgd s x 22 ho base 5 i0 _ 1 Try.underlying22 hi0 hz0 hz1 hz2 rfl (.slice A l.length c) l.length (l.map b8) hs hown B X k.length d (u8s k) hx hX (fun _ => rfl) (by unfold maxLen; omega) (by omega) hbase ?_
  intro A3 c3 w3 hown3 hg3 hat3
  refine h _ _ w3 ?_ (below_own hown hg3 (Nat.le_refl _) hbase)
  unfold OwnB
  rw [List.length_append, List.map_append, ← map_u8s k]
  exact hown3
/-- eight bytes of a number, the highest first -/
def be8 (n : Nat) : List Nat := (List.range 8).map fun i => n / 2 ^ (56 - 8 * i) % 256
theorem be8_succ (n k : Nat) (hk : k < 8) : (be8 n).take k ++ [n / 2 ^ (56 - 8 * k) % 256] = (be8 n).take (k + 1) := by
  rw [List.take_succ_eq_append_getElem (by simp [be8]; exact hk)]
  simp [be8]
theorem isB_be8 (n : Nat) : IsB (be8 n) := fun i => by
  unfold be8
  rcases Nat.lt_or_ge i 8 with h | h
  · simp [List.getD, List.getElem?_map, List.getElem?_range h]; omega
  · rw [getD_out _ _ _ (by simp; exact h)]; omega
/-- a text, filled up to whole blocks -/
def zeros (n : Nat) : Nat := (119 - n % 64) % 64
def padl (b : List Nat) : List Nat := b ++ [128] ++ List.replicate (zeros b.length) 0 ++ be8 (8 * b.length)
theorem padl_len (b : List Nat) : (padl b).length % 64 = 0 ∧ (padl b).length = b.length + 9 + zeros b.length := by
  unfold padl zeros
  simp [be8]
  omega
def blk (l : List Nat) (i : Nat) : List Nat := (l.drop (64 * i)).take 64
def compN (h : List UInt32) (l : List Nat) : Nat → List UInt32
  | 0 => h
  | i + 1 => turnS (compN h l i) (blk l i)
def sumW (b : List Nat) : List UInt32 := compN h0 (padl b) ((padl b).length / 64)
theorem turnS_len (h : List UInt32) (b : List Nat) : (turnS h b).length = 8 := by simp [turnS]
theorem compN_len (h : List UInt32) (l : List Nat) (hh : h.length = 8) : ∀ i, (compN h l i).length = 8
  | 0 => hh
  | i + 1 => turnS_len _ _
/-- 32 bytes of eight words -/
def dig (h : List UInt32) : List Nat := (List.range 32).map fun i => (h.getD (i / 4) 0).toNat / 2 ^ (24 - 8 * (i % 4)) % 256
theorem blk_get (l : List Nat) (i j : Nat) (hj : j < 64) : (blk l i).getD j 0 = l.getD (64 * i + j) 0 := by
  unfold blk List.getD
  rw [List.getElem?_take, if_pos hj, List.getElem?_drop]
theorem isB_blk {l : List Nat} (h : IsB l) (i : Nat) : IsB (blk l i) := fun j => by
  rcases Nat.lt_or_ge j 64 with hj | hj
  · rw [blk_get _ _ _ hj]; exact h _
  · rw [getD_out _ _ _ (by unfold blk; simp; omega)]; omega
theorem isB_append {x y : List Nat} (hx : IsB x) (hy : IsB y) : IsB (x ++ y) := fun i => by
  unfold List.getD
  rw [List.getElem?_append]
  split
  · exact hx i
  · exact hy _
theorem isB_padl {b : List Nat} (h : IsB b) : IsB (padl b) := by
  unfold padl
  refine isB_append (isB_append (isB_append h fun i => ?_) fun i => ?_) (isB_be8 _)
  · cases i with
    | zero => decide
    | succ i => rw [getD_out _ _ _ (by simp)]; omega
  · unfold List.getD; rw [List.getElem?_replicate]; split <;> simp
set_option maxRecDepth 100000 in
set_option maxHeartbeats 1000000 in
theorem eight_any (n : Nat) (hn : n < 18446744073709551616) (w : World) :
    Calls Try.prog 196 #[.int .u64 n] w fun e w' => ∃ A c, e = .returned (.slice A 8 c) ∧ Below w.heap.size w w' ∧ OwnB w' w.heap.size A c (be8 n) := by
  go_enter Try.func196, Try.ntmps196
  go_wp2_with fail
  go_loopw [3, 4] (fun v3 v4 wr => ∃ (k : Nat) (A : Option Addr) (c : Nat), k ≤ 8 ∧ v3 = .slice A k c ∧ v4 = .int .i64 (56 - 8 * (k : Int)) ∧ Hid (OwnB wr w.heap.size A c ((be8 n).take k) ∧ Below w.heap.size w wr)) (fun _ v4 _ => (intOf v4 + 8).toNat)
  case atStart => exact ⟨0, none, 0, by omega, rfl, rfl, OwnB.nil _ _, Below.refl _ _⟩
  case round =>
    obtain ⟨k, A, c, hk, rfl, rfl, hV⟩ := hrel
    by_cases hlt : k < 8
    · have t' : decide ((0 : Int) ≤ 56 - 8 * (k : Int)) = true := by simp; omega
      have t2' : decide (8 * (k : Int) ≤ 56) = true := by simp; omega
      have i1 : (0 : Int) ≤ 56 - 8 * (k : Int) := by omega
      have i2 : 8 * (k : Int) ≤ 56 := by omega
      have e1 : ((56 : Int) - 8 * (k : Int)).toNat = 56 - 8 * k := by omega
      have m1 : IntKind.i64.wrap (56 - 8 * (k : Int) - 8) = 56 - 8 * ((k : Int) + 1) := by rw [show (56 : Int) - 8 * (k : Int) - 8 = 56 - 8 * ((k : Int) + 1) by omega]; exact IntWalk.i64_in _ (by omega)
      obtain ⟨y, hy⟩ : ∃ y, y = n / 2 ^ (56 - 8 * k) % 256 := ⟨_, rfl⟩
      have hy' : (n : Int) / 2 ^ (56 - 8 * k) % 256 = (y : Int) := by rw [hy]; simp
      have hE := hideP (show (be8 n).take k ++ [y] = (be8 n).take (k + 1) by rw [hy]; exact be8_succ n k hlt)
      have hl := hideP (show k = ((be8 n).take k).length by simp [be8]; omega)
      have hsz := hideP hV.out.2.size
      clear hy
      go_wp2_with (at_builtin; refine wpList_app1 rfl (.tmp 9) (.tmp 14) rfl w.heap.size A c k ((be8 n).take k) hl.out rfl hV.out.1 y rfl (by omega) hsz.out ?_; intro A3 c3 w3 hown3 hb3)
      rw [hE.out] at hown3
      have ho := hideP hown3
      have hb := hideP (hV.out.2.trans hb3)
      clear hV hown3 hb3
      go_roundw
      case rel => exact ⟨k + 1, A3, c3, by omega, rfl, by rw [show ((k + 1 : Nat) : Int) = (k : Int) + 1 by omega], ho.out, hb.out⟩
      case measure => simp [intOf]; omega
    · have t' : decide ((0 : Int) ≤ 56 - 8 * (k : Int)) = false := by simp; omega
      have t2' : decide (8 * (k : Int) ≤ 56) = false := by simp; omega
      have hk8 : k = 8 := by omega
      have ho := hideP hV.out.1
      have hb := hideP hV.out.2
      rw [hk8, show (be8 n).take 8 = be8 n from List.take_of_length_le (by simp [be8])] at ho
      clear hV hlt hk
      obtain ⟨K, hK⟩ : ∃ K, K = k := ⟨_, rfl⟩
      go_wp2_with fail
      go_ret
      exact ⟨A, c, by rw [hk8]; rfl, hb.out, ho.out⟩
end Go.Proofs.Ytgcbodpjidoanaa
