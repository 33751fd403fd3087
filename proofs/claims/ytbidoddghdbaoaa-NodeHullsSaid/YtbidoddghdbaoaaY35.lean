/- Small steps from world to world. What the sum of a text is made of: words, rounds; no program in sight. The law on regions that draw their order, with a plan that may fork: where several operations may come up and none is quiet, each of them is walked. -/
import Derived.Test.YtbidoddghdbaoaaY33
import Derived.Test.YtbidoddghdbaoaaY34
set_option linter.unusedVariables false
set_option linter.unusedSimpArgs false
namespace Go.Proofs.Ytbidoddghdbaoaa
open Go.RowKit
theorem bstep {w w1 w2 : World} (h : Below w.heap.size w w1) (k : Below w1.heap.size w1 w2) : Below w.heap.size w w2 := h.trans (k.mono h.size)
/-- two rows of the call's own don't share a block -/
def Sep (v u : Value) : Prop := v.ownBlock = none ∨ v.ownBlock ≠ u.ownBlock
theorem Sep.symm {v u : Value} (h : Sep v u) : Sep u v := by
  unfold Sep at *
  rcases h with h | h
  · rcases hu : u.ownBlock with _ | b
    · exact .inl rfl
    · right; rw [h]; simp
  · exact .inr (Ne.symm h)
theorem Sep.after {w : World} {base : Nat} {e : TypeId} {size n : Nat} {v u u' : Value} {xs : List Value} (h : Sep v u) (hv : w.ownsRow base e size v n xs) (hat : u'.ownBlock = u.ownBlock ∨ u'.ownBlock = some w.heap.size) : Sep v u' := by
  unfold Sep at *
  rcases hat with hat | hat
  · rw [hat]; exact h
  · rcases hb : v.ownBlock with _ | b
    · exact .inl rfl
    · right
      have := (hv.lt b hb).2
      rw [hat]
      intro hh
      injection hh with hh
      omega
end Go.Proofs.Ytbidoddghdbaoaa
namespace Go.Proofs.Ytbidoddghdbaoaa
open Go.RowKit
/-- 64 words, none set -/
def z64 : List UInt32 := List.replicate 64 0
def v32 (x : UInt32) : Value := .int .u32 (n32 x)
def s0 (x : UInt32) : UInt32 := rotr x 7 ^^^ rotr x 18 ^^^ shr x 3
def s1 (x : UInt32) : UInt32 := rotr x 17 ^^^ rotr x 19 ^^^ shr x 10
/-- a word of four bytes -/
def wd (b : List Nat) (i : Nat) : UInt32 := UInt32.ofNat (b.getD (4 * i) 0 * 16777216 + b.getD (4 * i + 1) 0 * 65536 + b.getD (4 * i + 2) 0 * 256 + b.getD (4 * i + 3) 0)
def wrd (b : List Nat) (i : Nat) : UInt32 := if h : i < 16 then wd b i else wrd b (i - 16) + s0 (wrd b (i - 15)) + wrd b (i - 7) + s1 (wrd b (i - 2))
termination_by i
decreasing_by all_goals omega
theorem wrd_lo {b : List Nat} {i : Nat} (h : i < 16) : wrd b i = wd b i := by rw [wrd, dif_pos h]
theorem wrd_hi {b : List Nat} {i : Nat} (h : 16 ≤ i) : wrd b i = wrd b (i - 16) + s0 (wrd b (i - 15)) + wrd b (i - 7) + s1 (wrd b (i - 2)) := by rw [wrd, dif_neg (by omega)]
def kk : List UInt32 := [0x428a2f98, 0x71374491, 0xb5c0fbcf, 0xe9b5dba5, 0x3956c25b, 0x59f111f1, 0x923f82a4, 0xab1c5ed5, 0xd807aa98, 0x12835b01, 0x243185be, 0x550c7dc3, 0x72be5d74, 0x80deb1fe, 0x9bdc06a7, 0xc19bf174, 0xe49b69c1, 0xefbe4786, 0x0fc19dc6, 0x240ca1cc, 0x2de92c6f, 0x4a7484aa, 0x5cb0a9dc, 0x76f988da, 0x983e5152, 0xa831c66d, 0xb00327c8, 0xbf597fc7, 0xc6e00bf3, 0xd5a79147, 0x06ca6351, 0x14292967, 0x27b70a85, 0x2e1b2138, 0x4d2c6dfc, 0x53380d13, 0x650a7354, 0x766a0abb, 0x81c2c92e, 0x92722c85, 0xa2bfe8a1, 0xa81a664b, 0xc24b8b70, 0xc76c51a3, 0xd192e819, 0xd6990624, 0xf40e3585, 0x106aa070, 0x19a4c116, 0x1e376c08, 0x2748774c, 0x34b0bcb5, 0x391c0cb3, 0x4ed8aa4a, 0x5b9cca4f, 0x682e6ff3, 0x748f82ee, 0x78a5636f, 0x84c87814, 0x8cc70208, 0x90befffa, 0xa4506ceb, 0xbef9a3f7, 0xc67178f2]
def h0 : List UInt32 := [0x6a09e667, 0xbb67ae85, 0x3c6ef372, 0xa54ff53a, 0x510e527f, 0x9b05688c, 0x1f83d9ab, 0x5be0cd19]
def one (v : List UInt32) (k w : UInt32) : UInt32 :=
  v.getD 7 0 + (rotr (v.getD 4 0) 6 ^^^ rotr (v.getD 4 0) 11 ^^^ rotr (v.getD 4 0) 25) + (v.getD 4 0 &&& v.getD 5 0 ^^^ ~~~ (v.getD 4 0) &&& v.getD 6 0) + k + w
def two (v : List UInt32) : UInt32 :=
  (rotr (v.getD 0 0) 2 ^^^ rotr (v.getD 0 0) 13 ^^^ rotr (v.getD 0 0) 22) + (v.getD 0 0 &&& v.getD 1 0 ^^^ v.getD 0 0 &&& v.getD 2 0 ^^^ v.getD 1 0 &&& v.getD 2 0)
def rnd (v : List UInt32) (k w : UInt32) : List UInt32 := [one v k w + two v, v.getD 0 0, v.getD 1 0, v.getD 2 0, v.getD 3 0 + one v k w, v.getD 4 0, v.getD 5 0, v.getD 6 0]
def rnds (h : List UInt32) (b : List Nat) : Nat → List UInt32
  | 0 => h
  | i + 1 => rnd (rnds h b i) (kk.getD i 0) (wrd b i)
/-- eight words turned by a block -/
def turnS (h : List UInt32) (b : List Nat) : List UInt32 := (List.range 8).map fun i => (rnds h b 64).getD i 0 + h.getD i 0
/-- a block of cells, known whole -/
def Row (w : World) (g : Nat) (t : TypeId) (cs : List Value) : Prop := w.heap[g]? = some (.cells cs.toArray t (0, 0))
section
variable {w W : World} {g : Nat} {t : TypeId} {cs : List Value}
theorem Row.cell (h : Row w g t cs) (i : Nat) : w.cell? ⟨g, i, none⟩ = cs[i]? := by rw [cell_of_row w g i _ t (0, 0) h]; simp
theorem Row.fz (h : Row w g t cs) (i : Nat) : w.frozen? ⟨g, i, none⟩ = false := frozen_of_row w g i _ t h
theorem Row.lt (h : Row w g t cs) : g < w.heap.size := (Array.getElem?_eq_some_iff.1 h).1
theorem Row.below {B : Nat} (h : Row w g t cs) (hb : Below B w W) (hB : g < B) : Row W g t cs := (hb.block g hB).trans h
theorem Row.after (h : Row w g t cs) (hb : Below w.heap.size w W) : Row W g t cs := h.below hb h.lt
theorem Row.ext (h : Row w g t cs) (hW : Ext w W) : Row W g t cs := (hW.block g h.lt).trans h
theorem Row.set (h : Row w g t cs) (i : Nat) (v : Value) : Row (w.setCell ⟨g, i, none⟩ v) g t (cs.set i v) := by
  unfold Row at *
  simp [World.setCell, Array.getElem?_modify, h]
theorem Row.setOther (h : Row w g t cs) {a : Addr} (ha : g ≠ a.block) (v : Value) : Row (w.setCell a v) g t cs := (Below.heap_setCell _ _ _ _ ha).trans h
theorem Row.alloc (h : Row w g t cs) (o : Obj) : Row (w.alloc o) g t cs := (Below.heap_alloc _ _ _ h.lt).trans h
theorem Row.new (w : World) (t : TypeId) (cs : List Value) : Row (w.alloc (.cells cs.toArray t)) w.heap.size t cs := heap_alloc_new _ _
theorem Row.new' (w : World) (t : TypeId) (cs : List Value) (g : Nat) (h : w.heap.size = g) : Row (w.alloc (.cells cs.toArray t)) g t cs := by subst h; exact heap_alloc_new _ _
end
/-- the end of a function whose one result is an array or a struct in a variable -/
theorem ret_row {fn : Func} {p : Tmp} {ty : TypeId} {a : Act} {w : World} {R : Ending → World → Prop} (h : fn.results = #[.cell p ty]) {g : Nat} {t : TypeId} {cs : List Value} {n : Nat} {el : TypeId}
    (hp : a.tmps.getD p undef = .pointer (some ⟨g, 0, none⟩)) (hg : Row w g t cs) (hu : Try.prog.underlying ty = some (.array n el)) (hi : (Try.prog.info? ty).map (·.size) = some cs.length)
    (hdf : a.defers = []) (hR : R (.returned (.agg cs.toArray)) w) : bodyPost Try.prog fn R .ret a w :=
  bodyPost_ret (results_cell_row h _ w g t cs.toArray (0, 0) _ hp hg hu rfl (by simpa using hi)) hdf hR
theorem Row.setRow {w : World} {g : Nat} {t : TypeId} {cs : List Value} (h : Row w g t cs) (cs' : List Value) : Row (w.setRow g cs'.toArray) g t cs' := setRow_heap w g _ _ t (0, 0) h
theorem Row.setRowOther {w : World} {g g' : Nat} {t : TypeId} {cs : List Value} (h : Row w g t cs) (hne : g ≠ g') (X : Array Value) : Row (w.setRow g' X) g t cs := (setRow_other w g' g X hne).trans h
theorem below_setRow' {B g : Nat} {w0 w : World} (hb : Below B w0 w) (hBg : B ≤ g) (cs : Array Value) : Below B w0 (w.setRow g cs) :=
  hb.trans ⟨rfl, rfl, rfl, by simp [World.setRow], fun k hk => setRow_other w g k cs (by omega)⟩
theorem all_v32 (l : List UInt32) : ((l.map v32).toArray).all (·.oneCell') = true := by
  rw [Array.all_eq_true_iff_forall_mem]
  intro v hv
  simp at hv
  obtain ⟨x, _, rfl⟩ := hv
  rfl
/-- a block of words -/
def Row32 (w : World) (g : Nat) (t : TypeId) (l : List UInt32) : Prop := Row w g t (l.map v32)
section
variable {w W : World} {g : Nat} {t : TypeId} {l : List UInt32}
theorem Row32.cell (h : Row32 w g t l) (i : Nat) (hi : i < l.length) : w.cell? ⟨g, i, none⟩ = some (v32 (l.getD i 0)) := by
  rw [Row.cell h i]; simp [List.getD, List.getElem?_eq_getElem hi]
theorem Row32.set (h : Row32 w g t l) (i : Nat) (x : UInt32) : Row32 (w.setCell ⟨g, i, none⟩ (v32 x)) g t (l.set i x) := by
  unfold Row32; rw [List.map_set]; exact Row.set h i _
end
end Go.Proofs.Ytbidoddghdbaoaa
namespace Go.Proofs.Ytbidoddghdbaoaa
open Go.RowKit

/-- a plan: q: a quiet operation, l: a loud one, alt: either of two plans -/
inductive Tr where
  | nil : Tr
  | q (i : Nat) (t : Tr) : Tr
  | l (i : Nat) (t : Tr) : Tr
  | alt (t u : Tr) : Tr
def Tr.heads : Tr → List Nat
  | .l i _ => [i]
  | .alt t u => t.heads ++ u.heads
  | _ => []
def Tr.deep : Tr → Nat → Bool
  | .nil, n => n == 0
  | .q _ t, n + 1 => t.deep n
  | .l _ t, n + 1 => t.deep n
  | .alt t u, n => t.deep n && u.deep n
  | _, _ => false
def Tr.within (m : Nat) : Tr → Bool
  | .nil => true
  | .q i t => decide (i < m) && t.within m
  | .l i t => decide (i < m) && t.within m
  | .alt t u => t.within m && u.within m

section
variable {P : Program} {ops : Array Oper} {md : Region.Mode}
def treeB (md : Region.Mode) (ops : Array Oper) (n g : Nat) : Tr → Bool → Array Bool → Bool
  | .nil, top, listed => top && planB md ops n g [] listed
  | .q i t, top, listed => top && (decide (i < n) && ((Region.ready md ops listed).contains i && Region.free md ops listed i)) && treeB md ops n g t true (listed.setIfInBounds i true)
  | .l i t, top, listed => decide (i < n) && (!top || decide (Region.ready md ops listed = [i])) && ((Region.ready md ops listed).contains i && treeB md ops n g t true (listed.setIfInBounds i true))
  | .alt t u, top, listed => (!top || decide (Region.ready md ops listed = (Tr.alt t u).heads)) && (treeB md ops n g t false listed && treeB md ops n g u false listed)

/-- the plan with the operations written out -/
inductive TO where
  | nil : TO
  | q (o : Oper) (t : TO) : TO
  | l (o : Oper) (t : TO) : TO
  | alt (t u : TO) : TO
def pickT (l : List Oper) : Tr → TO
  | .nil => .nil
  | .q i t => .q (nthO l i) (pickT l t)
  | .l i t => .l (nthO l i) (pickT l t)
  | .alt t u => .alt (pickT l t) (pickT l u)

def wpT (P : Program) (ops : Array Oper) (Lq : Act → World → Prop) : TO → Act → World → Prop
  | .nil, a, w => ∀ W, Ext w W → Lq a W
  | .q o t, a, w => if Region.wanted o (yielded ops a.tmps) then ∃ v, (∀ W, Ext w W → qUpon P W v ((execOp a.eval o).run P W)) ∧ Held (wpT P ops Lq t (a.put o.dst v) w) else Held (wpT P ops Lq t (a.put o.dst undef) w)
  | .l o t, a, w => ∀ W, Ext w W → if Region.wanted o (yielded ops a.tmps) then o.wp P a W (fun a' w' => Ext W w' ∧ wpT P ops Lq t a' w') QF else Held (wpT P ops Lq t (a.put o.dst undef) W)
  | .alt t u, a, w => Held (wpT P ops Lq t a w) ∧ Held (wpT P ops Lq u a w)

/-- the whole check, by the kernel -/
def forkB (l : List Oper) (n : Nat) (t : Tr) : Bool :=
  Region.noSelect l.toArray && decide (n ≤ l.length) && t.deep n && t.within l.length &&
  (if n < l.length then Region.sinkB .any l.toArray n && Region.chainB .any l.toArray n else true) && treeB .any l.toArray n (l.length - n) t true (Array.replicate l.length false)

/-! ### The steps of the walk -/
section
variable {Lq : Act → World → Prop} {r : TO} {a : Act} {w : World} {o : Oper}
end
end
end Go.Proofs.Ytbidoddghdbaoaa
