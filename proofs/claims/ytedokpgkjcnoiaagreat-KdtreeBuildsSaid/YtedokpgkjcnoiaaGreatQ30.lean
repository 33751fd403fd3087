/- Small steps from world to world. What the sum of a text is made of: words, rounds; no program in sight. The law on regions that draw their order, with a plan that may fork: where several operations may come up and none is quiet, each of them is walked. The law on regions that draw their order, where some operations turn memory that others don't read: blocks of a set S may turn; a quiet operation yields one value whatever is in them. -/
import Derived.Test.YtedokpgkjcnoiaaGreatQ28
import Derived.Test.YtedokpgkjcnoiaaGreatQ29
set_option linter.unusedVariables false
set_option linter.unusedSimpArgs false
namespace Go.Proofs.YtedokpgkjcnoiaaGreat
open Go.RowKit
theorem bstep {w w1 w2 : World} (h : Below w.heap.size w w1) (k : Below w1.heap.size w1 w2) : Below w.heap.size w w2 := h.trans (k.mono h.size)
theorem cell_below {B : Nat} {w w' : World} {a : Addr} {v : Value} (h : Below B w w') (hb : a.block < B) (hc : w.cell? a = some v) : w'.cell? a = some v :=
 (World.cell?_of_block (w := w) (h.block a.block hb)).trans hc
/-- two rows of the call's own don't share a block -/
def Sep (v u : Value) : Prop := v.ownBlock = none ∨ v.ownBlock ≠ u.ownBlock
theorem Sep.symm {v u : Value} (h : Sep v u) : Sep u v := by
 unfold Sep at *
 rcases h with h | h
 ·rcases hu : u.ownBlock with _ | b
  ·exact .inl rfl
  ·right; rw [h]; simp
 ·exact .inr (Ne.symm h)
theorem Sep.after {w : World} {base : Nat} {e : TypeId} {size n : Nat} {v u u' : Value} {xs : List Value} (h : Sep v u) (hv : w.ownsRow base e size v n xs) (hat : u'.ownBlock = u.ownBlock ∨ u'.ownBlock = some w.heap.size) : Sep v u' := by
 unfold Sep at *
 rcases hat with hat | hat
 ·rw [hat]; exact h
 ·rcases hb : v.ownBlock with _ | b
  ·exact .inl rfl
  ·right
   have := (hv.lt b hb).2
   rw [hat]
   intro hh
   injection hh with hh
   omega
end Go.Proofs.YtedokpgkjcnoiaaGreat
namespace Go.Proofs.YtedokpgkjcnoiaaGreat
open Go.RowKit
/-- 64 words, none set -/
def z64 : List UInt32 := List.replicate 64 0
def v32 (x : UInt32) : Value := .int .u32 (n32 x)
def s0 (x : UInt32) : UInt32 := rotr x 7 ^^^ rotr x 18 ^^^ shr x 3
def s1 (x : UInt32) : UInt32 := rotr x 17 ^^^ rotr x 19 ^^^ shr x 10
/-- a word of four bytes -/
def wd (b : List Nat) (i : Nat) : UInt32 := UInt32.ofNat (b.getD (4 * i) 0 * 16777216 + b.getD (4 * i + 1) 0 * 65536 + b.getD (4 * i + 2) 0 * 256 + b.getD (4 * i + 3) 0)
def wrd (b : List Nat) (i : Nat) : UInt32 := if h : i < 16 then wd b i else wrd b (i - 16) + s0 (wrd b (i - 15)) + wrd b (i - 7) + s1 (wrd b (i - 2))
termination_by i
decreasing_by all_goals omega
theorem wrd_lo {b : List Nat} {i : Nat} (h : i < 16) : wrd b i = wd b i := by rw [wrd, dif_pos h]
theorem wrd_hi {b : List Nat} {i : Nat} (h : 16 ≤ i) : wrd b i = wrd b (i - 16) + s0 (wrd b (i - 15)) + wrd b (i - 7) + s1 (wrd b (i - 2)) := by rw [wrd, dif_neg (by omega)]
def kk : List UInt32 := [0x428a2f98, 0x71374491, 0xb5c0fbcf, 0xe9b5dba5, 0x3956c25b, 0x59f111f1, 0x923f82a4, 0xab1c5ed5, 0xd807aa98, 0x12835b01, 0x243185be, 0x550c7dc3, 0x72be5d74, 0x80deb1fe, 0x9bdc06a7, 0xc19bf174, 0xe49b69c1, 0xefbe4786, 0x0fc19dc6, 0x240ca1cc, 0x2de92c6f, 0x4a7484aa, 0x5cb0a9dc, 0x76f988da, 0x983e5152, 0xa831c66d, 0xb00327c8, 0xbf597fc7, 0xc6e00bf3, 0xd5a79147, 0x06ca6351, 0x14292967, 0x27b70a85, 0x2e1b2138, 0x4d2c6dfc, 0x53380d13, 0x650a7354, 0x766a0abb, 0x81c2c92e, 0x92722c85, 0xa2bfe8a1, 0xa81a664b, 0xc24b8b70, 0xc76c51a3, 0xd192e819, 0xd6990624, 0xf40e3585, 0x106aa070, 0x19a4c116, 0x1e376c08, 0x2748774c, 0x34b0bcb5, 0x391c0cb3, 0x4ed8aa4a, 0x5b9cca4f, 0x682e6ff3, 0x748f82ee, 0x78a5636f, 0x84c87814, 0x8cc70208, 0x90befffa, 0xa4506ceb, 0xbef9a3f7, 0xc67178f2]
def h0 : List UInt32 := [0x6a09e667, 0xbb67ae85, 0x3c6ef372, 0xa54ff53a, 0x510e527f, 0x9b05688c, 0x1f83d9ab, 0x5be0cd19]
def one (v : List UInt32) (k w : UInt32) : UInt32 :=
 v.getD 7 0 + (rotr (v.getD 4 0) 6 ^^^ rotr (v.getD 4 0) 11 ^^^ rotr (v.getD 4 0) 25) + (v.getD 4 0 &&& v.getD 5 0 ^^^ ~~~ (v.getD 4 0) &&& v.getD 6 0) + k + w
def two (v : List UInt32) : UInt32 :=
 (rotr (v.getD 0 0) 2 ^^^ rotr (v.getD 0 0) 13 ^^^ rotr (v.getD 0 0) 22) + (v.getD 0 0 &&& v.getD 1 0 ^^^ v.getD 0 0 &&& v.getD 2 0 ^^^ v.getD 1 0 &&& v.getD 2 0)
def rnd (v : List UInt32) (k w : UInt32) : List UInt32 := [one v k w + two v, v.getD 0 0, v.getD 1 0, v.getD 2 0, v.getD 3 0 + one v k w, v.getD 4 0, v.getD 5 0, v.getD 6 0]
def rnds (h : List UInt32) (b : List Nat) : Nat → List UInt32
 | 0 => h
 | i + 1 => rnd (rnds h b i) (kk.getD i 0) (wrd b i)
/-- eight words turned by a block -/
def turnS (h : List UInt32) (b : List Nat) : List UInt32 := (List.range 8).map fun i => (rnds h b 64).getD i 0 + h.getD i 0
/-- a block of cells, known whole -/
def Row (w : World) (g : Nat) (t : TypeId) (cs : List Value) : Prop := w.heap[g]? = some (.cells cs.toArray t (0, 0))
section
variable {w W : World} {g : Nat} {t : TypeId} {cs : List Value}
theorem Row.cell (h : Row w g t cs) (i : Nat) : w.cell? ⟨g, i, none⟩ = cs[i]? := by rw [cell_of_row w g i _ t (0, 0) h]; simp
theorem Row.fz (h : Row w g t cs) (i : Nat) : w.frozen? ⟨g, i, none⟩ = false := frozen_of_row w g i _ t h
theorem Row.lt (h : Row w g t cs) : g < w.heap.size := (Array.getElem?_eq_some_iff.1 h).1
theorem Row.below {B : Nat} (h : Row w g t cs) (hb : Below B w W) (hB : g < B) : Row W g t cs := (hb.block g hB).trans h
theorem Row.after (h : Row w g t cs) (hb : Below w.heap.size w W) : Row W g t cs := h.below hb h.lt
theorem Row.ext (h : Row w g t cs) (hW : Ext w W) : Row W g t cs := (hW.block g h.lt).trans h
theorem Row.set (h : Row w g t cs) (i : Nat) (v : Value) : Row (w.setCell ⟨g, i, none⟩ v) g t (cs.set i v) := by
 unfold Row at *
 simp [World.setCell, Array.getElem?_modify, h]
theorem Row.setOther (h : Row w g t cs) {a : Addr} (ha : g ≠ a.block) (v : Value) : Row (w.setCell a v) g t cs := (Below.heap_setCell _ _ _ _ ha).trans h
theorem Row.alloc (h : Row w g t cs) (o : Obj) : Row (w.alloc o) g t cs := (Below.heap_alloc _ _ _ h.lt).trans h
theorem Row.new (w : World) (t : TypeId) (cs : List Value) : Row (w.alloc (.cells cs.toArray t)) w.heap.size t cs := heap_alloc_new _ _
theorem Row.new' (w : World) (t : TypeId) (cs : List Value) (g : Nat) (h : w.heap.size = g) : Row (w.alloc (.cells cs.toArray t)) g t cs := by subst h; exact heap_alloc_new _ _
end
/-- the end of a function whose one result is an array or a struct in a variable -/
theorem ret_row {fn : Func} {p : Tmp} {ty : TypeId} {a : Act} {w : World} {R : Ending → World → Prop} (h : fn.results = #[.cell p ty]) {g : Nat} {t : TypeId} {cs : List Value} {n : Nat} {el : TypeId}
    (hp : a.tmps.getD p undef = .pointer (some ⟨g, 0, none⟩)) (hg : Row w g t cs) (hu : Tryz.prog.underlying ty = some (.array n el)) (hi : (Tryz.prog.info? ty).map (·.size) = some cs.length)
    (hdf : a.defers = []) (hR : R (.returned (.agg cs.toArray)) w) : bodyPost Tryz.prog fn R .ret a w :=
  bodyPost_ret (results_cell_row h _ w g t cs.toArray (0, 0) _ hp hg hu rfl (by simpa using hi)) hdf hR
theorem Row.setRow {w : World} {g : Nat} {t : TypeId} {cs : List Value} (h : Row w g t cs) (cs' : List Value) : Row (w.setRow g cs'.toArray) g t cs' := setRow_heap w g _ _ t (0, 0) h
theorem Row.setRowOther {w : World} {g g' : Nat} {t : TypeId} {cs : List Value} (h : Row w g t cs) (hne : g ≠ g') (X : Array Value) : Row (w.setRow g' X) g t cs := (setRow_other w g' g X hne).trans h
theorem below_setRow' {B g : Nat} {w0 w : World} (hb : Below B w0 w) (hBg : B ≤ g) (cs : Array Value) : Below B w0 (w.setRow g cs) :=
 hb.trans ⟨rfl, rfl, rfl, by simp [World.setRow], fun k hk => setRow_other w g k cs (by omega)⟩
theorem all_v32 (l : List UInt32) : ((l.map v32).toArray).all (·.oneCell') = true := by
 rw [Array.all_eq_true_iff_forall_mem]
 intro v hv
 simp at hv
 obtain ⟨x, _, rfl⟩ := hv
 rfl
/-- a block of words -/
def Row32 (w : World) (g : Nat) (t : TypeId) (l : List UInt32) : Prop := Row w g t (l.map v32)
section
variable {w W : World} {g : Nat} {t : TypeId} {l : List UInt32}
theorem Row32.cell (h : Row32 w g t l) (i : Nat) (hi : i < l.length) : w.cell? ⟨g, i, none⟩ = some (v32 (l.getD i 0)) := by
 rw [Row.cell h i]; simp [List.getD, List.getElem?_eq_getElem hi]
theorem Row32.set (h : Row32 w g t l) (i : Nat) (x : UInt32) : Row32 (w.setCell ⟨g, i, none⟩ (v32 x)) g t (l.set i x) := by
 unfold Row32; rw [List.map_set]; exact Row.set h i _
end
end Go.Proofs.YtedokpgkjcnoiaaGreat
namespace Go.Proofs.YtedokpgkjcnoiaaGreat
open Go.RowKit

/-- a plan: q: a quiet operation, l: a loud one, alt: either of two plans -/
inductive Tr where
 | nil : Tr
 | q (i : Nat) (t : Tr) : Tr
 | l (i : Nat) (t : Tr) : Tr
 | alt (t u : Tr) : Tr
def Tr.heads : Tr → List Nat
 | .l i _ => [i]
 | .alt t u => t.heads ++ u.heads
 | _ => []
def Tr.deep : Tr → Nat → Bool
 | .nil, n => n == 0
 | .q _ t, n + 1 => t.deep n
 | .l _ t, n + 1 => t.deep n
 | .alt t u, n => t.deep n && u.deep n
 | _, _ => false
def Tr.within (m : Nat) : Tr → Bool
 | .nil => true
 | .q i t => decide (i < m) && t.within m
 | .l i t => decide (i < m) && t.within m
 | .alt t u => t.within m && u.within m

section
variable {P : Program} {ops : Array Oper} {md : Region.Mode}
def treeB (md : Region.Mode) (ops : Array Oper) (n g : Nat) : Tr → Bool → Array Bool → Bool
 | .nil, top, listed => top && planB md ops n g [] listed
 | .q i t, top, listed => top && (decide (i < n) && ((Region.ready md ops listed).contains i && Region.free md ops listed i)) && treeB md ops n g t true (listed.setIfInBounds i true)
 | .l i t, top, listed => decide (i < n) && (!top || decide (Region.ready md ops listed = [i])) && ((Region.ready md ops listed).contains i && treeB md ops n g t true (listed.setIfInBounds i true))
 | .alt t u, top, listed => (!top || decide (Region.ready md ops listed = (Tr.alt t u).heads)) && (treeB md ops n g t false listed && treeB md ops n g u false listed)

/-- the plan with the operations written out -/
inductive TO where
 | nil : TO
 | q (o : Oper) (t : TO) : TO
 | l (o : Oper) (t : TO) : TO
 | alt (t u : TO) : TO
def pickT (l : List Oper) : Tr → TO
 | .nil => .nil
 | .q i t => .q (nthO l i) (pickT l t)
 | .l i t => .l (nthO l i) (pickT l t)
 | .alt t u => .alt (pickT l t) (pickT l u)

/-- the whole check, by the kernel -/
def forkB (l : List Oper) (n : Nat) (t : Tr) : Bool :=
 Region.noSelect l.toArray && decide (n ≤ l.length) && t.deep n && t.within l.length &&
 (if n < l.length then Region.sinkB .any l.toArray n && Region.chainB .any l.toArray n else true) && treeB .any l.toArray n (l.length - n) t true (Array.replicate l.length false)

/-! ### The steps of the walk -/
section
variable {Lq : Act → World → Prop} {r : TO} {a : Act} {w : World} {o : Oper}
end
end
end Go.Proofs.YtedokpgkjcnoiaaGreat
namespace Go.Proofs.YtedokpgkjcnoiaaGreat
open Go.RowKit

/-- all that w holds W holds too, but in blocks of S -/
structure But (S : Nat → Prop) (w W : World) : Prop where
 size : w.heap.size ≤ W.heap.size
 block : ∀ k, k < w.heap.size → ¬ S k → W.heap[k]? = w.heap[k]?
 os : W.os = w.os
 tape : W.tape = w.tape
 output : W.output = w.output
theorem But.refl {S : Nat → Prop} (w : World) : But S w w := ⟨Nat.le_refl _, fun _ _ _ => rfl, rfl, rfl, rfl⟩
theorem But.trans {S : Nat → Prop} {a b c : World} (h : But S a b) (k : But S b c) : But S a c :=
 ⟨Nat.le_trans h.size k.size, fun i hi hs => (k.block i (Nat.lt_of_lt_of_le hi h.size) hs).trans (h.block i hi hs), k.os.trans h.os, k.tape.trans h.tape, k.output.trans h.output⟩
theorem But.of_ext {S : Nat → Prop} {w W : World} (h : Ext w W) : But S w W := ⟨h.size, fun k hk _ => h.block k hk, h.os, h.tape, h.output⟩
theorem But.drew_left {S : Nat → Prop} {w W : World} (h : But S w.drew W) : But S w W := ⟨h.size, h.block, h.os, h.tape, h.output⟩
theorem But.cell {S : Nat → Prop} {w W : World} (h : But S w W) {p : Addr} {v : Value} (hc : w.cell? p = some v) (hs : ¬ S p.block) : W.cell? p = some v :=
 (World.cell?_of_block (w := w) (h.block p.block (World.block_lt_of_cell? w p hc) hs)).trans hc
theorem But.setRow {S : Nat → Prop} (W : World) (g : Nat) (cs : Array Value) (hs : S g) : But S W (W.setRow g cs) :=
 ⟨by simp [World.setRow], fun k hk hne => setRow_other W g k cs (fun e => hne (by rw [e]; exact hs)), rfl, rfl, rfl⟩
theorem But.set {S : Nat → Prop} (w : World) (a : Addr) (v : Value) (hs : S a.block) : But S w (w.setCell a v) :=
 ⟨by simp, fun k _ hk => Below.heap_setCell _ _ _ _ (fun e => hk (e ▸ hs)), rfl, rfl, rfl⟩

section
variable {P : Program} {ops : Array Oper} {md : Region.Mode} {S : Nat → Prop}

/-- operation i comes up; it leaves all memory that was there as it was -/
def mOp (S : Nat → Prop) (P : Program) (ops : Array Oper) (i : Nat) (K : Act → World → Prop) (a : Act) (w : World) : Prop :=
 match ops[i]? with
 | none => K a w
 | some o => if Region.wanted o (yielded ops a.tmps) then o.wp P a w (fun a' w' => But S w w' ∧ K a' w') QF else K (a.put o.dst undef) w

theorem mOp_mono {i : Nat} {a : Act} {w : World} {K K' : Act → World → Prop} (h : ∀ a w, K a w → K' a w) (hh : mOp S P ops i K a w) : mOp S P ops i K' a w := by
 unfold mOp at *
 split
 ·exact h _ _ (by simpa [*] using hh)
 ·rename_i o ho
  simp only [ho] at hh
  split
  ·rename_i hw; simp only [hw, if_true] at hh; exact Oper.wp_mono (fun a w h2 => ⟨h2.1, h _ _ h2.2⟩) hh
  ·rename_i hw; simp only [hw] at hh; exact h _ _ hh

theorem wpOp_of_mOp {Q : Exit → Act → World → Prop} {i : Nat} {a : Act} {w : World} {K K' : Act → World → Prop} (h : ∀ a w, K a w → K' a w) (hh : mOp S P ops i K a w) : wpOp P ops Q i K' a w := by
 unfold mOp at hh
 unfold wpOp
 split
 ·rename_i ho; simp only [ho] at hh; exact h _ _ hh
 ·rename_i o ho
  simp only [ho] at hh
  split
  ·rename_i hw; simp only [hw, if_true] at hh; exact .inl (Oper.wp_mono (fun a w h2 => h _ _ h2.2) (Oper.wp_toQ hh))
  ·rename_i hw; simp only [hw] at hh; exact h _ _ hh

def MSil (S : Nat → Prop) (P : Program) (ops : Array Oper) (o : Oper) (v : Value) (a : Act) (w : World) : Prop :=
 (Region.wanted o (yielded ops a.tmps) = true ∧ ∀ W, But S w W → qUpon P W v ((execOp a.eval o).run P W)) ∨ (Region.wanted o (yielded ops a.tmps) = false ∧ v = undef)

theorem MSil.later {o : Oper} {v : Value} {a : Act} {w w' : World} (h : MSil S P ops o v a w) (hw : But S w w') : MSil S P ops o v a w' :=
 h.imp (fun ⟨h1, h2⟩ => ⟨h1, fun W hW => h2 W (hw.trans hW)⟩) id
theorem MSil.of_same {o : Oper} {v : Value} {a a' : Act} {w : World} (h : MSil S P ops o v a w) (he : execOp a'.eval o = execOp a.eval o)
    (hw : Region.wanted o (yielded ops a'.tmps) = Region.wanted o (yielded ops a.tmps)) : MSil S P ops o v a' w := by
  unfold MSil at *
  rw [he, hw]
  exact h

theorem MSil.mOp {i : Nat} {o : Oper} {v : Value} {a : Act} {w : World} (hi : ops[i]? = some o) (hy : MSil S P ops o v a w) {K : Act → World → Prop} (h : ∀ w', Ext w w' → K (a.put o.dst v) w') : mOp S P ops i K a w := by
 unfold Go.Proofs.YtedokpgkjcnoiaaGreat.mOp
 simp only [hi]
 rcases hy with ⟨hw, hv⟩ | ⟨hw, rfl⟩
 ·have h0 := hv w (But.refl w)
  simp only [hw, if_true, Oper.wp]
  generalize (execOp a.eval o).run P w = r at h0
  cases r with
  | ok n w' =>
   cases n <;> simp only [qUpon] at h0 <;> simp only [Oper.upon]
   case value u => obtain ⟨rfl, rfl⟩ := h0; exact ⟨But.refl _, h _ (Ext.refl _)⟩
   case skip => obtain ⟨rfl, rfl⟩ := h0; exact ⟨But.refl _, h _ (Ext.refl _)⟩
   case enter f args =>
    obtain ⟨rfl, hc⟩ := h0
    exact hc.mono fun e w2 ⟨he, hx⟩ => by subst he; exact ⟨But.of_ext hx, h _ hx⟩
  | halt x w' => simp only [qUpon] at h0
 ·simp only [hw, Bool.false_eq_true, if_false]
  exact h _ (Ext.refl _)

theorem mOp_put {j : Nat} {oi oj : Oper} {v : Value} (hj : ops[j]? = some oj) (hap : oi.apart ops oj = true) (hsi : ∀ cs b, oi.op ≠ .select cs b) (hsj : ∀ cs b, oj.op ≠ .select cs b)
    {K : Act → World → Prop} {a : Act} {w : World} (hy : MSil S P ops oi v a w) (h : mOp S P ops j K (a.put oi.dst v) w) :
    mOp S P ops j (fun a' w' => MSil S P ops oi v a' w' ∧ K (a'.put oi.dst v) w') a w := by
  obtain ⟨h1, h2, h3⟩ := Oper.apart_spec hap
  have keep : ∀ (a : Act) (w : World), MSil S P ops oi v a w → ∀ u, MSil S P ops oi v (a.put oj.dst u) w := fun a w hy u =>
    hy.of_same (execOp_put oi hsi a oj.dst u h3) (wanted_put oi a oj.dst u h3)
  unfold mOp at *
  simp only [hj] at *
  rw [wanted_put oj a oi.dst v h1] at h
  split
  · rename_i hw
    simp only [hw, if_true] at h
    unfold Oper.wp at *
    rw [execOp_put oj hsj a oi.dst v h1] at h
    generalize (execOp a.eval oj).run P w = r at *
    cases r with
    | ok n w' =>
      cases n <;> simp only [Oper.upon] at h ⊢
      case value u => exact ⟨h.1, keep a w' (hy.later h.1) u, by rw [← Act.put_comm a v u h2]; exact h.2⟩
      case skip => exact ⟨h.1, keep a w' (hy.later h.1) undef, by rw [← Act.put_comm a v undef h2]; exact h.2⟩
      case defer d =>
        have hd : MSil S P ops oi v ({ a with defers := d :: a.defers } : Act) w' := (hy.later h.1).of_same rfl rfl
        refine ⟨h.1, keep _ w' hd undef, ?_⟩
        have h4 := h.2
        rw [defers_put, put_defers, Act.put_comm _ v undef h2] at h4
        exact h4
      case enter f args =>
        exact Calls.mono h fun e w2 he => by
          cases e with
          | returned u => exact ⟨he.1, keep a w2 (hy.later he.1) u, by rw [← Act.put_comm a v u h2]; exact he.2⟩
          | panicked c => exact he
          | outgrown => exact he
      case row row args =>
        exact Rows.mono h fun u w2 he => ⟨he.1, keep a w2 (hy.later he.1) u, by rw [← Act.put_comm a v u h2]; exact he.2⟩
      all_goals exact h
    | halt x w' => cases x <;> simp only [Oper.upon] at h ⊢ <;> exact h
  · rename_i hw
    simp only [hw] at h
    exact ⟨keep a w hy _, by rw [← Act.put_comm a v undef h2]; exact h⟩

/-- whatever comes up, of the first n operations; in every world that may have come about -/
def wpML (S : Nat → Prop) (P : Program) (md : Region.Mode) (ops : Array Oper) (n : Nat) (L : Array Bool → Act → World → Prop) : Nat → Array Bool → Act → World → Prop
 | 0, listed, a, w => ∀ W, Ext w W → L listed a W
 | f + 1, listed, a, w => Region.ready md ops listed ≠ [] ∧ ∀ i ∈ Region.ready md ops listed, i < n ∧ ∀ W, Ext w W → mOp S P ops i (wpML S P md ops n L f (listed.setIfInBounds i true)) a W

theorem wpML_later {n : Nat} {L : Array Bool → Act → World → Prop} : ∀ {f : Nat} {listed : Array Bool} {a : Act} {w w' : World}, wpML S P md ops n L f listed a w → Ext w w' → wpML S P md ops n L f listed a w'
 | 0, _, _, _, _, h, hw => fun W hW => h W (hw.trans hW)
 | _ + 1, _, _, _, _, h, hw => ⟨h.1, fun i hi => ⟨(h.2 i hi).1, fun W hW => (h.2 i hi).2 W (hw.trans hW)⟩⟩

theorem wpAny_of_ML {n g : Nat} {L : Array Bool → Act → World → Prop} {Q : Exit → Act → World → Prop} (hL : ∀ listed a w, L listed a w → wpAny P md ops Q g listed a w) :
    ∀ (f : Nat) (listed : Array Bool) (a : Act) (w : World), wpML S P md ops n L f listed a w → wpAny P md ops Q (f + g) listed a w
  | 0, listed, a, w, h => by rw [Nat.zero_add]; exact hL _ _ _ (h w (Ext.refl w))
  | f + 1, listed, a, w, h => by
    rw [show f + 1 + g = (f + g) + 1 by omega]
    exact ⟨fun h0 => absurd h0 h.1, fun i hi => wpOp_of_mOp (fun a' w' h' => wpAny_of_ML hL f _ a' w' h') ((h.2 i hi).2 w (Ext.refl w))⟩

theorem wpML_first {n i : Nat} {oi : Oper} {v : Value} {L : Array Bool → Act → World → Prop} (hi : ops[i]? = some oi) (hsel : ∀ (j : Nat) (o : Oper) cs b, ops[j]? = some o → o.op ≠ .select cs b)
    (hjn : ∀ listed, HeadInv md ops n listed → listed.getD i true = false → ∀ j ∈ Region.ready md ops listed, j < n) (hin : i < n)
    (hdone : ∀ listed a w, L listed a w → ∀ j ∈ Region.ready md ops listed, n ≤ j) :
    ∀ (f : Nat) (listed : Array Bool) (a : Act) (w : World), HeadInv md ops n listed →
      (∀ j oj, ops[j]? = some oj → j ≠ i → listed.getD j true = false → (∀ e ∈ oj.after, Region.binds md e = true → e.on ≠ i) → oi.apart ops oj = true) →
      i ∈ Region.ready md ops listed → MSil S P ops oi v a w →
      wpML S P md ops n L f (listed.setIfInBounds i true) (a.put oi.dst v) w → wpML S P md ops n L (f + 1) listed a w := by
  intro f
  induction f with
  | zero =>
    intro listed a w inv _ hr hy H
    have hun := (mem_ready.1 hr).1
    refine ⟨fun h => (by rw [h] at hr; cases hr), fun j hj => ?_⟩
    have hjn' := hjn listed inv hun j hj
    refine ⟨hjn', fun W hW => ?_⟩
    by_cases hji : j = i
    · subst hji
      exact (hy.later (But.of_ext hW)).mOp hi fun w' hw' W' hW' => H W' ((hW.trans hw').trans hW')
    · have := hdone _ _ _ (H w (Ext.refl w)) j (ready_mono hj hji)
      omega
  | succ f ih =>
    intro listed a w inv hfree hr hy H
    have hun := (mem_ready.1 hr).1
    refine ⟨fun h => (by rw [h] at hr; cases hr), fun j hj => ?_⟩
    have hjn' := hjn listed inv hun j hj
    refine ⟨hjn', fun W hW => ?_⟩
    by_cases hji : j = i
    · subst hji
      exact (hy.later (But.of_ext hW)).mOp hi fun w' hw' => wpML_later H (hW.trans hw')
    · have h1 := (H.2 j (ready_mono hj hji)).2 W hW
      obtain ⟨hjun, oj, hoj, hall⟩ := mem_ready.1 hj
      have hnot : ∀ e ∈ oj.after, Region.binds md e = true → e.on ≠ i := fun e he hb heq => by
        have h1 := hall e he hb
        rw [heq] at h1
        rcases Nat.lt_or_ge i listed.size with h' | h'
        · simp [h'] at hun h1; rw [hun] at h1; cases h1
        · simp [Array.getElem?_eq_none h'] at h1
      have h2 := mOp_put hoj (hfree j oj hoj hji hjun hnot) (fun cs b => hsel i oi cs b hi) (fun cs b => hsel j oj cs b hoj) (hy.later (But.of_ext hW)) h1
      have hfree' : ∀ k ok, ops[k]? = some ok → k ≠ i → (listed.setIfInBounds j true).getD k true = false →
          (∀ e ∈ ok.after, Region.binds md e = true → e.on ≠ i) → oi.apart ops ok = true := fun k ok hk hki hun' hno => by
        refine hfree k ok hk hki ?_ hno
        by_cases hjk : j = k
        · subst hjk; exact hjun
        · rw [getD_set_ne true hjk] at hun'; exact hun'
      refine mOp_mono (fun a' w' h3 => ih (listed.setIfInBounds j true) a' w' (inv.set hj hjn') hfree' (ready_mono hr (Ne.symm hji)) h3.1 ?_) h2
      rw [Array.setIfInBounds_comm _ _ hji]
      exact h3.2

def wpM (S : Nat → Prop) (P : Program) (ops : Array Oper) (Lq : Act → World → Prop) : TO → Act → World → Prop
 | .nil, a, w => ∀ W, Ext w W → Lq a W
 | .q o t, a, w => if Region.wanted o (yielded ops a.tmps) then ∃ v, (∀ W, But S w W → qUpon P W v ((execOp a.eval o).run P W)) ∧ Held (wpM S P ops Lq t (a.put o.dst v) w) else Held (wpM S P ops Lq t (a.put o.dst undef) w)
 | .l o t, a, w => ∀ W, Ext w W → if Region.wanted o (yielded ops a.tmps) then o.wp P a W (fun a' w' => But S W w' ∧ wpM S P ops Lq t a' w') QF else Held (wpM S P ops Lq t (a.put o.dst undef) W)
 | .alt t u, a, w => Held (wpM S P ops Lq t a w) ∧ Held (wpM S P ops Lq u a w)

theorem wpML_of_tree {S : Nat → Prop} {l : List Oper} {n g : Nat} {Lq : Act → World → Prop} (hsel : Region.noSelect l.toArray = true)
    (hjn : ∀ i, i < n → ∀ listed, HeadInv md l.toArray n listed → listed.getD i true = false → ∀ j ∈ Region.ready md l.toArray listed, j < n)
    (hdone : ∀ listed, planB md l.toArray n g [] listed = true → ∀ j ∈ Region.ready md l.toArray listed, n ≤ j) :
    ∀ (t : Tr) (f : Nat) (listed : Array Bool) (a : Act) (w : World), t.deep f = true → t.within l.length = true → HeadInv md l.toArray n listed → wpM S P l.toArray Lq (pickT l t) a w →
      (treeB md l.toArray n g t true listed = true → wpML S P md l.toArray n (fun listed' a' w' => planB md l.toArray n g [] listed' = true ∧ Lq a' w') f listed a w) ∧
      (treeB md l.toArray n g t false listed = true → ∃ f', f = f' + 1 ∧ t.heads ≠ [] ∧ ∀ i ∈ t.heads, i < n ∧ ∀ W, Ext w W → mOp S P l.toArray i (wpML S P md l.toArray n (fun listed' a' w' => planB md l.toArray n g [] listed' = true ∧ Lq a' w') f' (listed.setIfInBounds i true)) a W) := by
  intro t
  induction t with
  | nil =>
    intro f listed a w hd hin inv h
    have hf : f = 0 := by simpa [Tr.deep] using hd
    subst hf
    refine ⟨fun hB => fun W hW => ⟨by simpa [treeB] using hB, h W hW⟩, fun hB => by simp [treeB] at hB⟩
  | q i t ih =>
    intro f listed a w hd hin inv h
    rcases f with _ | f
    · simp [Tr.deep] at hd
    simp only [Tr.within, Bool.and_eq_true, decide_eq_true_eq] at hin
    refine ⟨fun hB => ?_, fun hB => by simp [treeB] at hB⟩
    simp only [treeB, Bool.true_and, Bool.and_eq_true, decide_eq_true_eq] at hB
    obtain ⟨⟨hi, hr, hf⟩, hB'⟩ := hB
    have hr' : i ∈ Region.ready md l.toArray listed := by simpa using hr
    have hoi : l.toArray[i]? = some (nthO l i) := by
      have := nthO_get l i hin.1
      simpa using this
    have inv' := inv.set hr' hi
    simp only [pickT, wpM] at h
    by_cases hw : Region.wanted (nthO l i) (yielded l.toArray a.tmps) = true
    · simp only [hw, if_true] at h
      obtain ⟨v, h1, h2⟩ := h
      exact wpML_first hoi (Region.noSelect_spec hsel) (hjn i hi) hi (fun listed' a' w' hL => hdone listed' hL.1) f listed a w inv (Region.free_spec hoi hf) hr' (.inl ⟨hw, h1⟩)
        ((ih f _ _ w (by simpa [Tr.deep] using hd) hin.2 inv' h2.out).1 hB')
    · simp only [hw] at h
      exact wpML_first (v := undef) hoi (Region.noSelect_spec hsel) (hjn i hi) hi (fun listed' a' w' hL => hdone listed' hL.1) f listed a w inv (Region.free_spec hoi hf) hr' (.inr ⟨by simpa using hw, rfl⟩)
        ((ih f _ _ w (by simpa [Tr.deep] using hd) hin.2 inv' h.out).1 hB')
  | l i t ih =>
    intro f listed a w hd hin inv h
    rcases f with _ | f
    · simp [Tr.deep] at hd
    simp only [Tr.within, Bool.and_eq_true, decide_eq_true_eq] at hin
    have hoi : l.toArray[i]? = some (nthO l i) := by
      have := nthO_get l i hin.1
      simpa using this
    have key : ∀ hi : i < n, i ∈ Region.ready md l.toArray listed → treeB md l.toArray n g t true (listed.setIfInBounds i true) = true →
        ∀ W, Ext w W → mOp S P l.toArray i (wpML S P md l.toArray n (fun listed' a' w' => planB md l.toArray n g [] listed' = true ∧ Lq a' w') f (listed.setIfInBounds i true)) a W := by
      intro hi hr hB' W hW
      have ih' := fun a' w' h' => (ih f (listed.setIfInBounds i true) a' w' (by simpa [Tr.deep] using hd) hin.2 (inv.set hr hi) h').1 hB'
      simp only [pickT, wpM] at h
      have h1 := h W hW
      unfold mOp
      simp only [hoi]
      split
      · rename_i hw
        simp only [hw, if_true] at h1
        exact Oper.wp_mono (fun a' w' h2 => ⟨h2.1, ih' a' w' h2.2⟩) h1
      · rename_i hw
        simp only [hw] at h1
        exact ih' _ _ h1.out
    constructor
    · intro hB
      simp only [treeB, Bool.not_true, Bool.false_or, Bool.and_eq_true, decide_eq_true_eq] at hB
      obtain ⟨⟨hi, hrd⟩, hr, hB'⟩ := hB
      have hr' : i ∈ Region.ready md l.toArray listed := by simpa using hr
      refine ⟨by rw [hrd]; simp, fun j hj => ?_⟩
      rw [hrd] at hj
      have hji : j = i := by simpa using hj
      subst hji
      exact ⟨hi, key hi hr' hB'⟩
    · intro hB
      simp only [treeB, Bool.not_false, Bool.true_or, Bool.and_true, Bool.and_eq_true, decide_eq_true_eq] at hB
      obtain ⟨hi, hr, hB'⟩ := hB
      have hr' : i ∈ Region.ready md l.toArray listed := by simpa using hr
      refine ⟨f, rfl, by simp [Tr.heads], fun j hj => ?_⟩
      have hji : j = i := by simpa [Tr.heads] using hj
      subst hji
      exact ⟨hi, key hi hr' hB'⟩
  | alt t u iht ihu =>
    intro f listed a w hd hin inv h
    simp only [Tr.deep, Bool.and_eq_true] at hd
    simp only [Tr.within, Bool.and_eq_true] at hin
    simp only [pickT, wpM] at h
    have h2 : treeB md l.toArray n g t false listed = true → treeB md l.toArray n g u false listed = true → ∃ f', f = f' + 1 ∧ (Tr.alt t u).heads ≠ [] ∧ ∀ i ∈ (Tr.alt t u).heads, i < n ∧ ∀ W, Ext w W → mOp S P l.toArray i (wpML S P md l.toArray n (fun listed' a' w' => planB md l.toArray n g [] listed' = true ∧ Lq a' w') f' (listed.setIfInBounds i true)) a W := by
      intro ht hu
      obtain ⟨f', e1, ne1, k1⟩ := (iht f listed a w hd.1 hin.1 inv h.1.out).2 ht
      obtain ⟨f'', e2, ne2, k2⟩ := (ihu f listed a w hd.2 hin.2 inv h.2.out).2 hu
      obtain rfl : f' = f'' := by omega
      refine ⟨f', e1, by simp [Tr.heads, ne1], fun i hi => ?_⟩
      rcases List.mem_append.1 (show i ∈ t.heads ++ u.heads from hi) with h | h
      · exact k1 i h
      · exact k2 i h
    constructor
    · intro hB
      simp only [treeB, Bool.not_true, Bool.false_or, Bool.and_eq_true, decide_eq_true_eq] at hB
      obtain ⟨hrd, ht, hu⟩ := hB
      obtain ⟨f', rfl, ne, k⟩ := h2 ht hu
      refine ⟨by rw [hrd]; exact ne, fun j hj => ?_⟩
      rw [hrd] at hj
      exact k j hj
    · intro hB
      simp only [treeB, Bool.not_false, Bool.true_or, Bool.true_and, Bool.and_eq_true] at hB
      exact h2 hB.1 hB.2

theorem wp_region_mut {S : Nat → Prop} {id : Nat} {Q : Exit → Act → World → Prop} {a : Act} {w : World} {l : List Oper} (n : Nat) (t : Tr) (hm : P.follows .mixedOrders = true) (hB : forkB l n t = true)
    (h : wpM S P l.toArray (fun a' w' => wpList P l.toArray Q (l.drop n) a' w') (pickT l t) a w.drew) : (Code.region id l.toArray true).wp P Q a w := by
  simp only [forkB, Bool.and_eq_true, decide_eq_true_eq] at hB
  obtain ⟨⟨⟨⟨⟨hsel, hn⟩, hdeep⟩, hwi⟩, htail⟩, hplan⟩ := hB
  have hsz : l.toArray.size = l.length := by simp
  have hplan' : treeB .any l.toArray n (l.length - n) t true (Array.replicate l.toArray.size false) = true := by rw [hsz]; exact hplan
  have inv0 : HeadInv .any l.toArray n (Array.replicate l.toArray.size false) :=
    ⟨by simp, fun j oj _ hl => (by rw [getD_replicate_false] at hl; cases hl), fun t _ ht => getD_in (by simpa using ht) (getD_replicate_false _ _)⟩
  have hjn : ∀ i, i < n → ∀ listed, HeadInv .any l.toArray n listed → listed.getD i true = false → ∀ j ∈ Region.ready .any l.toArray listed, j < n := fun i hi listed inv hun j hj => by
    by_cases hlt : n < l.length
    · rw [if_pos hlt] at htail
      simp only [Bool.and_eq_true] at htail
      rcases Nat.lt_or_ge j n with h1 | h1
      · exact h1
      · exact absurd hj (tail_waits htail.1 htail.2 (by rw [hsz]; exact hlt) inv _ i rfl hi hun j h1)
    · obtain ⟨_, oj, hoj, _⟩ := mem_ready.1 hj
      have := (Array.getElem?_eq_some_iff.1 hoj).1
      rw [hsz] at this; omega
  have hdone : ∀ listed, planB .any l.toArray n (l.length - n) [] listed = true → ∀ j ∈ Region.ready .any l.toArray listed, n ≤ j := fun listed hp j hj => by
    simp only [planB] at hp
    split at hp
    · exact seqB_ready hp j hj
    · simp only [List.isEmpty_iff] at hp
      rw [hp] at hj; cases hj
  have hEL := (wpML_of_tree (P := P) (g := l.length - n) hsel hjn hdone t n _ a w.drew hdeep hwi inv0 h).1 hplan'
  refine wp_region_any hm ?_
  have := wpAny_of_ML (Q := Q) (g := l.length - n) (fun listed a' w' hL => by
    obtain ⟨hp, hq⟩ := hL
    by_cases hlt : n < l.length
    · simp only [planB, hsz, if_pos hlt] at hp
      have := wpAny_of_seq (md := .any) (Q' := Q) (l.drop n) n listed a' w' (fun j => by simp [List.getElem?_drop]) (by rw [List.length_drop]; exact hp) hq
      rwa [List.length_drop] at this
    · simp only [planB, hsz, if_neg hlt, List.isEmpty_iff] at hp
      have hnl : n = l.length := by omega
      subst hnl
      rw [List.drop_length] at hq
      rw [Nat.sub_self]
      exact ⟨hp, hq⟩) _ _ _ _ hEL
  rw [show n + (l.length - n) = l.toArray.size by rw [hsz]; omega] at this
  exact this

/-! ### The steps of the walk -/
section
variable {Lq : Act → World → Prop} {r : TO} {a : Act} {w : World} {o : Oper}
theorem wpM_nil (h : ∀ W, Ext w W → Lq a W) : wpM S P ops Lq .nil a w := h
theorem wpM_alt {t u : TO} (ht : wpM S P ops Lq t a w) (hu : wpM S P ops Lq u a w) : wpM S P ops Lq (.alt t u) a w := ⟨⟨ht⟩, ⟨hu⟩⟩
theorem wpM_valK (hw : Region.wanted o (yielded ops a.tmps) = true) (h : ∀ K : Act → Prop, (∀ a, wpM S P ops Lq r a w → K a) → ∃ v, (∀ W, But S w W → (execOp a.eval o).run P W = .ok (.value v) W) ∧ K (a.put o.dst v)) : wpM S P ops Lq (.q o r) a w := by
 obtain ⟨v, hv, h2⟩ := h _ fun _ h => h
 simp only [wpM, hw, if_true]
 exact ⟨v, fun W hW => by rw [hv W hW]; exact ⟨rfl, rfl⟩, ⟨h2⟩⟩
theorem wpM_callK (v : Value) (f : FuncId) (args : Array Value) (hw : Region.wanted o (yielded ops a.tmps) = true) (hv : ∀ W, (execOp a.eval o).run P W = .ok (.enter f args) W)
    (hc : ∀ W, But S w W → Calls P f args W fun e w2 => e = .returned v ∧ Ext W w2) (h : ∀ K : Act → Prop, (∀ a, wpM S P ops Lq r a w → K a) → K (a.put o.dst v)) : wpM S P ops Lq (.q o r) a w := by
  simp only [wpM, hw, if_true]
  exact ⟨v, fun W hW => by rw [hv W]; exact ⟨rfl, hc W hW⟩, ⟨h _ fun _ h => h⟩⟩
theorem wpM_buildK (hw : Region.wanted o (yielded ops a.tmps) = true) (h : ∀ W, Ext w W → ∃ v w', ((execOp a.eval o).run P W = .ok (.value v) w' ∧ Ext W w') ∧ (∀ K : Act → Prop, (∀ a, wpM S P ops Lq r a w' → K a) → K (a.put o.dst v))) : wpM S P ops Lq (.l o r) a w := by
 intro W hW
 obtain ⟨v, w', h1, h3⟩ := h W hW
 simp only [hw, if_true, Oper.wp, h1.1, Oper.upon]
 exact ⟨But.of_ext h1.2, h3 _ fun _ h => h⟩
/-- an operation that yields nothing and turns memory, in blocks of S alone (a store) -/
theorem wpM_storeK (hw : Region.wanted o (yielded ops a.tmps) = true) (h : ∀ W, Ext w W → ∃ w', ((execOp a.eval o).run P W = .ok .skip w' ∧ But S W w') ∧ (∀ K : Act → Prop, (∀ a, wpM S P ops Lq r a w' → K a) → K (a.put o.dst undef))) : wpM S P ops Lq (.l o r) a w := by
 intro W hW
 obtain ⟨w', h1, h3⟩ := h W hW
 simp only [hw, if_true, Oper.wp, h1.1, Oper.upon]
 exact ⟨h1.2, h3 _ fun _ h => h⟩
end
end
end Go.Proofs.YtedokpgkjcnoiaaGreat
