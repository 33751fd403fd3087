/- Contract of block.Ops. Regions that draw: a call that turns memory in blocks of S; appends at the operation, for elements of any size. Rows of texts that a call owns; contract of block.readOp. Contract of block.readOp. -/
import Derived.Deep.MidRow
import Derived.Test.YtgcbodpjidoanaaQ1
import Derived.Test.YtgcbodpjidoanaaQ5
import Derived.Test.YtgcbodpjidoanaaQ19
set_option linter.unusedVariables false
set_option linter.unusedSimpArgs false
namespace Go.Proofs.Ytgcbodpjidoanaa
open Go.RowKit
/-- where the parts of a change lie -/
abbrev OpP := Option Addr × Nat × Option Addr × Nat
def opC (o : OpD) (p : OpP) : List Value := opV o.kind o.table p.1 o.cols.length p.2.1 p.2.2.1 o.row.length p.2.2.2
structure OpMem (w : World) (B : Nat) (o : OpD) (p : OpP) : Prop where
  cols : Arr w B p.1 o.cols.length (strs o.cols)
  row : Arr w B p.2.2.1 o.row.length (i64s o.row)
  cap : o.cols.length ≤ p.2.1
structure OpOk (o : OpD) : Prop where
  kind : o.kind < 256
  table : o.table.size ≤ 1048576
  col : ∀ i, (o.cols.getD i default).size ≤ 1048576
  cols : o.cols.length ≤ 1000
  row : o.row.length ≤ 1000
  num : IsI o.row
theorem OpMem.below {w w' : World} {B : Nat} {o : OpD} {p : OpP} (h : OpMem w B o p) (hb : Below B w w') : OpMem w' B o p := ⟨h.cols.below hb, h.row.below hb, h.cap⟩
theorem OpMem.more {w : World} {B B' : Nat} {o : OpD} {p : OpP} (h : OpMem w B o p) (hB : B ≤ B') : OpMem w B' o p := ⟨h.cols.more hB, h.row.more hB, h.cap⟩
/-- a slice of changes -/
def OpsL (w : World) (B : Nat) (A : Option Addr) (l : List OpD) (ps : Nat → OpP) : Prop :=
  ArrC w B A l.length 4 (fun i => opC (l.getD i default) (ps i)) ∧ ∀ i, i < l.length → OpMem w B (l.getD i default) (ps i) ∧ OpOk (l.getD i default)
section
variable {w w' : World} {B B' : Nat} {A : Option Addr} {l : List OpD} {ps : Nat → OpP}
theorem OpsL.below (h : OpsL w B A l ps) (hb : Below B w w') : OpsL w' B A l ps := ⟨h.1.below hb, fun i hi => ⟨(h.2 i hi).1.below hb, (h.2 i hi).2⟩⟩
theorem OpsL.more (h : OpsL w B A l ps) (hB : B ≤ B') : OpsL w B' A l ps := ⟨h.1.more hB, fun i hi => ⟨(h.2 i hi).1.more hB, (h.2 i hi).2⟩⟩
theorem OpsL.after (h : OpsL w w.heap.size A l ps) (hb : Below w.heap.size w w') : OpsL w' w'.heap.size A l ps := (h.below hb).more hb.size
end
theorem Wr.new (w : World) : Wr (w.alloc (.cells #[.slice none 0 0, .int .i64 0] 168)) (fun b => b = w.heap.size) w.heap.size [] 0 :=
  ⟨none, 0, Two.new w _ _ _, OwnB.nil _ _, fun i => by simp, rfl, (fun b off s h => by cases h), (fun b hb => by subst hb; exact ⟨Nat.le_refl _, by simp⟩)⟩
theorem isB_flat : ∀ (L : List (List Nat)), (∀ x ∈ L, IsB x) → IsB L.flatten
  | [], _ => fun i => by simp
  | x :: L, h => by
    rw [List.flatten_cons]
    exact isB_append (h x (by simp)) (isB_flat L fun y hy => h y (by simp [hy]))
theorem isB_rowB (r : List Int) (h : r.length < 256) : IsB (rowB r) := by
  refine isB_append (isB_one h) (isB_flat _ fun x hx => ?_)
  obtain ⟨n, _, rfl⟩ := List.mem_map.1 hx
  exact isB_be8 _
end Go.Proofs.Ytgcbodpjidoanaa
namespace Go.Proofs.Ytgcbodpjidoanaa
open Go.RowKit
section
variable {P : Program} {ops : Array Oper} {S : Nat → Prop} {Lq : Act → World → Prop} {r : TO} {a : Act} {w : World} {o : Oper}
/-- a loud call that turns memory in blocks of S alone -/
theorem wpM_loudS (f : FuncId) (args : Array Value) (hw : Region.wanted o (yielded ops a.tmps) = true) (hv : ∀ W, (execOp a.eval o).run P W = .ok (.enter f args) W)
    (hc : ∀ W, Ext w W → Calls P f args W fun e w2 => ∃ v, e = .returned v ∧ But S W w2 ∧ (∀ K : Act → Prop, (∀ a, wpM S P ops Lq r a w2 → K a) → K (a.put o.dst v))) : wpM S P ops Lq (.l o r) a w := by
  intro W hW
  simp only [hw, if_true, Oper.wp, hv W, Oper.upon]
  exact (hc W hW).mono fun e w2 ⟨v, he, hx, hp⟩ => by subst he; exact ⟨hx, hp _ fun _ h => h⟩
end
section
variable {P : Program}
/-- 'append(v, x..)': the elements' cells lie in a row anywhere -/
theorem exec_append_rng {o : Oper} {a : Act} {w : World} (s x : Operand) (t : TypeId) (ho : o.op = .call { callee := .builtin .append, args := #[s, x], argTypes := #[t, t] })
    (base : Nat) (e : TypeId) (i : TypeInfo) (z : Value) (size bytes : Nat) (ht : P.underlying t = some (.slice e)) (hi : P.info? e = some i) (hz : i.zero = some z)
    (hsize : i.size = size) (hby : i.bytes = bytes) (hzs : z.cells.size = size) (hsz : 0 < size)
    (v : Value) (n : Nat) (xs : List Value) (hs : a.eval s = v) (hown : w.ownsRow base e size v n xs) (b off cap m : Nat) (cs : List Value) (hx : a.eval x = .slice (some ⟨b, off, none⟩) m cap)
    (hm : cs.length = m * size) (hr : w.rangeAt b off cs) (h1 : ∀ u ∈ cs, u.oneCell' = true) (hm0 : 0 < m)
    (h63 : n + m ≤ maxLen) (hbytes : (n + m) * bytes ≤ 140737488355328) (hbase : base ≤ w.heap.size) :
    ∃ g c w', (execOp a.eval o).run P w = .ok (.value (.slice (some ⟨g, 0, none⟩) (n + m) c)) w' ∧
      w'.ownsRow base e size (.slice (some ⟨g, 0, none⟩) (n + m) c) (n + m) (xs ++ cs) ∧ w.grownBy w' v.ownBlock ∧ (v.ownBlock = some g ∨ w.heap.size = g) := by
  obtain ⟨v', w', hrun, h2, h3, _, h5⟩ := run_append_own_at (P := P) w base t o.type e i z size bytes ht hi hz hsize hby hzs hsz v n xs hown ⟨b, off, none⟩ m cap cs hm
    (fun j u hu => by rw [Addr.add_mid]; exact hr j u hu) h1 h63 hbytes hbase
  rcases h2.2 with ⟨hv, h0⟩ | ⟨g, cap', cur, hv, hb, hh, hcap, hmx, hs', ht'⟩
  · omega
  · subst hv
    refine ⟨g, cap', w', ?_, h2, h3, ?_⟩
    · unfold execOp
      simp only [ho, resolve, invoke, builtin, Sem.run_bind, Sem.run_pure, Result.andThen_ok, List.map_toArray, List.map_cons, List.map_nil, hs, hx, hrun]
    · rcases h5 with h5 | h5
      · left; rw [← h5]; rfl
      · right; simpa [Value.ownBlock] using h5.symm
end
end Go.Proofs.Ytgcbodpjidoanaa
namespace Go.Proofs.Ytgcbodpjidoanaa
open Go.RowKit
theorem ret_cells {fn : Func} {p : Tmp} {ty : TypeId} {a : Act} {w : World} {R : Ending → World → Prop} (h : fn.results = #[.cell p ty]) {g : Nat} {t : TypeId} {cs : List Value} {fs : Array Field}
    (hp : a.tmps.getD p undef = .pointer (some ⟨g, 0, none⟩)) (hg : Row w g t cs) (hu : Try.prog.underlying ty = some (.struct fs)) (hi : (Try.prog.info? ty).map (·.size) = some cs.length)
    (hd : a.defers = []) (hR : R (.returned (.agg cs.toArray)) w) : bodyPost Try.prog fn R .ret a w :=
  bodyPost_ret (results_cell_row h _ w g t cs.toArray (0, 0) _ hp hg hu rfl (by simpa using hi)) hd hR
theorem But.setNew {S : Nat → Prop} {w W : World} (b : But S w W) {p : Addr} (hp : w.heap.size ≤ p.block) (v : Value) : But S w (W.setCell p v) :=
  ⟨by simpa using b.size, fun k hk hn => (Below.heap_setCell _ _ _ _ (by omega)).trans (b.block k hk hn), b.os, b.tape, b.output⟩
theorem Rd.setNew {w : World} {g : Nat} {l : List Nat} {e : Int} (h : Rd w g l e) {p : Addr} (hp : g < p.block) (v : Value) : Rd (w.setCell p v) g l e := by
  have : Below (g + 1) w (w.setCell p v) := (Below.refl _ _).setCell (p := p) (by omega) v
  exact h.below this (by omega)
/-- a row of texts that the call owns -/
def OwnS (w : World) (base : Nat) (A : Option Addr) (c : Nat) (l : List ByteArray) : Prop := w.ownsRow base 9 1 (.slice A l.length c) l.length (l.map Value.string)
section
variable {w W : World} {base c : Nat} {A : Option Addr} {l : List ByteArray} {S : Nat → Prop}
theorem OwnS.nil (w : World) (base : Nat) : OwnS w base none 0 [] := World.ownsRow_nil w base _ _
theorem OwnS.ext (h : OwnS w base A c l) (hW : Ext w W) : OwnS W base A c l := ownsRow_ext h hW
theorem OwnS.but (h : OwnS w base A c l) (b : But S w W) (hS : ∀ k, base ≤ k → ¬ S k) : OwnS W base A c l := by
  refine ⟨h.1, h.2.imp id ?_⟩
  rintro ⟨g, cap, cur, hv, hg, hh, r⟩
  exact ⟨g, cap, cur, hv, hg, (b.block g (Array.getElem?_eq_some_iff.1 hh).1 (hS g hg)).trans hh, r⟩
theorem OwnS.arrN (h : OwnS w base A c l) (hS : ∀ b, S b → b < base) : ArrN S w A l.length (strs l) := fun hn => by
  rcases h.2 with ⟨he, h0⟩ | ⟨r, cap, cur, hv, hb, hh, hcap, hm, hs, ht⟩
  · omega
  · injection hv with hA _ _
    subst hA
    refine ⟨r, 0, rfl, (Array.getElem?_eq_some_iff.1 hh).1, fun hs => by have := hS r hs; omega, fun i hi => ?_⟩
    rw [Nat.zero_add, cell_of_row w r i cur 9 (0, 0) hh]
    have h1 : (l.map Value.string)[i]? = some (.string (l.getD i default)) := by
      rw [List.getElem?_map, List.getElem?_eq_getElem hi]; simp [List.getD, List.getElem?_eq_getElem hi]
    rw [← ht, List.getElem?_take, if_pos (by omega)] at h1
    unfold strs
    simpa using h1
theorem OwnS.cap (h : OwnS w base A c l) : l.length ≤ c := by
  rcases h.2 with ⟨hv, h0⟩ | ⟨r, cap, cur, hv, hb, hh, hcap, hm, hs, ht⟩
  · injection hv with _ h1 h2; omega
  · injection hv with _ _ h2; omega
theorem OwnS.block (h : OwnS w base A c l) {b off : Nat} {s : _} (hA : A = some ⟨b, off, s⟩) : base ≤ b ∧ b < w.heap.size := by
  rcases h.2 with ⟨hv, _⟩ | ⟨g, cap, cur, hv, hg, hh, _⟩
  · injection hv with h1 _ _; rw [hA] at h1; cases h1
  · injection hv with h1 _ _
    rw [hA] at h1
    injection h1 with h1
    injection h1 with h1 _ _
    rw [h1]
    exact ⟨hg, (Array.getElem?_eq_some_iff.1 hh).1⟩
end
theorem OwnI.arrN {w : World} {base c : Nat} {A : Option Addr} {l : List Int} {S : Nat → Prop} (h : OwnI w base A c l) (hS : ∀ b, S b → b < base) : ArrN S w A l.length (i64s l) := fun hn => by
  rcases h.2 with ⟨he, h0⟩ | ⟨r, cap, cur, hv, hb, hh, hcap, hm, hs, ht⟩
  · omega
  · injection hv with hA _ _
    subst hA
    refine ⟨r, 0, rfl, (Array.getElem?_eq_some_iff.1 hh).1, fun hs => by have := hS r hs; omega, fun i hi => ?_⟩
    rw [Nat.zero_add, cell_of_row w r i cur 2 (0, 0) hh]
    have h1 : (l.map (Value.int .i64))[i]? = some (i64s l i) := by
      unfold i64s
      rw [List.getElem?_map, List.getElem?_eq_getElem hi]; simp [List.getD, List.getElem?_eq_getElem hi]
    rw [← ht, List.getElem?_take, if_pos (by omega)] at h1
    simpa using h1
end Go.Proofs.Ytgcbodpjidoanaa
namespace Go.Proofs.Ytgcbodpjidoanaa
open Go.RowKit
/-- the parts of a change lie in blocks that are none of S's -/
structure OpMemN (S : Nat → Prop) (w : World) (o : OpD) (p : OpP) : Prop where
  cols : ArrN S w p.1 o.cols.length (strs o.cols)
  row : ArrN S w p.2.2.1 o.row.length (i64s o.row)
  cap : o.cols.length ≤ p.2.1
theorem ArrN.mono {S S' : Nat → Prop} {w : World} {A : Option Addr} {n : Nat} {f : Nat → Value} (h : ArrN S w A n f) (hS : ∀ b, S' b → S b) : ArrN S' w A n f := fun hn => by
  obtain ⟨b, off, e, hb, hs, hc⟩ := h hn
  exact ⟨b, off, e, hb, fun h => hs (hS b h), hc⟩
theorem ArrN.block {S : Nat → Prop} {w W : World} {A : Option Addr} {n : Nat} {f : Nat → Value} (h : ArrN S w A n f) (b : But S w W) : ArrN S W A n f := fun hn => by
  obtain ⟨k, off, e, hk, hs, hc⟩ := h hn
  exact ⟨k, off, e, Nat.lt_of_lt_of_le hk b.size, hs, fun i hi => b.cell (hc i hi) hs⟩
theorem But.mono {S S' : Nat → Prop} {w W : World} (b : But S w W) (h : ∀ k, S k → S' k) : But S' w W := ⟨b.size, fun k hk hn => b.block k hk fun hs => hn (h k hs), b.os, b.tape, b.output⟩
theorem ArrN.none_ {S : Nat → Prop} {w : World} {A : Option Addr} {f : Nat → Value} : ArrN S w A 0 f := fun h => absurd h (by omega)
theorem But.then_new {S : Nat → Prop} {w w1 w2 : World} {B : Nat} (b : But S w w1) (h : Below B w1 w2) (hB : w.heap.size ≤ B) : But S w w2 :=
  ⟨Nat.le_trans b.size h.size, fun k hk hn => (h.block k (Nat.lt_of_lt_of_le hk hB)).trans (b.block k hk hn), h.os.trans b.os, h.tape.trans b.tape, h.output.trans b.output⟩
theorem row_but2 {S : Nat → Prop} {w w' : World} {k : Nat} {t : TypeId} {cs : List Value} (b : But S w w') (h : Row w k t cs) (hk : ¬ S k) : Row w' k t cs := (b.block k (Row.lt h) hk).trans h
theorem Rd.but {w W : World} {g : Nat} {l : List Nat} {e : Int} (h : Rd w g l e) {r : Nat} (hr : g < r) (b : But (fun k => k = r) w W) : Rd W g l e :=
  h.below (B := g + 1) ⟨b.os, b.tape, b.output, b.size, fun k hk => b.block k (by have := h.lt; omega) (by omega)⟩ (by omega)
/-- behind i columns that were read -/
def ReadTo (g h r0 : Nat) (w v2 : World) (l3 : List Nat) (e3 : Int) (T : ByteArray) (wr : World) (i : Nat) : Prop :=
  ∃ A c, Row wr h 132 (opV 1 T A i c none 0 0) ∧ OwnS wr v2.heap.size A c (rTexts i l3 e3).1 ∧ Rd wr g (rTexts i l3 e3).2.1 (rTexts i l3 e3).2.2 ∧ But (fun b => b = g) w wr ∧ Row wr r0 132 (opV 0 (⟨#[]⟩ : ByteArray) none 0 0 none 0 0) ∧ v2.heap.size ≤ wr.heap.size
/-- what a reader of a change answers -/
def OpGot (w : World) (g : Nat) (q : OpD × List Nat × Int) (e' : Ending) (w' : World) : Prop :=
  ∃ p : OpP, e' = .returned (.agg (opC q.1 p).toArray) ∧ OpMemN (fun b => b < w.heap.size) w' q.1 p ∧ But (fun b => b = g) w w' ∧ Rd w' g q.2.1 q.2.2
end Go.Proofs.Ytgcbodpjidoanaa
