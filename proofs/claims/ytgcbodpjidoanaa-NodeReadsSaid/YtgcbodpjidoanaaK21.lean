/- Rows of structs in memory; slices.ContainsFunc of changes; a text's bytes as a slice. Contracts of block.op and of the closure in block.Ops. Contract of block.Ops. Regions that draw: a call that turns memory in blocks of S; appends at the operation, for elements of any size. Rows of texts that a call owns; contract of block.readOp. Contract of block.readOp. -/
import Derived.Lib.ConvBytes
import Derived.Deep.DeepCutAuto
import Derived.Deep.MidRow
import Derived.Test.YtgcbodpjidoanaaK1
import Derived.Test.YtgcbodpjidoanaaK5
import Derived.Test.YtgcbodpjidoanaaK20
set_option linter.unusedVariables false
set_option linter.unusedSimpArgs false
namespace Go.Proofs.Ytgcbodpjidoanaa
open Go.RowKit

theorem enter_fn {f : FuncId} {fn : Func} (hf : Try.prog.funcs[f]? = some fn) (hn : (fn.name == "runtime.NumGoroutine") = false) (hb : fn.body.isNone = false) (args : Array Value) (w : World) : (callFunc f args).run Try.prog w = .ok (.enter f args) w := by
  have h1 : (fn.name = "runtime.NumGoroutine") = False := by simpa using hn
  simp [callFunc, hf, h1, hb, program, Sem.run]
  intro h; simp [h] at hb
/-- n structs of s cells each, cs i, lie at A, below block B -/
def ArrC (w : World) (B : Nat) (A : Option Addr) (n s : Nat) (cs : Nat → List Value) : Prop :=
  0 < n → ∃ b off, A = some ⟨b, off, none⟩ ∧ b < B ∧ ∀ i, i < n → w.rangeAt b (off + i * s) (cs i)
section
variable {w w' : World} {B B' n s : Nat} {A : Option Addr} {cs ds : Nat → List Value}
theorem ArrC.below (h : ArrC w B A n s cs) (hb : Below B w w') : ArrC w' B A n s cs := fun hn => by
  obtain ⟨b, off, e, hB, hc⟩ := h hn
  exact ⟨b, off, e, hB, fun i hi j v hv => (hb.cell (p := ⟨b, off + i * s + j, none⟩) hB).trans (hc i hi j v hv)⟩
theorem ArrC.more (h : ArrC w B A n s cs) (hB : B ≤ B') : ArrC w B' A n s cs := fun hn => by
  obtain ⟨b, off, e, hb, hc⟩ := h hn
  exact ⟨b, off, e, by omega, hc⟩
theorem ArrC.after (h : ArrC w w.heap.size A n s cs) (hb : Below w.heap.size w w') : ArrC w' w'.heap.size A n s cs := (h.below hb).more hb.size
theorem ArrC.congr (h : ArrC w B A n s cs) (e : ∀ i, i < n → cs i = ds i) : ArrC w B A n s ds := fun hn => by
  obtain ⟨b, off, ea, hb, hc⟩ := h hn
  exact ⟨b, off, ea, hb, fun i hi => by rw [← e i hi]; exact hc i hi⟩
theorem ArrC.none_ : ArrC w B A 0 s cs := fun h => absurd h (by omega)
end
theorem cells_after {w w' : World} {b o : Nat} {cs : List Value} (h : w.rangeAt b o cs) (hb : Below w.heap.size w w') (hB : b < w.heap.size) : w'.rangeAt b o cs := fun j v hv => (hb.cell (p := ⟨b, o + j, none⟩) hB).trans (h j v hv)
def anyTo (p : Nat → Bool) (k : Nat) : Bool := (List.range k).any p
theorem anyTo_succ (p : Nat → Bool) (k : Nat) : anyTo p (k + 1) = (anyTo p k || p k) := by simp [anyTo, List.range_succ, List.any_append]
theorem anyTo_true {p : Nat → Bool} {k n : Nat} (hk : k < n) (h : p k = true) : anyTo p n = true := List.any_eq_true.2 ⟨k, List.mem_range.2 hk, h⟩
/-- '[]byte(s)' -/
theorem conv_sb (w : World) (s : ByteArray) : ∃ W c, (convert 9 22 (.string s)).run Try.prog w = .ok (.slice (some ⟨w.heap.size, 0, none⟩) s.size c) W ∧ Below w.heap.size w W ∧ W.heap.size = w.heap.size + 1 ∧ Arr W W.heap.size (some ⟨w.heap.size, 0, none⟩) s.size (u8s (nb s)) := by
  refine ⟨_, _, Lib.run_convert_string_bytes w 9 22 5 s Try.underlying9 Try.underlying22 Try.underlying5, ⟨rfl, rfl, rfl, by rw [Lib.bytesWorld_size]; omega, fun k hk => Lib.bytesWorld_at_old w _ s k hk⟩, Lib.bytesWorld_size _ _ _, fun _ => ⟨w.heap.size, 0, rfl, by rw [Lib.bytesWorld_size]; omega, fun i hi => ?_⟩⟩
  rw [Nat.zero_add, Lib.bytesWorld_cell w _ s i hi]
  unfold u8s nb List.getD
  rw [List.getElem?_map, List.getElem?_eq_getElem (by simpa using hi)]
  rfl
theorem wpList_conv_sb {ops : Array Oper} {rest : List Oper} {o : Oper} {a : Act} {w : World} {Q : Exit → Act → World → Prop} (hgd : o.guard = none) (x : Operand) (ho : o.op = .convert 9 22 x) (s : ByteArray) (hx : a.eval x = .string s)
    (h : ∀ W c, Below w.heap.size w W → W.heap.size = w.heap.size + 1 → Arr W W.heap.size (some ⟨w.heap.size, 0, none⟩) s.size (u8s (nb s)) → wpList Try.prog ops Q rest (a.put o.dst (.slice (some ⟨w.heap.size, 0, none⟩) s.size c)) W) : wpList Try.prog ops Q (o :: rest) a w := by
  obtain ⟨W, c, hrun, h1, h2, h3⟩ := conv_sb w s
  refine wpList_plain hgd fun K hK => ?_
  unfold Oper.wp execOp
  simp only [ho, hx, Sem.run_bind, Sem.run_pure, Result.andThen_ok, hrun]
  exact hK _ _ (h W c h1 h2 h3)
end Go.Proofs.Ytgcbodpjidoanaa
namespace Go.Proofs.Ytgcbodpjidoanaa
open Go.RowKit
theorem textB_len (x : ByteArray) : (textB (nb x)).length = 3 + x.size := by
  unfold textB; rw [List.length_append, nb_len]; rfl
theorem texts_len_gen (L : List ByteArray) (M : Nat) (hs : ∀ i, (L.getD i default).size ≤ M) (k : Nat) : (textsB (L.take k)).length ≤ k * (M + 3) := by
  induction k with
  | zero => simp [textsB]
  | succ k ih =>
    by_cases hk : k < L.length
    · rw [textsB_succ L k hk, List.length_append, textB_len, Nat.succ_mul]
      have := hs k
      omega
    · rw [List.take_of_length_le (by omega)]
      rw [List.take_of_length_le (by omega)] at ih
      exact Nat.le_trans ih (Nat.mul_le_mul_right _ (by omega))
theorem texts_len_le (L : List ByteArray) (hs : ∀ i, (L.getD i default).size ≤ 1048576) (k : Nat) : (textsB (L.take k)).length ≤ k * 1048579 := texts_len_gen L 1048576 hs k
theorem Row.mv {S S1 : Nat → Prop} {w w1 : World} {g : Nat} {t : TypeId} {cs : List Value} (h : Row w g t cs) (m : Mv S w S1 w1) (hn : ¬ S g) : Row w1 g t cs := (m.but.block g (Row.lt h) hn).trans h
end Go.Proofs.Ytgcbodpjidoanaa
namespace Go.Proofs.Ytgcbodpjidoanaa
open Go.RowKit
/-- where the parts of a change lie -/
abbrev OpP := Option Addr × Nat × Option Addr × Nat
def opC (o : OpD) (p : OpP) : List Value := opV o.kind o.table p.1 o.cols.length p.2.1 p.2.2.1 o.row.length p.2.2.2
structure OpMem (w : World) (B : Nat) (o : OpD) (p : OpP) : Prop where
  cols : Arr w B p.1 o.cols.length (strs o.cols)
  row : Arr w B p.2.2.1 o.row.length (i64s o.row)
  cap : o.cols.length ≤ p.2.1
structure OpOk (o : OpD) : Prop where
  kind : o.kind < 256
  table : o.table.size ≤ 1048576
  col : ∀ i, (o.cols.getD i default).size ≤ 1048576
  cols : o.cols.length ≤ 1000
  row : o.row.length ≤ 1000
  num : IsI o.row
theorem OpMem.below {w w' : World} {B : Nat} {o : OpD} {p : OpP} (h : OpMem w B o p) (hb : Below B w w') : OpMem w' B o p := ⟨h.cols.below hb, h.row.below hb, h.cap⟩
theorem OpMem.more {w : World} {B B' : Nat} {o : OpD} {p : OpP} (h : OpMem w B o p) (hB : B ≤ B') : OpMem w B' o p := ⟨h.cols.more hB, h.row.more hB, h.cap⟩
/-- a slice of changes -/
def OpsL (w : World) (B : Nat) (A : Option Addr) (l : List OpD) (ps : Nat → OpP) : Prop :=
  ArrC w B A l.length 4 (fun i => opC (l.getD i default) (ps i)) ∧ ∀ i, i < l.length → OpMem w B (l.getD i default) (ps i) ∧ OpOk (l.getD i default)
section
variable {w w' : World} {B B' : Nat} {A : Option Addr} {l : List OpD} {ps : Nat → OpP}
theorem OpsL.below (h : OpsL w B A l ps) (hb : Below B w w') : OpsL w' B A l ps := ⟨h.1.below hb, fun i hi => ⟨(h.2 i hi).1.below hb, (h.2 i hi).2⟩⟩
theorem OpsL.more (h : OpsL w B A l ps) (hB : B ≤ B') : OpsL w B' A l ps := ⟨h.1.more hB, fun i hi => ⟨(h.2 i hi).1.more hB, (h.2 i hi).2⟩⟩
theorem OpsL.after (h : OpsL w w.heap.size A l ps) (hb : Below w.heap.size w w') : OpsL w' w'.heap.size A l ps := (h.below hb).more hb.size
end
theorem Wr.new (w : World) : Wr (w.alloc (.cells #[.slice none 0 0, .int .i64 0] 168)) (fun b => b = w.heap.size) w.heap.size [] 0 :=
  ⟨none, 0, Two.new w _ _ _, OwnB.nil _ _, fun i => by simp, rfl, (fun b off s h => by cases h), (fun b hb => by subst hb; exact ⟨Nat.le_refl _, by simp⟩)⟩
theorem opB_len {o : OpD} (h : OpOk o) : (opB o).length ≤ 2000000000 := by
  have h1 := texts_len_le o.cols h.col o.cols.length
  rw [List.take_length] at h1
  have h2 := h.table
  have h3 := h.cols
  have h4 := h.row
  have e1 : (if o.kind = 1 then [o.cols.length] ++ textsB o.cols else []).length ≤ 1 + (textsB o.cols).length := by
    split
    · simp; omega
    · simp
  have e2 : (if o.kind = 3 ∨ o.kind = 4 then rowB o.row else []).length ≤ 1 + 8 * o.row.length := by
    split
    · unfold rowB; rw [List.length_append, rows_len]; exact Nat.le_refl _
    · simp
  unfold opB
  rw [List.length_append, List.length_append, List.length_append, textB_len]
  have : ([o.kind] : List Nat).length = 1 := rfl
  omega
theorem ops_len {l : List OpD} (h : ∀ i, i < l.length → OpOk (l.getD i default)) : ∀ k, k ≤ l.length → (((l.take k).map opB).flatten).length ≤ k * 2000000000 := by
  intro k hk
  induction k with
  | zero => simp
  | succ k ih =>
    rw [opsB_succ l k (by omega), List.length_append, Nat.succ_mul]
    have := opB_len (h k (by omega))
    have := ih (by omega)
    omega
theorem isB_flat : ∀ (L : List (List Nat)), (∀ x ∈ L, IsB x) → IsB L.flatten
  | [], _ => fun i => by simp
  | x :: L, h => by
    rw [List.flatten_cons]
    exact isB_append (h x (by simp)) (isB_flat L fun y hy => h y (by simp [hy]))
theorem isB_textB (t : List Nat) (h : IsB t) : IsB (textB t) := isB_append (isB_be3 _) h
theorem isB_textsB (L : List ByteArray) : IsB (textsB L) := by
  refine isB_flat _ fun x hx => ?_
  obtain ⟨s, _, rfl⟩ := List.mem_map.1 hx
  exact isB_textB _ (isB_nb s)
theorem isB_rowB (r : List Int) (h : r.length < 256) : IsB (rowB r) := by
  refine isB_append (isB_one h) (isB_flat _ fun x hx => ?_)
  obtain ⟨n, _, rfl⟩ := List.mem_map.1 hx
  exact isB_be8 _
theorem oprB_facts {o : OpD} (h : oprB o = true) : o.kind < 5 ∧ (nb o.table).length ≤ 16 ∧ o.cols.length ≤ 7 ∧ o.row.length ≤ 8 ∧ ∀ s ∈ o.cols, s.size ≤ 16 := by
  unfold oprB at h
  simp only [Bool.and_eq_true] at h
  obtain ⟨h1, h2⟩ := h
  have h16 := nameB_len h1
  split at h2
  · simp only [Bool.and_eq_true, decide_eq_true_eq] at h2
    have := colsB_len h2.1
    exact ⟨by omega, h16, this.1, by omega, this.2⟩
  · have nil_ : o.cols.length = 0 → ∀ s ∈ o.cols, s.size ≤ 16 := fun h0 s hs => by
      rw [List.eq_nil_of_length_eq_zero h0] at hs; cases hs
    split at h2
    · simp only [Bool.and_eq_true, decide_eq_true_eq] at h2
      exact ⟨by omega, h16, by omega, by omega, nil_ h2.1⟩
    · split at h2
      · simp only [Bool.and_eq_true, decide_eq_true_eq] at h2
        exact ⟨by omega, h16, by omega, by omega, nil_ h2.1⟩
      · cases h2
theorem isB_opB {o : OpD} (h : oprB o = true) : IsB (opB o) := by
  obtain ⟨h1, _, h3, h4, _⟩ := oprB_facts h
  unfold opB
  refine isB_append (isB_append (isB_append (isB_one (by omega)) (isB_textB _ (isB_nb _))) ?_) ?_
  · split
    · exact isB_append (isB_one (by omega)) (isB_textsB _)
    · exact fun i => by simp
  · split
    · exact isB_rowB _ (by omega)
    · exact fun i => by simp
theorem isB_opsB {l : List OpD} (h : allB l = true) : IsB (opsB l) := by
  simp only [allB, Bool.and_eq_true, List.all_eq_true] at h
  refine isB_append (isB_be3 _) (isB_flat _ fun x hx => ?_)
  obtain ⟨o, ho, rfl⟩ := List.mem_map.1 hx
  exact isB_opB (h.1 o ho)
theorem anyTo_all (l : List OpD) : anyTo (fun i => !oprB (l.getD i default)) l.length = !(l.all oprB) := by
  have h : ∀ k, k ≤ l.length → anyTo (fun i => !oprB (l.getD i default)) k = !((l.take k).all oprB) := by
    intro k
    induction k with
    | zero => intro _; rfl
    | succ k ih =>
      intro hk
      rw [anyTo_succ, ih (by omega), List.take_add_one, List.all_append, List.getElem?_eq_getElem (by omega)]
      simp [List.getD, List.getElem?_eq_getElem (show k < l.length by omega), Bool.not_and]
  rw [h l.length (Nat.le_refl _), List.take_length]
end Go.Proofs.Ytgcbodpjidoanaa
namespace Go.Proofs.Ytgcbodpjidoanaa
open Go.RowKit
section
variable {P : Program} {ops : Array Oper} {S : Nat → Prop} {Lq : Act → World → Prop} {r : TO} {a : Act} {w : World} {o : Oper}
/-- a loud call that turns memory in blocks of S alone -/
theorem wpM_loudS (f : FuncId) (args : Array Value) (hw : Region.wanted o (yielded ops a.tmps) = true) (hv : ∀ W, (execOp a.eval o).run P W = .ok (.enter f args) W)
    (hc : ∀ W, Ext w W → Calls P f args W fun e w2 => ∃ v, e = .returned v ∧ But S W w2 ∧ (∀ K : Act → Prop, (∀ a, wpM S P ops Lq r a w2 → K a) → K (a.put o.dst v))) : wpM S P ops Lq (.l o r) a w := by
  intro W hW
  simp only [hw, if_true, Oper.wp, hv W, Oper.upon]
  exact (hc W hW).mono fun e w2 ⟨v, he, hx, hp⟩ => by subst he; exact ⟨hx, hp _ fun _ h => h⟩
end
section
variable {P : Program}
/-- 'append(v, x..)': the elements' cells lie in a row anywhere -/
theorem exec_append_rng {o : Oper} {a : Act} {w : World} (s x : Operand) (t : TypeId) (ho : o.op = .call { callee := .builtin .append, args := #[s, x], argTypes := #[t, t] })
    (base : Nat) (e : TypeId) (i : TypeInfo) (z : Value) (size bytes : Nat) (ht : P.underlying t = some (.slice e)) (hi : P.info? e = some i) (hz : i.zero = some z)
    (hsize : i.size = size) (hby : i.bytes = bytes) (hzs : z.cells.size = size) (hsz : 0 < size)
    (v : Value) (n : Nat) (xs : List Value) (hs : a.eval s = v) (hown : w.ownsRow base e size v n xs) (b off cap m : Nat) (cs : List Value) (hx : a.eval x = .slice (some ⟨b, off, none⟩) m cap)
    (hm : cs.length = m * size) (hr : w.rangeAt b off cs) (h1 : ∀ u ∈ cs, u.oneCell' = true) (hm0 : 0 < m)
    (h63 : n + m ≤ maxLen) (hbytes : (n + m) * bytes ≤ 140737488355328) (hbase : base ≤ w.heap.size) :
    ∃ g c w', (execOp a.eval o).run P w = .ok (.value (.slice (some ⟨g, 0, none⟩) (n + m) c)) w' ∧
      w'.ownsRow base e size (.slice (some ⟨g, 0, none⟩) (n + m) c) (n + m) (xs ++ cs) ∧ w.grownBy w' v.ownBlock ∧ (v.ownBlock = some g ∨ w.heap.size = g) := by
  obtain ⟨v', w', hrun, h2, h3, _, h5⟩ := run_append_own_at (P := P) w base t o.type e i z size bytes ht hi hz hsize hby hzs hsz v n xs hown ⟨b, off, none⟩ m cap cs hm
    (fun j u hu => by rw [Addr.add_mid]; exact hr j u hu) h1 h63 hbytes hbase
  rcases h2.2 with ⟨hv, h0⟩ | ⟨g, cap', cur, hv, hb, hh, hcap, hmx, hs', ht'⟩
  · omega
  · subst hv
    refine ⟨g, cap', w', ?_, h2, h3, ?_⟩
    · unfold execOp
      simp only [ho, resolve, invoke, builtin, Sem.run_bind, Sem.run_pure, Result.andThen_ok, List.map_toArray, List.map_cons, List.map_nil, hs, hx, hrun]
    · rcases h5 with h5 | h5
      · left; rw [← h5]; rfl
      · right; simpa [Value.ownBlock] using h5.symm
theorem wpList_append_rng {ops : Array Oper} {rest : List Oper} {Q : Exit → Act → World → Prop} {o : Oper} {a : Act} {w : World} (hgd : o.guard = none) (s x : Operand) (t : TypeId) (ho : o.op = .call { callee := .builtin .append, args := #[s, x], argTypes := #[t, t] })
    (base : Nat) (e : TypeId) (i : TypeInfo) (z : Value) (size bytes : Nat) (ht : P.underlying t = some (.slice e)) (hi : P.info? e = some i) (hz : i.zero = some z)
    (hsize : i.size = size) (hby : i.bytes = bytes) (hzs : z.cells.size = size) (hsz : 0 < size)
    (v : Value) (n : Nat) (xs : List Value) (hs : a.eval s = v) (hown : w.ownsRow base e size v n xs) (b off cap m : Nat) (cs : List Value) (hx : a.eval x = .slice (some ⟨b, off, none⟩) m cap)
    (hm : cs.length = m * size) (hr : w.rangeAt b off cs) (h1 : ∀ u ∈ cs, u.oneCell' = true) (hm0 : 0 < m)
    (h63 : n + m ≤ maxLen) (hbytes : (n + m) * bytes ≤ 140737488355328) (hbase : base ≤ w.heap.size)
    (h : ∀ g c w', w'.ownsRow base e size (.slice (some ⟨g, 0, none⟩) (n + m) c) (n + m) (xs ++ cs) → w.grownBy w' v.ownBlock → (v.ownBlock = some g ∨ w.heap.size = g) → wpList P ops Q rest (a.put o.dst (.slice (some ⟨g, 0, none⟩) (n + m) c)) w') :
    wpList P ops Q (o :: rest) a w := by
  obtain ⟨g, c, w', hrun, h2, h3, h4⟩ := exec_append_rng s x t ho base e i z size bytes ht hi hz hsize hby hzs hsz v n xs hs hown b off cap m cs hx hm hr h1 hm0 h63 hbytes hbase
  refine wpList_plain hgd fun K hK => ?_
  unfold Oper.wp
  rw [hrun]
  exact hK _ _ (h g c w' h2 h3 h4)
end
end Go.Proofs.Ytgcbodpjidoanaa
namespace Go.Proofs.Ytgcbodpjidoanaa
open Go.RowKit
theorem ret_cells {fn : Func} {p : Tmp} {ty : TypeId} {a : Act} {w : World} {R : Ending → World → Prop} (h : fn.results = #[.cell p ty]) {g : Nat} {t : TypeId} {cs : List Value} {fs : Array Field}
    (hp : a.tmps.getD p undef = .pointer (some ⟨g, 0, none⟩)) (hg : Row w g t cs) (hu : Try.prog.underlying ty = some (.struct fs)) (hi : (Try.prog.info? ty).map (·.size) = some cs.length)
    (hd : a.defers = []) (hR : R (.returned (.agg cs.toArray)) w) : bodyPost Try.prog fn R .ret a w :=
  bodyPost_ret (results_cell_row h _ w g t cs.toArray (0, 0) _ hp hg hu rfl (by simpa using hi)) hd hR
theorem But.setNew {S : Nat → Prop} {w W : World} (b : But S w W) {p : Addr} (hp : w.heap.size ≤ p.block) (v : Value) : But S w (W.setCell p v) :=
  ⟨by simpa using b.size, fun k hk hn => (Below.heap_setCell _ _ _ _ (by omega)).trans (b.block k hk hn), b.os, b.tape, b.output⟩
theorem Rd.setNew {w : World} {g : Nat} {l : List Nat} {e : Int} (h : Rd w g l e) {p : Addr} (hp : g < p.block) (v : Value) : Rd (w.setCell p v) g l e := by
  have : Below (g + 1) w (w.setCell p v) := (Below.refl _ _).setCell (p := p) (by omega) v
  exact h.below this (by omega)
/-- a row of texts that the call owns -/
def OwnS (w : World) (base : Nat) (A : Option Addr) (c : Nat) (l : List ByteArray) : Prop := w.ownsRow base 9 1 (.slice A l.length c) l.length (l.map Value.string)
section
variable {w W : World} {base c : Nat} {A : Option Addr} {l : List ByteArray} {S : Nat → Prop}
theorem OwnS.nil (w : World) (base : Nat) : OwnS w base none 0 [] := World.ownsRow_nil w base _ _
theorem OwnS.ext (h : OwnS w base A c l) (hW : Ext w W) : OwnS W base A c l := ownsRow_ext h hW
theorem OwnS.but (h : OwnS w base A c l) (b : But S w W) (hS : ∀ k, base ≤ k → ¬ S k) : OwnS W base A c l := by
  refine ⟨h.1, h.2.imp id ?_⟩
  rintro ⟨g, cap, cur, hv, hg, hh, r⟩
  exact ⟨g, cap, cur, hv, hg, (b.block g (Array.getElem?_eq_some_iff.1 hh).1 (hS g hg)).trans hh, r⟩
theorem OwnS.arrN (h : OwnS w base A c l) (hS : ∀ b, S b → b < base) : ArrN S w A l.length (strs l) := fun hn => by
  rcases h.2 with ⟨he, h0⟩ | ⟨r, cap, cur, hv, hb, hh, hcap, hm, hs, ht⟩
  · omega
  · injection hv with hA _ _
    subst hA
    refine ⟨r, 0, rfl, (Array.getElem?_eq_some_iff.1 hh).1, fun hs => by have := hS r hs; omega, fun i hi => ?_⟩
    rw [Nat.zero_add, cell_of_row w r i cur 9 (0, 0) hh]
    have h1 : (l.map Value.string)[i]? = some (.string (l.getD i default)) := by
      rw [List.getElem?_map, List.getElem?_eq_getElem hi]; simp [List.getD, List.getElem?_eq_getElem hi]
    rw [← ht, List.getElem?_take, if_pos (by omega)] at h1
    unfold strs
    simpa using h1
theorem OwnS.cap (h : OwnS w base A c l) : l.length ≤ c := by
  rcases h.2 with ⟨hv, h0⟩ | ⟨r, cap, cur, hv, hb, hh, hcap, hm, hs, ht⟩
  · injection hv with _ h1 h2; omega
  · injection hv with _ _ h2; omega
theorem OwnS.block (h : OwnS w base A c l) {b off : Nat} {s : _} (hA : A = some ⟨b, off, s⟩) : base ≤ b ∧ b < w.heap.size := by
  rcases h.2 with ⟨hv, _⟩ | ⟨g, cap, cur, hv, hg, hh, _⟩
  · injection hv with h1 _ _; rw [hA] at h1; cases h1
  · injection hv with h1 _ _
    rw [hA] at h1
    injection h1 with h1
    injection h1 with h1 _ _
    rw [h1]
    exact ⟨hg, (Array.getElem?_eq_some_iff.1 hh).1⟩
end
theorem OwnI.arrN {w : World} {base c : Nat} {A : Option Addr} {l : List Int} {S : Nat → Prop} (h : OwnI w base A c l) (hS : ∀ b, S b → b < base) : ArrN S w A l.length (i64s l) := fun hn => by
  rcases h.2 with ⟨he, h0⟩ | ⟨r, cap, cur, hv, hb, hh, hcap, hm, hs, ht⟩
  · omega
  · injection hv with hA _ _
    subst hA
    refine ⟨r, 0, rfl, (Array.getElem?_eq_some_iff.1 hh).1, fun hs => by have := hS r hs; omega, fun i hi => ?_⟩
    rw [Nat.zero_add, cell_of_row w r i cur 2 (0, 0) hh]
    have h1 : (l.map (Value.int .i64))[i]? = some (i64s l i) := by
      unfold i64s
      rw [List.getElem?_map, List.getElem?_eq_getElem hi]; simp [List.getD, List.getElem?_eq_getElem hi]
    rw [← ht, List.getElem?_take, if_pos (by omega)] at h1
    simpa using h1
theorem info_str : (Try.prog.info? 9).map (fun i => (i.zero, i.size, i.bytes)) = some (some (.string ByteArray.empty), 1, 16) := by kernel_rfl
/-- one text more -/
theorem exec_append_str {o : Oper} {a : Act} {w : World} (s x : Operand) (ho : o.op = .call { callee := .builtin .append, args := #[s, x], argTypes := #[58, 58] })
    (base : Nat) (A : Option Addr) (c n : Nat) (l : List ByteArray) (hl : n = l.length) (hs : a.eval s = .slice A n c) (hown : OwnS w base A c l) (b off cap : Nat) (y : ByteArray) (hx : a.eval x = .slice (some ⟨b, off, none⟩) 1 cap) (hr : w.cell? ⟨b, off, none⟩ = some (.string y))
    (hn : n ≤ 1000000000) (hbase : base ≤ w.heap.size) :
    ∃ g c' w', (execOp a.eval o).run Try.prog w = .ok (.value (.slice (some ⟨g, 0, none⟩) (n + 1) c')) w' ∧ OwnS w' base (some ⟨g, 0, none⟩) c' (l ++ [y]) ∧ But (fun b => ∃ off s, A = some ⟨b, off, s⟩) w w' ∧ Below base w w' := by
  obtain ⟨i0, hi0, hz0, hz1, hz2⟩ := info_parts info_str
  subst hl
  obtain ⟨g, c', w', h1, h2, h3, h4⟩ := exec_append_rng (P := Try.prog) s x 58 ho base 9 i0 _ 1 16 Try.underlying58 hi0 hz0 hz1 hz2 rfl (by decide) _ l.length (l.map Value.string) hs hown b off cap 1 [.string y] hx rfl
    (fun j v hj => by
      rcases j with _ | j
      · simp at hj; subst hj; simpa using hr
      · simp at hj) (by simp [Value.oneCell']) (by decide) (by unfold maxLen; omega) (by omega) hbase
  refine ⟨g, c', w', h1, ?_, butA h3, below_own hown h3 (Nat.le_refl _) hbase⟩
  unfold OwnS
  rw [List.length_append, List.map_append]
  exact h2
/-- the same as a step of a region that draws -/
theorem turn_append_str {S : Nat → Prop} {o : Oper} {a : Act} {W : World} {Kk : Value → World → Prop} (s x : Operand) (ho : o.op = .call { callee := .builtin .append, args := #[s, x], argTypes := #[58, 58] })
    (base : Nat) (A : Option Addr) (c n : Nat) (l : List ByteArray) (hl : n = l.length) (hs : a.eval s = .slice A n c) (hown : OwnS W base A c l) (b off cap : Nat) (y : ByteArray) (hx : a.eval x = .slice (some ⟨b, off, none⟩) 1 cap) (hr : W.cell? ⟨b, off, none⟩ = some (.string y))
    (hn : n ≤ 1000000000) (hbase : base ≤ W.heap.size) (hS : ∀ b, base ≤ b → S b)
    (h : ∀ g c' w', OwnS w' base (some ⟨g, 0, none⟩) c' (l ++ [y]) → Below base W w' → But S W w' → Kk (.slice (some ⟨g, 0, none⟩) (n + 1) c') w') :
    ∃ v w', ((execOp a.eval o).run Try.prog W = .ok (.value v) w' ∧ But S W w') ∧ Kk v w' := by
  obtain ⟨g, c', w', h1, h2, _, h4⟩ := exec_append_str s x ho base A c n l hl hs hown b off cap y hx hr hn hbase
  have hb : But S W w' := ⟨h4.size, fun k hk hn => h4.block k (Nat.lt_of_not_le fun hh => hn (hS k hh)), h4.os, h4.tape, h4.output⟩
  exact ⟨_, w', ⟨h1, hb⟩, h g c' w' h2 h4 hb⟩
end Go.Proofs.Ytgcbodpjidoanaa
namespace Go.Proofs.Ytgcbodpjidoanaa
open Go.RowKit
/-- the parts of a change lie in blocks that are none of S's -/
structure OpMemN (S : Nat → Prop) (w : World) (o : OpD) (p : OpP) : Prop where
  cols : ArrN S w p.1 o.cols.length (strs o.cols)
  row : ArrN S w p.2.2.1 o.row.length (i64s o.row)
  cap : o.cols.length ≤ p.2.1
theorem op_texts (i lim : Nat) (l : List Nat) (e : Int) : rTexts (i + 1) l e = ((rTexts i l e).1 ++ [bstr (rText 16 (rTexts i l e).2.1 (rTexts i l e).2.2).1], (rText 16 (rTexts i l e).2.1 (rTexts i l e).2.2).2) := rfl
theorem ArrN.mono {S S' : Nat → Prop} {w : World} {A : Option Addr} {n : Nat} {f : Nat → Value} (h : ArrN S w A n f) (hS : ∀ b, S' b → S b) : ArrN S' w A n f := fun hn => by
  obtain ⟨b, off, e, hb, hs, hc⟩ := h hn
  exact ⟨b, off, e, hb, fun h => hs (hS b h), hc⟩
theorem ArrN.block {S : Nat → Prop} {w W : World} {A : Option Addr} {n : Nat} {f : Nat → Value} (h : ArrN S w A n f) (b : But S w W) : ArrN S W A n f := fun hn => by
  obtain ⟨k, off, e, hk, hs, hc⟩ := h hn
  exact ⟨k, off, e, Nat.lt_of_lt_of_le hk b.size, hs, fun i hi => b.cell (hc i hi) hs⟩
theorem But.mono {S S' : Nat → Prop} {w W : World} (b : But S w W) (h : ∀ k, S k → S' k) : But S' w W := ⟨b.size, fun k hk hn => b.block k hk fun hs => hn (h k hs), b.os, b.tape, b.output⟩
theorem But.newBut {S : Nat → Prop} {w W W' : World} (b : But S w W) {r : Nat} (hr : w.heap.size ≤ r) (c : But (fun k => k = r) W W') : But S w W' :=
  ⟨Nat.le_trans b.size c.size, fun k hk hn => (c.block k (Nat.lt_of_lt_of_le hk b.size) (by omega)).trans (b.block k hk hn), c.os.trans b.os, c.tape.trans b.tape, c.output.trans b.output⟩
theorem arrN_out {g r : Nat} {w W : World} {A : Option Addr} {n : Nat} {f : Nat → Value} (h : ArrN (fun b => b < g ∨ b = r) w A n f) (b : But (fun k => k = r) w W) : ArrN (fun b => b < g) W A n f :=
  (h.block (b.mono fun _ hk => .inr hk)).mono fun _ hb => .inl hb
theorem ArrN.none_ {S : Nat → Prop} {w : World} {A : Option Addr} {f : Nat → Value} : ArrN S w A 0 f := fun h => absurd h (by omega)
theorem opV_one {k : Nat} {t : ByteArray} {AC AR : Option Addr} {nc cc nr cr : Nat} : (opV k t AC nc cc AR nr cr).toArray.all (·.oneCell') = true := by simp [opV, Value.oneCell']
theorem But.then_new {S : Nat → Prop} {w w1 w2 : World} {B : Nat} (b : But S w w1) (h : Below B w1 w2) (hB : w.heap.size ≤ B) : But S w w2 :=
  ⟨Nat.le_trans b.size h.size, fun k hk hn => (h.block k (Nat.lt_of_lt_of_le hk hB)).trans (b.block k hk hn), h.os.trans b.os, h.tape.trans b.tape, h.output.trans b.output⟩
theorem row_but2 {S : Nat → Prop} {w w' : World} {k : Nat} {t : TypeId} {cs : List Value} (b : But S w w') (h : Row w k t cs) (hk : ¬ S k) : Row w' k t cs := (b.block k (Row.lt h) hk).trans h
theorem Rd.but {w W : World} {g : Nat} {l : List Nat} {e : Int} (h : Rd w g l e) {r : Nat} (hr : g < r) (b : But (fun k => k = r) w W) : Rd W g l e :=
  h.below (B := g + 1) ⟨b.os, b.tape, b.output, b.size, fun k hk => b.block k (by have := h.lt; omega) (by omega)⟩ (by omega)
/-- behind i columns that were read -/
def ReadTo (g h r0 : Nat) (w v2 : World) (l3 : List Nat) (e3 : Int) (T : ByteArray) (wr : World) (i : Nat) : Prop :=
  ∃ A c, Row wr h 132 (opV 1 T A i c none 0 0) ∧ OwnS wr v2.heap.size A c (rTexts i l3 e3).1 ∧ Rd wr g (rTexts i l3 e3).2.1 (rTexts i l3 e3).2.2 ∧ But (fun b => b = g) w wr ∧ Row wr r0 132 (opV 0 (⟨#[]⟩ : ByteArray) none 0 0 none 0 0) ∧ v2.heap.size ≤ wr.heap.size
/-- what a reader of a change answers -/
def OpGot (w : World) (g : Nat) (q : OpD × List Nat × Int) (e' : Ending) (w' : World) : Prop :=
  ∃ p : OpP, e' = .returned (.agg (opC q.1 p).toArray) ∧ OpMemN (fun b => b < w.heap.size) w' q.1 p ∧ But (fun b => b = g) w w' ∧ Rd w' g q.2.1 q.2.2
end Go.Proofs.Ytgcbodpjidoanaa
