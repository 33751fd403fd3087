/- Regions that draw: a call that turns memory in blocks of S; appends at the operation, for elements of any size. Rows of texts that a call owns; contract of block.readOp. -/
import Derived.Deep.MidRow
import Derived.Test.YtiicdnbhphgieaaK2
import Derived.Test.YtiicdnbhphgieaaK6
import Derived.Test.YtiicdnbhphgieaaK25
set_option linter.unusedVariables false
set_option linter.unusedSimpArgs false
namespace Go.Proofs.Ytiicdnbhphgieaa
open Go.RowKit
section
variable {P : Program} {ops : Array Oper} {S : Nat → Prop} {Lq : Act → World → Prop} {r : TO} {a : Act} {w : World} {o : Oper}
/-- a loud call that turns memory in blocks of S alone -/
theorem wpM_loudS (f : FuncId) (args : Array Value) (hw : Region.wanted o (yielded ops a.tmps) = true) (hv : ∀ W, (execOp a.eval o).run P W = .ok (.enter f args) W)
    (hc : ∀ W, Ext w W → Calls P f args W fun e w2 => ∃ v, e = .returned v ∧ But S W w2 ∧ (∀ K : Act → Prop, (∀ a, wpM S P ops Lq r a w2 → K a) → K (a.put o.dst v))) : wpM S P ops Lq (.l o r) a w := by
  intro W hW
  simp only [hw, if_true, Oper.wp, hv W, Oper.upon]
  exact (hc W hW).mono fun e w2 ⟨v, he, hx, hp⟩ => by subst he; exact ⟨hx, hp _ fun _ h => h⟩
end
section
variable {P : Program}
/-- 'append(v, x..)': the elements' cells lie in a row anywhere -/
theorem exec_append_rng {o : Oper} {a : Act} {w : World} (s x : Operand) (t : TypeId) (ho : o.op = .call { callee := .builtin .append, args := #[s, x], argTypes := #[t, t] })
    (base : Nat) (e : TypeId) (i : TypeInfo) (z : Value) (size bytes : Nat) (ht : P.underlying t = some (.slice e)) (hi : P.info? e = some i) (hz : i.zero = some z)
    (hsize : i.size = size) (hby : i.bytes = bytes) (hzs : z.cells.size = size) (hsz : 0 < size)
    (v : Value) (n : Nat) (xs : List Value) (hs : a.eval s = v) (hown : w.ownsRow base e size v n xs) (b off cap m : Nat) (cs : List Value) (hx : a.eval x = .slice (some ⟨b, off, none⟩) m cap)
    (hm : cs.length = m * size) (hr : w.rangeAt b off cs) (h1 : ∀ u ∈ cs, u.oneCell' = true) (hm0 : 0 < m)
    (h63 : n + m ≤ maxLen) (hbytes : (n + m) * bytes ≤ 140737488355328) (hbase : base ≤ w.heap.size) :
    ∃ g c w', (execOp a.eval o).run P w = .ok (.value (.slice (some ⟨g, 0, none⟩) (n + m) c)) w' ∧
      w'.ownsRow base e size (.slice (some ⟨g, 0, none⟩) (n + m) c) (n + m) (xs ++ cs) ∧ w.grownBy w' v.ownBlock ∧ (v.ownBlock = some g ∨ w.heap.size = g) := by
  obtain ⟨v', w', hrun, h2, h3, _, h5⟩ := run_append_own_at (P := P) w base t o.type e i z size bytes ht hi hz hsize hby hzs hsz v n xs hown ⟨b, off, none⟩ m cap cs hm
    (fun j u hu => by rw [Addr.add_mid]; exact hr j u hu) h1 h63 hbytes hbase
  rcases h2.2 with ⟨hv, h0⟩ | ⟨g, cap', cur, hv, hb, hh, hcap, hmx, hs', ht'⟩
  · omega
  · subst hv
    refine ⟨g, cap', w', ?_, h2, h3, ?_⟩
    · unfold execOp
      simp only [ho, resolve, invoke, builtin, Sem.run_bind, Sem.run_pure, Result.andThen_ok, List.map_toArray, List.map_cons, List.map_nil, hs, hx, hrun]
    · rcases h5 with h5 | h5
      · left; rw [← h5]; rfl
      · right; simpa [Value.ownBlock] using h5.symm
theorem wpList_append_rng {ops : Array Oper} {rest : List Oper} {Q : Exit → Act → World → Prop} {o : Oper} {a : Act} {w : World} (hgd : o.guard = none) (s x : Operand) (t : TypeId) (ho : o.op = .call { callee := .builtin .append, args := #[s, x], argTypes := #[t, t] })
    (base : Nat) (e : TypeId) (i : TypeInfo) (z : Value) (size bytes : Nat) (ht : P.underlying t = some (.slice e)) (hi : P.info? e = some i) (hz : i.zero = some z)
    (hsize : i.size = size) (hby : i.bytes = bytes) (hzs : z.cells.size = size) (hsz : 0 < size)
    (v : Value) (n : Nat) (xs : List Value) (hs : a.eval s = v) (hown : w.ownsRow base e size v n xs) (b off cap m : Nat) (cs : List Value) (hx : a.eval x = .slice (some ⟨b, off, none⟩) m cap)
    (hm : cs.length = m * size) (hr : w.rangeAt b off cs) (h1 : ∀ u ∈ cs, u.oneCell' = true) (hm0 : 0 < m)
    (h63 : n + m ≤ maxLen) (hbytes : (n + m) * bytes ≤ 140737488355328) (hbase : base ≤ w.heap.size)
    (h : ∀ g c w', w'.ownsRow base e size (.slice (some ⟨g, 0, none⟩) (n + m) c) (n + m) (xs ++ cs) → w.grownBy w' v.ownBlock → (v.ownBlock = some g ∨ w.heap.size = g) → wpList P ops Q rest (a.put o.dst (.slice (some ⟨g, 0, none⟩) (n + m) c)) w') :
    wpList P ops Q (o :: rest) a w := by
  obtain ⟨g, c, w', hrun, h2, h3, h4⟩ := exec_append_rng s x t ho base e i z size bytes ht hi hz hsize hby hzs hsz v n xs hs hown b off cap m cs hx hm hr h1 hm0 h63 hbytes hbase
  refine wpList_plain hgd fun K hK => ?_
  unfold Oper.wp
  rw [hrun]
  exact hK _ _ (h g c w' h2 h3 h4)
end
end Go.Proofs.Ytiicdnbhphgieaa
namespace Go.Proofs.Ytiicdnbhphgieaa
open Go.RowKit
theorem ret_cells {fn : Func} {p : Tmp} {ty : TypeId} {a : Act} {w : World} {R : Ending → World → Prop} (h : fn.results = #[.cell p ty]) {g : Nat} {t : TypeId} {cs : List Value} {fs : Array Field}
    (hp : a.tmps.getD p undef = .pointer (some ⟨g, 0, none⟩)) (hg : Row w g t cs) (hu : Try.prog.underlying ty = some (.struct fs)) (hi : (Try.prog.info? ty).map (·.size) = some cs.length)
    (hd : a.defers = []) (hR : R (.returned (.agg cs.toArray)) w) : bodyPost Try.prog fn R .ret a w :=
  bodyPost_ret (results_cell_row h _ w g t cs.toArray (0, 0) _ hp hg hu rfl (by simpa using hi)) hd hR
theorem But.setNew {S : Nat → Prop} {w W : World} (b : But S w W) {p : Addr} (hp : w.heap.size ≤ p.block) (v : Value) : But S w (W.setCell p v) :=
  ⟨by simpa using b.size, fun k hk hn => (Below.heap_setCell _ _ _ _ (by omega)).trans (b.block k hk hn), b.os, b.tape, b.output⟩
theorem Rd.setNew {w : World} {g : Nat} {l : List Nat} {e : Int} (h : Rd w g l e) {p : Addr} (hp : g < p.block) (v : Value) : Rd (w.setCell p v) g l e := by
  have : Below (g + 1) w (w.setCell p v) := (Below.refl _ _).setCell (p := p) (by omega) v
  exact h.below this (by omega)
/-- a row of texts that the call owns -/
def OwnS (w : World) (base : Nat) (A : Option Addr) (c : Nat) (l : List ByteArray) : Prop := w.ownsRow base 9 1 (.slice A l.length c) l.length (l.map Value.string)
section
variable {w W : World} {base c : Nat} {A : Option Addr} {l : List ByteArray} {S : Nat → Prop}
theorem OwnS.nil (w : World) (base : Nat) : OwnS w base none 0 [] := World.ownsRow_nil w base _ _
theorem OwnS.ext (h : OwnS w base A c l) (hW : Ext w W) : OwnS W base A c l := ownsRow_ext h hW
theorem OwnS.but (h : OwnS w base A c l) (b : But S w W) (hS : ∀ k, base ≤ k → ¬ S k) : OwnS W base A c l := by
  refine ⟨h.1, h.2.imp id ?_⟩
  rintro ⟨g, cap, cur, hv, hg, hh, r⟩
  exact ⟨g, cap, cur, hv, hg, (b.block g (Array.getElem?_eq_some_iff.1 hh).1 (hS g hg)).trans hh, r⟩
theorem OwnS.arrN (h : OwnS w base A c l) (hS : ∀ b, S b → b < base) : ArrN S w A l.length (strs l) := fun hn => by
  rcases h.2 with ⟨he, h0⟩ | ⟨r, cap, cur, hv, hb, hh, hcap, hm, hs, ht⟩
  · omega
  · injection hv with hA _ _
    subst hA
    refine ⟨r, 0, rfl, (Array.getElem?_eq_some_iff.1 hh).1, fun hs => by have := hS r hs; omega, fun i hi => ?_⟩
    rw [Nat.zero_add, cell_of_row w r i cur 9 (0, 0) hh]
    have h1 : (l.map Value.string)[i]? = some (.string (l.getD i default)) := by
      rw [List.getElem?_map, List.getElem?_eq_getElem hi]; simp [List.getD, List.getElem?_eq_getElem hi]
    rw [← ht, List.getElem?_take, if_pos (by omega)] at h1
    unfold strs
    simpa using h1
theorem OwnS.cap (h : OwnS w base A c l) : l.length ≤ c := by
  rcases h.2 with ⟨hv, h0⟩ | ⟨r, cap, cur, hv, hb, hh, hcap, hm, hs, ht⟩
  · injection hv with _ h1 h2; omega
  · injection hv with _ _ h2; omega
theorem OwnS.block (h : OwnS w base A c l) {b off : Nat} {s : _} (hA : A = some ⟨b, off, s⟩) : base ≤ b ∧ b < w.heap.size := by
  rcases h.2 with ⟨hv, _⟩ | ⟨g, cap, cur, hv, hg, hh, _⟩
  · injection hv with h1 _ _; rw [hA] at h1; cases h1
  · injection hv with h1 _ _
    rw [hA] at h1
    injection h1 with h1
    injection h1 with h1 _ _
    rw [h1]
    exact ⟨hg, (Array.getElem?_eq_some_iff.1 hh).1⟩
end
theorem OwnI.arrN {w : World} {base c : Nat} {A : Option Addr} {l : List Int} {S : Nat → Prop} (h : OwnI w base A c l) (hS : ∀ b, S b → b < base) : ArrN S w A l.length (i64s l) := fun hn => by
  rcases h.2 with ⟨he, h0⟩ | ⟨r, cap, cur, hv, hb, hh, hcap, hm, hs, ht⟩
  · omega
  · injection hv with hA _ _
    subst hA
    refine ⟨r, 0, rfl, (Array.getElem?_eq_some_iff.1 hh).1, fun hs => by have := hS r hs; omega, fun i hi => ?_⟩
    rw [Nat.zero_add, cell_of_row w r i cur 2 (0, 0) hh]
    have h1 : (l.map (Value.int .i64))[i]? = some (i64s l i) := by
      unfold i64s
      rw [List.getElem?_map, List.getElem?_eq_getElem hi]; simp [List.getD, List.getElem?_eq_getElem hi]
    rw [← ht, List.getElem?_take, if_pos (by omega)] at h1
    simpa using h1
theorem info_str : (Try.prog.info? 9).map (fun i => (i.zero, i.size, i.bytes)) = some (some (.string ByteArray.empty), 1, 16) := by kernel_rfl
/-- one text more -/
theorem exec_append_str {o : Oper} {a : Act} {w : World} (s x : Operand) (ho : o.op = .call { callee := .builtin .append, args := #[s, x], argTypes := #[26, 26] })
    (base : Nat) (A : Option Addr) (c n : Nat) (l : List ByteArray) (hl : n = l.length) (hs : a.eval s = .slice A n c) (hown : OwnS w base A c l) (b off cap : Nat) (y : ByteArray) (hx : a.eval x = .slice (some ⟨b, off, none⟩) 1 cap) (hr : w.cell? ⟨b, off, none⟩ = some (.string y))
    (hn : n ≤ 1000000000) (hbase : base ≤ w.heap.size) :
    ∃ g c' w', (execOp a.eval o).run Try.prog w = .ok (.value (.slice (some ⟨g, 0, none⟩) (n + 1) c')) w' ∧ OwnS w' base (some ⟨g, 0, none⟩) c' (l ++ [y]) ∧ But (fun b => ∃ off s, A = some ⟨b, off, s⟩) w w' ∧ Below base w w' := by
  obtain ⟨i0, hi0, hz0, hz1, hz2⟩ := info_parts info_str
  subst hl
  obtain ⟨g, c', w', h1, h2, h3, h4⟩ := exec_append_rng (P := Try.prog) s x 26 ho base 9 i0 _ 1 16 Try.underlying26 hi0 hz0 hz1 hz2 rfl (by decide) _ l.length (l.map Value.string) hs hown b off cap 1 [.string y] hx rfl
    (fun j v hj => by
      rcases j with _ | j
      · simp at hj; subst hj; simpa using hr
      · simp at hj) (by simp [Value.oneCell']) (by decide) (by unfold maxLen; omega) (by omega) hbase
  refine ⟨g, c', w', h1, ?_, butA h3, below_own hown h3 (Nat.le_refl _) hbase⟩
  unfold OwnS
  rw [List.length_append, List.map_append]
  exact h2
/-- the same as a step of a region that draws -/
theorem turn_append_str {S : Nat → Prop} {o : Oper} {a : Act} {W : World} {Kk : Value → World → Prop} (s x : Operand) (ho : o.op = .call { callee := .builtin .append, args := #[s, x], argTypes := #[26, 26] })
    (base : Nat) (A : Option Addr) (c n : Nat) (l : List ByteArray) (hl : n = l.length) (hs : a.eval s = .slice A n c) (hown : OwnS W base A c l) (b off cap : Nat) (y : ByteArray) (hx : a.eval x = .slice (some ⟨b, off, none⟩) 1 cap) (hr : W.cell? ⟨b, off, none⟩ = some (.string y))
    (hn : n ≤ 1000000000) (hbase : base ≤ W.heap.size) (hS : ∀ b, base ≤ b → S b)
    (h : ∀ g c' w', OwnS w' base (some ⟨g, 0, none⟩) c' (l ++ [y]) → Below base W w' → But S W w' → Kk (.slice (some ⟨g, 0, none⟩) (n + 1) c') w') :
    ∃ v w', ((execOp a.eval o).run Try.prog W = .ok (.value v) w' ∧ But S W w') ∧ Kk v w' := by
  obtain ⟨g, c', w', h1, h2, _, h4⟩ := exec_append_str s x ho base A c n l hl hs hown b off cap y hx hr hn hbase
  have hb : But S W w' := ⟨h4.size, fun k hk hn => h4.block k (Nat.lt_of_not_le fun hh => hn (hS k hh)), h4.os, h4.tape, h4.output⟩
  exact ⟨_, w', ⟨h1, hb⟩, h g c' w' h2 h4 hb⟩
end Go.Proofs.Ytiicdnbhphgieaa
