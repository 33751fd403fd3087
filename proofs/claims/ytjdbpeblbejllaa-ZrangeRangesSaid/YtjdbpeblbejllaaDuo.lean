/- A box under way: a struct variable of two rows of the call's own, grown side by side. -/
import Derived.Test.YtjdbpeblbejllaaBox5
set_option linter.unusedVariables false
set_option linter.unusedSimpArgs false
namespace Go.Proofs.Ytjdbpeblbejllaa
open Go.RowKit
/-- block g is a box of two rows of the call's own -/
def DuoAt (w : World) (B g : Nat) (R : Option Addr) (s : Nat) (R' : Option Addr) (s' : Nat) (l l' : List Int) : Prop :=
  Two w g 58 (.slice R l.length s) (.slice R' l'.length s') ∧ Own w B R s l ∧ Own w B R' s' l' ∧ Sep (.slice R l.length s) (.slice R' l'.length s') ∧ g < B
def Duo (w : World) (B g : Nat) (l l' : List Int) : Prop := ∃ R s R' s', DuoAt w B g R s R' s' l l'
theorem Duo.nil {w : World} {B g : Nat} (h : Two w g 58 (.slice none 0 0) (.slice none 0 0)) (hg : g < B) : Duo w B g [] [] :=
  ⟨none, 0, none, 0, h, World.ownsRow_nil _ _ _ _, World.ownsRow_nil _ _ _ _, .inl rfl, hg⟩
theorem Duo.ext {w W : World} {B g : Nat} {l l' : List Int} (h : Duo w B g l l') (hW : Ext w W) : Duo W B g l l' := by
  obtain ⟨R, s, R', s', h1, h2, h3, h4, h5⟩ := h
  exact ⟨R, s, R', s', h1.ext hW, h2.ext hW, h3.ext hW, h4, h5⟩
/-- an int's append to a row of the call's own: as 'Own' -/
theorem own_of {w : World} {B : Nat} {R : Option Addr} {n s : Nat} {l : List Int} {z : Int} (hn : n = l.length) (h : w.ownsRow B 2 1 (.slice R (n + 1) s) (n + 1) (l.map (Value.int .i64) ++ (#[Value.int .i64 z] : Array Value).toList)) : Own w B R s (l ++ [z]) := by
  unfold Own
  subst hn
  simpa using h
theorem ownBlock_some {R : Option Addr} {n s g : Nat} (h : (Value.slice R n s).ownBlock = some g) : ∃ a, R = some a ∧ a.block = g := by
  rcases R with _ | a
  · cases h
  · exact ⟨a, rfl, by simpa [Value.ownBlock] using h⟩
theorem sep_grown {w : World} {B : Nat} {R R' : Option Addr} {n m s s' g3 n3 c3 : Nat} {l' : List Int} (hs : Sep (.slice R n s) (.slice R' m s')) (ho : Own w B R' s' l') (hm : m = l'.length) (hat : (Value.slice R n s).ownBlock = some g3 ∨ w.heap.size ≤ g3) : Sep (.slice (some ⟨g3, 0, none⟩) n3 c3) (.slice R' m s') := by
  subst hm
  unfold Sep
  rcases hb : (Value.slice R' l'.length s').ownBlock with _ | b
  · right; intro h; cases h
  · right
    have h2 := (World.ownsRow.lt ho b hb).2
    intro hh
    have h3 : g3 = b := by simpa [Value.ownBlock] using hh
    rcases hat with hat | hat
    · rcases hs with h | h
      · rw [h] at hat; cases hat
      · apply h; rw [hat, hb, h3]
    · omega
/-- the lower side has grown by one, and is stored -/
theorem DuoAt.push0 {w w3 : World} {B g s s' n g3 c3 : Nat} {R R' : Option Addr} {l l' : List Int} {z : Int} (h : DuoAt w B g R s R' s' l l') (hB : B ≤ w.heap.size) (hn : n = l.length)
    (h1 : w3.ownsRow B 2 1 (.slice (some ⟨g3, 0, none⟩) (n + 1) c3) (n + 1) (l.map (Value.int .i64) ++ (#[Value.int .i64 z] : Array Value).toList)) (h2 : w.grownBy w3 (Value.slice R n s).ownBlock) (h3 : (Value.slice R n s).ownBlock = some g3 ∨ w.heap.size ≤ g3) :
    Duo (w3.setCell ⟨g, 0, none⟩ (.slice (some ⟨g3, 0, none⟩) (n + 1) c3)) B g (l ++ [z]) l' := by
  obtain ⟨t, o1, o2, sp, hg⟩ := h
  subst hn
  have hb := below_own o1 h2 (Nat.le_refl _) hB
  have o3 := own_of rfl h1
  have g3B : B ≤ g3 := by
    rcases h3 with h | h
    · exact (World.ownsRow.lt o1 g3 h).1
    · omega
  have e : (l ++ [z]).length = l.length + 1 := by simp
  refine ⟨some ⟨g3, 0, none⟩, c3, R', s', ?_, ?_, ?_, ?_, hg⟩
  · rw [e]
    exact two_set0 (t.below hb hg) _
  · exact own_setCell o3 (by simpa using hg) _
  · exact own_setCell (World.ownsRow.kept o2 h2 (by
      rcases sp.symm with h | h
      · exact .inl h
      · exact .inr h)) (by simpa using hg) _
  · rw [e]; exact sep_grown sp o2 rfl h3
theorem DuoAt.push1 {w w3 : World} {B g s s' n g3 c3 : Nat} {R R' : Option Addr} {l l' : List Int} {z : Int} (h : DuoAt w B g R s R' s' l l') (hB : B ≤ w.heap.size) (hn : n = l'.length)
    (h1 : w3.ownsRow B 2 1 (.slice (some ⟨g3, 0, none⟩) (n + 1) c3) (n + 1) (l'.map (Value.int .i64) ++ (#[Value.int .i64 z] : Array Value).toList)) (h2 : w.grownBy w3 (Value.slice R' n s').ownBlock) (h3 : (Value.slice R' n s').ownBlock = some g3 ∨ w.heap.size ≤ g3) :
    Duo (w3.setCell ⟨g, 1, none⟩ (.slice (some ⟨g3, 0, none⟩) (n + 1) c3)) B g l (l' ++ [z]) := by
  obtain ⟨t, o1, o2, sp, hg⟩ := h
  subst hn
  have hb := below_own o2 h2 (Nat.le_refl _) hB
  have o3 := own_of rfl h1
  have e : (l' ++ [z]).length = l'.length + 1 := by simp
  refine ⟨R, s, some ⟨g3, 0, none⟩, c3, ?_, ?_, ?_, ?_, hg⟩
  · rw [e]
    exact two_set1 (t.below hb hg) _
  · exact own_setCell (World.ownsRow.kept o1 h2 (by
      rcases sp with h | h
      · exact .inl h
      · exact .inr h)) (by simpa using hg) _
  · exact own_setCell o3 (by simpa using hg) _
  · rw [e]; exact (sep_grown sp.symm o1 rfl h3).symm
/-- the end of a function with a box in a variable and a second result -/
theorem ret_boxW {fn : Func} {p q : Tmp} {a : Act} {w : World} {R : Ending → World → Prop} (h : fn.results = #[.cell p 58, .tmp q]) {g : Nat} {x y v : Value}
    (hp : a.tmps.getD p undef = .pointer (some ⟨g, 0, none⟩)) (hq : a.tmps.getD q undef = v) (hg : w.heap[g]? = some (.cells #[x, y] 58 (0, 0))) (hd : a.defers = []) (hR : R (.returned (.tuple #[.agg #[x, y], v])) w) : bodyPost Try.prog fn R .ret a w := by
  refine bodyPost_ret (v := .tuple #[.agg #[x, y], v]) ?_ hd hR
  rw [results_cell_tmp h, hp, hq]
  simp [asAddr, run_loadVar_row w g 58 58 #[x, y] (0, 0) _ hg Try.underlying58 rfl (by kernel_rfl)]
theorem size_box' : (Try.prog.info? 58).map (·.size) = some 2 := by kernel_rfl
/-- a struct of two words is stored -/
theorem wpList_store_pair {ops : Array Oper} {rest : List Oper} {o : Oper} {a : Act} {w : World} {Q : Exit → Act → World → Prop} (hgd : o.guard = none) (ty : TypeId) (x y : Operand) (ho : o.op = .store ty x y) (g : Nat) (v1 v2 : Value) (t : TypeId) (x0 y0 : Value)
    (hx : a.eval x = .pointer (some ⟨g, 0, none⟩)) (hy : a.eval y = .agg #[v1, v2]) (hg : Two w g t x0 y0) (hi : (Try.prog.info? ty).map (·.size) = some 2) (h1 : v1.oneCell' = true) (h2 : v2.oneCell' = true)
    (h : wpList Try.prog ops Q rest (a.put o.dst undef) ((w.setCell ⟨g, 0, none⟩ v1).setCell ⟨g, 1, none⟩ v2)) : wpList Try.prog ops Q (o :: rest) a w := by
  obtain ⟨i0, hi0, hz1⟩ := Option.map_eq_some_iff.1 hi
  have hst : (storeVar ty ⟨g, 0, none⟩ (.agg #[v1, v2])).run Try.prog w = .ok () ((w.setCell ⟨g, 0, none⟩ v1).setCell ⟨g, 1, none⟩ v2) := by
    have := run_storeCells_cells (P := Try.prog) g 0 [v1, v2] 0 w (fun j hj => by
      have hj2 : j < 2 := by simpa using hj
      rcases (show j = 0 ∨ j = 1 by omega) with rfl | rfl
      · simp [hg.c0]
      · simp [hg.c1]) (fun j hj => by simpa using hg.fz _) (fun v hv => by
      have : v = v1 ∨ v = v2 := by simpa using hv
      rcases this with rfl | rfl
      · exact h1
      · exact h2)
    simp only [Nat.add_zero, Nat.zero_add] at this
    simp [storeVar, sizeOf, typeInfo, hi0, hz1, Value.cells, this, World.setCells]
  refine wpList_plain hgd fun K hK => ?_
  unfold Oper.wp execOp
  simp only [ho, hx, hy, Instr.storeAt, Instr.sureAddr, Sem.run_bind, Sem.run_pure, Result.andThen_ok, hst]
  exact hK _ _ h
/-- what a cut tells -/
def CutTold (w w' : World) (e : Ending) (ok : Bool) (l l' : List Int) : Prop :=
  Below w.heap.size w w' ∧ if ok then ∃ R s R' s', e = .returned (.tuple #[.agg #[.slice R l.length s, .slice R' l'.length s'], .bool true]) ∧ Own w' w.heap.size R s l ∧ Own w' w.heap.size R' s' l'
    else e = .returned (.tuple #[.agg #[.slice none 0 0, .slice none 0 0], .bool false])
def cLo (lo lo' : List Int) (k : Nat) : List Int := (List.range k).map fun i => mx (lo.getD i 0) (lo'.getD i 0)
def cHi (hi hi' : List Int) (k : Nat) : List Int := (List.range k).map fun i => mn (hi.getD i 0) (hi'.getD i 0)
theorem cLo_len (lo lo' : List Int) (k : Nat) : (cLo lo lo' k).length = k := by simp [cLo]
theorem cHi_len (lo lo' : List Int) (k : Nat) : (cHi lo lo' k).length = k := by simp [cHi]
theorem cLo_succ (lo lo' : List Int) (k : Nat) : cLo lo lo' (k + 1) = cLo lo lo' k ++ [mx (lo.getD k 0) (lo'.getD k 0)] := by simp [cLo, List.range_succ]
theorem cHi_succ (lo lo' : List Int) (k : Nat) : cHi lo lo' (k + 1) = cHi lo lo' k ++ [mn (lo.getD k 0) (lo'.getD k 0)] := by simp [cHi, List.range_succ]
/-- do the sides meet? -/
def cOk (lo hi lo' hi' : List Int) (k : Nat) : Bool := (List.range k).all fun i => decide (mx (lo.getD i 0) (lo'.getD i 0) ≤ mn (hi.getD i 0) (hi'.getD i 0))
end Go.Proofs.Ytjdbpeblbejllaa
