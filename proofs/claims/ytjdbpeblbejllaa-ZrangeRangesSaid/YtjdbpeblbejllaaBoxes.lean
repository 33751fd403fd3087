/- Rows of boxes of the call's own; one row appended to another. -/
import Derived.Test.YtjdbpeblbejllaaBox5
import Derived.Maps.AppendAt
set_option linter.unusedVariables false
set_option linter.unusedSimpArgs false
namespace Go.Proofs.Ytjdbpeblbejllaa
open Go.RowKit
theorem addr_add (g j : Nat) : (⟨g, 0, none⟩ : Addr).add j = ⟨g, j, none⟩ := by
  unfold Addr.add
  split
  · rename_i h; rw [h]
  · simp
/-- a slice reads as f, in a block of Q -/
def ArrQ (Q : Nat → Prop) (w : World) (A : Option Addr) (n : Nat) (f : Nat → Value) : Prop := 0 < n → ∃ b off, A = some ⟨b, off, none⟩ ∧ b < w.heap.size ∧ Q b ∧ ∀ i, i < n → w.cell? ⟨b, off + i, none⟩ = some (f i)
theorem ArrQ.arr {Q : Nat → Prop} {w : World} {A : Option Addr} {n : Nat} {f : Nat → Value} (h : ArrQ Q w A n f) : Arr w w.heap.size A n f := fun hn => by
  obtain ⟨b, off, h1, h2, _, h4⟩ := h hn
  exact ⟨b, off, h1, h2, h4⟩
theorem ArrQ.of_arr {w : World} {A : Option Addr} {n : Nat} {f : Nat → Value} (h : Arr w w.heap.size A n f) : ArrQ (fun b => b < w.heap.size) w A n f := fun hn => by
  obtain ⟨b, off, h1, h2, h4⟩ := h hn
  exact ⟨b, off, h1, h2, h2, h4⟩
theorem ArrQ.mono {Q Q' : Nat → Prop} {w : World} {A : Option Addr} {n : Nat} {f : Nat → Value} (h : ArrQ Q w A n f) (hQ : ∀ b, b < w.heap.size → Q b → Q' b) : ArrQ Q' w A n f := fun hn => by
  obtain ⟨b, off, h1, h2, h3, h4⟩ := h hn
  exact ⟨b, off, h1, h2, hQ b h2 h3, h4⟩
theorem ArrQ.block {Q : Nat → Prop} {w W : World} {A : Option Addr} {n : Nat} {f : Nat → Value} (h : ArrQ Q w A n f) (hs : w.heap.size ≤ W.heap.size) (hb : ∀ b, b < w.heap.size → Q b → W.heap[b]? = w.heap[b]?) : ArrQ Q W A n f := fun hn => by
  obtain ⟨b, off, h1, h2, h3, h4⟩ := h hn
  exact ⟨b, off, h1, Nat.lt_of_lt_of_le h2 hs, h3, fun i hi => (World.cell?_of_block (a := ⟨b, off + i, none⟩) (hb b h2 h3)).trans (h4 i hi)⟩
theorem ArrQ.ext {Q : Nat → Prop} {w W : World} {A : Option Addr} {n : Nat} {f : Nat → Value} (h : ArrQ Q w A n f) (hW : Ext w W) : ArrQ Q W A n f := h.block hW.size fun b hb _ => hW.block b hb
theorem ArrQ.of_own {w : World} {B : Nat} {R : Option Addr} {s : Nat} {l : List Int} (h : Own w B R s l) : ArrQ (fun b => B ≤ b) w R l.length (i64s l) := fun hn => by
  obtain ⟨g, rfl, h1, h2⟩ := h.at rfl hn
  obtain ⟨b, off, e, h3, h4⟩ := h.arr hn
  injection e with e
  injection e with e1 e2
  subst e1 e2
  exact ⟨g, 0, rfl, h2, h1, h4⟩
/-- two words that are a box -/
def BoxAt (Q : Nat → Prop) (w : World) (v1 v2 : Value) (lo hi : List Int) : Prop := ∃ A sa B sb, v1 = .slice A lo.length sa ∧ v2 = .slice B hi.length sb ∧ ArrQ Q w A lo.length (i64s lo) ∧ ArrQ Q w B hi.length (i64s hi)
theorem BoxAt.block {Q : Nat → Prop} {w W : World} {v1 v2 : Value} {lo hi : List Int} (h : BoxAt Q w v1 v2 lo hi) (hs : w.heap.size ≤ W.heap.size) (hb : ∀ b, b < w.heap.size → Q b → W.heap[b]? = w.heap[b]?) : BoxAt Q W v1 v2 lo hi := by
  obtain ⟨A, sa, B, sb, h1, h2, h3, h4⟩ := h
  exact ⟨A, sa, B, sb, h1, h2, h3.block hs hb, h4.block hs hb⟩
theorem BoxAt.mono {Q Q' : Nat → Prop} {w : World} {v1 v2 : Value} {lo hi : List Int} (h : BoxAt Q w v1 v2 lo hi) (hQ : ∀ b, b < w.heap.size → Q b → Q' b) : BoxAt Q' w v1 v2 lo hi := by
  obtain ⟨A, sa, B, sb, h1, h2, h3, h4⟩ := h
  exact ⟨A, sa, B, sb, h1, h2, h3.mono hQ, h4.mono hQ⟩
abbrev Bxs := List (List Int × List Int)
/-- a row of boxes in block g: the row from B on, the boxes' own rows in blocks of Q or from B on -/
def Boxes (Q : Nat → Prop) (w : World) (B g cap : Nat) (ls : Bxs) : Prop :=
  ∃ xs, w.ownsRow B 58 2 (.slice (some ⟨g, 0, none⟩) ls.length cap) ls.length xs ∧ ∀ i, i < ls.length → ∃ v1 v2, xs[2 * i]? = some v1 ∧ xs[2 * i + 1]? = some v2 ∧ BoxAt (fun b => (Q b ∨ B ≤ b) ∧ b ≠ g) w v1 v2 (ls.getD i ([], [])).1 (ls.getD i ([], [])).2
theorem Boxes.lt {Q : Nat → Prop} {w : World} {B g cap : Nat} {ls : Bxs} (h : Boxes Q w B g cap ls) : B ≤ g ∧ g < w.heap.size := by
  obtain ⟨xs, h, _⟩ := h
  exact h.lt g rfl
theorem Boxes.ext {Q : Nat → Prop} {w W : World} {B g cap : Nat} {ls : Bxs} (h : Boxes Q w B g cap ls) (hW : Ext w W) : Boxes Q W B g cap ls := by
  obtain ⟨xs, h1, h2⟩ := h
  refine ⟨xs, ownsRow_ext h1 hW, fun i hi => ?_⟩
  obtain ⟨v1, v2, e1, e2, hb⟩ := h2 i hi
  exact ⟨v1, v2, e1, e2, hb.block hW.size fun b hb _ => hW.block b hb⟩
theorem Boxes.mono {Q Q' : Nat → Prop} {w : World} {B B' g cap : Nat} {ls : Bxs} (h : Boxes Q w B g cap ls) (hB : B' ≤ B) (hQ : ∀ b, Q b → Q' b ∨ B' ≤ b) : Boxes Q' w B' g cap ls := by
  obtain ⟨xs, h1, h2⟩ := h
  refine ⟨xs, ⟨h1.1, h1.2.imp id fun ⟨g, cap, cur, hv, hg, r⟩ => ⟨g, cap, cur, hv, Nat.le_trans hB hg, r⟩⟩, fun i hi => ?_⟩
  obtain ⟨v1, v2, e1, e2, hb⟩ := h2 i hi
  refine ⟨v1, v2, e1, e2, hb.mono fun b _ ⟨h, hne⟩ => ⟨?_, hne⟩⟩
  rcases h with h | h
  · exact hQ b h
  · exact .inr (Nat.le_trans hB h)
/-- the words of box i -/
theorem Boxes.at {Q : Nat → Prop} {w : World} {B g cap : Nat} {ls : Bxs} (h : Boxes Q w B g cap ls) (i : Nat) (hi : i < ls.length) : ∃ A sa C sc, w.cell? ⟨g, 2 * i, none⟩ = some (.slice A (ls.getD i ([], [])).1.length sa) ∧ w.cell? ⟨g, 2 * i + 1, none⟩ = some (.slice C (ls.getD i ([], [])).2.length sc) ∧
    Arr w w.heap.size A (ls.getD i ([], [])).1.length (i64s (ls.getD i ([], [])).1) ∧ Arr w w.heap.size C (ls.getD i ([], [])).2.length (i64s (ls.getD i ([], [])).2) := by
  obtain ⟨xs, h1, h2⟩ := h
  obtain ⟨v1, v2, e1, e2, A, sa, C, sc, rfl, rfl, h3, h4⟩ := h2 i hi
  refine ⟨A, sa, C, sc, ?_, ?_, h3.arr, h4.arr⟩
  · rw [World.ownsRow.cellAt h1 _ (by omega), e1]
  · rw [World.ownsRow.cellAt h1 _ (by omega), e2]
theorem info_boxr : (Try.prog.info? 58).map (fun i => (i.zero, i.size, i.bytes)) = some (some (.agg #[.slice none 0 0, .slice none 0 0]), 2, 48) := by kernel_rfl
/-- a row of one box, just made -/
theorem Boxes.one {Q : Nat → Prop} {w : World} {A C : Option Addr} {sa sc : Nat} {lo hi : List Int} (h1 : ArrQ Q w A lo.length (i64s lo)) (h2 : ArrQ Q w C hi.length (i64s hi)) :
    Boxes Q (w.alloc (.cells #[.slice A lo.length sa, .slice C hi.length sc] 58)) w.heap.size w.heap.size 1 [(lo, hi)] := by
  refine ⟨[.slice A lo.length sa, .slice C hi.length sc], World.ownsRow_lit w #[.slice A lo.length sa, .slice C hi.length sc] 1 (Nat.le_refl _) (by decide) rfl, fun i hi' => ?_⟩
  have : i = 0 := by simpa using hi'
  subst this
  refine ⟨_, _, rfl, rfl, A, sa, C, sc, rfl, rfl, ?_, ?_⟩
  · exact (h1.mono fun b hl hb => (⟨.inl hb, Nat.ne_of_lt hl⟩ : (Q b ∨ w.heap.size ≤ b) ∧ b ≠ w.heap.size)).ext (Ext.alloc _ _)
  · exact (h2.mono fun b hl hb => (⟨.inl hb, Nat.ne_of_lt hl⟩ : (Q b ∨ w.heap.size ≤ b) ∧ b ≠ w.heap.size)).ext (Ext.alloc _ _)
set_option maxRecDepth 100000 in
theorem run_append_boxes (ty : TypeId) {w : World} {Q : Nat → Prop} {B gx cx gy By cy : Nat} {lx ly : Bxs} (hx : Boxes Q w B gx cx lx) (hy : Boxes Q w By gy cy ly) (hBy : gx < By) (hQ : ∀ b, Q b → b ≠ gx) (hn : 0 < ly.length) (hs : lx.length + ly.length ≤ 100000) (hbase : B ≤ w.heap.size) :
    ∃ g c w', (Builtin.append_ #[75, 75] ty #[.slice (some ⟨gx, 0, none⟩) lx.length cx, .slice (some ⟨gy, 0, none⟩) ly.length cy]).run Try.prog w = .ok (.slice (some ⟨g, 0, none⟩) (lx.length + ly.length) c) w' ∧ Boxes Q w' B g c (lx ++ ly) ∧ Below B w w' := by
  obtain ⟨i0, hi0, hz0, hz1, hz2⟩ := info_parts info_boxr
  have hlx := hx.lt
  have hly := hy.lt
  obtain ⟨xs, x1, x2⟩ := hx
  obtain ⟨ys, y1, y2⟩ := hy
  have hxl := x1.1
  have hyl := y1.1
  obtain ⟨v', w', hrun, hown, hgr, _, hat⟩ := run_append_own_at (P := Try.prog) w B 75 ty 58 i0 _ 2 48 Try.underlying75 hi0 hz0 hz1 hz2 rfl (by decide) (.slice (some ⟨gx, 0, none⟩) lx.length cx) lx.length xs x1 ⟨gy, 0, none⟩ ly.length cy ys hyl (fun j u hj => by
    have hjl : j < ys.length := (List.getElem?_eq_some_iff.1 hj).1
    have := World.ownsRow.cellAt y1 j (by omega)
    rw [addr_add, this, hj]) (fun u hu => by
    obtain ⟨j, hj, rfl⟩ := List.getElem_of_mem hu
    obtain ⟨v1, v2, e1, e2, A, sa, C, sc, rfl, rfl, _⟩ := y2 (j / 2) (by omega)
    rcases Nat.mod_two_eq_zero_or_one j with h | h
    · have : 2 * (j / 2) = j := by omega
      rw [this, List.getElem?_eq_getElem hj] at e1
      injection e1 with e1
      rw [e1]; rfl
    · have : 2 * (j / 2) + 1 = j := by omega
      rw [this, List.getElem?_eq_getElem hj] at e2
      injection e2 with e2
      rw [e2]; rfl) (by unfold maxLen; omega) (by omega) hbase
  obtain ⟨g, c, rfl, hgB, hgs⟩ := hown.form (by omega)
  have hg : g = gx ∨ g = w.heap.size := by
    rcases hat with h | h
    · left; simpa [Value.ownBlock] using h
    · right; simpa [Value.ownBlock] using h
  have hblk : ∀ b, b < w.heap.size → b ≠ gx → w'.heap[b]? = w.heap[b]? := fun b hb hne => hgr.block b hb (by simpa [Value.ownBlock] using hne)
  refine ⟨g, c, w', hrun, ⟨xs ++ ys, by rw [List.length_append]; exact hown, fun i hi => ?_⟩, below_own x1 hgr (Nat.le_refl _) hbase⟩
  rw [List.length_append] at hi
  by_cases h : i < lx.length
  · obtain ⟨v1, v2, e1, e2, hb⟩ := x2 i h
    have eg : (lx ++ ly).getD i ([], []) = lx.getD i ([], []) := by unfold List.getD; rw [List.getElem?_append_left h]
    rw [eg]
    refine ⟨v1, v2, by rw [List.getElem?_append_left (by omega)]; exact e1, by rw [List.getElem?_append_left (by omega)]; exact e2, ?_⟩
    have h1 := hb.mono (Q' := fun b => ((Q b ∨ B ≤ b) ∧ b ≠ g) ∧ b ≠ gx) fun b hl hq => ⟨⟨hq.1, by have := hq.2; omega⟩, hq.2⟩
    exact (h1.block hgr.size fun b hb hq => hblk b hb hq.2).mono fun b _ hq => hq.1
  · obtain ⟨v1, v2, e1, e2, hb⟩ := y2 (i - lx.length) (by omega)
    have eg : (lx ++ ly).getD i ([], []) = ly.getD (i - lx.length) ([], []) := by unfold List.getD; rw [List.getElem?_append_right (by omega)]
    rw [eg]
    refine ⟨v1, v2, by rw [List.getElem?_append_right (by omega), show 2 * i - xs.length = 2 * (i - lx.length) by omega]; exact e1, by rw [List.getElem?_append_right (by omega), show 2 * i + 1 - xs.length = 2 * (i - lx.length) + 1 by omega]; exact e2, ?_⟩
    have h1 := hb.mono (Q' := fun b => ((Q b ∨ B ≤ b) ∧ b ≠ g) ∧ b ≠ gx) fun b hl hq => by
      have hne : b ≠ gx := by
        rcases hq.1 with h | h
        · exact hQ b h
        · omega
      refine ⟨⟨?_, by omega⟩, hne⟩
      rcases hq.1 with h | h
      · exact .inl h
      · exact .inr (by omega)
    exact (h1.block hgr.size fun b hb hq => hblk b hb hq.2).mono fun b _ hq => hq.1
theorem exec_append_boxes {o : Oper} {a : Act} {w : World} (s x : Operand) (ho : o.op = .call { callee := .builtin .append, args := #[s, x], argTypes := #[75, 75] }) {Q : Nat → Prop} {B gx cx gy By cy : Nat} {lx ly : Bxs} (nx ny : Nat) (hnx : nx = lx.length) (hny : ny = ly.length)
    (hs : a.eval s = .slice (some ⟨gx, 0, none⟩) nx cx) (hx : a.eval x = .slice (some ⟨gy, 0, none⟩) ny cy) (h1 : Boxes Q w B gx cx lx) (h2 : Boxes Q w By gy cy ly) (hBy : gx < By) (hQ : ∀ b, Q b → b ≠ gx) (hn : 0 < ly.length) (hsm : lx.length + ly.length ≤ 100000) (hbase : B ≤ w.heap.size) :
    ∃ g c w', (execOp a.eval o).run Try.prog w = .ok (.value (.slice (some ⟨g, 0, none⟩) (nx + ny) c)) w' ∧ Boxes Q w' B g c (lx ++ ly) ∧ Below B w w' := by
  subst hnx hny
  obtain ⟨g, c, w', hrun, h3, h4⟩ := run_append_boxes o.type h1 h2 hBy hQ hn hsm hbase
  refine ⟨g, c, w', ?_, h3, h4⟩
  unfold execOp
  simp only [ho, resolve, invoke, builtin, Sem.run_bind, Sem.run_pure, Result.andThen_ok, List.map_toArray, List.map_cons, List.map_nil, hs, hx, hrun]
theorem wpList_append_boxes {ops : Array Oper} {rest : List Oper} {o : Oper} {a : Act} {w : World} {QQ : Exit → Act → World → Prop} (hgd : o.guard = none) (s x : Operand) (ho : o.op = .call { callee := .builtin .append, args := #[s, x], argTypes := #[75, 75] }) {Q : Nat → Prop} {B gx cx gy By cy : Nat} {lx ly : Bxs} (nx ny : Nat) (hnx : nx = lx.length) (hny : ny = ly.length)
    (hs : a.eval s = .slice (some ⟨gx, 0, none⟩) nx cx) (hx : a.eval x = .slice (some ⟨gy, 0, none⟩) ny cy) (h1 : Boxes Q w B gx cx lx) (h2 : Boxes Q w By gy cy ly) (hBy : gx < By) (hQ : ∀ b, Q b → b ≠ gx) (hn : 0 < ly.length) (hsm : lx.length + ly.length ≤ 100000) (hbase : B ≤ w.heap.size)
    (h : ∀ g c w', Boxes Q w' B g c (lx ++ ly) → Below B w w' → wpList Try.prog ops QQ rest (a.put o.dst (.slice (some ⟨g, 0, none⟩) (nx + ny) c)) w') : wpList Try.prog ops QQ (o :: rest) a w := by
  obtain ⟨g, c, w', hrun, h3, h4⟩ := exec_append_boxes s x ho nx ny hnx hny hs hx h1 h2 hBy hQ hn hsm hbase
  refine wpList_plain hgd fun K hK => ?_
  unfold Oper.wp
  rw [hrun]
  exact hK _ _ (h g c w' h3 h4)
end Go.Proofs.Ytjdbpeblbejllaa
