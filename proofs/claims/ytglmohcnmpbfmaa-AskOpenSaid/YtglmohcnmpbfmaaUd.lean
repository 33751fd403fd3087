/- What came in: boxes, orders, queries, lists of rows. -/
import Derived.Test.YtglmohcnmpbfmaaGyb
import Derived.Test.YtglmohcnmpbfmaaUa
set_option linter.unusedVariables false
set_option linter.unusedSimpArgs false
namespace Go.Proofs.Ytglmohcnmpbfmaa
open Go.ChangeShapes Go.WideShapes Go.RowKit
set_option maxRecDepth 100000
section
variable {H : Type} {enc : TypeId × Value → H} {W : World}
theorem trod_struct3' {P : Program} {w : World} {base : Nat} {spare : Nat → Bool} {held : Bool} {t : TypeId} {f0 f1 f2 : Field} {fuel : Nat} {cs : List Value} {x : DataW H × List MemPlace} (ht : P.underlying t = some (.struct #[f0, f1, f2])) (h : DataW.trod enc P w base spare held fuel t cs = some x) :
    ∃ y0 y1 y2 n, cs.length = P.cellsOf t ∧ DataW.trod enc P w base spare held n f0.type ((cs.drop f0.offset).take (P.cellsOf f0.type)) = some y0 ∧
      DataW.trod enc P w base spare held n f1.type ((cs.drop f1.offset).take (P.cellsOf f1.type)) = some y1 ∧ DataW.trod enc P w base spare held n f2.type ((cs.drop f2.offset).take (P.cellsOf f2.type)) = some y2 := by
  obtain ⟨xs, n, _, rfl, hl, hlen, hf⟩ := DataW.trod_struct ht h
  match xs, hlen with
  | [y0, y1, y2], _ => exact ⟨y0, y1, y2, n, hl, by simpa using hf 0 f0 rfl, by simpa using hf 1 f1 rfl, by simpa using hf 2 f2 rfl⟩
theorem come_u8 {cs : List Value} {x : DataW H × List MemPlace} {n : Nat} (h : DataW.trod enc Try.prog W 0 (fun _ => true) true n 5 cs = some x) : ∃ z : Int, RDs W [.v (.int .u8 z)] cs := by
  obtain ⟨a, rfl, _, _⟩ := DataW.trod_int Try.underlying5 h
  exact ⟨a, RDs.cons (.v _) rfl RDs.nil⟩
theorem come_bool {cs : List Value} {x : DataW H × List MemPlace} {n : Nat} (h : DataW.trod enc Try.prog W 0 (fun _ => true) true n 4 cs = some x) : ∃ z : Bool, RDs W [.v (.bool z)] cs := by
  obtain ⟨a, rfl, _⟩ := DataW.trod_bool Try.underlying4 h
  exact ⟨a, RDs.cons (.v _) rfl RDs.nil⟩
structure BoxQ (b : BoxD) : Prop where
  lo : Pl.IsI b.lo
  hi : Pl.IsI b.hi
  l1 : b.lo.length ≤ maxLen
  l2 : b.hi.length ≤ maxLen
theorem come_box {cs : List Value} {x : DataW H × List MemPlace} {n : Nat} (h : DataW.trod enc Try.prog W 0 (fun _ => true) true n 33 cs = some x) : ∃ b : BoxD, BoxQ b ∧ RDs W (boxL b) cs := by
  obtain ⟨z0, z1, n'', _, hl1, g0, g1⟩ := Go.ChangeShapes.trod_struct2 Try.underlying33 h
  obtain ⟨lo, i1, m1, p0⟩ := come_row g0
  obtain ⟨hi, i2, m2, p1⟩ := come_row g1
  rw [show Try.prog.cellsOf 33 = 2 by kernel_rfl] at hl1
  rw [show Try.prog.cellsOf 31 = 1 by kernel_rfl] at p0 p1
  dsimp only at p0 p1 hl1
  refine ⟨⟨lo, hi⟩, ⟨i1, i2, m1, m2⟩, ?_⟩
  match cs, hl1 with
  | [a, b], _ => exact p0.app p1
theorem come_ord {cs : List Value} {x : DataW H × List MemPlace} {n : Nat} (h : DataW.trod enc Try.prog W 0 (fun _ => true) true n 62 cs = some x) : ∃ o : OrdD, Pl.IsI o.at_ ∧ RDs W (ordL o) cs := by
  obtain ⟨z0, z1, z2, n'', hl1, g0, g1, g2⟩ := trod_struct3' Try.underlying62 h
  obtain ⟨k, p0⟩ := come_u8 g0
  obtain ⟨c, p1⟩ := come_i64 g1
  obtain ⟨at_, i2, m2, p2⟩ := come_row g2
  rw [show Try.prog.cellsOf 62 = 3 by kernel_rfl] at hl1
  rw [show Try.prog.cellsOf 5 = 1 by kernel_rfl] at p0
  rw [show Try.prog.cellsOf 3 = 1 by kernel_rfl] at p1
  rw [show Try.prog.cellsOf 31 = 1 by kernel_rfl] at p2
  dsimp only at p0 p1 p2 hl1
  refine ⟨⟨k, c, at_⟩, i2, ?_⟩
  match cs, hl1 with
  | [a, b, d], _ => exact p0.app (p1.app p2)
structure QryQ (q : QryD) : Prop where
  box : BoxQ q.box
  at_ : Pl.IsI q.ord.at_
theorem come_query {cs : List Value} {x : DataW H × List MemPlace} {n : Nat} (h : DataW.trod enc Try.prog W 0 (fun _ => true) true n 64 cs = some x) : ∃ q : QryD, QryQ q ∧ RDs W (qryL q) cs := by
  obtain ⟨z0, z1, z2, z3, n'', hl1, g0, g1, g2, g3⟩ := trod_struct4' Try.underlying64 h
  obtain ⟨b, q0, p0⟩ := come_box g0
  obtain ⟨o, q1, p1⟩ := come_ord g1
  obtain ⟨l, p2⟩ := come_i64 g2
  obtain ⟨c, p3⟩ := come_bool g3
  rw [show Try.prog.cellsOf 64 = 7 by kernel_rfl] at hl1
  rw [show Try.prog.cellsOf 33 = 2 by kernel_rfl] at p0
  rw [show Try.prog.cellsOf 62 = 3 by kernel_rfl] at p1
  rw [show Try.prog.cellsOf 3 = 1 by kernel_rfl] at p2
  rw [show Try.prog.cellsOf 4 = 1 by kernel_rfl] at p3
  dsimp only at p0 p1 p2 p3 hl1
  refine ⟨⟨b, o, l, c⟩, ⟨q0, q1⟩, ?_⟩
  match cs, hl1 with
  | [a0, a1, a2, a3, a4, a5, a6], _ => exact (p0.app p1).app (p2.app p3)
theorem come_rows {cs : List Value} {x : DataW H × List MemPlace} {n : Nat} (h : DataW.trod enc Try.prog W 0 (fun _ => true) true n 65 cs = some x) : ∃ l : List (List Int), (∀ x ∈ l, Pl.IsI x) ∧ l.length ≤ maxLen ∧ RDs W [rowsL l] cs := by
  obtain ⟨l, h1, h2, h3⟩ := come_slP (Pq := fun x : List Int => Pl.IsI x) (L := fun x : List Int => [i64L x]) Try.underlying65 (s := 1) (by kernel_rfl) (by decide) (fun _ => rfl) (fun h => by
    obtain ⟨a, r1, r2, r3⟩ := come_row h
    exact ⟨a, r1, r3⟩) h
  refine ⟨l, fun x hx => ?_, h1, h3⟩
  obtain ⟨i, hi, rfl⟩ := List.getElem_of_mem hx
  have := h2 i hi
  rwa [List.getD_eq_getElem?_getD, List.getElem?_eq_getElem hi] at this
theorem int_i64 {z : Int} (w : (Lit.int .i64 z).wf = true) : -9223372036854775808 ≤ z ∧ z ≤ 9223372036854775807 := by
  simp [Lit.wf, IntKind.min, IntKind.max, IntKind.signed, IntKind.bits] at w
  omega
end
end Go.Proofs.Ytglmohcnmpbfmaa
