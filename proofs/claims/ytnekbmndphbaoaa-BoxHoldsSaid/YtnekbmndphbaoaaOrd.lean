/- Orders: blocks of three cells; which orders are right (box and the document's package). -/
import Derived.Test.YtnekbmndphbaoaaDistLaw
import Derived.Test.YtnekbmndphbaoaaFork
set_option linter.unusedVariables false
set_option linter.unusedSimpArgs false
namespace Go.Proofs.Ytnekbmndphbaoaa
open Go.RowKit
/-- a block of three cells -/
def Three (w : World) (g : Nat) (t : TypeId) (x y z : Value) : Prop := w.heap[g]? = some (.cells #[x, y, z] t (0, 0))
section
variable {w w' : World} {g : Nat} {t : TypeId} {x y z : Value}
theorem Three.c0 (h : Three w g t x y z) : w.cell? ⟨g, 0, none⟩ = some x := by rw [cell_of_row w g 0 _ t (0, 0) h]; rfl
theorem Three.c1 (h : Three w g t x y z) : w.cell? ⟨g, 1, none⟩ = some y := by rw [cell_of_row w g 1 _ t (0, 0) h]; rfl
theorem Three.c2 (h : Three w g t x y z) : w.cell? ⟨g, 2, none⟩ = some z := by rw [cell_of_row w g 2 _ t (0, 0) h]; rfl
theorem Three.fz (h : Three w g t x y z) (i : Nat) : w.frozen? ⟨g, i, none⟩ = false := frozen_of_row w g i _ t h
theorem Three.lt (h : Three w g t x y z) : g < w.heap.size := (Array.getElem?_eq_some_iff.1 h).1
theorem Three.below {B : Nat} (h : Three w g t x y z) (hb : Below B w w') (hB : g < B) : Three w' g t x y z := (hb.block g hB).trans h
theorem Three.after (h : Three w g t x y z) (hb : Below w.heap.size w w') : Three w' g t x y z := h.below hb h.lt
theorem Three.setOther (h : Three w g t x y z) {a : Addr} (ha : g ≠ a.block) (v : Value) : Three (w.setCell a v) g t x y z := (Below.heap_setCell _ _ _ _ ha).trans h
theorem Three.alloc (h : Three w g t x y z) (o : Obj) : Three (w.alloc o) g t x y z := (Below.heap_alloc _ _ _ h.lt).trans h
theorem Three.new (w : World) (t : TypeId) (x y z : Value) : Three (w.alloc (.cells #[x, y, z] t)) w.heap.size t x y z := heap_alloc_new _ _
theorem Three.new' (w : World) (t : TypeId) (x y z : Value) (g : Nat) (h : w.heap.size = g) : Three (w.alloc (.cells #[x, y, z] t)) g t x y z := by subst h; exact heap_alloc_new _ _
theorem Three.ext {W : World} (h : Three w g t x y z) (hW : Ext w W) : Three W g t x y z := (hW.block g h.lt).trans h
end

/-- which orders are right -/
def ordB (K col : Int) (n : Nat) (d : Int) : Bool :=
  decide (1 ≤ d ∧ d ≤ 8 ∧ ((K = 0 ∧ col = 0 ∧ n = 0) ∨ (K = 1 ∧ 1 ≤ col ∧ col < d ∧ n = 0) ∨ (K = 2 ∧ 0 ≤ col ∧ col < d ∧ n = 0) ∨ (K = 3 ∧ col = 0 ∧ 2 ≤ d ∧ (n : Int) = d - 1)))

set_option maxHeartbeats 4000000 in
theorem ord_any (K col : Int) (A : Option Addr) (n c : Nat) (d : Int) (w : World) (hd : I64 d) :
    Calls Try.prog 32 #[.agg #[.int .u8 K, .int .i64 col, .slice A n c], .int .i64 d] w fun e w' => e = .returned (.bool (ordB K col n d)) ∧ Below w.heap.size w w' := by
  obtain ⟨r, hr⟩ : ∃ r, r = ordB K col n d := ⟨_, rfl⟩
  rw [← hr]
  have HR := hideP hr
  unfold I64 at hd
  clear hr
  go_enter Try.func32, Try.ntmps32
  go_wp2
  all_goals go_ret
  all_goals refine ⟨ret_bool ?_, below_new _ _⟩
  all_goals (rw [HR.out, Bool.eq_iff_iff]; unfold ordB; simp only [Bool.false_eq_true, false_iff, true_iff, beq_iff_eq, decide_eq_true_eq]; (try simp only [beq_iff_eq, beq_eq_false_iff_ne, ne_eq] at *); omega)
set_option maxHeartbeats 4000000 in
theorem rord_any (K col : Int) (A : Option Addr) (n c : Nat) (d : Int) (w : World) (hd : I64 d) :
    Calls Try.prog 33 #[.agg #[.int .u8 K, .int .i64 col, .slice A n c], .int .i64 d] w fun e w' => e = .returned (.bool (ordB K col n d)) ∧ Below w.heap.size w w' := by
  obtain ⟨r, hr⟩ : ∃ r, r = ordB K col n d := ⟨_, rfl⟩
  rw [← hr]
  have HR := hideP hr
  unfold I64 at hd
  clear hr
  go_enter Try.func33, Try.ntmps33
  go_wp2
  all_goals go_ret
  all_goals refine ⟨ret_bool ?_, below_new _ _⟩
  all_goals (rw [HR.out, Bool.eq_iff_iff]; unfold ordB; simp only [Bool.false_eq_true, false_iff, true_iff, beq_iff_eq, decide_eq_true_eq]; (try simp only [beq_iff_eq, beq_eq_false_iff_ne, ne_eq] at *); omega)
end Go.Proofs.Ytnekbmndphbaoaa
