/- Contracts of package box: Cut. -/
import Derived.Test.YtjdbpeblbejllaaBox3
import Derived.Test.YtjdbpeblbejllaaMut
import Derived.Deep.AppendLies
set_option linter.unusedVariables false
set_option linter.unusedSimpArgs false
namespace Go.Proofs.Ytjdbpeblbejllaa
open Go.RowKit

theorem Own.at {w : World} {base : Nat} {R : Option Addr} {s n : Nat} {l : List Int} (h : Own w base R s l) (hn : l.length = n) (h0 : 0 < n) : ∃ g, R = some ⟨g, 0, none⟩ ∧ base ≤ g ∧ g < w.heap.size := by
  obtain ⟨g, cap, hv, hb, hl⟩ := World.ownsRow.form h (by omega)
  injection hv with h1
  exact ⟨g, h1, hb, hl⟩
theorem Own.store {w : World} {base g : Nat} {s : Nat} {l : List Int} (h : Own w base (some ⟨g, 0, none⟩) s l) (k : Nat) (z : Int) : Own (w.setCell ⟨g, k, none⟩ (.int .i64 z)) base (some ⟨g, 0, none⟩) s (l.set k z) := by
  have := (World.ownsRow.stored h k (.int .i64 z)).1
  unfold Own
  rw [List.length_set, List.map_set]
  exact this
theorem Own.other {w : World} {base : Nat} {R : Option Addr} {s : Nat} {l : List Int} {a : Addr} (h : Own w base R s l) (ha : (Value.slice R l.length s).ownBlock ≠ some a.block) (v : Value) : Own (w.setCell a v) base R s l := by
  refine ⟨h.1, h.2.imp id ?_⟩
  rintro ⟨g, cap, cur, hv, hg, hh, r⟩
  refine ⟨g, cap, cur, hv, hg, (Below.heap_setCell _ _ _ _ ?_).trans hh, r⟩
  rw [hv] at ha
  intro e
  apply ha
  rw [← e]
  rfl
theorem Own.fz {w : World} {base g : Nat} {s : Nat} {l : List Int} (h : Own w base (some ⟨g, 0, none⟩) s l) (j : Nat) : w.frozen? ⟨g, j, none⟩ = false := World.ownsRow.frozenAt h j

theorem Own.cell {w : World} {base g : Nat} {s : Nat} {l : List Int} (h : Own w base (some ⟨g, 0, none⟩) s l) (j : Nat) (hj : j < l.length) : w.cell? ⟨g, j, none⟩ = some (.int .i64 (l.getD j 0)) := by
  rw [World.ownsRow.cellAt h j (by omega)]
  simp [List.getD, List.getElem?_map, List.getElem?_eq_getElem hj]
def mx (a b : Int) : Int := if a < b then b else a
def mn (a b : Int) : Int := if b < a then b else a
/-- the first k numbers are those of f -/
def upTo (l : List Int) (f : Nat → Int) (k : Nat) : Prop := ∀ i, i < k → l.getD i 0 = f i
theorem upTo_set {l : List Int} {f : Nat → Int} {k : Nat} (h : upTo l f k) (hk : k < l.length) : upTo (l.set k (f k)) f (k + 1) := fun i hi => by
  unfold List.getD
  rw [List.getElem?_set]
  by_cases e : k = i
  · subst e; simp [hk]
  · simp [e]
    have := h i (by omega)
    unfold List.getD at this
    exact this
theorem upTo_all {l : List Int} {f : Nat → Int} {n : Nat} (h : upTo l f n) (hl : l.length = n) : l = (List.range n).map f := by
  refine List.ext_getElem? fun i => ?_
  rcases Nat.lt_or_ge i n with hi | hi
  · have := h i hi
    simp only [List.getElem?_map, List.getElem?_range hi, Option.map_some]
    unfold List.getD at this
    rw [List.getElem?_eq_getElem (by omega)] at this ⊢
    simpa using this
  · simp [hl, hi]

end Go.Proofs.Ytjdbpeblbejllaa
