/- Small steps from world to world. -/
import Derived.Test.YtnekbmndphbaoaaEager
set_option linter.unusedVariables false
set_option linter.unusedSimpArgs false
namespace Go.Proofs.Ytnekbmndphbaoaa
open Go.RowKit
theorem bstep {w w1 w2 : World} (h : Below w.heap.size w w1) (k : Below w1.heap.size w1 w2) : Below w.heap.size w w2 := h.trans (k.mono h.size)
theorem two_set0 {w : World} {g : Nat} {t : TypeId} {x y : Value} (h : Two w g t x y) (u : Value) : Two (w.setCell ⟨g, 0, none⟩ u) g t u y := by
  unfold Two at *
  simp [World.setCell, Array.getElem?_modify, h]
theorem two_set1 {w : World} {g : Nat} {t : TypeId} {x y : Value} (h : Two w g t x y) (u : Value) : Two (w.setCell ⟨g, 1, none⟩ u) g t x u := by
  unfold Two at *
  simp [World.setCell, Array.getElem?_modify, h]
end Go.Proofs.Ytnekbmndphbaoaa
