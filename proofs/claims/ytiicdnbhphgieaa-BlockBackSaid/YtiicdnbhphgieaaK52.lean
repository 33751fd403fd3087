/- A slice of slices of bytes that came in, opened whole. -/
import Derived.Deep.Matrix
import Derived.Test.YtiicdnbhphgieaaK44
set_option linter.unusedVariables false
set_option linter.unusedSimpArgs false
namespace Go.Proofs.Ytiicdnbhphgieaa
open Go.ChangeShapes Go.WideShapes Go.RowKit
section
variable {H : Type} {enc : TypeId × Value → H} {P : Program} {W : World} {base : Nat}
theorem arr_of_add {w : World} {x : Addr} {n : Nat} {f : Nat → Value} (h : ∀ i, i < n → w.cell? (x.add i) = some (f i)) : Arr w w.heap.size (some x) n f := fun hn => by
  obtain ⟨b, off, spot⟩ := x
  have h0 := h 0 hn
  have hspot : spot = none := by simpa [Addr.add] using World.cell?_spot h0
  subst hspot
  refine ⟨b, off, rfl, ?_, fun i hi => ?_⟩
  · have := World.block_lt_of_cell? w _ h0
    simpa [Addr.add] using this
  · have hadd : (⟨b, off, none⟩ : Addr).add i = ⟨b, off + i, none⟩ := by unfold Addr.add; split <;> simp_all
    have := h i hi
    rwa [hadd] at this
theorem frame_rows {t e q : TypeId} (ht : P.underlying t = some (.slice e)) (he : P.underlying e = some (.slice q)) (hq : P.underlying q = some (.int .u8)) (ce : P.cellsOf e = 1) (cq : P.cellsOf q = 1) {v : Value} {d : DataW H} {p : List MemPlace}
    (hv : Value.okWide P W .any base t v) (h : DataW.Trod enc P W 0 (fun _ => true) true t v d p) :
    ∃ (A : Option Addr) (ll : List (List Nat)) (cap : Nat) (AA : Nat → Option Addr) (cc : Nat → Nat), v = .slice A ll.length cap ∧ ll.length ≤ maxLen ∧ Arr W W.heap.size A ll.length (fun i => .slice (AA i) (ll.getD i []).length (cc i)) ∧
      (∀ i, i < ll.length → Arr W W.heap.size (AA i) (ll.getD i []).length (u8s (ll.getD i [])) ∧ IsB (ll.getD i []) ∧ (ll.getD i []).length ≤ maxLen) := by
  obtain ⟨a0, len0, cap0, rfl⟩ := okWide_slice ht hv
  obtain ⟨fuel, hf⟩ := h
  rcases Deep.open_int_rows ht he hq ce cq hf with ⟨hcs, hx⟩ | ⟨x, len, cap, A, L, C, Z, hcs, _, hl, hm, hx, hr⟩
  · simp [Value.cells] at hcs
    obtain ⟨rfl, rfl, rfl⟩ := hcs
    exact ⟨none, [], 0, fun _ => none, fun _ => 0, rfl, by simp, Arr.none_, by simp⟩
  · simp [Value.cells] at hcs
    obtain ⟨rfl, rfl, rfl⟩ := hcs
    have each : ∀ r, r < len0 → ∃ l : List Nat, l.length = L r ∧ Arr W W.heap.size (A r) l.length (u8s l) ∧ IsB l := fun r hr0 => by
      obtain ⟨h1, h2, h3, h4, h5, h6, h7⟩ := hr r (by omega)
      have hA : Arr W W.heap.size (A r) (L r) (fun i => .int .u8 (((Z r).take (L r)).getD i 0)) := by
        intro hn
        rcases hA : A r with _ | a'
        · have := h6 hA; omega
        · refine arr_of_add (fun i hi => ?_) hn
          rw [(h7 a' hA).2 i (by omega)]
          simp [List.getD, List.getElem?_take, hi]
      obtain ⟨l, hl, ha, hb⟩ := frame_bytes (zs := (Z r).take (L r)) (by simp; omega) hA (fun n hn => h5 n (List.mem_of_mem_take hn))
      exact ⟨l, hl, by rw [hl]; exact ha, hb⟩
    obtain ⟨f, hf⟩ := Deep.choose_lt each
    have e1 : ((List.range len0).map f).length = len0 := by simp
    have e2 : ∀ i, i < len0 → ((List.range len0).map f).getD i [] = f i := fun i hi => by simp [List.getD, List.getElem?_map, List.getElem?_range hi]
    refine ⟨some x, (List.range len0).map f, cap0, A, C, by rw [e1], by rw [e1]; omega, ?_, fun i hi => ?_⟩
    · rw [e1]
      refine arr_of_add fun i hi => ?_
      rw [e2 i hi, (hf i hi).1]
      exact (hr i (by omega)).1
    · rw [e1] at hi
      rw [e2 i hi]
      refine ⟨(hf i hi).2.1, (hf i hi).2.2, ?_⟩
      obtain ⟨_, h2, h3, _⟩ := hr i (by omega)
      rw [(hf i hi).1]
      omega
end
end Go.Proofs.Ytiicdnbhphgieaa
