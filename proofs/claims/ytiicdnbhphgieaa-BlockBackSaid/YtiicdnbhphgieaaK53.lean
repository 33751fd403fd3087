/- A slice of changes that came in, opened whole. -/
import Derived.Deep.Slices
import Derived.Test.YtiicdnbhphgieaaK44
import Derived.Test.YtiicdnbhphgieaaK50
import Derived.Test.YtiicdnbhphgieaaK52
set_option linter.unusedVariables false
set_option linter.unusedSimpArgs false
namespace Go.Proofs.Ytiicdnbhphgieaa
open Go.ChangeShapes Go.WideShapes Go.RowKit
section
variable {H : Type} {enc : TypeId × Value → H} {W : World} {base : Nat}
theorem frame_texts {x : DataW H × List MemPlace} {v : Value} {n : Nat} (hf : DataW.trod enc Try.prog W 0 (fun _ => true) true n 26 [v] = some x) :
    ∃ (A : Option Addr) (L : List ByteArray) (cap : Nat), v = .slice A L.length cap ∧ L.length ≤ cap ∧ Arr W W.heap.size A L.length (strs L) := by
  rcases Deep.open_slice1 Try.underlying26 (by kernel_rfl) hf with ⟨hcs, _⟩ | ⟨a, len, cap, m, n', V, D, Pl, hcs, _, hl, hm, hmm, _, hx⟩
  · simp at hcs
    subst hcs
    exact ⟨none, [], 0, rfl, Nat.le_refl _, Arr.none_⟩
  · simp at hcs
    subst hcs
    simp only [if_true] at hmm
    have each : ∀ i, i < len → ∃ s : ByteArray, V i = .string s := fun i hi => by
      obtain ⟨_, h2⟩ := hx i (by omega)
      obtain ⟨s, hs, _⟩ := DataW.trod_string Try.underlying9 h2
      simp at hs
      exact ⟨s, hs⟩
    obtain ⟨f, hF⟩ := Deep.choose_lt each
    have e1 : ((List.range len).map f).length = len := by simp
    refine ⟨some a, (List.range len).map f, cap, by rw [e1], by rw [e1]; exact hl, ?_⟩
    rw [e1]
    refine arr_of_add fun i hi => ?_
    rw [(hx i (by omega)).1, hF i hi]
    simp [strs, List.getD, List.getElem?_map, List.getElem?_range hi]
set_option maxRecDepth 100000 in
theorem frame_op {cs : List Value} {x : DataW H × List MemPlace} {n : Nat} (hf : DataW.trod enc Try.prog W 0 (fun _ => true) true n 30 cs = some x) :
    ∃ (o : OpD) (p : OpP), cs = opC o p ∧ OpMem W W.heap.size o p ∧ o.kind < 256 ∧ IsI o.row := by
  obtain ⟨y0, y1, y2, y3, n', _, hl, h0, h1, h2, h3⟩ := Go.Joins.trod_struct4 Try.underlying30 hf
  rw [show Try.prog.cellsOf 30 = 4 by kernel_rfl] at hl
  obtain ⟨a, ea, _, wa⟩ := DataW.trod_int Try.underlying5 h0
  obtain ⟨s, es, _, _⟩ := DataW.trod_string Try.underlying9 h1
  have ba := wf_u8_bd wa
  rw [show Try.prog.cellsOf 5 = 1 by kernel_rfl] at ea
  rw [show Try.prog.cellsOf 9 = 1 by kernel_rfl] at es
  rw [show Try.prog.cellsOf 26 = 1 by kernel_rfl] at h2
  rw [show Try.prog.cellsOf 28 = 1 by kernel_rfl] at h3
  match cs, hl with
  | [c0, c1, c2, c3], _ =>
    simp at ea es h2 h3
    subst ea es
    obtain ⟨AC, L, cc, rfl, hcl, aC⟩ := frame_texts h2
    obtain ⟨AR, len, cr, zs, rfl, hzl, _, _, aR, wR, _⟩ := frame_part Try.underlying28 Try.underlying2 (by kernel_rfl) h3
    subst hzl
    refine ⟨⟨a.toNat, s, L, zs⟩, (AC, cc, AR, cr), ?_, ⟨aC, aR, hcl⟩, by show a.toNat < 256; omega, isI_of_wf wR⟩
    show _ = [Value.int .u8 ((a.toNat : Nat) : Int), .string s, .slice AC L.length cc, .slice AR zs.length cr]
    rw [show ((a.toNat : Nat) : Int) = a by omega]
instance : Inhabited OpQ := ⟨(default, (none, 0, none, 0))⟩
set_option maxRecDepth 100000 in
theorem frame_ops {r : Reach} {b0 : Nat} {v : Value} {d : DataW H} {p : List MemPlace} (hv : Value.okWide Try.prog W r b0 22 v) (h : DataW.Trod enc Try.prog W 0 (fun _ => true) true 22 v d p) :
    ∃ (A : Option Addr) (l : List OpD) (ps : Nat → OpP) (cap : Nat), v = .slice A l.length cap ∧ OpsM W W.heap.size A l ps := by
  obtain ⟨a0, len0, cap0, rfl⟩ := okWide_slice Try.underlying22 hv
  obtain ⟨fuel, hf⟩ := h
  rcases Deep.open_slice Try.underlying22 hf with ⟨hcs, _⟩ | ⟨a, len, cap, m, n, D, Pl, hcs, _, hl, hm, hmm, _, hx⟩
  · simp [Value.cells] at hcs
    obtain ⟨rfl, rfl, rfl⟩ := hcs
    exact ⟨none, [], fun _ => default, 0, rfl, fun h => absurd h (by simp), by simp⟩
  · simp [Value.cells] at hcs
    obtain ⟨rfl, rfl, rfl⟩ := hcs
    simp only [if_true] at hmm
    rw [show Try.prog.cellsOf 30 = 4 by kernel_rfl] at hx
    have each : ∀ i, i < len0 → ∃ q : OpQ, (∀ j, j < 4 → W.cell? (a.add (i * 4 + j)) = (opC q.1 q.2)[j]?) ∧ OpMem W W.heap.size q.1 q.2 ∧ q.1.kind < 256 ∧ IsI q.1.row := fun i hi => by
      obtain ⟨cs', h1, h2⟩ := hx i (by omega)
      obtain ⟨o, pp, rfl, h3, h4, h5⟩ := frame_op h2
      obtain ⟨_, _, hc⟩ := World.cells?_some h1
      refine ⟨(o, pp), fun j hj => ?_, h3, h4, h5⟩
      have hs : a.spot = none := by
        obtain ⟨c0, g1, g2⟩ := hx 0 (by omega)
        obtain ⟨o0, pp0, rfl, _, _, _⟩ := frame_op g2
        obtain ⟨_, _, gc⟩ := World.cells?_some g1
        have h0' : W.cell? ((a.add (0 * 4)).add 0) = some (.int .u8 (o0.kind : Nat)) := gc 0 (by decide)
        have := World.cell?_spot h0'
        simpa [Addr.add] using this
      have := hc j hj
      rw [← this]
      congr 1
      obtain ⟨b, off, spot⟩ := a
      dsimp only at hs
      subst hs
      have hadd : ∀ (x y : Nat), (⟨b, x, none⟩ : Addr).add y = ⟨b, x + y, none⟩ := fun x y => by unfold Addr.add; split <;> simp_all
      rw [hadd, hadd, hadd, Nat.add_assoc]
    obtain ⟨f, hF⟩ := Deep.choose_lt each
    have e1 : ((List.range len0).map fun i => (f i).1).length = len0 := by simp
    have e2 : ∀ i, i < len0 → ((List.range len0).map fun i => (f i).1).getD i default = (f i).1 := fun i hi => by simp [List.getD, List.getElem?_map, List.getElem?_range hi]
    refine ⟨some a, (List.range len0).map fun i => (f i).1, fun i => (f i).2, cap0, by rw [e1], ?_, fun i hi => ?_⟩
    · rw [e1]
      intro hn
      obtain ⟨b, off, spot⟩ := a
      have h0 := (hF 0 hn).1 0 (by decide)
      have h0' : W.cell? ((⟨b, off, spot⟩ : Addr).add (0 * 4 + 0)) = some (.int .u8 ((f 0).1.kind : Nat)) := h0
      have hspot : spot = none := by simpa [Addr.add] using World.cell?_spot h0'
      subst hspot
      refine ⟨b, off, rfl, by have := World.block_lt_of_cell? W _ h0'; simpa [Addr.add] using this, fun i hi j v hj => ?_⟩
      dsimp only at hj ⊢
      rw [e2 i hi] at hj
      have hj4 : j < 4 := by have := (List.getElem?_eq_some_iff.1 hj).1; simpa [opC, opV] using this
      have := (hF i hi).1 j hj4
      rw [hj] at this
      rw [show off + i * 4 + j = off + (i * 4 + j) by omega]
      have hadd : (⟨b, off, none⟩ : Addr).add (i * 4 + j) = ⟨b, off + (i * 4 + j), none⟩ := by unfold Addr.add; split <;> simp_all
      rwa [hadd] at this
    · rw [e1] at hi
      rw [e2 i hi]
      exact (hF i hi).2
end
end Go.Proofs.Ytiicdnbhphgieaa
