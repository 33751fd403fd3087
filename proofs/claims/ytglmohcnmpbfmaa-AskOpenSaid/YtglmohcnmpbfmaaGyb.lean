/- Bytes that came in. -/
import Derived.Test.YtglmohcnmpbfmaaGy
set_option linter.unusedVariables false
set_option linter.unusedSimpArgs false
namespace Go.Proofs.Ytglmohcnmpbfmaa
open Go.ChangeShapes Go.WideShapes Go.RowKit
section
variable {H : Type} {enc : TypeId × Value → H} {W : World}
theorem come_bytes {cs : List Value} {x : DataW H × List MemPlace} {n : Nat} (h : DataW.trod enc Try.prog W 0 (fun _ => true) true n 82 cs = some x) : ∃ l : List Nat, Pl.IsB l ∧ l.length ≤ maxLen ∧ RDs W [byteL l] cs := by
  obtain ⟨l, hl, hp, r⟩ := come_slP (Pq := fun z : Nat => z < 256) (L := fun z : Nat => [.v (.int .u8 (z : Nat))]) Try.underlying82 (s := 1) (by kernel_rfl) (by decide) (fun _ => rfl) (fun h => by
    obtain ⟨a, rfl, _, wa⟩ := DataW.trod_int Try.underlying5 h
    have hb : 0 ≤ a ∧ a ≤ 255 := by
      simp [Lit.wf, IntKind.min, IntKind.max, IntKind.signed, IntKind.bits] at wa
      omega
    obtain ⟨k, rfl⟩ := Int.eq_ofNat_of_zero_le hb.1
    exact ⟨k, by omega, RDs.cons (.v _) rfl RDs.nil⟩) h
  exact ⟨l, isB_of fun i hi => hp i hi, hl, r⟩
end
set_option linter.constructorNameAsVariable false
set_option maxRecDepth 100000
theorem cells_slice {T E : Nat} (hT : Try.prog.underlying T = some (.slice E)) {W : World} {v : Value} (h : Value.okWide Try.prog W .any 0 T v) : v.cells.toList = [v] := by
  simp only [Value.okWide, hT, Cell.okWide] at h
  cases v <;> simp_all [Value.cells, Cell.ok]
theorem rv_slice {C : Cx} {W : World} {s n : Nat} {f : Nat → List DV} {v : Value} (h : RDs W [.sl s n f] v.cells.toList) (hc : v.cells.toList = [v]) (hN : ∀ k, C.N k ↔ k < W.heap.size) (hW : C.W = W) : Rv C (.d (.sl s n f)) v := by
  have e : C.N = fun k => k < W.heap.size := funext fun k => propext (hN k)
  have := h.rd 0 (by simp)
  rw [hc] at this
  show RD C.W C.N _ _
  rw [hW, e]
  exact this
theorem int_u8 {a : Int} (h : (Lit.int .u8 a).wf = true) : ∃ k : Nat, a = k := by
  have hb : 0 ≤ a ∧ a ≤ 255 := by
    simp [Lit.wf, IntKind.min, IntKind.max, IntKind.signed, IntKind.bits] at h
    omega
  exact Int.eq_ofNat_of_zero_le hb.1

end Go.Proofs.Ytglmohcnmpbfmaa
