/- From a row's arguments, read as data, to the words of my walks. -/
import Derived.Test.YtjdbpeblbejllaaMem
import Derived.ProofKit
import Derived.OpenShut
import Derived.ShutString
import Derived.ChangeOld
import Derived.SizedLaws
import Derived.Lib.SmallJoins
set_option linter.unusedVariables false
set_option linter.unusedSimpArgs false
namespace Go.Proofs.Ytjdbpeblbejllaa
open Go.ChangeShapes Go.WideShapes Go.ChangeAt Go.RowKit
open Go.ChangeMaps (open_string shut_string)

theorem wf_i64_bd {n : Int} (h : (Lit.int .i64 n).wf = true) : -9223372036854775808 ≤ n ∧ n ≤ 9223372036854775807 := by
  simp [Lit.wf, IntKind.min, IntKind.max, IntKind.signed, IntKind.bits] at h
  omega
theorem wf_u8_bd {n : Int} (h : (Lit.int .u8 n).wf = true) : 0 ≤ n ∧ n ≤ 255 := by
  simp [Lit.wf, IntKind.min, IntKind.max, IntKind.signed, IntKind.bits] at h
  omega
theorem wf_u64_bd {n : Int} (h : (Lit.int .u64 n).wf = true) : 0 ≤ n ∧ n ≤ 18446744073709551615 := by
  simp [Lit.wf, IntKind.min, IntKind.max, IntKind.signed, IntKind.bits] at h
  omega

section
variable {H : Type} {enc : TypeId × Value → H} {P : Program} {W : World} {base : Nat}

theorem frame_arr {t e : TypeId} {k : IntKind} (ht : P.underlying t = some (.slice e)) (he : P.underlying e = some (.int k)) (hc : P.cellsOf e = 1) {v : Value} {d : DataW H} {p : List MemPlace}
    (hv : Value.okWide P W .any base t v) (h : DataW.Trod enc P W 0 (fun _ => true) true t v d p) :
    ∃ (A : Option Addr) (len cap : Nat) (zs : List Int), v = .slice A len cap ∧ zs.length = len ∧ len ≤ cap ∧ cap ≤ maxLen ∧ Arr W W.heap.size A len (fun i => .int k (zs.getD i 0)) ∧ (∀ n ∈ zs, (Lit.int k n).wf = true) ∧
      (len = 0 ∨ ∃ E S, d = .slice E S ∧ E.length = len) := by
  obtain ⟨a0, len0, cap0, rfl⟩ := okWide_slice ht hv
  obtain ⟨fuel, hf⟩ := h
  rcases open_ints ht he hc hf with ⟨hcs, hx⟩ | ⟨x, l, c, zs, hcs, _, hl, hm, hz, hx, hcell, hwz⟩
  · simp [Value.cells] at hcs
    obtain ⟨rfl, rfl, rfl⟩ := hcs
    exact ⟨none, 0, 0, [], rfl, rfl, Nat.le_refl _, by simp [maxLen], Arr.none_, by simp, .inl rfl⟩
  · simp [Value.cells] at hcs
    obtain ⟨rfl, rfl, rfl⟩ := hcs
    simp only [if_true] at hz
    have hd : d = .slice (lits k (zs.take len0)) (lits k (zs.drop len0)) := by
      have := congrArg Prod.fst hx
      exact this
    refine ⟨some x, len0, cap0, zs.take len0, rfl, by simp; omega, hl, hm, fun hn => ?_, fun n hn => hwz n (List.mem_of_mem_take hn), .inr ⟨_, _, hd, by simp [lits]; omega⟩⟩
    obtain ⟨b, off, spot⟩ := x
    have h0 := hcell 0 (by omega)
    have hspot : spot = none := by simpa [Addr.add] using World.cell?_spot h0
    subst hspot
    refine ⟨b, off, rfl, ?_, fun i hi => ?_⟩
    · have := World.block_lt_of_cell? W _ h0
      simpa [Addr.add] using this
    · have hadd : (⟨b, off, none⟩ : Addr).add i = ⟨b, off + i, none⟩ := by unfold Addr.add; split <;> simp_all
      have := hcell i (by omega)
      rw [hadd] at this
      rw [this]
      simp [List.getD, List.getElem?_take, hi]

/-- the same for a part of a struct -/
theorem frame_part {t e : TypeId} {k : IntKind} (ht : P.underlying t = some (.slice e)) (he : P.underlying e = some (.int k)) (hc : P.cellsOf e = 1) {v : Value} {x : DataW H × List MemPlace} {n : Nat}
    (hf : DataW.trod enc P W 0 (fun _ => true) true n t [v] = some x) :
    ∃ (A : Option Addr) (len cap : Nat) (zs : List Int), v = .slice A len cap ∧ zs.length = len ∧ len ≤ cap ∧ cap ≤ maxLen ∧ Arr W W.heap.size A len (fun i => .int k (zs.getD i 0)) ∧ (∀ n ∈ zs, (Lit.int k n).wf = true) ∧
      (len = 0 ∨ ∃ E S, x.1 = .slice E S ∧ E.length = len) := by
  rcases open_ints ht he hc hf with ⟨hcs, hx⟩ | ⟨y, l, c, zs, hcs, _, hl, hm, hz, hx, hcell, hwz⟩
  · simp at hcs
    subst hcs
    exact ⟨none, 0, 0, [], rfl, rfl, Nat.le_refl _, by simp [maxLen], Arr.none_, by simp, .inl rfl⟩
  · simp at hcs
    subst hcs
    simp only [if_true] at hz
    have hd : x.1 = .slice (lits k (zs.take l)) (lits k (zs.drop l)) := congrArg Prod.fst hx
    refine ⟨some y, l, c, zs.take l, rfl, by simp; omega, hl, hm, fun hn => ?_, fun n hn => hwz n (List.mem_of_mem_take hn), .inr ⟨_, _, hd, by simp [lits]; omega⟩⟩
    obtain ⟨b, off, spot⟩ := y
    have h0 := hcell 0 (by omega)
    have hspot : spot = none := by simpa [Addr.add] using World.cell?_spot h0
    subst hspot
    refine ⟨b, off, rfl, ?_, fun i hi => ?_⟩
    · have := World.block_lt_of_cell? W _ h0
      simpa [Addr.add] using this
    · have hadd : (⟨b, off, none⟩ : Addr).add i = ⟨b, off + i, none⟩ := by unfold Addr.add; split <;> simp_all
      have := hcell i (by omega)
      rw [hadd] at this
      rw [this]
      simp [List.getD, List.getElem?_take, hi]

theorem isI_of_wf {zs : List Int} (h : ∀ n ∈ zs, (Lit.int .i64 n).wf = true) : IsI zs := fun i => by
  by_cases hi : i < zs.length
  · rw [show zs.getD i 0 = zs[i] from by simp [List.getD, List.getElem?_eq_getElem hi]]; exact wf_i64_bd (h _ (List.getElem_mem hi))
  · rw [getD_out _ _ _ (by omega)]; omega
theorem frame_bytes {A : Option Addr} {len : Nat} {zs : List Int} (hl : zs.length = len) (h : Arr W W.heap.size A len (fun i => .int .u8 (zs.getD i 0))) (hw : ∀ n ∈ zs, (Lit.int .u8 n).wf = true) :
    ∃ l : List Nat, l.length = len ∧ Arr W W.heap.size A len (u8s l) ∧ IsB l := by
  refine ⟨zs.map Int.toNat, by simpa using hl, h.congr fun i hi => ?_, fun i => ?_⟩
  · have hi' : i < zs.length := by omega
    have := wf_u8_bd (hw _ (List.getElem_mem hi'))
    unfold u8s
    simp only [List.getD, List.getElem?_map, List.getElem?_eq_getElem hi', Option.map_some, Option.getD_some]
    congr 1
    omega
  · by_cases hi : i < zs.length
    · have := wf_u8_bd (hw _ (List.getElem_mem hi))
      simp only [List.getD, List.getElem?_map, List.getElem?_eq_getElem hi, Option.map_some, Option.getD_some]
      omega
    · rw [getD_out _ _ _ (by simpa using hi)]; omega
theorem frame_words {A : Option Addr} {len : Nat} {zs : List Int} (hl : zs.length = len) (h : Arr W W.heap.size A len (fun i => .int .u64 (zs.getD i 0))) (hw : ∀ n ∈ zs, (Lit.int .u64 n).wf = true) :
    ∃ l : List Nat, l.length = len ∧ Arr W W.heap.size A len (u64s l) ∧ ∀ i, l.getD i 0 < 18446744073709551616 := by
  refine ⟨zs.map Int.toNat, by simpa using hl, h.congr fun i hi => ?_, fun i => ?_⟩
  · have hi' : i < zs.length := by omega
    have := wf_u64_bd (hw _ (List.getElem_mem hi'))
    unfold u64s
    simp only [List.getD, List.getElem?_map, List.getElem?_eq_getElem hi', Option.map_some, Option.getD_some]
    congr 1
    omega
  · by_cases hi : i < zs.length
    · have := wf_u64_bd (hw _ (List.getElem_mem hi))
      simp only [List.getD, List.getElem?_map, List.getElem?_eq_getElem hi, Option.map_some, Option.getD_some]
      omega
    · rw [getD_out _ _ _ (by simpa using hi)]; omega

/-- a part of a struct that is an integer -/
theorem frame_int {t : TypeId} {k : IntKind} (ht : P.underlying t = some (.int k)) {v : Value} {n : Nat} {x : DataW H × List MemPlace}
    (hf : DataW.trod enc P W 0 (fun _ => true) true n t [v] = some x) : ∃ z : Int, v = .int k z ∧ (Lit.int k z).wf = true := by
  obtain ⟨z, hz, _, hw⟩ := DataW.trod_int ht hf
  exact ⟨z, by simpa using hz, hw⟩
theorem frame_u64 {t : TypeId} (ht : P.underlying t = some (.int .u64)) {v : Value} {n : Nat} {x : DataW H × List MemPlace}
    (hf : DataW.trod enc P W 0 (fun _ => true) true n t [v] = some x) : ∃ z : Nat, v = .int .u64 z ∧ z < 18446744073709551616 := by
  obtain ⟨z, rfl, hw⟩ := frame_int ht hf
  have := wf_u64_bd hw
  exact ⟨z.toNat, by rw [Int.toNat_of_nonneg this.1], by omega⟩
end
/-- the reach of a slice that is a part of a struct -/
theorem sized_part {H : Type} {P : Program} {ts : List TypeId} {ds : List (DataW H)} (h : (DataW.weightsEach P ts ds).all (· ≤ reachBytes) = true) {j i : Nat} {t t' e : TypeId} {parts elems spare : List (DataW H)} {fs : Array Field}
    (ht : ts[j]? = some t) (hd : ds[j]? = some (.agg parts)) (hu : P.underlying t = some (.struct fs)) (hi : (fs.toList.map (·.type))[i]? = some t') (hp : parts[i]? = some (.slice elems spare)) (hs : P.underlying t' = some (.slice e)) :
    (elems.length + spare.length) * P.bytesOf e ≤ reachBytes := by
  refine of_decide_eq_true (List.all_eq_true.1 h _ (DataW.weights_mem_each ht hd _ ?_))
  simp only [DataW.weights, hu]
  exact DataW.weights_mem_each hi hp _ (by simp [DataW.weights, hs])
theorem dv_split (h l : Nat) (bh : h < 18446744073709551616) (bl : l < 18446744073709551616) : ∃ D : Nat, D < 340282366920938463463374607431768211456 ∧ h = D / 18446744073709551616 ∧ l = D % 18446744073709551616 :=
  ⟨h * 18446744073709551616 + l, by omega, by omega, by omega⟩
end Go.Proofs.Ytjdbpeblbejllaa
