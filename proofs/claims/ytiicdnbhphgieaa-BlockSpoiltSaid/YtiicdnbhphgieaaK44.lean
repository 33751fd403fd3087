/- From a row's arguments, read as data, to the words of my walks. Parameters that hold digests: an opening, a head. -/
import Derived.ProofKit
import Derived.OpenShut
import Derived.ShutString
import Derived.ChangeOld
import Derived.SizedLaws
import Derived.Lib.SmallJoins
import Derived.Test.YtiicdnbhphgieaaK2
import Derived.Test.YtiicdnbhphgieaaK35
import Derived.Test.YtiicdnbhphgieaaK37
set_option linter.unusedVariables false
set_option linter.unusedSimpArgs false
namespace Go.Proofs.Ytiicdnbhphgieaa
open Go.ChangeShapes Go.WideShapes Go.ChangeAt Go.RowKit
open Go.ChangeMaps (open_string shut_string)

theorem wf_i64_bd {n : Int} (h : (Lit.int .i64 n).wf = true) : -9223372036854775808 ≤ n ∧ n ≤ 9223372036854775807 := by
  simp [Lit.wf, IntKind.min, IntKind.max, IntKind.signed, IntKind.bits] at h
  omega
theorem wf_u8_bd {n : Int} (h : (Lit.int .u8 n).wf = true) : 0 ≤ n ∧ n ≤ 255 := by
  simp [Lit.wf, IntKind.min, IntKind.max, IntKind.signed, IntKind.bits] at h
  omega
theorem wf_u64_bd {n : Int} (h : (Lit.int .u64 n).wf = true) : 0 ≤ n ∧ n ≤ 18446744073709551615 := by
  simp [Lit.wf, IntKind.min, IntKind.max, IntKind.signed, IntKind.bits] at h
  omega

section
variable {H : Type} {enc : TypeId × Value → H} {P : Program} {W : World} {base : Nat}

theorem frame_arr {t e : TypeId} {k : IntKind} (ht : P.underlying t = some (.slice e)) (he : P.underlying e = some (.int k)) (hc : P.cellsOf e = 1) {v : Value} {d : DataW H} {p : List MemPlace}
    (hv : Value.okWide P W .any base t v) (h : DataW.Trod enc P W 0 (fun _ => true) true t v d p) :
    ∃ (A : Option Addr) (len cap : Nat) (zs : List Int), v = .slice A len cap ∧ zs.length = len ∧ len ≤ cap ∧ cap ≤ maxLen ∧ Arr W W.heap.size A len (fun i => .int k (zs.getD i 0)) ∧ (∀ n ∈ zs, (Lit.int k n).wf = true) ∧
      (len = 0 ∨ ∃ E S, d = .slice E S ∧ E.length = len) := by
  obtain ⟨a0, len0, cap0, rfl⟩ := okWide_slice ht hv
  obtain ⟨fuel, hf⟩ := h
  rcases open_ints ht he hc hf with ⟨hcs, hx⟩ | ⟨x, l, c, zs, hcs, _, hl, hm, hz, hx, hcell, hwz⟩
  · simp [Value.cells] at hcs
    obtain ⟨rfl, rfl, rfl⟩ := hcs
    exact ⟨none, 0, 0, [], rfl, rfl, Nat.le_refl _, by simp [maxLen], Arr.none_, by simp, .inl rfl⟩
  · simp [Value.cells] at hcs
    obtain ⟨rfl, rfl, rfl⟩ := hcs
    simp only [if_true] at hz
    have hd : d = .slice (lits k (zs.take len0)) (lits k (zs.drop len0)) := by
      have := congrArg Prod.fst hx
      exact this
    refine ⟨some x, len0, cap0, zs.take len0, rfl, by simp; omega, hl, hm, fun hn => ?_, fun n hn => hwz n (List.mem_of_mem_take hn), .inr ⟨_, _, hd, by simp [lits]; omega⟩⟩
    obtain ⟨b, off, spot⟩ := x
    have h0 := hcell 0 (by omega)
    have hspot : spot = none := by simpa [Addr.add] using World.cell?_spot h0
    subst hspot
    refine ⟨b, off, rfl, ?_, fun i hi => ?_⟩
    · have := World.block_lt_of_cell? W _ h0
      simpa [Addr.add] using this
    · have hadd : (⟨b, off, none⟩ : Addr).add i = ⟨b, off + i, none⟩ := by unfold Addr.add; split <;> simp_all
      have := hcell i (by omega)
      rw [hadd] at this
      rw [this]
      simp [List.getD, List.getElem?_take, hi]

/-- the same for a part of a struct -/
theorem frame_part {t e : TypeId} {k : IntKind} (ht : P.underlying t = some (.slice e)) (he : P.underlying e = some (.int k)) (hc : P.cellsOf e = 1) {v : Value} {x : DataW H × List MemPlace} {n : Nat}
    (hf : DataW.trod enc P W 0 (fun _ => true) true n t [v] = some x) :
    ∃ (A : Option Addr) (len cap : Nat) (zs : List Int), v = .slice A len cap ∧ zs.length = len ∧ len ≤ cap ∧ cap ≤ maxLen ∧ Arr W W.heap.size A len (fun i => .int k (zs.getD i 0)) ∧ (∀ n ∈ zs, (Lit.int k n).wf = true) ∧
      (len = 0 ∨ ∃ E S, x.1 = .slice E S ∧ E.length = len) := by
  rcases open_ints ht he hc hf with ⟨hcs, hx⟩ | ⟨y, l, c, zs, hcs, _, hl, hm, hz, hx, hcell, hwz⟩
  · simp at hcs
    subst hcs
    exact ⟨none, 0, 0, [], rfl, rfl, Nat.le_refl _, by simp [maxLen], Arr.none_, by simp, .inl rfl⟩
  · simp at hcs
    subst hcs
    simp only [if_true] at hz
    have hd : x.1 = .slice (lits k (zs.take l)) (lits k (zs.drop l)) := congrArg Prod.fst hx
    refine ⟨some y, l, c, zs.take l, rfl, by simp; omega, hl, hm, fun hn => ?_, fun n hn => hwz n (List.mem_of_mem_take hn), .inr ⟨_, _, hd, by simp [lits]; omega⟩⟩
    obtain ⟨b, off, spot⟩ := y
    have h0 := hcell 0 (by omega)
    have hspot : spot = none := by simpa [Addr.add] using World.cell?_spot h0
    subst hspot
    refine ⟨b, off, rfl, ?_, fun i hi => ?_⟩
    · have := World.block_lt_of_cell? W _ h0
      simpa [Addr.add] using this
    · have hadd : (⟨b, off, none⟩ : Addr).add i = ⟨b, off + i, none⟩ := by unfold Addr.add; split <;> simp_all
      have := hcell i (by omega)
      rw [hadd] at this
      rw [this]
      simp [List.getD, List.getElem?_take, hi]

theorem isI_of_wf {zs : List Int} (h : ∀ n ∈ zs, (Lit.int .i64 n).wf = true) : IsI zs := fun i => by
  by_cases hi : i < zs.length
  · rw [show zs.getD i 0 = zs[i] from by simp [List.getD, List.getElem?_eq_getElem hi]]; exact wf_i64_bd (h _ (List.getElem_mem hi))
  · rw [getD_out _ _ _ (by omega)]; omega
theorem frame_bytes {A : Option Addr} {len : Nat} {zs : List Int} (hl : zs.length = len) (h : Arr W W.heap.size A len (fun i => .int .u8 (zs.getD i 0))) (hw : ∀ n ∈ zs, (Lit.int .u8 n).wf = true) :
    ∃ l : List Nat, l.length = len ∧ Arr W W.heap.size A len (u8s l) ∧ IsB l := by
  refine ⟨zs.map Int.toNat, by simpa using hl, h.congr fun i hi => ?_, fun i => ?_⟩
  · have hi' : i < zs.length := by omega
    have := wf_u8_bd (hw _ (List.getElem_mem hi'))
    unfold u8s
    simp only [List.getD, List.getElem?_map, List.getElem?_eq_getElem hi', Option.map_some, Option.getD_some]
    congr 1
    omega
  · by_cases hi : i < zs.length
    · have := wf_u8_bd (hw _ (List.getElem_mem hi))
      simp only [List.getD, List.getElem?_map, List.getElem?_eq_getElem hi, Option.map_some, Option.getD_some]
      omega
    · rw [getD_out _ _ _ (by simpa using hi)]; omega
theorem frame_words {A : Option Addr} {len : Nat} {zs : List Int} (hl : zs.length = len) (h : Arr W W.heap.size A len (fun i => .int .u64 (zs.getD i 0))) (hw : ∀ n ∈ zs, (Lit.int .u64 n).wf = true) :
    ∃ l : List Nat, l.length = len ∧ Arr W W.heap.size A len (u64s l) ∧ ∀ i, l.getD i 0 < 18446744073709551616 := by
  refine ⟨zs.map Int.toNat, by simpa using hl, h.congr fun i hi => ?_, fun i => ?_⟩
  · have hi' : i < zs.length := by omega
    have := wf_u64_bd (hw _ (List.getElem_mem hi'))
    unfold u64s
    simp only [List.getD, List.getElem?_map, List.getElem?_eq_getElem hi', Option.map_some, Option.getD_some]
    congr 1
    omega
  · by_cases hi : i < zs.length
    · have := wf_u64_bd (hw _ (List.getElem_mem hi))
      simp only [List.getD, List.getElem?_map, List.getElem?_eq_getElem hi, Option.map_some, Option.getD_some]
      omega
    · rw [getD_out _ _ _ (by simpa using hi)]; omega

/-- a part of a struct that is an integer -/
theorem frame_int {t : TypeId} {k : IntKind} (ht : P.underlying t = some (.int k)) {v : Value} {n : Nat} {x : DataW H × List MemPlace}
    (hf : DataW.trod enc P W 0 (fun _ => true) true n t [v] = some x) : ∃ z : Int, v = .int k z ∧ (Lit.int k z).wf = true := by
  obtain ⟨z, hz, _, hw⟩ := DataW.trod_int ht hf
  exact ⟨z, by simpa using hz, hw⟩
theorem frame_u64 {t : TypeId} (ht : P.underlying t = some (.int .u64)) {v : Value} {n : Nat} {x : DataW H × List MemPlace}
    (hf : DataW.trod enc P W 0 (fun _ => true) true n t [v] = some x) : ∃ z : Nat, v = .int .u64 z ∧ z < 18446744073709551616 := by
  obtain ⟨z, rfl, hw⟩ := frame_int ht hf
  have := wf_u64_bd hw
  exact ⟨z.toNat, by rw [Int.toNat_of_nonneg this.1], by omega⟩
end
/-- the reach of a slice that is a part of a struct -/
theorem sized_part {H : Type} {P : Program} {ts : List TypeId} {ds : List (DataW H)} (h : (DataW.weightsEach P ts ds).all (· ≤ reachBytes) = true) {j i : Nat} {t t' e : TypeId} {parts elems spare : List (DataW H)} {fs : Array Field}
    (ht : ts[j]? = some t) (hd : ds[j]? = some (.agg parts)) (hu : P.underlying t = some (.struct fs)) (hi : (fs.toList.map (·.type))[i]? = some t') (hp : parts[i]? = some (.slice elems spare)) (hs : P.underlying t' = some (.slice e)) :
    (elems.length + spare.length) * P.bytesOf e ≤ reachBytes := by
  refine of_decide_eq_true (List.all_eq_true.1 h _ (DataW.weights_mem_each ht hd _ ?_))
  simp only [DataW.weights, hu]
  exact DataW.weights_mem_each hi hp _ (by simp [DataW.weights, hs])
theorem dv_split (h l : Nat) (bh : h < 18446744073709551616) (bl : l < 18446744073709551616) : ∃ D : Nat, D < 340282366920938463463374607431768211456 ∧ h = D / 18446744073709551616 ∧ l = D % 18446744073709551616 :=
  ⟨h * 18446744073709551616 + l, by omega, by omega, by omega⟩
end Go.Proofs.Ytiicdnbhphgieaa
namespace Go.Proofs.Ytiicdnbhphgieaa
open Go.ChangeShapes Go.WideShapes Go.RowKit
section
variable {H : Type} {enc : TypeId × Value → H} {W : World} {base : Nat} {spare : Nat → Bool} {held : Bool}
theorem mapM_each {α β : Type} {f : α → Option β} : ∀ {L : List α} {ys : List β}, L.mapM f = some ys → ∀ i ∈ L, ∃ y, f i = some y
  | [], _, _, i, hi => by cases hi
  | x :: L, ys, h, i, hi => by
    rw [List.mapM_cons] at h
    simp only [bind, Option.bind_eq_some_iff, pure, Option.some.injEq] at h
    obtain ⟨y, hy, zs, hz, _⟩ := h
    rcases List.mem_cons.1 hi with rfl | hi
    · exact ⟨y, hy⟩
    · exact mapM_each hz i hi
def byteOfV : Value → Nat
  | .int _ n => n.toNat
  | _ => 0
theorem frame_dig {cs : List Value} {x : DataW H × List MemPlace} {n : Nat} (h : DataW.trod enc Try.prog W base spare held n 41 cs = some x) : ∃ l : List Nat, cs = l.map b8 ∧ l.length = 32 ∧ IsB l := by
  have h2 : Try.prog.cellsOf 41 = 32 := by kernel_rfl
  have h3 : Try.prog.cellsOf 5 = 1 := by kernel_rfl
  cases n with
  | zero => simp [DataW.trod] at h
  | succ m =>
    rw [DataW.trod_step] at h
    unfold DataW.trodStep at h
    simp only [Try.underlying41] at h
    rw [h2] at h
    split at h
    case isFalse => cases h
    rename_i hl
    simp only [Option.map_eq_some_iff] at h
    obtain ⟨ys, hy, _⟩ := h
    have he := mapM_each hy
    have hcell : ∀ i, i < 32 → ∃ k : Nat, cs[i]? = some (b8 k) ∧ k < 256 := fun i hi => by
      obtain ⟨y, hy⟩ := he i (List.mem_range.2 hi)
      obtain ⟨a, ea, _, wa⟩ := DataW.trod_int Try.underlying5 hy
      have hb := wf_u8_bd wa
      rw [h3, Nat.mul_one] at ea
      refine ⟨a.toNat, ?_, by omega⟩
      have := congrArg (fun l => l[0]?) ea
      simp only [List.getElem?_take, List.getElem?_drop] at this
      simp at this
      rw [this]
      simp only [b8, Option.some.injEq, Value.int.injEq, true_and]
      omega
    refine ⟨cs.map byteOfV, ?_, by simpa using hl, fun i => ?_⟩
    · refine List.ext_getElem? fun i => ?_
      rcases Nat.lt_or_ge i 32 with hi | hi
      · obtain ⟨k, hk, _⟩ := hcell i hi
        simp [List.getElem?_map, hk, b8, byteOfV]
      · rw [List.getElem?_eq_none (by omega), List.getElem?_eq_none (by simp; omega)]
    · rcases Nat.lt_or_ge i 32 with hi | hi
      · obtain ⟨k, hk, hb⟩ := hcell i hi
        simp [List.getD, List.getElem?_map, hk, b8, byteOfV, hb]
      · rw [getD_out _ _ _ (by simp; omega)]; decide
theorem one_of {cs : List Value} {i : Nat} {v : Value} (h : (cs.drop i).take 1 = [v]) : cs.drop i = v :: cs.drop (i + 1) := by
  have h2 := List.take_append_drop 1 (cs.drop i)
  rw [h, List.drop_drop] at h2
  exact h2.symm
theorem row_of {cs l : List Value} {i n : Nat} (h : (cs.drop i).take n = l) : cs.drop i = l ++ cs.drop (i + n) := by
  have h2 := List.take_append_drop n (cs.drop i)
  rw [h, List.drop_drop] at h2
  exact h2.symm
set_option maxRecDepth 100000 in
theorem frame_open {r : Reach} {b0 : Nat} {v : Value} {d : DataW H} {p : List MemPlace} (hv : Value.okWide Try.prog W r b0 57 v) (h : DataW.Trod enc Try.prog W base spare held 57 v d p) : ∃ o : OpenD, v = .agg (openC o).toArray ∧ OpenOk o := by
  obtain ⟨cs, rfl, hsz⟩ := okWide_struct Try.underlying57 hv
  obtain ⟨fuel, hf⟩ := h
  obtain ⟨y0, y1, y2, n, _, hl, h0, h1, h2⟩ := Go.Deep.trod_struct3 Try.underlying57 hf
  rw [show Try.prog.cellsOf 57 = 65 by kernel_rfl] at hl
  obtain ⟨a, ea, _, wa⟩ := DataW.trod_int Try.underlying3 h0
  obtain ⟨l1, e1, n1, b1⟩ := frame_dig h1
  obtain ⟨l2, e2, n2, b2⟩ := frame_dig h2
  have ba := wf_i64_bd wa
  rw [show Try.prog.cellsOf 3 = 1 by kernel_rfl] at ea
  rw [show Try.prog.cellsOf 41 = 32 by kernel_rfl] at e1 e2
  dsimp only at ea e1 e2
  have f0 := one_of ea
  have f1 := row_of e1
  have f2 := row_of e2
  refine ⟨⟨a, l1, l2⟩, ?_, n1, n2, b1, b2, ba.1, ba.2⟩
  have hz : (Value.agg cs).cells.toList = openC ⟨a, l1, l2⟩ := by
    have f3 : (Value.agg cs).cells.toList.drop 65 = [] := List.drop_eq_nil_of_le (by omega)
    unfold openC
    rw [← List.drop_zero (l := (Value.agg cs).cells.toList), f0, f1, f2, f3, List.append_nil]
  rw [← hz]; rfl
set_option maxRecDepth 100000 in
theorem frame_head {r : Reach} {b0 : Nat} {v : Value} {d : DataW H} {p : List MemPlace} (hv : Value.okWide Try.prog W r b0 48 v) (h : DataW.Trod enc Try.prog W base spare held 48 v d p) : ∃ o : HeadD, v = .agg (headC o).toArray ∧ HeadOk o := by
  obtain ⟨cs, rfl, hsz⟩ := okWide_struct Try.underlying48 hv
  obtain ⟨fuel, hf⟩ := h
  obtain ⟨y0, y1, y2, y3, n, _, hl, h0, h1, h2, h3⟩ := Go.Joins.trod_struct4 Try.underlying48 hf
  rw [show Try.prog.cellsOf 48 = 97 by kernel_rfl] at hl
  obtain ⟨a, ea, _, wa⟩ := DataW.trod_int Try.underlying3 h1
  obtain ⟨l0, e0, n0, b0⟩ := frame_dig h0
  obtain ⟨l1, e1, n1, b1⟩ := frame_dig h2
  obtain ⟨l2, e2, n2, b2⟩ := frame_dig h3
  have ba := wf_i64_bd wa
  rw [show Try.prog.cellsOf 3 = 1 by kernel_rfl] at ea
  rw [show Try.prog.cellsOf 41 = 32 by kernel_rfl] at e0 e1 e2
  dsimp only at ea e0 e1 e2
  have f0 := row_of e0
  have f1 := one_of ea
  have f2 := row_of e1
  have f3 := row_of e2
  refine ⟨⟨l0, a, l1, l2⟩, ?_, n0, n1, n2, b0, b1, b2, ba.1, ba.2⟩
  have hz : (Value.agg cs).cells.toList = headC ⟨l0, a, l1, l2⟩ := by
    have f4 : (Value.agg cs).cells.toList.drop 97 = [] := List.drop_eq_nil_of_le (by omega)
    unfold headC
    rw [← List.drop_zero (l := (Value.agg cs).cells.toList), f0, f1, f2, f3, f4, List.append_nil]
  rw [← hz]; rfl
end
end Go.Proofs.Ytiicdnbhphgieaa
