/- Openings: contracts of block.DigestPreimage and block.Digest. From a row's arguments, read as data, to the words of my walks. Parameters that hold digests: an opening, a head. A slice of slices of bytes that came in, opened whole. Kids, entries and nodes that came in, opened whole. -/
import Derived.ProofKit
import Derived.OpenShut
import Derived.ShutString
import Derived.ChangeOld
import Derived.SizedLaws
import Derived.Lib.SmallJoins
import Derived.Deep.Matrix
import Derived.Deep.Slices
import Derived.Test.YtgcbodpjidoanaaQ1
import Derived.Test.YtgcbodpjidoanaaQ20
import Derived.Test.YtgcbodpjidoanaaQ24
import Derived.Test.YtgcbodpjidoanaaQ27
import Derived.Test.YtgcbodpjidoanaaQ30
import Derived.Test.YtgcbodpjidoanaaQ35
set_option linter.unusedVariables false
set_option linter.unusedSimpArgs false
namespace Go.Proofs.Ytgcbodpjidoanaa
open Go.RowKit
structure OpenD where
  blocks : Int
  hist : List Nat
  head : List Nat
structure OpenOk (o : OpenD) : Prop where
  h : o.hist.length = 32
  d : o.head.length = 32
  hB : IsB o.hist
  dB : IsB o.head
  n1 : -9223372036854775808 ≤ o.blocks
  n2 : o.blocks ≤ 9223372036854775807
def openC (o : OpenD) : List Value := .int .i64 o.blocks :: (o.hist.map b8 ++ o.head.map b8)
def openP (o : OpenD) : List Nat := preN 68 [num8 o.blocks, o.hist, o.head]
theorem OpenOk.cells {o : OpenD} (k : OpenOk o) : (openC o).length = 65 := by simp [openC, k.h, k.d]
end Go.Proofs.Ytgcbodpjidoanaa
namespace Go.Proofs.Ytgcbodpjidoanaa
open Go.ChangeShapes Go.WideShapes Go.ChangeAt Go.RowKit
open Go.ChangeMaps (open_string shut_string)

theorem wf_i64_bd {n : Int} (h : (Lit.int .i64 n).wf = true) : -9223372036854775808 ≤ n ∧ n ≤ 9223372036854775807 := by
  simp [Lit.wf, IntKind.min, IntKind.max, IntKind.signed, IntKind.bits] at h
  omega
theorem wf_u8_bd {n : Int} (h : (Lit.int .u8 n).wf = true) : 0 ≤ n ∧ n ≤ 255 := by
  simp [Lit.wf, IntKind.min, IntKind.max, IntKind.signed, IntKind.bits] at h
  omega
section
variable {H : Type} {enc : TypeId × Value → H} {P : Program} {W : World} {base : Nat}

/-- the same for a part of a struct -/
theorem frame_part {t e : TypeId} {k : IntKind} (ht : P.underlying t = some (.slice e)) (he : P.underlying e = some (.int k)) (hc : P.cellsOf e = 1) {v : Value} {x : DataW H × List MemPlace} {n : Nat}
    (hf : DataW.trod enc P W 0 (fun _ => true) true n t [v] = some x) :
    ∃ (A : Option Addr) (len cap : Nat) (zs : List Int), v = .slice A len cap ∧ zs.length = len ∧ len ≤ cap ∧ cap ≤ maxLen ∧ Arr W W.heap.size A len (fun i => .int k (zs.getD i 0)) ∧ (∀ n ∈ zs, (Lit.int k n).wf = true) ∧
      (len = 0 ∨ ∃ E S, x.1 = .slice E S ∧ E.length = len) := by
  rcases open_ints ht he hc hf with ⟨hcs, hx⟩ | ⟨y, l, c, zs, hcs, _, hl, hm, hz, hx, hcell, hwz⟩
  · simp at hcs
    subst hcs
    exact ⟨none, 0, 0, [], rfl, rfl, Nat.le_refl _, by simp [maxLen], Arr.none_, by simp, .inl rfl⟩
  · simp at hcs
    subst hcs
    simp only [if_true] at hz
    have hd : x.1 = .slice (lits k (zs.take l)) (lits k (zs.drop l)) := congrArg Prod.fst hx
    refine ⟨some y, l, c, zs.take l, rfl, by simp; omega, hl, hm, fun hn => ?_, fun n hn => hwz n (List.mem_of_mem_take hn), .inr ⟨_, _, hd, by simp [lits]; omega⟩⟩
    obtain ⟨b, off, spot⟩ := y
    have h0 := hcell 0 (by omega)
    have hspot : spot = none := by simpa [Addr.add] using World.cell?_spot h0
    subst hspot
    refine ⟨b, off, rfl, ?_, fun i hi => ?_⟩
    · have := World.block_lt_of_cell? W _ h0
      simpa [Addr.add] using this
    · have hadd : (⟨b, off, none⟩ : Addr).add i = ⟨b, off + i, none⟩ := by unfold Addr.add; split <;> simp_all
      have := hcell i (by omega)
      rw [hadd] at this
      rw [this]
      simp [List.getD, List.getElem?_take, hi]

theorem isI_of_wf {zs : List Int} (h : ∀ n ∈ zs, (Lit.int .i64 n).wf = true) : IsI zs := fun i => by
  by_cases hi : i < zs.length
  · rw [show zs.getD i 0 = zs[i] from by simp [List.getD, List.getElem?_eq_getElem hi]]; exact wf_i64_bd (h _ (List.getElem_mem hi))
  · rw [getD_out _ _ _ (by omega)]; omega
end
end Go.Proofs.Ytgcbodpjidoanaa
namespace Go.Proofs.Ytgcbodpjidoanaa
open Go.ChangeShapes Go.WideShapes Go.RowKit
section
variable {H : Type} {enc : TypeId × Value → H} {W : World} {base : Nat} {spare : Nat → Bool} {held : Bool}
theorem mapM_each {α β : Type} {f : α → Option β} : ∀ {L : List α} {ys : List β}, L.mapM f = some ys → ∀ i ∈ L, ∃ y, f i = some y
  | [], _, _, i, hi => by cases hi
  | x :: L, ys, h, i, hi => by
    rw [List.mapM_cons] at h
    simp only [bind, Option.bind_eq_some_iff, pure, Option.some.injEq] at h
    obtain ⟨y, hy, zs, hz, _⟩ := h
    rcases List.mem_cons.1 hi with rfl | hi
    · exact ⟨y, hy⟩
    · exact mapM_each hz i hi
def byteOfV : Value → Nat
  | .int _ n => n.toNat
  | _ => 0
theorem frame_dig {cs : List Value} {x : DataW H × List MemPlace} {n : Nat} (h : DataW.trod enc Try.prog W base spare held n 37 cs = some x) : ∃ l : List Nat, cs = l.map b8 ∧ l.length = 32 ∧ IsB l := by
  have h2 : Try.prog.cellsOf 37 = 32 := by kernel_rfl
  have h3 : Try.prog.cellsOf 5 = 1 := by kernel_rfl
  cases n with
  | zero => simp [DataW.trod] at h
  | succ m =>
    rw [DataW.trod_step] at h
    unfold DataW.trodStep at h
    simp only [Try.underlying37] at h
    rw [h2] at h
    split at h
    case isFalse => cases h
    rename_i hl
    simp only [Option.map_eq_some_iff] at h
    obtain ⟨ys, hy, _⟩ := h
    have he := mapM_each hy
    have hcell : ∀ i, i < 32 → ∃ k : Nat, cs[i]? = some (b8 k) ∧ k < 256 := fun i hi => by
      obtain ⟨y, hy⟩ := he i (List.mem_range.2 hi)
      obtain ⟨a, ea, _, wa⟩ := DataW.trod_int Try.underlying5 hy
      have hb := wf_u8_bd wa
      rw [h3, Nat.mul_one] at ea
      refine ⟨a.toNat, ?_, by omega⟩
      have := congrArg (fun l => l[0]?) ea
      simp only [List.getElem?_take, List.getElem?_drop] at this
      simp at this
      rw [this]
      simp only [b8, Option.some.injEq, Value.int.injEq, true_and]
      omega
    refine ⟨cs.map byteOfV, ?_, by simpa using hl, fun i => ?_⟩
    · refine List.ext_getElem? fun i => ?_
      rcases Nat.lt_or_ge i 32 with hi | hi
      · obtain ⟨k, hk, _⟩ := hcell i hi
        simp [List.getElem?_map, hk, b8, byteOfV]
      · rw [List.getElem?_eq_none (by omega), List.getElem?_eq_none (by simp; omega)]
    · rcases Nat.lt_or_ge i 32 with hi | hi
      · obtain ⟨k, hk, hb⟩ := hcell i hi
        simp [List.getD, List.getElem?_map, hk, b8, byteOfV, hb]
      · rw [getD_out _ _ _ (by simp; omega)]; decide
theorem one_of {cs : List Value} {i : Nat} {v : Value} (h : (cs.drop i).take 1 = [v]) : cs.drop i = v :: cs.drop (i + 1) := by
  have h2 := List.take_append_drop 1 (cs.drop i)
  rw [h, List.drop_drop] at h2
  exact h2.symm
theorem row_of {cs l : List Value} {i n : Nat} (h : (cs.drop i).take n = l) : cs.drop i = l ++ cs.drop (i + n) := by
  have h2 := List.take_append_drop n (cs.drop i)
  rw [h, List.drop_drop] at h2
  exact h2.symm
end
end Go.Proofs.Ytgcbodpjidoanaa
namespace Go.Proofs.Ytgcbodpjidoanaa
open Go.ChangeShapes Go.WideShapes Go.RowKit
section
variable {H : Type} {enc : TypeId × Value → H} {P : Program} {W : World} {base : Nat}
end
end Go.Proofs.Ytgcbodpjidoanaa
namespace Go.Proofs.Ytgcbodpjidoanaa
open Go.ChangeShapes Go.WideShapes Go.RowKit
section
variable {H : Type} {enc : TypeId × Value → H} {W : World} {base : Nat}
/-- what is sure of a kid that came in -/
structure KidIn (k : KidD) : Prop where
  s : k.sum.length = 32
  sB : IsB k.sum
  lI : IsI k.lo
  hI : IsI k.hi
  kI : IsI k.key
  l1 : -9223372036854775808 ≤ k.live ∧ k.live ≤ 9223372036854775807
  z1 : -9223372036854775808 ≤ k.size ∧ k.size ≤ 9223372036854775807
theorem KidIn.ok {k : KidD} (h : KidIn k) (a : k.lo.length ≤ 1000000) (b : k.hi.length ≤ 1000000) (c : k.key.length ≤ 1000000) : KidOk k := ⟨h.s, h.sB, h.lI, h.hI, h.kI, h.l1, h.z1, a, b, c⟩
theorem trod_struct5 {P : Program} {w : World} {base : Nat} {spare : Nat → Bool} {held : Bool} {t : TypeId} {f0 f1 f2 f3 f4 : Field} {fuel : Nat} {cs : List Value} {x : DataW H × List MemPlace} (ht : P.underlying t = some (.struct #[f0, f1, f2, f3, f4])) (h : DataW.trod enc P w base spare held fuel t cs = some x) :
    ∃ y0 y1 y2 y3 y4 n, cs.length = P.cellsOf t ∧ DataW.trod enc P w base spare held n f0.type ((cs.drop f0.offset).take (P.cellsOf f0.type)) = some y0 ∧
      DataW.trod enc P w base spare held n f1.type ((cs.drop f1.offset).take (P.cellsOf f1.type)) = some y1 ∧ DataW.trod enc P w base spare held n f2.type ((cs.drop f2.offset).take (P.cellsOf f2.type)) = some y2 ∧
      DataW.trod enc P w base spare held n f3.type ((cs.drop f3.offset).take (P.cellsOf f3.type)) = some y3 ∧ DataW.trod enc P w base spare held n f4.type ((cs.drop f4.offset).take (P.cellsOf f4.type)) = some y4 := by
  obtain ⟨xs, n, _, rfl, hl, hlen, hf⟩ := DataW.trod_struct ht h
  match xs, hlen with
  | [y0, y1, y2, y3, y4], _ => exact ⟨y0, y1, y2, y3, y4, n, hl, by simpa using hf 0 f0 rfl, by simpa using hf 1 f1 rfl, by simpa using hf 2 f2 rfl, by simpa using hf 3 f3 rfl, by simpa using hf 4 f4 rfl⟩
theorem frame_irow {cs : List Value} {x : DataW H × List MemPlace} {n : Nat} (hl : cs.length = 1) (hf : DataW.trod enc Try.prog W 0 (fun _ => true) true n 39 cs = some x) :
    ∃ (A : Option Addr) (cap : Nat) (zs : List Int), cs = [.slice A zs.length cap] ∧ Arr W W.heap.size A zs.length (i64s zs) ∧ IsI zs := by
  match cs, hl with
  | [c0], _ =>
    obtain ⟨A, len, cap, zs, rfl, hzl, _, _, aR, wR, _⟩ := frame_part Try.underlying39 Try.underlying2 (by kernel_rfl) hf
    subst hzl
    exact ⟨A, cap, zs, rfl, aR, isI_of_wf wR⟩
theorem take1_len {cs : List Value} {i n : Nat} (h : cs.length = n) (hi : i < n) : ((cs.drop i).take 1).length = 1 := by simp; omega
set_option maxRecDepth 100000 in
theorem frame_box {cs : List Value} {x : DataW H × List MemPlace} {n : Nat} (hf : DataW.trod enc Try.prog W 0 (fun _ => true) true n 41 cs = some x) :
    ∃ (A : Option Addr) (c : Nat) (lo : List Int) (A' : Option Addr) (c' : Nat) (hi : List Int), cs = [.slice A lo.length c, .slice A' hi.length c'] ∧ Arr W W.heap.size A lo.length (i64s lo) ∧ IsI lo ∧ Arr W W.heap.size A' hi.length (i64s hi) ∧ IsI hi := by
  obtain ⟨y0, y1, n', _, hl, h0, h1⟩ := Go.ChangeShapes.trod_struct2 Try.underlying41 hf
  rw [show Try.prog.cellsOf 41 = 2 by kernel_rfl] at hl
  rw [show Try.prog.cellsOf 39 = 1 by kernel_rfl] at h0 h1
  obtain ⟨A, c, lo, e0, a0, i0⟩ := frame_irow (take1_len hl (by decide)) h0
  obtain ⟨A', c', hi, e1, a1, i1⟩ := frame_irow (take1_len hl (by decide)) h1
  refine ⟨A, c, lo, A', c', hi, ?_, a0, i0, a1, i1⟩
  match cs, hl with
  | [c0, c1], _ => simp at e0 e1; rw [e0, e1]
set_option maxRecDepth 100000 in
theorem frame_kid {cs : List Value} {x : DataW H × List MemPlace} {n : Nat} (hf : DataW.trod enc Try.prog W 0 (fun _ => true) true n 43 cs = some x) :
    ∃ (k : KidD) (p : KidP), cs = kidC k p ∧ KidMem W W.heap.size k p ∧ KidIn k := by
  obtain ⟨y0, y1, y2, y3, y4, n', hl, h0, h1, h2, h3, h4⟩ := trod_struct5 Try.underlying43 hf
  rw [show Try.prog.cellsOf 43 = 37 by kernel_rfl] at hl
  obtain ⟨l0, e0, n0, b0⟩ := frame_dig h0
  obtain ⟨A, c, lo, A', c', hi, e1, a1, i1, a2, i2⟩ := frame_box h1
  obtain ⟨a, ea, _, wa⟩ := DataW.trod_int Try.underlying3 h2
  obtain ⟨b, eb, _, wb⟩ := DataW.trod_int Try.underlying3 h3
  rw [show Try.prog.cellsOf 39 = 1 by kernel_rfl] at h4
  obtain ⟨A3, c3, key, e4, a4, i4⟩ := frame_irow (take1_len hl (by decide)) h4
  have ba := wf_i64_bd wa
  have bb := wf_i64_bd wb
  rw [show Try.prog.cellsOf 3 = 1 by kernel_rfl] at ea eb
  rw [show Try.prog.cellsOf 37 = 32 by kernel_rfl] at e0
  rw [show Try.prog.cellsOf 41 = 2 by kernel_rfl] at e1
  dsimp only at ea eb e0 e1 e4
  have f0 := row_of e0
  have f1 := row_of e1
  have f2 := one_of ea
  have f3 := one_of eb
  have f4 := one_of e4
  refine ⟨⟨l0, lo, hi, a, b, key⟩, ⟨A, c, A', c', A3, c3⟩, ?_, ⟨a1, a2, a4⟩, ⟨n0, b0, i1, i2, i4, ba, bb⟩⟩
  have f5 : cs.drop 37 = [] := List.drop_eq_nil_of_le (by omega)
  unfold kidC kidT
  rw [← List.drop_zero (l := cs), f0, f1, f2, f3, f4, f5]
  rfl
set_option maxRecDepth 100000 in
theorem frame_entry {cs : List Value} {x : DataW H × List MemPlace} {n : Nat} (hf : DataW.trod enc Try.prog W 0 (fun _ => true) true n 56 cs = some x) :
    ∃ (e : EntD) (p : EntP), cs = entC e p ∧ Arr W W.heap.size p.1 e.row.length (i64s e.row) ∧ IsI e.row := by
  obtain ⟨y0, y1, n', _, hl, h0, h1⟩ := Go.ChangeShapes.trod_struct2 Try.underlying56 hf
  rw [show Try.prog.cellsOf 56 = 2 by kernel_rfl] at hl
  rw [show Try.prog.cellsOf 39 = 1 by kernel_rfl] at h0
  obtain ⟨A, c, r, e0, a0, i0⟩ := frame_irow (take1_len hl (by decide)) h0
  obtain ⟨b, eb, _⟩ := DataW.trod_bool Try.underlying4 h1
  rw [show Try.prog.cellsOf 4 = 1 by kernel_rfl] at eb
  refine ⟨⟨r, b⟩, (A, c), ?_, a0, i0⟩
  match cs, hl with
  | [c0, c1], _ => simp at e0 eb; rw [e0, eb]; rfl
set_option maxRecDepth 100000 in
theorem frame_list {α : Type} [Inhabited α] {T E s : Nat} {C : α → List Value} {M : α → Prop} (hT : Try.prog.underlying T = some (.slice E)) (hs : Try.prog.cellsOf E = s) (hs0 : 0 < s) (hlen : ∀ q, M q → (C q).length = s)
    (each0 : ∀ {cs : List Value} {x : DataW H × List MemPlace} {n : Nat}, DataW.trod enc Try.prog W 0 (fun _ => true) true n E cs = some x → ∃ q, cs = C q ∧ M q)
    {v : Value} {x : DataW H × List MemPlace} {n : Nat} (hf : DataW.trod enc Try.prog W 0 (fun _ => true) true n T [v] = some x) :
    ∃ (A : Option Addr) (l : List α) (cap : Nat), v = .slice A l.length cap ∧ ArrC W W.heap.size A l.length s (fun i => C (l.getD i default)) ∧ (∀ i, i < l.length → M (l.getD i default)) ∧ l.length ≤ maxLen := by
  rcases Deep.open_slice hT hf with ⟨hcs, _⟩ | ⟨a, len, cap, m, n, D, Pl, hcs, _, hl, hm, hmm, _, hx⟩
  · simp at hcs
    subst hcs
    exact ⟨none, [], 0, rfl, fun h => absurd h (by simp), by simp, by simp⟩
  · simp at hcs
    subst hcs
    simp only [if_true] at hmm
    rw [hs] at hx
    have hsp : 0 < len → a.spot = none := fun h0 => by
      obtain ⟨c0, g1, g2⟩ := hx 0 (by omega)
      obtain ⟨q0, rfl, m0⟩ := each0 g2
      obtain ⟨_, _, gc⟩ := World.cells?_some g1
      have hl0 := hlen q0 m0
      have h0' := gc 0 hs0
      rw [List.getElem?_eq_getElem (by omega)] at h0'
      have := World.cell?_spot h0'
      simpa [Addr.add] using this
    have each : ∀ i, i < len → ∃ q : α, (∀ j, j < s → W.cell? (a.add (i * s + j)) = (C q)[j]?) ∧ M q := fun i hi => by
      obtain ⟨cs', h1, h2⟩ := hx i (by omega)
      obtain ⟨q, rfl, h3⟩ := each0 h2
      obtain ⟨_, _, hc⟩ := World.cells?_some h1
      refine ⟨q, fun j hj => ?_, h3⟩
      have hs := hsp (by omega)
      have := hc j hj
      rw [← this]
      congr 1
      obtain ⟨b, off, spot⟩ := a
      dsimp only at hs
      subst hs
      have hadd : ∀ (x y : Nat), (⟨b, x, none⟩ : Addr).add y = ⟨b, x + y, none⟩ := fun x y => by unfold Addr.add; split <;> simp_all
      rw [hadd, hadd, hadd, Nat.add_assoc]
    obtain ⟨f, hF⟩ := Deep.choose_lt each
    have e1 : ((List.range len).map f).length = len := by simp
    have e2 : ∀ i, i < len → ((List.range len).map f).getD i default = f i := fun i hi => by simp [List.getD, List.getElem?_map, List.getElem?_range hi]
    refine ⟨some a, (List.range len).map f, cap, by rw [e1], ?_, fun i hi => ?_, by rw [e1]; omega⟩
    · rw [e1]
      intro hn
      obtain ⟨b, off, spot⟩ := a
      obtain rfl : spot = none := hsp hn
      have hadd : ∀ (x : Nat), (⟨b, off, none⟩ : Addr).add x = ⟨b, off + x, none⟩ := fun x => by unfold Addr.add; split <;> simp_all
      have hl0 := hlen (f 0) (hF 0 hn).2
      have h0 := (hF 0 hn).1 0 hs0
      rw [List.getElem?_eq_getElem (by omega), hadd] at h0
      refine ⟨b, off, rfl, World.block_lt_of_cell? W _ h0, fun i hi j v hj => ?_⟩
      dsimp only at hj ⊢
      rw [e2 i hi] at hj
      have hj4 : j < s := by have := (List.getElem?_eq_some_iff.1 hj).1; rw [hlen (f i) (hF i hi).2] at this; exact this
      have := (hF i hi).1 j hj4
      rw [hj, hadd] at this
      rw [show off + i * s + j = off + (i * s + j) by omega]
      exact this
    · rw [e1] at hi
      rw [e2 i hi]
      exact (hF i hi).2
instance : Inhabited EntQ := ⟨(default, (none, 0))⟩
instance : Inhabited KidQ := ⟨(default, default)⟩
/-- a node that came in -/
structure NodeIn (n : NodeD) : Prop where
  kind : n.kind < 256
  row : ∀ i, i < n.rows.length → IsI (n.rows.getD i default).row
  kid : ∀ i, i < n.kids.length → KidIn (n.kids.getD i default)
set_option maxRecDepth 100000 in
theorem frame_node {cs : List Value} {x : DataW H × List MemPlace} {n : Nat} (hf : DataW.trod enc Try.prog W 0 (fun _ => true) true n 27 cs = some x) :
    ∃ (k : NodeD) (p : NodeP), cs = nodeC k p ∧ NodeMem W W.heap.size k p ∧ NodeIn k := by
  obtain ⟨y0, y1, y2, n', _, hl, h0, h1, h2⟩ := Go.Deep.trod_struct3 Try.underlying27 hf
  rw [show Try.prog.cellsOf 27 = 3 by kernel_rfl] at hl
  obtain ⟨a, ea, _, wa⟩ := DataW.trod_int Try.underlying5 h0
  have ba := wf_u8_bd wa
  rw [show Try.prog.cellsOf 5 = 1 by kernel_rfl] at ea
  rw [show Try.prog.cellsOf 24 = 1 by kernel_rfl] at h1
  rw [show Try.prog.cellsOf 25 = 1 by kernel_rfl] at h2
  match cs, hl with
  | [c0, c1, c2], _ =>
    simp at ea h1 h2
    subst ea
    obtain ⟨A1, l1, cap1, rfl, m1, k1, _⟩ := frame_list (C := entQ) (M := fun q : EntQ => Arr W W.heap.size q.2.1 q.1.row.length (i64s q.1.row) ∧ IsI q.1.row) Try.underlying24 (by kernel_rfl) (s := 2) (by decide) (fun q _ => rfl) (fun h => by obtain ⟨e, p, rfl, q1, q2⟩ := frame_entry h; exact ⟨(e, p), rfl, q1, q2⟩) h1
    obtain ⟨A2, l2, cap2, rfl, m2, k2, _⟩ := frame_list (C := kidQ) (M := fun q : KidQ => KidMem W W.heap.size q.1 q.2 ∧ KidIn q.1) Try.underlying25 (by kernel_rfl) (s := 37) (by decide) (fun q h => by simp [kidQ, kidC, kidT, h.2.s]) (fun h => by obtain ⟨e, p, rfl, q1, q2⟩ := frame_kid h; exact ⟨(e, p), rfl, q1, q2⟩) h2
    have g1 : ∀ i, i < l1.length → (l1.map Prod.fst).getD i default = (l1.getD i default).1 := fun i hi => by simp [List.getD, List.getElem?_map, List.getElem?_eq_getElem hi]
    have g2 : ∀ i, i < l2.length → (l2.map Prod.fst).getD i default = (l2.getD i default).1 := fun i hi => by simp [List.getD, List.getElem?_map, List.getElem?_eq_getElem hi]
    refine ⟨⟨a.toNat, l1.map Prod.fst, l2.map Prod.fst⟩, ⟨A1, cap1, fun i => (l1.getD i default).2, A2, cap2, fun i => (l2.getD i default).2⟩, ?_, ⟨?_, ?_, ?_, ?_⟩, ⟨by show a.toNat < 256; omega, ?_, ?_⟩⟩
    · unfold nodeC
      dsimp only
      rw [List.length_map, List.length_map, show ((a.toNat : Nat) : Int) = a by omega]
    · simp only [List.length_map]; exact m1.congr fun i hi => by rw [g1 i hi]; rfl
    · intro i hi; rw [List.length_map] at hi; simp only [g1 i hi]; exact (k1 i hi).1
    · simp only [List.length_map]; exact m2.congr fun i hi => by rw [g2 i hi]; rfl
    · intro i hi; rw [List.length_map] at hi; simp only [g2 i hi]; exact (k2 i hi).1
    · intro i hi; rw [List.length_map] at hi; simp only [g1 i hi]; exact (k1 i hi).2
    · intro i hi; rw [List.length_map] at hi; simp only [g2 i hi]; exact (k2 i hi).2
set_option maxRecDepth 100000 in
theorem frame_nodeV {r : Reach} {b0 : Nat} {v : Value} {d : DataW H} {p : List MemPlace} (hv : Value.okWide Try.prog W r b0 27 v) (h : DataW.Trod enc Try.prog W 0 (fun _ => true) true 27 v d p) : ∃ (n : NodeD) (q : NodeP), v = .agg (nodeC n q).toArray ∧ NodeMem W W.heap.size n q ∧ NodeIn n := by
  obtain ⟨cs, rfl, hsz⟩ := okWide_struct Try.underlying27 hv
  obtain ⟨fuel, hf⟩ := h
  obtain ⟨k, q, hz, h1, h2⟩ := frame_node hf
  exact ⟨k, q, by rw [← hz]; rfl, h1, h2⟩
set_option maxRecDepth 100000 in
theorem frame_kidV {r : Reach} {b0 : Nat} {v : Value} {d : DataW H} {p : List MemPlace} (hv : Value.okWide Try.prog W r b0 43 v) (h : DataW.Trod enc Try.prog W 0 (fun _ => true) true 43 v d p) : ∃ (n : KidD) (q : KidP), v = .agg (kidC n q).toArray ∧ KidMem W W.heap.size n q ∧ KidIn n := by
  obtain ⟨cs, rfl, hsz⟩ := okWide_struct Try.underlying43 hv
  obtain ⟨fuel, hf⟩ := h
  obtain ⟨k, q, hz, h1, h2⟩ := frame_kid hf
  exact ⟨k, q, by rw [← hz]; rfl, h1, h2⟩
end
end Go.Proofs.Ytgcbodpjidoanaa
