/- slices.Index, slices.Contains at texts; block.areCols, block.Right. What came in, seen from afar: numbers, texts, rows, kids, tables; a contract of the new kind as a walk of the old. Bytes that came in. What came in: bytes, truths, boxes, entries, nodes. What came in: lists of rows. What came in: scripts of changes, a byte. -/
import Derived.Deep.Slices
import Derived.ChangeShapes
import Derived.ChangeMaps5
import Derived.Test.YtedokpgkjcnoiaaGreatW22
import Derived.Test.YtedokpgkjcnoiaaGreatW23
import Derived.Test.YtedokpgkjcnoiaaGreatW24
import Derived.Test.YtedokpgkjcnoiaaGreatW28
import Derived.Test.YtedokpgkjcnoiaaGreatW40
set_option linter.unusedVariables false
set_option linter.unusedSimpArgs false
namespace Go.Proofs.YtedokpgkjcnoiaaGreat
open Go.RowKit
set_option maxRecDepth 100000
set_option maxHeartbeats 1000000
/-- where a text stands among the first n, or -1 -/
def idxN (l : List ByteArray) (s : ByteArray) (n : Nat) : Int := match (List.range n).find? (fun i => decide (l.getD i default = s)) with
 | some k => k
 | none => -1
def strN (l : List ByteArray) (n : Nat) : DV := .sl 1 n (fun i => [.v (.string (l.getD i default))])
def colOk (l : List ByteArray) (k : Nat) : Bool := nameB (nb (l.getD k default)) && (!decide (l.getD k default = idS) && !decide (0 ≤ idxN l (l.getD k default) k))
def colsOk (l : List ByteArray) : Bool := allTo (colOk l) l.length && (decide (0 < l.length) && decide (l.length ≤ 7))
def shortS (s : ByteArray) : Prop := s.size ≤ 140737488351232
end Go.Proofs.YtedokpgkjcnoiaaGreat
namespace Go.Proofs.YtedokpgkjcnoiaaGreat
open Go.ChangeShapes Go.WideShapes Go.RowKit
structure RDs (W : World) (ds : List DV) (cs : List Value) : Prop where
 len : ds.length = cs.length
 rd : ∀ j, j < ds.length → RD W (fun b => b < W.heap.size) (ds.getD j default) (cs.getD j undef)
 one : ∀ j, j < ds.length → (cs.getD j undef).oneCell' = true
section
variable {W : World}
theorem RDs.nil : RDs W [] [] := ⟨rfl, (fun j h => by cases h), (fun j h => by cases h)⟩
theorem RDs.cons {d : DV} {v : Value} {ds : List DV} {cs : List Value} (h : RD W (fun b => b < W.heap.size) d v) (o : v.oneCell' = true) (r : RDs W ds cs) : RDs W (d :: ds) (v :: cs) :=
 ⟨by simp [r.len], fun j hj => by cases j with | zero => exact h | succ j => simpa using r.rd j (by simpa using hj), fun j hj => by cases j with | zero => exact o | succ j => simpa using r.one j (by simpa using hj)⟩
theorem RDs.app : ∀ {ds ds' : List DV} {cs cs' : List Value}, RDs W ds cs → RDs W ds' cs' → RDs W (ds ++ ds') (cs ++ cs')
 | [], _, [], _, _, k => k
 | d :: ds, _, v :: cs, _, h, k => RDs.cons (h.rd 0 (by simp)) (h.one 0 (by simp)) (RDs.app ⟨by have := h.len; simpa using this, fun j hj => by simpa using h.rd (j + 1) (by simpa using hj), fun j hj => by simpa using h.one (j + 1) (by simpa using hj)⟩ k)
 | [], _, _ :: _, _, h, _ => by have := h.len; simp at this
 | _ :: _, _, [], _, h, _ => by have := h.len; simp at this
end
section
variable {H : Type} {enc : TypeId × Value → H} {W : World}
/-- a slice that came in -/
theorem come_slP {P : Program} {α : Type} [Inhabited α] {T E s : Nat} {Pq : α → Prop} {L : α → List DV} (hT : P.underlying T = some (.slice E)) (hs : P.cellsOf E = s) (hs0 : 0 < s) (hlen : ∀ q, (L q).length = s)
    (each0 : ∀ {cs : List Value} {x : DataW H × List MemPlace} {n : Nat}, DataW.trod enc P W 0 (fun _ => true) true n E cs = some x → ∃ q, Pq q ∧ RDs W (L q) cs)
    {cs : List Value} {x : DataW H × List MemPlace} {n : Nat} (hf : DataW.trod enc P W 0 (fun _ => true) true n T cs = some x) :
    ∃ l : List α, l.length ≤ maxLen ∧ (∀ i, i < l.length → Pq (l.getD i default)) ∧ RDs W [.sl s l.length (fun i => L (l.getD i default))] cs := by
  rcases Deep.open_slice hT hf with ⟨hcs, _⟩ | ⟨a, len, cap, m, n, D, Pl, hcs, _, hl, hm, hmm, _, hx⟩
  · subst hcs
    exact ⟨[], by simp, fun i hi => (by cases hi), RDs.cons (.sl s 0 _ none 0 0 0 (fun _ _ => default) (fun h => by omega) (Nat.le_refl _) (fun i hi => by omega) (fun i j hi => by omega) (fun i j hi => by omega)) rfl RDs.nil⟩
  · subst hcs
    simp only [if_true] at hmm
    rw [hs] at hx
    have hspot : 0 < len → a.spot = none := fun h0 => by
      obtain ⟨cs', h1, h2⟩ := hx 0 (by omega)
      obtain ⟨q, _, r⟩ := each0 h2
      obtain ⟨_, _, hc⟩ := World.cells?_some h1
      have hl : cs'.length = s := by rw [← r.len, hlen]
      have h0' := hc 0 hs0
      rw [List.getElem?_eq_getElem (by omega)] at h0'
      have := World.cell?_spot h0'
      simpa [Addr.add] using this
    have each : ∀ i, i < len → ∃ q : α × List Value, (∀ j, j < s → W.cell? (a.add (i * s + j)) = q.2[j]?) ∧ RDs W (L q.1) q.2 ∧ (0 < s → a.spot = none) ∧ Pq q.1 := fun i hi => by
      obtain ⟨cs', h1, h2⟩ := hx i (by omega)
      obtain ⟨q, pq, r⟩ := each0 h2
      obtain ⟨_, _, hc⟩ := World.cells?_some h1
      have hl : cs'.length = s := by rw [← r.len, hlen]
      have hsp : a.spot = none := hspot (by omega)
      refine ⟨(q, cs'), fun j hj => ?_, r, fun _ => hsp, pq⟩
      rw [← hc j hj]
      congr 1
      obtain ⟨b, off, spot⟩ := a
      dsimp only at hsp
      subst hsp
      have hadd : ∀ (x y : Nat), (⟨b, x, none⟩ : Addr).add y = ⟨b, x + y, none⟩ := fun x y => by unfold Addr.add; split <;> simp_all
      rw [hadd, hadd, hadd, Nat.add_assoc]
    obtain ⟨f, hF⟩ := Deep.choose_lt each
    have e1 : ((List.range len).map fun i => (f i).1).length = len := by simp
    have e2 : ∀ i, i < len → ((List.range len).map fun i => (f i).1).getD i default = (f i).1 := fun i hi => by simp [List.getD, List.getElem?_map, List.getElem?_range hi]
    refine ⟨(List.range len).map fun i => (f i).1, by rw [e1]; omega, fun i hi => by rw [e1] at hi; rw [e2 i hi]; exact (hF i hi).2.2.2, RDs.cons ?_ rfl RDs.nil⟩
    rw [e1]
    obtain ⟨b, off, spot⟩ := a
    have hadd : spot = none → ∀ (x : Nat), (⟨b, off, spot⟩ : Addr).add x = ⟨b, off + x, none⟩ := fun h x => by subst h; unfold Addr.add; split <;> simp_all
    have cell : ∀ i j, i < len → j < s → W.cell? ⟨b, off + i * s + j, none⟩ = some ((f i).2.getD j undef) := fun i j hi hj => by
      obtain ⟨h1, h2, h3⟩ := hF i hi
      have h3 : spot = none := h3.1 hs0
      have := h1 j hj
      rw [hadd h3] at this
      have hl : (f i).2.length = s := by rw [← h2.len, hlen]
      rw [show off + i * s + j = off + (i * s + j) by omega, this, List.getElem?_eq_getElem (by omega)]
      simp [List.getD_eq_getElem?_getD, List.getElem?_eq_getElem (show j < (f i).2.length by omega)]
    refine .sl s len _ _ b off cap (fun i j => (f i).2.getD j undef) (fun hn => ?_) hl (fun i hi => by rw [e2 i hi, hlen]) (fun i j hi hj => ⟨cell i j hi hj, (hF i hi).2.1.one j (by rw [hlen]; exact hj)⟩) (fun i j hi hj => ?_)
    · have h3 : spot = none := (hF 0 hn).2.2.1 hs0
      subst h3
      exact ⟨rfl, World.block_lt_of_cell? W _ (cell 0 0 hn hs0)⟩
    · rw [e2 i hi]
      exact (hF i hi).2.1.rd j (by rw [hlen]; exact hj)
theorem isI_of {l : List Int} (h : ∀ i, i < l.length → -9223372036854775808 ≤ l.getD i 0 ∧ l.getD i 0 ≤ 9223372036854775807) : Pl.IsI l := fun i => by
 rcases Nat.lt_or_ge i l.length with q | q
 ·exact h i q
 ·rw [List.getD_eq_getElem?_getD, List.getElem?_eq_none q]; decide
theorem come_row {cs : List Value} {x : DataW H × List MemPlace} {n : Nat} (h : DataW.trod enc Tryz.prog W 0 (fun _ => true) true n 26 cs = some x) : ∃ l : List Int, Pl.IsI l ∧ l.length ≤ maxLen ∧ RDs W [i64L l] cs := by
 obtain ⟨l, hl, hp, r⟩ := come_slP (Pq := fun z : Int => -9223372036854775808 ≤ z ∧ z ≤ 9223372036854775807) (L := fun z : Int => [.v (.int .i64 z)]) Tryz.underlying26 (s := 1) (by kernel_rfl) (by decide) (fun _ => rfl) (fun h => by
  obtain ⟨a, rfl, _, wa⟩ := DataW.trod_int Tryz.underlying2 h
  have hb : -9223372036854775808 ≤ a ∧ a ≤ 9223372036854775807 := by
   simp [Lit.wf, IntKind.min, IntKind.max, IntKind.signed, IntKind.bits] at wa
   omega
  exact ⟨a, hb, RDs.cons (.v _) rfl RDs.nil⟩) h
 exact ⟨l, isI_of fun i hi => hp i hi, hl, r⟩
def byteOfV' : Value → Nat
 | .int _ n => n.toNat
 | _ => 0
structure KidQ (k : KidD) : Prop where
 s : k.sum.length = 32
 sB : Pl.IsB k.sum
 lo : Pl.IsI k.lo
 hi : Pl.IsI k.hi
 key : Pl.IsI k.key
 ll : k.lo.length ≤ maxLen
 lh : k.hi.length ≤ maxLen
 lk : k.key.length ≤ maxLen
 l1 : -9223372036854775808 ≤ k.live ∧ k.live ≤ 9223372036854775807
 z1 : -9223372036854775808 ≤ k.size ∧ k.size ≤ 9223372036854775807
structure TabQ (t : TableD) : Prop where
 kd : KidQ t.kd
 zb : KidQ t.zb
end
/-! ### Joining -/
theorem walk_of {P : Program} {f : FuncId} {xs : List AV} {b : Bool} {vs : List Value} {W : World} (h : ACall P f xs [] (exB b) []) (hl : xs.length = vs.length)
    (hv : ∀ j, j < xs.length → ∀ C : Cx, (∀ k, C.N k ↔ k < W.heap.size) → C.W = W → Rv C (xs.getD j .any) (vs.getD j undef)) :
    Calls P f vs.toArray W fun e W' => e = .returned (.bool b) ∧ Below W.heap.size W W' := by
  refine (h.2 (fun k => k < W.heap.size) W (fun _ => undef) vs ⟨fun o b h => (by cases h), fun o o' b b' k h => (by cases h), Kp.refl _ _, fun o b k h => (by cases h)⟩ hl fun j hj => hv j hj _ (fun k => ?_) rfl).mono ?_
  · constructor
    · exact fun h => h.2.1
    · exact fun h => ⟨.inl h, h, fun o ob h => by cases h⟩
  · rintro e W' ⟨v, C', rfl, hW, hH, hE, hF, hG, hr⟩
    obtain rfl := rv_ex_inv hr
    have K := hG.kp
    rw [hE, hW] at K
    exact ⟨rfl, K.os, K.tape, K.output, K.size, fun k hk => K.block k hk (by rintro ⟨o, ob, h, _⟩; cases h)⟩
end Go.Proofs.YtedokpgkjcnoiaaGreat
namespace Go.Proofs.YtedokpgkjcnoiaaGreat
open Go.ChangeShapes Go.WideShapes Go.RowKit
section
variable {H : Type} {enc : TypeId × Value → H} {W : World}
end
set_option maxRecDepth 100000
theorem cells_slice {T E : Nat} (hT : Tryz.prog.underlying T = some (.slice E)) {W : World} {v : Value} (h : Value.okWide Tryz.prog W .any 0 T v) : v.cells.toList = [v] := by
 simp only [Value.okWide, hT, Cell.okWide] at h
 cases v <;> simp_all [Value.cells, Cell.ok]
theorem rv_slice {C : Cx} {W : World} {s n : Nat} {f : Nat → List DV} {v : Value} (h : RDs W [.sl s n f] v.cells.toList) (hc : v.cells.toList = [v]) (hN : ∀ k, C.N k ↔ k < W.heap.size) (hW : C.W = W) : Rv C (.d (.sl s n f)) v := by
 have e : C.N = fun k => k < W.heap.size := funext fun k => propext (hN k)
 have := h.rd 0 (by simp)
 rw [hc] at this
 show RD C.W C.N _ _
 rw [hW, e]
 exact this
theorem int_u8 {a : Int} (h : (Lit.int .u8 a).wf = true) : ∃ k : Nat, a = k := by
 have hb : 0 ≤ a ∧ a ≤ 255 := by
  simp [Lit.wf, IntKind.min, IntKind.max, IntKind.signed, IntKind.bits] at h
  omega
 exact Int.eq_ofNat_of_zero_le hb.1

end Go.Proofs.YtedokpgkjcnoiaaGreat
namespace Go.Proofs.YtedokpgkjcnoiaaGreat
open Go.ChangeShapes Go.WideShapes Go.RowKit
set_option maxRecDepth 100000
section
variable {H : Type} {enc : TypeId × Value → H} {W : World}
structure BoxQ (b : BoxD) : Prop where
 lo : Pl.IsI b.lo
 hi : Pl.IsI b.hi
 l1 : b.lo.length ≤ maxLen
 l2 : b.hi.length ≤ maxLen
theorem come_byte {cs : List Value} {x : DataW H × List MemPlace} {n : Nat} (h : DataW.trod enc Tryz.prog W 0 (fun _ => true) true n 5 cs = some x) : ∃ z : Nat, z < 256 ∧ RDs W [.v (.int .u8 (z : Nat))] cs := by
 obtain ⟨a, rfl, _, wa⟩ := DataW.trod_int Tryz.underlying5 h
 obtain ⟨k, rfl⟩ := int_u8 wa
 refine ⟨k, ?_, RDs.cons (.v _) rfl RDs.nil⟩
 simp [Lit.wf, IntKind.min, IntKind.max, IntKind.signed, IntKind.bits] at wa
 omega
structure EntQ' (e : EntD) : Prop where
 row : Pl.IsI e.row
 len : e.row.length ≤ maxLen
structure NodeQ (n : NodeD) : Prop where
 kind : n.kind < 256
 rows : n.rows.length ≤ maxLen
 kids : n.kids.length ≤ maxLen
 row : ∀ i, i < n.rows.length → EntQ' (n.rows.getD i default)
 kid : ∀ i, i < n.kids.length → KidQ (n.kids.getD i default)
end
end Go.Proofs.YtedokpgkjcnoiaaGreat
namespace Go.Proofs.YtedokpgkjcnoiaaGreat
open Go.ChangeShapes Go.WideShapes Go.RowKit
set_option maxRecDepth 100000
section
variable {H : Type} {enc : TypeId × Value → H} {W : World}
end
end Go.Proofs.YtedokpgkjcnoiaaGreat
namespace Go.Proofs.YtedokpgkjcnoiaaGreat
open Go.ChangeShapes Go.WideShapes Go.RowKit
set_option maxRecDepth 100000
theorem byte_nat {z : Int} (w : (Lit.int .u8 z).wf = true) : ∃ k : Nat, z = k ∧ k < 256 := by
 obtain ⟨k, rfl⟩ := int_u8 w
 simp [Lit.wf, IntKind.min, IntKind.max, IntKind.signed, IntKind.bits] at w
 exact ⟨k, rfl, by omega⟩
section
variable {H : Type} {enc : TypeId × Value → H} {W : World}
theorem come_op {cs : List Value} {x : DataW H × List MemPlace} {n : Nat} (h : DataW.trod enc Tryz.prog W 0 (fun _ => true) true n 55 cs = some x) : ∃ o : Nat × List Int, Pl.IsI o.2 ∧ RDs W (opL o) cs := by
 obtain ⟨z0, z1, n'', _, hl1, g0, g1⟩ := Go.ChangeShapes.trod_struct2 Tryz.underlying55 h
 obtain ⟨k, hk, p0⟩ := come_byte g0
 obtain ⟨r, i1, m1, p1⟩ := come_row g1
 rw [show Tryz.prog.cellsOf 55 = 2 by kernel_rfl] at hl1
 rw [show Tryz.prog.cellsOf 5 = 1 by kernel_rfl] at p0
 rw [show Tryz.prog.cellsOf 26 = 1 by kernel_rfl] at p1
 dsimp only at p0 p1 hl1
 refine ⟨(k, r), i1, ?_⟩
 match cs, hl1 with
 | [a, b], _ => exact p0.app p1
theorem come_ops {cs : List Value} {x : DataW H × List MemPlace} {n : Nat} (h : DataW.trod enc Tryz.prog W 0 (fun _ => true) true n 52 cs = some x) : ∃ l : List (Nat × List Int), (∀ o ∈ l, Pl.IsI o.2) ∧ l.length ≤ maxLen ∧ RDs W [opsL l] cs := by
 obtain ⟨l, h1, h2, h3⟩ := come_slP (Pq := fun o : Nat × List Int => Pl.IsI o.2) (L := opL) Tryz.underlying52 (s := 2) (by kernel_rfl) (by decide) (fun _ => rfl) come_op h
 refine ⟨l, fun x hx => ?_, h1, h3⟩
 obtain ⟨i, hi, rfl⟩ := List.getElem_of_mem hx
 have := h2 i hi
 rwa [List.getD_eq_getElem?_getD, List.getElem?_eq_getElem hi] at this
end
end Go.Proofs.YtedokpgkjcnoiaaGreat
