/- slices.Index, slices.Contains at texts; block.areCols, block.Right. What came in, seen from afar: numbers, texts, rows, kids, tables; a contract of the new kind as a walk of the old. Bytes that came in. What came in: bytes, truths, boxes, entries, nodes. NodeHulls, of any node that came in.  -/
import Derived.Deep.Slices
import Derived.ChangeShapes
import Derived.ChangeMaps5
import Derived.Test.YtbidoddghdbaoaaRows
import Derived.Test.YtbidoddghdbaoaaY24
import Derived.Test.YtbidoddghdbaoaaY25
import Derived.Test.YtbidoddghdbaoaaY33
import Derived.Test.YtbidoddghdbaoaaY49
set_option linter.unusedVariables false
set_option linter.unusedSimpArgs false
namespace Go.Proofs.Ytbidoddghdbaoaa
open Go.RowKit
set_option maxRecDepth 100000
set_option maxHeartbeats 1000000
/-- where a text stands among the first n, or -1 -/
def idxN (l : List ByteArray) (s : ByteArray) (n : Nat) : Int := match (List.range n).find? (fun i => decide (l.getD i default = s)) with
  | some k => k
  | none => -1
def strN (l : List ByteArray) (n : Nat) : DV := .sl 1 n (fun i => [.v (.string (l.getD i default))])
def colOk (l : List ByteArray) (k : Nat) : Bool := nameB (nb (l.getD k default)) && (!decide (l.getD k default = idS) && !decide (0 ≤ idxN l (l.getD k default) k))
def colsOk (l : List ByteArray) : Bool := allTo (colOk l) l.length && (decide (0 < l.length) && decide (l.length ≤ 7))
def shortS (s : ByteArray) : Prop := s.size ≤ 140737488351232
end Go.Proofs.Ytbidoddghdbaoaa
namespace Go.Proofs.Ytbidoddghdbaoaa
open Go.ChangeShapes Go.WideShapes Go.RowKit
structure RDs (W : World) (ds : List DV) (cs : List Value) : Prop where
  len : ds.length = cs.length
  rd : ∀ j, j < ds.length → RD W (fun b => b < W.heap.size) (ds.getD j default) (cs.getD j undef)
  one : ∀ j, j < ds.length → (cs.getD j undef).oneCell' = true
section
variable {W : World}
theorem RDs.nil : RDs W [] [] := ⟨rfl, (fun j h => by cases h), (fun j h => by cases h)⟩
theorem RDs.cons {d : DV} {v : Value} {ds : List DV} {cs : List Value} (h : RD W (fun b => b < W.heap.size) d v) (o : v.oneCell' = true) (r : RDs W ds cs) : RDs W (d :: ds) (v :: cs) :=
  ⟨by simp [r.len], fun j hj => by cases j with | zero => exact h | succ j => simpa using r.rd j (by simpa using hj), fun j hj => by cases j with | zero => exact o | succ j => simpa using r.one j (by simpa using hj)⟩
theorem RDs.app : ∀ {ds ds' : List DV} {cs cs' : List Value}, RDs W ds cs → RDs W ds' cs' → RDs W (ds ++ ds') (cs ++ cs')
  | [], _, [], _, _, k => k
  | d :: ds, _, v :: cs, _, h, k => RDs.cons (h.rd 0 (by simp)) (h.one 0 (by simp)) (RDs.app ⟨by have := h.len; simpa using this, fun j hj => by simpa using h.rd (j + 1) (by simpa using hj), fun j hj => by simpa using h.one (j + 1) (by simpa using hj)⟩ k)
  | [], _, _ :: _, _, h, _ => by have := h.len; simp at this
  | _ :: _, _, [], _, h, _ => by have := h.len; simp at this
end
section
variable {H : Type} {enc : TypeId × Value → H} {W : World}
theorem mapM_each' {α β : Type} {f : α → Option β} : ∀ {L : List α} {ys : List β}, L.mapM f = some ys → ∀ i ∈ L, ∃ y, f i = some y
  | [], _, _, i, hi => by cases hi
  | x :: L, ys, h, i, hi => by
    rw [List.mapM_cons] at h
    simp only [bind, Option.bind_eq_some_iff, pure, Option.some.injEq] at h
    obtain ⟨y, hy, zs, hz, _⟩ := h
    rcases List.mem_cons.1 hi with rfl | hi
    · exact ⟨y, hy⟩
    · exact mapM_each' hz i hi
theorem row_of' {cs l : List Value} {i n : Nat} (h : (cs.drop i).take n = l) : cs.drop i = l ++ cs.drop (i + n) := by
  have h2 := List.take_append_drop n (cs.drop i)
  rw [h, List.drop_drop] at h2
  exact h2.symm
/-- a slice that came in -/
theorem come_slP {P : Program} {α : Type} [Inhabited α] {T E s : Nat} {Pq : α → Prop} {L : α → List DV} (hT : P.underlying T = some (.slice E)) (hs : P.cellsOf E = s) (hs0 : 0 < s) (hlen : ∀ q, (L q).length = s)
    (each0 : ∀ {cs : List Value} {x : DataW H × List MemPlace} {n : Nat}, DataW.trod enc P W 0 (fun _ => true) true n E cs = some x → ∃ q, Pq q ∧ RDs W (L q) cs)
    {cs : List Value} {x : DataW H × List MemPlace} {n : Nat} (hf : DataW.trod enc P W 0 (fun _ => true) true n T cs = some x) :
    ∃ l : List α, l.length ≤ maxLen ∧ (∀ i, i < l.length → Pq (l.getD i default)) ∧ RDs W [.sl s l.length (fun i => L (l.getD i default))] cs := by
  rcases Deep.open_slice hT hf with ⟨hcs, _⟩ | ⟨a, len, cap, m, n, D, Pl, hcs, _, hl, hm, hmm, _, hx⟩
  · subst hcs
    exact ⟨[], by simp, fun i hi => (by cases hi), RDs.cons (.sl s 0 _ none 0 0 0 (fun _ _ => default) (fun h => by omega) (Nat.le_refl _) (fun i hi => by omega) (fun i j hi => by omega) (fun i j hi => by omega)) rfl RDs.nil⟩
  · subst hcs
    simp only [if_true] at hmm
    rw [hs] at hx
    have hspot : 0 < len → a.spot = none := fun h0 => by
      obtain ⟨cs', h1, h2⟩ := hx 0 (by omega)
      obtain ⟨q, _, r⟩ := each0 h2
      obtain ⟨_, _, hc⟩ := World.cells?_some h1
      have hl : cs'.length = s := by rw [← r.len, hlen]
      have h0' := hc 0 hs0
      rw [List.getElem?_eq_getElem (by omega)] at h0'
      have := World.cell?_spot h0'
      simpa [Addr.add] using this
    have each : ∀ i, i < len → ∃ q : α × List Value, (∀ j, j < s → W.cell? (a.add (i * s + j)) = q.2[j]?) ∧ RDs W (L q.1) q.2 ∧ (0 < s → a.spot = none) ∧ Pq q.1 := fun i hi => by
      obtain ⟨cs', h1, h2⟩ := hx i (by omega)
      obtain ⟨q, pq, r⟩ := each0 h2
      obtain ⟨_, _, hc⟩ := World.cells?_some h1
      have hl : cs'.length = s := by rw [← r.len, hlen]
      have hsp : a.spot = none := hspot (by omega)
      refine ⟨(q, cs'), fun j hj => ?_, r, fun _ => hsp, pq⟩
      rw [← hc j hj]
      congr 1
      obtain ⟨b, off, spot⟩ := a
      dsimp only at hsp
      subst hsp
      have hadd : ∀ (x y : Nat), (⟨b, x, none⟩ : Addr).add y = ⟨b, x + y, none⟩ := fun x y => by unfold Addr.add; split <;> simp_all
      rw [hadd, hadd, hadd, Nat.add_assoc]
    obtain ⟨f, hF⟩ := Deep.choose_lt each
    have e1 : ((List.range len).map fun i => (f i).1).length = len := by simp
    have e2 : ∀ i, i < len → ((List.range len).map fun i => (f i).1).getD i default = (f i).1 := fun i hi => by simp [List.getD, List.getElem?_map, List.getElem?_range hi]
    refine ⟨(List.range len).map fun i => (f i).1, by rw [e1]; omega, fun i hi => by rw [e1] at hi; rw [e2 i hi]; exact (hF i hi).2.2.2, RDs.cons ?_ rfl RDs.nil⟩
    rw [e1]
    obtain ⟨b, off, spot⟩ := a
    have hadd : spot = none → ∀ (x : Nat), (⟨b, off, spot⟩ : Addr).add x = ⟨b, off + x, none⟩ := fun h x => by subst h; unfold Addr.add; split <;> simp_all
    have cell : ∀ i j, i < len → j < s → W.cell? ⟨b, off + i * s + j, none⟩ = some ((f i).2.getD j undef) := fun i j hi hj => by
      obtain ⟨h1, h2, h3⟩ := hF i hi
      have h3 : spot = none := h3.1 hs0
      have := h1 j hj
      rw [hadd h3] at this
      have hl : (f i).2.length = s := by rw [← h2.len, hlen]
      rw [show off + i * s + j = off + (i * s + j) by omega, this, List.getElem?_eq_getElem (by omega)]
      simp [List.getD_eq_getElem?_getD, List.getElem?_eq_getElem (show j < (f i).2.length by omega)]
    refine .sl s len _ _ b off cap (fun i j => (f i).2.getD j undef) (fun hn => ?_) hl (fun i hi => by rw [e2 i hi, hlen]) (fun i j hi hj => ⟨cell i j hi hj, (hF i hi).2.1.one j (by rw [hlen]; exact hj)⟩) (fun i j hi hj => ?_)
    · have h3 : spot = none := (hF 0 hn).2.2.1 hs0
      subst h3
      exact ⟨rfl, World.block_lt_of_cell? W _ (cell 0 0 hn hs0)⟩
    · rw [e2 i hi]
      exact (hF i hi).2.1.rd j (by rw [hlen]; exact hj)
theorem come_i64b {cs : List Value} {x : DataW H × List MemPlace} {n : Nat} (h : DataW.trod enc Try.prog W 0 (fun _ => true) true n 3 cs = some x) : ∃ z : Int, (-9223372036854775808 ≤ z ∧ z ≤ 9223372036854775807) ∧ RDs W [.v (.int .i64 z)] cs := by
  obtain ⟨a, rfl, _, wa⟩ := DataW.trod_int Try.underlying3 h
  refine ⟨a, ?_, RDs.cons (.v _) rfl RDs.nil⟩
  simp [Lit.wf, IntKind.min, IntKind.max, IntKind.signed, IntKind.bits] at wa
  omega
theorem isI_of {l : List Int} (h : ∀ i, i < l.length → -9223372036854775808 ≤ l.getD i 0 ∧ l.getD i 0 ≤ 9223372036854775807) : Pl.IsI l := fun i => by
  rcases Nat.lt_or_ge i l.length with q | q
  · exact h i q
  · rw [List.getD_eq_getElem?_getD, List.getElem?_eq_none q]; decide
theorem isB_of {l : List Nat} (h : ∀ i, i < l.length → l.getD i 0 < 256) : Pl.IsB l := fun i => by
  rcases Nat.lt_or_ge i l.length with q | q
  · exact h i q
  · rw [List.getD_eq_getElem?_getD, List.getElem?_eq_none q]; decide
theorem come_row {cs : List Value} {x : DataW H × List MemPlace} {n : Nat} (h : DataW.trod enc Try.prog W 0 (fun _ => true) true n 31 cs = some x) : ∃ l : List Int, Pl.IsI l ∧ l.length ≤ maxLen ∧ RDs W [i64L l] cs := by
  obtain ⟨l, hl, hp, r⟩ := come_slP (Pq := fun z : Int => -9223372036854775808 ≤ z ∧ z ≤ 9223372036854775807) (L := fun z : Int => [.v (.int .i64 z)]) Try.underlying31 (s := 1) (by kernel_rfl) (by decide) (fun _ => rfl) (fun h => by
    obtain ⟨a, rfl, _, wa⟩ := DataW.trod_int Try.underlying2 h
    have hb : -9223372036854775808 ≤ a ∧ a ≤ 9223372036854775807 := by
      simp [Lit.wf, IntKind.min, IntKind.max, IntKind.signed, IntKind.bits] at wa
      omega
    exact ⟨a, hb, RDs.cons (.v _) rfl RDs.nil⟩) h
  exact ⟨l, isI_of fun i hi => hp i hi, hl, r⟩
theorem trod_struct5' {P : Program} {w : World} {base : Nat} {spare : Nat → Bool} {held : Bool} {t : TypeId} {f0 f1 f2 f3 f4 : Field} {fuel : Nat} {cs : List Value} {x : DataW H × List MemPlace} (ht : P.underlying t = some (.struct #[f0, f1, f2, f3, f4])) (h : DataW.trod enc P w base spare held fuel t cs = some x) :
    ∃ y0 y1 y2 y3 y4 n, cs.length = P.cellsOf t ∧ DataW.trod enc P w base spare held n f0.type ((cs.drop f0.offset).take (P.cellsOf f0.type)) = some y0 ∧
      DataW.trod enc P w base spare held n f1.type ((cs.drop f1.offset).take (P.cellsOf f1.type)) = some y1 ∧ DataW.trod enc P w base spare held n f2.type ((cs.drop f2.offset).take (P.cellsOf f2.type)) = some y2 ∧
      DataW.trod enc P w base spare held n f3.type ((cs.drop f3.offset).take (P.cellsOf f3.type)) = some y3 ∧ DataW.trod enc P w base spare held n f4.type ((cs.drop f4.offset).take (P.cellsOf f4.type)) = some y4 := by
  obtain ⟨xs, n, _, rfl, hl, hlen, hf⟩ := DataW.trod_struct ht h
  match xs, hlen with
  | [y0, y1, y2, y3, y4], _ => exact ⟨y0, y1, y2, y3, y4, n, hl, by simpa using hf 0 f0 rfl, by simpa using hf 1 f1 rfl, by simpa using hf 2 f2 rfl, by simpa using hf 3 f3 rfl, by simpa using hf 4 f4 rfl⟩
def byteOfV' : Value → Nat
  | .int _ n => n.toNat
  | _ => 0
theorem come_dig {cs : List Value} {x : DataW H × List MemPlace} {n : Nat} (h : DataW.trod enc Try.prog W 0 (fun _ => true) true n 29 cs = some x) : ∃ l : List Nat, l.length = 32 ∧ Pl.IsB l ∧ RDs W (b32 fun i => .v (.int .u8 (l.getD i 0 : Nat))) cs := by
  have h2 : Try.prog.cellsOf 29 = 32 := by kernel_rfl
  have h3 : Try.prog.cellsOf 5 = 1 := by kernel_rfl
  cases n with
  | zero => simp [DataW.trod] at h
  | succ m =>
    rw [DataW.trod_step] at h
    unfold DataW.trodStep at h
    simp only [Try.underlying29] at h
    rw [h2] at h
    split at h
    case isFalse => cases h
    rename_i hl
    simp only [Option.map_eq_some_iff] at h
    obtain ⟨ys, hy, _⟩ := h
    have he := mapM_each' hy
    have hcell2 : ∀ i, i < 32 → cs[i]? = some (.int .u8 (((cs.map byteOfV').getD i 0 : Nat) : Int)) ∧ (cs.map byteOfV').getD i 0 < 256 := fun i hi => by
      obtain ⟨y, hy⟩ := he i (List.mem_range.2 hi)
      obtain ⟨a, ea, _, wa⟩ := DataW.trod_int Try.underlying5 hy
      have hb : 0 ≤ a ∧ a ≤ 255 := by
        simp [Lit.wf, IntKind.min, IntKind.max, IntKind.signed, IntKind.bits] at wa
        omega
      rw [h3, Nat.mul_one] at ea
      have := congrArg (fun l => l[0]?) ea
      simp only [List.getElem?_take, List.getElem?_drop] at this
      simp at this
      rw [this]
      simp only [List.getD_eq_getElem?_getD, List.getElem?_map, this, Option.map_some, Option.getD_some, byteOfV', Option.some.injEq, Value.int.injEq, true_and]
      omega
    have hcell : ∀ i, i < 32 → cs[i]? = some (.int .u8 (((cs.map byteOfV').getD i 0 : Nat) : Int)) := fun i hi => (hcell2 i hi).1
    have hl : cs.length = 32 := by simpa using hl
    have eb : ∀ f : Nat → DV, b32 f = (List.range 32).map f := fun f => rfl
    have hv : ∀ j, j < 32 → cs.getD j undef = .int .u8 (((cs.map byteOfV').getD j 0 : Nat) : Int) := fun j hj => by rw [List.getD_eq_getElem?_getD, hcell j hj]; rfl
    refine ⟨cs.map byteOfV', by simp [hl], isB_of fun i hi => (hcell2 i (by simpa [hl] using hi)).2, ?_⟩
    rw [eb]
    refine ⟨by simp [hl], fun j hj => ?_, fun j hj => ?_⟩
    · have hj : j < 32 := by simpa using hj
      rw [show ((List.range 32).map fun i => DV.v (.int .u8 (((cs.map byteOfV').getD i 0 : Nat) : Int))).getD j default = .v (.int .u8 (((cs.map byteOfV').getD j 0 : Nat) : Int)) by
        rw [List.getD_eq_getElem?_getD, List.getElem?_map, List.getElem?_range hj]; rfl]
      rw [hv j hj]
      exact .v _
    · have hj : j < 32 := by simpa using hj
      rw [hv j hj]; rfl
structure KidQ (k : KidD) : Prop where
  s : k.sum.length = 32
  sB : Pl.IsB k.sum
  lo : Pl.IsI k.lo
  hi : Pl.IsI k.hi
  key : Pl.IsI k.key
  ll : k.lo.length ≤ maxLen
  lh : k.hi.length ≤ maxLen
  lk : k.key.length ≤ maxLen
  l1 : -9223372036854775808 ≤ k.live ∧ k.live ≤ 9223372036854775807
  z1 : -9223372036854775808 ≤ k.size ∧ k.size ≤ 9223372036854775807
theorem come_kid {cs : List Value} {x : DataW H × List MemPlace} {n : Nat} (hf : DataW.trod enc Try.prog W 0 (fun _ => true) true n 35 cs = some x) : ∃ k : KidD, KidQ k ∧ RDs W (kidL k) cs := by
  obtain ⟨y0, y1, y2, y3, y4, n', hl, h0, h1, h2, h3, h4⟩ := trod_struct5' Try.underlying35 hf
  rw [show Try.prog.cellsOf 35 = 37 by kernel_rfl] at hl
  obtain ⟨l, l1, l2, r0⟩ := come_dig h0
  obtain ⟨z0, z1, n'', _, hl1, g0, g1⟩ := Go.ChangeShapes.trod_struct2 Try.underlying33 h1
  obtain ⟨lo, i1, m1, p0⟩ := come_row g0
  obtain ⟨hi, i2, m2, p1⟩ := come_row g1
  obtain ⟨a, n1, r2⟩ := come_i64b h2
  obtain ⟨b, n2, r3⟩ := come_i64b h3
  obtain ⟨key, i3, m3, r4⟩ := come_row h4
  rw [show Try.prog.cellsOf 31 = 1 by kernel_rfl] at p0 p1 r4
  rw [show Try.prog.cellsOf 3 = 1 by kernel_rfl] at r2 r3
  rw [show Try.prog.cellsOf 29 = 32 by kernel_rfl] at r0
  rw [show Try.prog.cellsOf 33 = 2 by kernel_rfl] at hl1 p0 p1
  dsimp only at r0 r2 r3 r4 p0 p1 hl1
  refine ⟨⟨l, lo, hi, a, b, key⟩, ⟨l1, l2, i1, i2, i3, m1, m2, m3, n1, n2⟩, ?_⟩
  have q : ∀ (i m : Nat) (l : List Value), l.drop i = (l.drop i).take m ++ l.drop (i + m) := fun i m l => row_of' rfl
  have t2 : ∀ l : List Value, l.length = 2 → l = ((l.drop 0).take 1) ++ ((l.drop 1).take 1) := fun l h => by
    match l, h with
    | [a, b], _ => rfl
  have e1 := t2 _ hl1
  rw [← List.drop_zero (l := cs), q 0 32, q (0 + 32) 2, q (0 + 32 + 2) 1, q (0 + 32 + 2 + 1) 1, q (0 + 32 + 2 + 1 + 1) 1, List.drop_eq_nil_of_le (i := 0 + 32 + 2 + 1 + 1 + 1) (by omega)]
  have r1 : RDs W ([i64L lo] ++ [i64L hi]) ((cs.drop 32).take 2) := by rw [e1]; exact p0.app p1
  exact r0.app (r1.app (r2.app (r3.app (r4.app RDs.nil))))
structure TabQ (t : TableD) : Prop where
  kd : KidQ t.kd
  zb : KidQ t.zb
end
/-! ### Joining -/
theorem walk_of {P : Program} {f : FuncId} {xs : List AV} {b : Bool} {vs : List Value} {W : World} (h : ACall P f xs [] (exB b) []) (hl : xs.length = vs.length)
    (hv : ∀ j, j < xs.length → ∀ C : Cx, (∀ k, C.N k ↔ k < W.heap.size) → C.W = W → Rv C (xs.getD j .any) (vs.getD j undef)) :
    Calls P f vs.toArray W fun e W' => e = .returned (.bool b) ∧ Below W.heap.size W W' := by
  refine (h.2 (fun k => k < W.heap.size) W (fun _ => undef) vs ⟨fun o b h => (by cases h), fun o o' b b' k h => (by cases h), Kp.refl _ _, fun o b k h => (by cases h)⟩ hl fun j hj => hv j hj _ (fun k => ?_) rfl).mono ?_
  · constructor
    · exact fun h => h.2.1
    · exact fun h => ⟨.inl h, h, fun o ob h => by cases h⟩
  · rintro e W' ⟨v, C', rfl, hW, hH, hE, hF, hG, hr⟩
    obtain rfl := rv_ex_inv hr
    have K := hG.kp
    rw [hE, hW] at K
    exact ⟨rfl, K.os, K.tape, K.output, K.size, fun k hk => K.block k hk (by rintro ⟨o, ob, h, _⟩; cases h)⟩
theorem rv_agg {C : Cx} {W : World} {ds : List DV} {cs : List Value} (h : RDs W ds cs) (hN : ∀ k, C.N k ↔ k < W.heap.size) (hW : C.W = W) : Rv C (agD ds) (.agg cs.toArray) := by
  have e : C.N = fun k => k < W.heap.size := funext fun k => propext (hN k)
  refine ⟨cs, rfl, by simp [h.len], fun j hj => ?_⟩
  have hj : j < ds.length := by simpa using hj
  have := h.rd j hj
  rw [List.getD_eq_getElem?_getD, List.getElem?_map, List.getElem?_eq_getElem hj]
  rw [List.getD_eq_getElem?_getD, List.getElem?_eq_getElem hj] at this
  show RD C.W C.N _ _
  rw [hW, e]
  exact this
end Go.Proofs.Ytbidoddghdbaoaa
namespace Go.Proofs.Ytbidoddghdbaoaa
open Go.ChangeShapes Go.WideShapes Go.RowKit
section
variable {H : Type} {enc : TypeId × Value → H} {W : World}
end
set_option maxRecDepth 100000
theorem int_u8 {a : Int} (h : (Lit.int .u8 a).wf = true) : ∃ k : Nat, a = k := by
  have hb : 0 ≤ a ∧ a ≤ 255 := by
    simp [Lit.wf, IntKind.min, IntKind.max, IntKind.signed, IntKind.bits] at h
    omega
  exact Int.eq_ofNat_of_zero_le hb.1

end Go.Proofs.Ytbidoddghdbaoaa
namespace Go.Proofs.Ytbidoddghdbaoaa
open Go.ChangeShapes Go.WideShapes Go.RowKit
set_option maxRecDepth 100000
section
variable {H : Type} {enc : TypeId × Value → H} {W : World}
theorem trod_struct3' {P : Program} {w : World} {base : Nat} {spare : Nat → Bool} {held : Bool} {t : TypeId} {f0 f1 f2 : Field} {fuel : Nat} {cs : List Value} {x : DataW H × List MemPlace} (ht : P.underlying t = some (.struct #[f0, f1, f2])) (h : DataW.trod enc P w base spare held fuel t cs = some x) :
    ∃ y0 y1 y2 n, cs.length = P.cellsOf t ∧ DataW.trod enc P w base spare held n f0.type ((cs.drop f0.offset).take (P.cellsOf f0.type)) = some y0 ∧
      DataW.trod enc P w base spare held n f1.type ((cs.drop f1.offset).take (P.cellsOf f1.type)) = some y1 ∧ DataW.trod enc P w base spare held n f2.type ((cs.drop f2.offset).take (P.cellsOf f2.type)) = some y2 := by
  obtain ⟨xs, n, _, rfl, hl, hlen, hf⟩ := DataW.trod_struct ht h
  match xs, hlen with
  | [y0, y1, y2], _ => exact ⟨y0, y1, y2, n, hl, by simpa using hf 0 f0 rfl, by simpa using hf 1 f1 rfl, by simpa using hf 2 f2 rfl⟩
theorem come_bool {cs : List Value} {x : DataW H × List MemPlace} {n : Nat} (h : DataW.trod enc Try.prog W 0 (fun _ => true) true n 4 cs = some x) : ∃ z : Bool, RDs W [.v (.bool z)] cs := by
  obtain ⟨a, rfl, _⟩ := DataW.trod_bool Try.underlying4 h
  exact ⟨a, RDs.cons (.v _) rfl RDs.nil⟩
structure BoxQ (b : BoxD) : Prop where
  lo : Pl.IsI b.lo
  hi : Pl.IsI b.hi
  l1 : b.lo.length ≤ maxLen
  l2 : b.hi.length ≤ maxLen
theorem come_byte {cs : List Value} {x : DataW H × List MemPlace} {n : Nat} (h : DataW.trod enc Try.prog W 0 (fun _ => true) true n 5 cs = some x) : ∃ z : Nat, z < 256 ∧ RDs W [.v (.int .u8 (z : Nat))] cs := by
  obtain ⟨a, rfl, _, wa⟩ := DataW.trod_int Try.underlying5 h
  obtain ⟨k, rfl⟩ := int_u8 wa
  refine ⟨k, ?_, RDs.cons (.v _) rfl RDs.nil⟩
  simp [Lit.wf, IntKind.min, IntKind.max, IntKind.signed, IntKind.bits] at wa
  omega
structure EntQ' (e : EntD) : Prop where
  row : Pl.IsI e.row
  len : e.row.length ≤ maxLen
theorem come_ent {cs : List Value} {x : DataW H × List MemPlace} {n : Nat} (h : DataW.trod enc Try.prog W 0 (fun _ => true) true n 41 cs = some x) : ∃ e : EntD, EntQ' e ∧ RDs W (entL e) cs := by
  obtain ⟨z0, z1, n'', _, hl1, g0, g1⟩ := Go.ChangeShapes.trod_struct2 Try.underlying41 h
  obtain ⟨r, i1, m1, p0⟩ := come_row g0
  obtain ⟨v, p1⟩ := come_bool g1
  rw [show Try.prog.cellsOf 41 = 2 by kernel_rfl] at hl1
  rw [show Try.prog.cellsOf 31 = 1 by kernel_rfl] at p0
  rw [show Try.prog.cellsOf 4 = 1 by kernel_rfl] at p1
  dsimp only at p0 p1 hl1
  refine ⟨⟨r, v⟩, ⟨i1, m1⟩, ?_⟩
  match cs, hl1 with
  | [a, b], _ => exact p0.app p1
structure NodeQ (n : NodeD) : Prop where
  kind : n.kind < 256
  rows : n.rows.length ≤ maxLen
  kids : n.kids.length ≤ maxLen
  row : ∀ i, i < n.rows.length → EntQ' (n.rows.getD i default)
  kid : ∀ i, i < n.kids.length → KidQ (n.kids.getD i default)
theorem come_node {cs : List Value} {x : DataW H × List MemPlace} {n : Nat} (h : DataW.trod enc Try.prog W 0 (fun _ => true) true n 25 cs = some x) : ∃ nd : NodeD, NodeQ nd ∧ RDs W (nodeL nd) cs := by
  obtain ⟨z0, z1, z2, n'', hl1, g0, g1, g2⟩ := trod_struct3' Try.underlying25 h
  obtain ⟨k, hk, p0⟩ := come_byte g0
  obtain ⟨es, m1, e1, p1⟩ := come_slP (Pq := EntQ') (L := entL) Try.underlying22 (s := 2) (by kernel_rfl) (by decide) (fun _ => rfl) come_ent g1
  obtain ⟨ks, m2, e2, p2⟩ := come_slP (Pq := KidQ) (L := kidL) Try.underlying23 (s := 37) (by kernel_rfl) (by decide) (fun _ => rfl) come_kid g2
  rw [show Try.prog.cellsOf 25 = 3 by kernel_rfl] at hl1
  rw [show Try.prog.cellsOf 5 = 1 by kernel_rfl] at p0
  rw [show Try.prog.cellsOf 22 = 1 by kernel_rfl] at p1
  rw [show Try.prog.cellsOf 23 = 1 by kernel_rfl] at p2
  dsimp only at p0 p1 p2 hl1
  refine ⟨⟨k, es, ks⟩, ⟨hk, m1, m2, e1, e2⟩, ?_⟩
  match cs, hl1 with
  | [a, b, d], _ => exact p0.app (p1.app p2)
end
end Go.Proofs.Ytbidoddghdbaoaa
namespace Go.Proofs.Ytbidoddghdbaoaa
open Go.RowKit
set_option maxRecDepth 100000
set_option maxHeartbeats 4000000
theorem nodeOk_of {n : NodeD} (h : NodeQ n) (hg : greatB n = false) : Pl.NodeOk n := by
  obtain ⟨g1, g2, g3, g4⟩ := greatB_no hg
  refine ⟨h.kind, fun i hi => ⟨(h.row i hi).row, by have := g3 i hi; omega⟩, fun i hi => ?_, by omega, by omega⟩
  have q := h.kid i hi
  have g := g4 i hi
  exact ⟨q.s, q.sB, q.lo, q.hi, q.key, q.l1, q.z1, by omega, by omega, by omega⟩
theorem nodehulls_any (n : NodeD) (d : Int) (h : NodeQ n) : ACall Try.prog 3 [agD (nodeL n), exI .i64 d] [] (exB true) [] := by
  cases hg : greatB n with
  | false => exact nodehulls_ok n d (nodeOk_of h hg) h.rows h.kids
  | true =>
    have q0 := alive10
    have q1 := great10 n h.rows h.kids
    rw [hg] at q1
    refine acall_on (mu := []) [] [] mixed Try.func3 rfl rfl rfl ?_
    conv => whnf
    repeat' (first
      | (refine And.intro (by omega) ?_; conv => whnf)
      | (refine And.intro rfl ?_; conv => whnf)
      | (refine And.intro (Nat.le_of_ble_eq_true rfl) ?_; conv => whnf)
      | (refine And.intro (fun i hi => ⟨_, rfl⟩) ?_; conv => whnf)
      | (refine ⟨_, _, _, .flat _ _ rfl (q0) rfl, ?_⟩; conv => whnf)
      | (refine ⟨_, _, _, .flat _ _ rfl (q1) rfl, ?_⟩; conv => whnf)
      | (refine ⟨_, _, _, .flat _ _ rfl (ACall.arg ?harg (q0)) rfl, ?_⟩; (case harg => (repeat' (first | exact trivial | exact rfl | exact fun _ _ => rfl | apply And.intro | (intro i hi; rcases i with _ | _ | i <;> first | rfl | (exfalso; omega) | (simp at hi; done) | (simp at hi; omega)) | exact fun _ _ => by simp))); (conv => whnf))
      | (refine ⟨_, _, _, .flat _ _ rfl (ACall.arg ?harg (q1)) rfl, ?_⟩; (case harg => (repeat' (first | exact trivial | exact rfl | exact fun _ _ => rfl | apply And.intro | (intro i hi; rcases i with _ | _ | i <;> first | rfl | (exfalso; omega) | (simp at hi; done) | (simp at hi; omega)) | exact fun _ _ => by simp))); (conv => whnf))
      | (refine And.intro (fun hq => ?_) (fun hq => ?_) <;> (first | (exfalso; simp at hq; done) | (exfalso; simp only [cond_true, cond_false, Bool.not_eq_true', Bool.not_eq_false', decide_eq_true_eq, decide_eq_false_iff_not] at hq; (try dsimp only at hq); omega) | (exfalso; simp at hq; omega) | ((try simp only [cond_true, cond_false, Bool.not_eq_true', Bool.not_eq_false', decide_eq_true_eq, decide_eq_false_iff_not] at hq); (try dsimp only at hq); (conv => whnf))))
      | (refine fun hq => ?_; conv => whnf)
      | (refine And.intro (by dsimp only; omega) ?_; conv => whnf)
      | fail)
    all_goals (repeat' (first | exact trivial | exact rfl | exact fun _ _ => rfl | apply And.intro | (intro i hi; rcases i with _ | _ | i <;> first | rfl | (exfalso; omega) | (simp at hi; done) | (simp at hi; omega)) | exact fun _ _ => by simp))
end Go.Proofs.Ytbidoddghdbaoaa
namespace Go.Proofs.Ytbidoddghdbaoaa.clNodeHulls
open Go.ChangeShapes Go.WideShapes Go.ChangeAt Go.RowKit
theorem closed : joinedFacts Try.checked.prog 3 Try.f3 Rows.nodeHullsSpec Rows.nodeHullsRow = true := by kernel_rfl
end Go.Proofs.Ytbidoddghdbaoaa.clNodeHulls
