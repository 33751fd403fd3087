/- Contracts of slices.Equal at bytes and of block.OpsSum. Contracts of sha.Hash, block.OpsSum and the document's OpsSum. Rows of structs that a call owns, whatever their size. A list of changes under way; contract of block.ReadOps. Contract of block.ReadOps. The writer's contracts, told from the world where it began. -/
import Derived.Test.YtgcbodpjidoanaaQ10
import Derived.Test.YtgcbodpjidoanaaQ20
import Derived.Test.YtgcbodpjidoanaaQ22
set_option linter.unusedVariables false
set_option linter.unusedSimpArgs false
namespace Go.Proofs.Ytgcbodpjidoanaa
open Go.RowKit
theorem take_next {l m : List Nat} {k : Nat} (hl : k < l.length) (hm : k < m.length) (h : l.take k = m.take k) (e : l.getD k 0 = m.getD k 0) : l.take (k + 1) = m.take (k + 1) := by
  rw [List.take_add_one, List.take_add_one, h, List.getElem?_eq_getElem hl, List.getElem?_eq_getElem hm]
  simp only [List.getD, List.getElem?_eq_getElem hl, List.getElem?_eq_getElem hm, Option.getD_some] at e
  rw [e]
set_option maxRecDepth 100000 in
set_option maxHeartbeats 1000000 in
theorem bsequal_any (A B : Option Addr) (l m : List Nat) (n k c d : Nat) (w : World) (hn : n = l.length) (hk : k = m.length) (hA : Arr w w.heap.size A n (u8s l)) (hB : Arr w w.heap.size B k (u8s m)) (h1 : n ≤ 140737488351232) :
    Calls Try.prog 93 #[.slice A n c, .slice B k d] w fun e w' => e = .returned (.bool (decide (l = m))) ∧ Below w.heap.size w w' := by
  obtain ⟨RS, hRS⟩ : ∃ RS, RS = decide (l = m) := ⟨_, rfl⟩
  rw [← hRS]
  by_cases hnk : n = k
  · have hnk' : ((n : Int) != (k : Int)) = false := by simp; omega
    subst hnk
    have HhRS := hideP hRS; have HhA := hideP hA; have HhB := hideP hB; have Hhn := hideP hn; have Hhk := hideP hk; clear hRS hA hB hn hk
    clear hnk'
    go_enter Try.func93, Try.ntmps93
    go_wp2_with fail
    go_loopw [13] (fun v13 wr => ∃ i : Nat, i ≤ n ∧ v13 = .int .i64 (i : Nat) ∧ Hid (l.take i = m.take i ∧ Below w.heap.size w wr)) (fun v13 _ => n - (intOf v13).toNat)
    case atStart => exact ⟨0, Nat.zero_le _, rfl, rfl, Below.refl _ _⟩
    case round =>
      obtain ⟨i, hi, rfl, hV⟩ := hrel
      by_cases hlt : i < n
      · have i1 : (i : Int) < (n : Int) := by omega
        obtain ⟨b0, off, hA, hB0, hc⟩ := HhA.out (by omega)
        obtain ⟨b1, of1, hB, hB1, hd⟩ := HhB.out (by omega)
        subst hA hB
        have c0 := (hV.out.2.cell (p := ⟨b0, off + i, none⟩) hB0).trans (hc i hlt)
        have c1 := (hV.out.2.cell (p := ⟨b1, of1 + i, none⟩) hB1).trans (hd i hlt)
        unfold u8s at c0 c1
        have hst := hideP (take_next (l := l) (m := m) (k := i) (by have := Hhn.out; omega) (by have := Hhk.out; omega) hV.out.1)
        have hne : l.getD i 0 ≠ m.getD i 0 → RS = false := fun h => by
          rw [HhRS.out]; simp; intro e; exact h (by rw [e])
        have Hne := hideP hne
        obtain ⟨x, hx⟩ : ∃ x, x = l.getD i 0 := ⟨_, rfl⟩
        obtain ⟨y, hy⟩ : ∃ x, x = m.getD i 0 := ⟨_, rfl⟩
        rw [← hx] at c0 hst Hne
        rw [← hy] at c1 hst Hne
        clear hx hy hc hd hne
        by_cases hxy : x = y
        · have hok := hideP (hst.out hxy)
          subst hxy
          go_wp2_with fail
          go_quiet (fail)
          go_wp2_with fail
          go_roundw
          case rel => exact ⟨i + 1, by omega, by go_num, hok.out, below_drewN hV.out.2 _⟩
          case measure => simp [intOf]; omega
        · have hf := hideP (Hne.out hxy)
          have e1 : ((x : Int) != (y : Int)) = true := by simp; omega
          clear hxy
          go_wp2_with fail
          go_quiet (fail)
          go_wp2_with fail
          go_ret
          exact ⟨ret_bool hf.out.symm, below_drewN hV.out.2 _⟩
      · obtain rfl : n = i := by omega
        have i1 : ¬ ((n : Int) < (n : Int)) := by omega
        have hf := hideP (show RS = true by
          rw [HhRS.out]; have := hV.out.1; rw [List.take_of_length_le (by have := Hhn.out; omega), List.take_of_length_le (by have := Hhk.out; omega)] at this; simpa using this)
        go_wp2_with fail
        go_ret
        exact ⟨ret_bool hf.out.symm, hV.out.2⟩
  · have hnk' : ((n : Int) != (k : Int)) = true := by simp; omega
    have hf := hideP (show RS = false by rw [hRS]; simp; intro e; exact hnk (by rw [hn, hk, e]))
    clear hRS hA hB hn hk hnk
    go_enter Try.func93, Try.ntmps93
    go_wp2_with fail
    go_ret
    exact ⟨ret_bool hf.out.symm, Below.refl _ _⟩
end Go.Proofs.Ytgcbodpjidoanaa
namespace Go.Proofs.Ytgcbodpjidoanaa
open Go.RowKit
/-- the sum of one text behind a tag -/
def tagD (tag : Nat) (t : List Nat) : List Nat := dig (sumW (preN tag [t]))
end Go.Proofs.Ytgcbodpjidoanaa
namespace Go.Proofs.Ytgcbodpjidoanaa
open Go.RowKit
theorem flat_get {s : Nat} : ∀ (L : List (List Value)), (∀ x ∈ L, x.length = s) → ∀ (i j : Nat), j < s → L.flatten[i * s + j]? = (L[i]?).bind (fun x => x[j]?)
  | [], _, i, j, _ => by simp
  | x :: L, h, i, j, hj => by
    have hx := h x (by simp)
    rw [List.flatten_cons]
    rcases i with _ | i
    · rw [List.getElem?_append_left (by omega)]; simp
    · rw [List.getElem?_append_right (by rw [hx, Nat.succ_mul]; omega), hx, show (i + 1) * s + j - s = i * s + j by rw [Nat.succ_mul]; omega, flat_get L (fun y hy => h y (by simp [hy])) i j hj]
      simp
/-- a row of structs of type E, s cells each, that the call owns -/
def OwnC (E s : Nat) (w : World) (base : Nat) (A : Option Addr) (c : Nat) (L : List (List Value)) : Prop :=
  w.ownsRow base E s (.slice A L.length c) L.length L.flatten ∧ ∀ x ∈ L, x.length = s
section
variable {E s : Nat} {w W : World} {base c : Nat} {A : Option Addr} {L : List (List Value)} {S : Nat → Prop}
theorem OwnC.nil (E s : Nat) (w : World) (base : Nat) : OwnC E s w base none 0 [] := ⟨World.ownsRow_nil w base _ _, by simp⟩
theorem OwnC.ext (h : OwnC E s w base A c L) (hW : Ext w W) : OwnC E s W base A c L := by
  refine ⟨⟨h.1.1, h.1.2.imp id ?_⟩, h.2⟩
  rintro ⟨g, cap, cur, hv, hg, hh, r⟩
  exact ⟨g, cap, cur, hv, hg, (hW.block g (Array.getElem?_eq_some_iff.1 hh).1).trans hh, r⟩
theorem OwnC.but (h : OwnC E s w base A c L) (b : But S w W) (hS : ∀ k, base ≤ k → ¬ S k) : OwnC E s W base A c L := by
  refine ⟨⟨h.1.1, h.1.2.imp id ?_⟩, h.2⟩
  rintro ⟨g, cap, cur, hv, hg, hh, r⟩
  exact ⟨g, cap, cur, hv, hg, (b.block g (Array.getElem?_eq_some_iff.1 hh).1 (hS g hg)).trans hh, r⟩
theorem OwnC.arrC (h : OwnC E s w base A c L) (hs : 0 < s) : ArrC w w.heap.size A L.length s (fun i => L.getD i []) := fun hn => by
  rcases h.1.2 with ⟨he, h0⟩ | ⟨r, cap, cur, hv, hb, hh, hcap, hm, hsz, ht⟩
  · omega
  · injection hv with hA _ _
    subst hA
    refine ⟨r, 0, rfl, (Array.getElem?_eq_some_iff.1 hh).1, fun i hi j v hj => ?_⟩
    rw [Nat.zero_add, cell_of_row w r (i * s + j) cur E (0, 0) hh]
    have hx : (L.getD i []).length = s := by
      rw [List.getD, List.getElem?_eq_getElem hi]; exact h.2 _ (List.getElem_mem hi)
    have hjs : j < s := by rw [← hx]; exact (List.getElem?_eq_some_iff.1 hj).1
    have h1 := flat_get L h.2 i j hjs
    rw [List.getElem?_eq_getElem hi] at h1
    have h2 : L[i][j]? = some v := by simpa [List.getD, List.getElem?_eq_getElem hi] using hj
    simp only [Option.bind_some, h2] at h1
    have hlt : i * s + j < L.length * s := by
      have : (i + 1) * s ≤ L.length * s := Nat.mul_le_mul_right s hi
      rw [Nat.succ_mul] at this; omega
    rw [← ht, List.getElem?_take, if_pos hlt] at h1
    simpa using h1
theorem OwnC.block (h : OwnC E s w base A c L) {b off : Nat} {q : _} (hA : A = some ⟨b, off, q⟩) : base ≤ b ∧ b < w.heap.size := by
  rcases h.1.2 with ⟨hv, _⟩ | ⟨g, cap, cur, hv, hg, hh, _⟩
  · injection hv with h1 _ _; rw [hA] at h1; cases h1
  · injection hv with h1 _ _
    rw [hA] at h1
    injection h1 with h1
    injection h1 with h1 _ _
    rw [h1]
    exact ⟨hg, (Array.getElem?_eq_some_iff.1 hh).1⟩
end
/-- one struct more -/
theorem exec_append_C {o : Oper} {a : Act} {w : World} (T E s by_ : Nat) (i0 : TypeInfo) (z : Value) (hT : Try.prog.underlying T = some (.slice E)) (hi : Try.prog.info? E = some i0) (hz : i0.zero = some z) (hsz : i0.size = s) (hby : i0.bytes = by_) (hzs : z.cells.size = s) (hs0 : 0 < s) (hb0 : by_ ≤ 1000)
    (x y : Operand) (ho : o.op = .call { callee := .builtin .append, args := #[x, y], argTypes := #[T, T] })
    (base : Nat) (A : Option Addr) (c n : Nat) (L : List (List Value)) (hl : n = L.length) (hs : a.eval x = .slice A n c) (hown : OwnC E s w base A c L) (b off cap : Nat) (cs : List Value) (hx : a.eval y = .slice (some ⟨b, off, none⟩) 1 cap) (hr : w.rangeAt b off cs) (hc : cs.length = s) (h1 : ∀ u ∈ cs, u.oneCell' = true)
    (hn : n ≤ 1000000000) (hbase : base ≤ w.heap.size) :
    ∃ g c' w', (execOp a.eval o).run Try.prog w = .ok (.value (.slice (some ⟨g, 0, none⟩) (n + 1) c')) w' ∧ OwnC E s w' base (some ⟨g, 0, none⟩) c' (L ++ [cs]) ∧ Below base w w' ∧ But (fun b => ∃ off s, A = some ⟨b, off, s⟩) w w' ∧ ((∃ off s, A = some ⟨g, off, s⟩) ∨ w.heap.size = g) := by
  subst hl
  have hmul : (L.length + 1) * by_ ≤ 140737488355328 := Nat.le_trans (Nat.mul_le_mul (Nat.succ_le_succ hn) hb0) (by decide)
  obtain ⟨g, c', w', h2, h3, h4, h5⟩ := exec_append_rng (P := Try.prog) x y T ho base E i0 z s by_ hT hi hz hsz hby hzs hs0 _ L.length L.flatten hs hown.1 b off cap 1 cs hx (by omega) hr h1 (by decide) (by unfold maxLen; omega) hmul hbase
  refine ⟨g, c', w', h2, ⟨?_, fun u hu => ?_⟩, below_own hown.1 h4 (Nat.le_refl _) hbase, butA h4, h5.imp (fun h => ?_) id⟩
  · rw [List.length_append, List.flatten_append, List.flatten_singleton]
    exact h3
  · rcases List.mem_append.1 hu with hu | hu
    · exact hown.2 u hu
    · rw [List.mem_singleton.1 hu]; exact hc
  · rcases A with _ | ⟨b', off', s'⟩
    · simp [Value.ownBlock] at h
    · simp [Value.ownBlock] at h
      exact ⟨off', s', by rw [h]⟩
/-- the same as a step of a region that draws -/
theorem turn_append_C {S : Nat → Prop} {o : Oper} {a : Act} {w : World} {Kk : Value → World → Prop} (T E s by_ : Nat) (i0 : TypeInfo) (z : Value) (hT : Try.prog.underlying T = some (.slice E)) (hi : Try.prog.info? E = some i0) (hz : i0.zero = some z) (hsz : i0.size = s) (hby : i0.bytes = by_) (hzs : z.cells.size = s) (hs0 : 0 < s) (hb0 : by_ ≤ 1000)
    (x y : Operand) (ho : o.op = .call { callee := .builtin .append, args := #[x, y], argTypes := #[T, T] })
    (base : Nat) (A : Option Addr) (c n : Nat) (L : List (List Value)) (hl : n = L.length) (hs : a.eval x = .slice A n c) (hown : OwnC E s w base A c L) (b off cap : Nat) (cs : List Value) (hx : a.eval y = .slice (some ⟨b, off, none⟩) 1 cap) (hr : w.rangeAt b off cs) (hc : cs.length = s) (h1 : ∀ u ∈ cs, u.oneCell' = true)
    (hn : n ≤ 1000000000) (hbase : base ≤ w.heap.size) (hS : ∀ b, base ≤ b → S b)
    (h : ∀ g c' w', OwnC E s w' base (some ⟨g, 0, none⟩) c' (L ++ [cs]) → Below base w w' → But S w w' → But (fun b => ∃ off s, A = some ⟨b, off, s⟩) w w' → ((∃ off s, A = some ⟨g, off, s⟩) ∨ w.heap.size = g) → Kk (.slice (some ⟨g, 0, none⟩) (n + 1) c') w') :
    ∃ v w', ((execOp a.eval o).run Try.prog w = .ok (.value v) w' ∧ But S w w') ∧ Kk v w' := by
  obtain ⟨g, c', w', h2, h3, h4, h5, h6⟩ := exec_append_C T E s by_ i0 z hT hi hz hsz hby hzs hs0 hb0 x y ho base A c n L hl hs hown b off cap cs hx hr hc h1 hn hbase
  have hb : But S w w' := ⟨h4.size, fun k hk hn => h4.block k (Nat.lt_of_not_le fun hh => hn (hS k hh)), h4.os, h4.tape, h4.output⟩
  exact ⟨_, w', ⟨h2, hb⟩, h g c' w' h3 h4 hb h5 h6⟩
end Go.Proofs.Ytgcbodpjidoanaa
namespace Go.Proofs.Ytgcbodpjidoanaa
open Go.RowKit
abbrev OpQ := OpD × OpP
/-- a row of changes that the call owns; its parts lie apart from it, and from the block g -/
structure OpsOwn (w : World) (base g : Nat) (A : Option Addr) (c : Nat) (qs : List OpQ) : Prop where
  own : OwnC 132 4 w base A c (qs.map fun q => opC q.1 q.2)
  low : g < base
  mem : ∀ q ∈ qs, OpMemN (fun b => b < base ∨ ∃ off s, A = some ⟨b, off, s⟩) w q.1 q.2
section
variable {w W : World} {base g c : Nat} {A : Option Addr} {qs : List OpQ}
theorem OpsOwn.nil (w : World) {base g : Nat} (h : g < base) : OpsOwn w base g none 0 [] := ⟨OwnC.nil _ _ _ _, h, by simp⟩
theorem OpMemN.block {S : Nat → Prop} {o : OpD} {p : OpP} (h : OpMemN S w o p) (b : But S w W) : OpMemN S W o p := ⟨h.cols.block b, h.row.block b, h.cap⟩
theorem OpMemN.mono {S S' : Nat → Prop} {o : OpD} {p : OpP} (h : OpMemN S w o p) (hS : ∀ b, S' b → S b) : OpMemN S' w o p := ⟨h.cols.mono hS, h.row.mono hS, h.cap⟩
theorem OpsOwn.but (h : OpsOwn w base g A c qs) (b : But (fun b => b = g) w W) : OpsOwn W base g A c qs :=
  ⟨h.own.but b fun k hk e => by have := h.low; omega, h.low, fun q hq => (h.mem q hq).block (b.mono fun k hk => .inl (by have := h.low; omega))⟩
theorem OpsOwn.ext (h : OpsOwn w base g A c qs) (b : Ext w W) : OpsOwn W base g A c qs := h.but (But.of_ext b)
theorem OpsOwn.opsL (h : OpsOwn w base g A c qs) (hk : ∀ q ∈ qs, OpOk q.1) : OpsL w w.heap.size A (qs.map Prod.fst) (fun i => (qs.getD i default).2) := by
  have hg : ∀ i, i < qs.length → ((qs.map Prod.fst).getD i default = (qs.getD i default).1 ∧ qs.getD i default ∈ qs) := fun i hi => by
    simp only [List.getD, List.getElem?_map, List.getElem?_eq_getElem hi, Option.map_some, Option.getD_some, true_and]
    exact List.getElem_mem _
  refine ⟨?_, fun i hi => ?_⟩
  · have := h.own.arrC (by decide)
    rw [List.length_map] at this ⊢
    refine this.congr fun i hi => ?_
    rw [(hg i hi).1]
    simp only [List.getD, List.getElem?_map, List.getElem?_eq_getElem hi, Option.map_some, Option.getD_some]
  · rw [List.length_map] at hi
    rw [(hg i hi).1]
    have := h.mem _ (hg i hi).2
    exact ⟨⟨this.cols.arr, this.row.arr, this.cap⟩, hk _ (hg i hi).2⟩
end
/-- a slice of changes that lie, as do their parts, from the block lo on -/
def OpsH (w : World) (lo : Nat) (A : Option Addr) (l : List OpD) (ps : Nat → OpP) : Prop :=
  (0 < l.length → ∃ b off, A = some ⟨b, off, none⟩ ∧ lo ≤ b ∧ b < w.heap.size ∧ ∀ i, i < l.length → w.rangeAt b (off + i * 4) (opC (l.getD i default) (ps i))) ∧
  ∀ i, i < l.length → OpMemN (fun b => b < lo) w (l.getD i default) (ps i) ∧ OpOk (l.getD i default)
section
variable {w W : World} {lo : Nat} {A : Option Addr} {l : List OpD} {ps : Nat → OpP} {S : Nat → Prop}
theorem OpsH.opsL (h : OpsH w lo A l ps) : OpsL w w.heap.size A l ps :=
  ⟨fun hn => by obtain ⟨b, off, e, _, hb, hc⟩ := h.1 hn; exact ⟨b, off, e, hb, hc⟩, fun i hi => ⟨⟨(h.2 i hi).1.cols.arr, (h.2 i hi).1.row.arr, (h.2 i hi).1.cap⟩, (h.2 i hi).2⟩⟩
theorem OpsH.but (h : OpsH w lo A l ps) (b : But S w W) (hS : ∀ k, S k → k < lo) : OpsH W lo A l ps :=
  ⟨fun hn => by
    obtain ⟨k, off, e, hlo, hb, hc⟩ := h.1 hn
    exact ⟨k, off, e, hlo, Nat.lt_of_lt_of_le hb b.size, fun i hi j v hv => b.cell (p := ⟨k, off + i * 4 + j, none⟩) (hc i hi j v hv) fun hs => by have := hS k hs; omega⟩, fun i hi => ⟨⟨(h.2 i hi).1.cols.block (b.mono hS), (h.2 i hi).1.row.block (b.mono hS), (h.2 i hi).1.cap⟩, (h.2 i hi).2⟩⟩
theorem OpsH.after (h : OpsH w lo A l ps) (b : Below w.heap.size w W) : OpsH W lo A l ps := h.but (S := fun _ => False) (But.of_below b) fun _ h => h.elim
theorem OpsH.mono {lo' : Nat} (h : OpsH w lo A l ps) (hl : lo' ≤ lo) : OpsH w lo' A l ps :=
  ⟨fun hn => by obtain ⟨b, off, e, h1, hb, hc⟩ := h.1 hn; exact ⟨b, off, e, Nat.le_trans hl h1, hb, hc⟩, fun i hi => ⟨⟨(h.2 i hi).1.cols.mono fun b hb => by omega, (h.2 i hi).1.row.mono fun b hb => by omega, (h.2 i hi).1.cap⟩, (h.2 i hi).2⟩⟩
end
theorem ArrN.to {S S' : Nat → Prop} {w W : World} {A : Option Addr} {n : Nat} {f : Nat → Value} (h : ArrN S w A n f) (b : But S w W) (hS : ∀ b, b < w.heap.size → ¬ S b → ¬ S' b) : ArrN S' W A n f := fun hn => by
  obtain ⟨k, off, e, hk, hs, hc⟩ := h hn
  exact ⟨k, off, e, Nat.lt_of_lt_of_le hk b.size, hS k hk hs, fun i hi => b.cell (hc i hi) hs⟩
theorem OpMemN.to {S S' : Nat → Prop} {w W : World} {o : OpD} {p : OpP} (h : OpMemN S w o p) (b : But S w W) (hS : ∀ b, b < w.heap.size → ¬ S b → ¬ S' b) : OpMemN S' W o p := ⟨h.cols.to b hS, h.row.to b hS, h.cap⟩
end Go.Proofs.Ytgcbodpjidoanaa
namespace Go.Proofs.Ytgcbodpjidoanaa
open Go.RowKit
/-- what ReadOps answers -/
def ReadsGot (w : World) (RS : Option (List OpD)) (e : Ending) (w' : World) : Prop :=
  Below w.heap.size w w' ∧ ((RS = none ∧ e = .returned (.tuple #[.slice none 0 0, .int .i64 21])) ∨
    ∃ m R d ps n, RS = some m ∧ n = m.length ∧ e = .returned (.tuple #[.slice R n d, .int .i64 0]) ∧ OpsH w' w.heap.size R m ps)
theorem Rd.butBelow {w W : World} {g B : Nat} {l : List Nat} {e : Int} (h : Rd w g l e) (b : But (fun k => k = g) w W) (hB : B ≤ g) : Below B w W :=
  ⟨b.os, b.tape, b.output, b.size, fun k hk => b.block k (by have := h.lt; omega) (by omega)⟩
/-- behind i changes -/
def ReadsTo (w : World) (B0 g : Nat) (n : Nat) (e0 : Int) (R0 : Option (List OpD × List Nat)) (wr : World) (A : Option Addr) (c i : Nat) : Prop :=
  ∃ (qs : List OpQ) (l : List Nat), qs.length = i ∧ OpsOwn wr B0 g A c qs ∧ Rd wr g l e0 ∧ Below w.heap.size w wr ∧ B0 ≤ wr.heap.size ∧ R0 = rOps 8 (fun _ => true) (n - i) l (qs.map Prod.fst) ∧ ∀ q ∈ qs, OpOk q.1
def opZ : List Value := opV 0 ByteArray.empty none 0 0 none 0 0
end Go.Proofs.Ytgcbodpjidoanaa
namespace Go.Proofs.Ytgcbodpjidoanaa
open Go.RowKit
section
variable {S : Nat → Prop} {v w : World} {g : Nat} {l : List Nat} {e : Int}
theorem wdigestP (d : List Nat) (h : WrP S v w g l e) (hd : d.length = 32) (hI : IsB d) (hn : l.length ≤ 140737488000000) :
    Calls Try.prog 174 #[.pointer (some ⟨g, 0, none⟩), dg d] w fun e' w' => e' = .returned (.tuple #[]) ∧ WrP S v w' g (l ++ d) e := by
  obtain ⟨S1, m1, v1⟩ := h
  exact (wdigest_any S1 g l d e w v1 hd hI hn).mono fun e' w' h => ⟨h.1, WrP.then m1 h.2⟩
theorem wbyteP (x : Nat) (h : WrP S v w g l e) (hx : x < 256) (hn : l.length ≤ 140737488354000) :
    Calls Try.prog 120 #[.pointer (some ⟨g, 0, none⟩), .int .u8 (x : Nat)] w fun e' w' => e' = .returned (.tuple #[]) ∧ WrP S v w' g (l ++ [x]) e := by
  obtain ⟨S1, m1, v1⟩ := h
  exact (wbyte_any S1 g l x e w v1 hx hn).mono fun e' w' h => ⟨h.1, WrP.then m1 h.2⟩
theorem wcountP (n : Nat) (h : WrP S v w g l e) (hx : n ≤ 1048576) (hn : l.length ≤ 140737488354000) :
    Calls Try.prog 175 #[.pointer (some ⟨g, 0, none⟩), .int .i64 (n : Nat)] w fun e' w' => e' = .returned (.tuple #[]) ∧ WrP S v w' g (l ++ be3 n) e := by
  obtain ⟨S1, m1, v1⟩ := h
  exact (wcount_any S1 g l n e w v1 hx hn).mono fun e' w' h => ⟨h.1, WrP.then m1 h.2⟩
theorem wtruthP (x : Bool) (h : WrP S v w g l e) (hn : l.length ≤ 140737488354000) :
    Calls Try.prog 172 #[.pointer (some ⟨g, 0, none⟩), .bool x] w fun e' w' => e' = .returned (.tuple #[]) ∧ WrP S v w' g (l ++ [if x then 1 else 0]) e := by
  obtain ⟨S1, m1, v1⟩ := h
  exact (wtruth_any S1 g l x e w v1 hn).mono fun e' w' h => ⟨h.1, WrP.then m1 h.2⟩
theorem wrowP (r : List Int) (R : Option Addr) (n c B : Nat) (h : WrP S v w g l e) (hnr : n = r.length) (hR : Arr w B R n (i64s r)) (hB : B ≤ g) (hI : IsI r) (hr : n ≤ 255) (hn : l.length ≤ 140737488000000) :
    Calls Try.prog 173 #[.pointer (some ⟨g, 0, none⟩), .slice R n c] w fun e' w' => e' = .returned (.tuple #[]) ∧ WrP S v w' g (l ++ rowB r) e := by
  subst hnr
  obtain ⟨S1, m1, v1⟩ := h
  exact (wrow_any S1 g l r R c e w v1 (ArrN.of_low hR (Nat.le_trans hB (Nat.le_of_lt v1.lt)) fun b hb => Nat.le_trans hB (v1.low b hb)) hI hr hn).mono fun e' w' h => ⟨h.1, WrP.then m1 h.2⟩
theorem wbytesP (h : WrP S v w g l 0) (hn : l.length ≤ 140737488351232) :
    Calls Try.prog 123 #[.pointer (some ⟨g, 0, none⟩)] w fun e w' => ∃ R d, e = .returned (.slice R l.length d) ∧ OwnB w' w.heap.size R d l ∧ Below w.heap.size w w' ∧ WrP S v w' g l 0 := by
  obtain ⟨S1, m1, v1⟩ := h
  refine (wbytes_ok S1 g l w v1 hn).mono ?_
  rintro e w' ⟨R, d, h1, h2, h3⟩
  exact ⟨R, d, h1, h2, h3, S1, m1.trans (Mv.ext _ (Ext.of_below h3)), v1.after h3⟩
theorem werrP (h : WrP S v w g l e) : Calls Try.prog 124 #[.pointer (some ⟨g, 0, none⟩)] w fun e' w' => e' = .returned (.int .i64 e) ∧ w' = w := by
  obtain ⟨S1, m1, v1⟩ := h
  exact werr_any S1 g l e w v1
theorem WrP.refl (h : Wr v S g l e) : WrP S v v g l e := ⟨S, Mv.refl _ _, h⟩
theorem WrP.after {w' : World} (h : WrP S v w g l e) (hb : Below w.heap.size w w') : WrP S v w' g l e := by
  obtain ⟨S1, m1, v1⟩ := h
  exact ⟨S1, m1.trans (Mv.ext _ (Ext.of_below hb)), v1.after hb⟩
end
end Go.Proofs.Ytgcbodpjidoanaa
