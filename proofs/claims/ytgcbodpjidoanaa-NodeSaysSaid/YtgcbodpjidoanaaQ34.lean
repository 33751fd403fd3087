/- The state of a store of pages; contracts of bytes.Clone, bytes.Equal and page's New, Len, Get. What a node says, plain. -/
import Derived.Test.YtgcbodpjidoanaaQ5
import Derived.Test.YtgcbodpjidoanaaQ7
import Derived.Test.YtgcbodpjidoanaaQ10
import Derived.Test.YtgcbodpjidoanaaQ22
import Derived.Test.YtgcbodpjidoanaaQ29
import Derived.Test.YtgcbodpjidoanaaQ31
import Derived.Test.YtgcbodpjidoanaaQ33
set_option linter.unusedVariables false
set_option linter.unusedSimpArgs false
namespace Go.Proofs.Ytgcbodpjidoanaa
open Go.RowKit
open Go.Maps (Keyed)
/-- bytes at A, in a block of S -/
def ArrS (S : Nat → Prop) (w : World) (A : Option Addr) (n : Nat) (f : Nat → Value) : Prop :=
  0 < n → ∃ b off, A = some ⟨b, off, none⟩ ∧ S b ∧ b < w.heap.size ∧ ∀ i, i < n → w.cell? ⟨b, off + i, none⟩ = some (f i)
section
variable {S S' : Nat → Prop} {w w' : World} {A : Option Addr} {n : Nat} {f : Nat → Value}
theorem ArrS.arr (h : ArrS S w A n f) : Arr w w.heap.size A n f := fun hn => by
  obtain ⟨b, off, hA, _, hb, hc⟩ := h hn
  exact ⟨b, off, hA, hb, hc⟩
theorem ArrS.keep (h : ArrS S w A n f) (hw : ∀ b, S b → w'.heap[b]? = w.heap[b]?) (hs : w.heap.size ≤ w'.heap.size) : ArrS S w' A n f := fun hn => by
  obtain ⟨b, off, hA, hS, hb, hc⟩ := h hn
  exact ⟨b, off, hA, hS, by omega, fun i hi => (World.cell?_of_block (w := w) (hw b hS)).trans (hc i hi)⟩
theorem ArrS.mono (h : ArrS S w A n f) (hS : ∀ b, S b → S' b) : ArrS S' w A n f := fun hn => by
  obtain ⟨b, off, hA, h1, hb, hc⟩ := h hn
  exact ⟨b, off, hA, hS b h1, hb, hc⟩
theorem OwnB.arrS {base c : Nat} {l : List Nat} (h : OwnB w base A c l) : ArrS (fun b => base ≤ b) w A l.length (u8s l) := fun hn => by
  obtain ⟨g, hA, hb, hg, _, hc⟩ := h.at hn
  exact ⟨g, 0, hA, hb, hg, fun i hi => by rw [Nat.zero_add]; exact hc i hi⟩
end
/-- the sum of a page, as numbers -/
def sum9 (t : List Nat) : List Nat := dig (sumW (preN 80 [t]))
theorem sum9_len (t : List Nat) : (sum9 t).length = 32 := by simp [sum9, dig]
theorem isB_dig (h : List UInt32) : IsB (dig h) := by
  intro i
  unfold dig
  by_cases hi : i < 32
  · simp [List.getD, List.getElem?_map, List.getElem?_range hi]
    omega
  · simp [List.getD, hi]
def entsOf (A : List Nat → Option Addr) (c : List Nat → Nat) (L : List (List Nat)) : List (Value × Value) := L.map fun t => (dg (sum9 t), Value.slice (A t) t.length (c t))
/-- what a store of pages is: its texts in their order, its clash; S: its blocks -/
def PSt (w : World) (S : Nat → Prop) (g : Nat) (L : List (List Nat)) (C : Option (List Nat × List Nat)) : Prop :=
  ∃ (bm : Nat) (A : List Nat → Option Addr) (c : List Nat → Nat) (a b : Option Addr) (ca cb : Nat) (x y : List Nat),
    Row w g 224 [.map (some bm), .slice a x.length ca, .slice b y.length cb, .bool C.isSome] ∧ Ents Try.prog 37 w bm (entsOf A c L) ∧
    S g ∧ S bm ∧ g ≠ bm ∧ (∀ t ∈ L, ArrS S w (A t) t.length (u8s t) ∧ IsB t ∧ t.length ≤ 100000000) ∧ ArrS S w a x.length (u8s x) ∧ ArrS S w b y.length (u8s y) ∧ (∀ b, S b → b < w.heap.size) ∧
    IsB x ∧ IsB y ∧ x.length ≤ 100000000 ∧ y.length ≤ 100000000 ∧ (C = none → x = [] ∧ y = []) ∧ (∀ p, C = some p → p = (x, y) ∧ sum9 x = sum9 y ∧ x ≠ y)
section
variable {S : Nat → Prop} {w w' : World} {g : Nat} {L : List (List Nat)} {C : Option (List Nat × List Nat)}
theorem PSt.keep (h : PSt w S g L C) (hw : ∀ b, S b → w'.heap[b]? = w.heap[b]?) (hs : w.heap.size ≤ w'.heap.size) : PSt w' S g L C := by
  obtain ⟨bm, A, c, a, b, ca, cb, x, y, h1, h2, h3, h4, h5, h6, h7, h8, h9, r⟩ := h
  exact ⟨bm, A, c, a, b, ca, cb, x, y, (hw g h3).trans h1, h2.of_block (hw bm h4), h3, h4, h5, fun t ht => ⟨(h6 t ht).1.keep hw hs, (h6 t ht).2⟩, h7.keep hw hs, h8.keep hw hs, fun b hb => Nat.lt_of_lt_of_le (h9 b hb) hs, r⟩
theorem PSt.fresh (h : PSt w S g L C) : ∀ b, S b → b < w.heap.size := by
  obtain ⟨bm, A, c, a, b, ca, cb, x, y, h1, h2, h3, h4, h5, h6, h7, h8, h9, r⟩ := h
  exact h9
theorem PSt.after (h : PSt w S g L C) (hb : Below w.heap.size w w') : PSt w' S g L C := h.keep (fun b hS => hb.block b (h.fresh b hS)) hb.size
theorem PSt.isB (h : PSt w S g L C) {t : List Nat} (ht : t ∈ L) : IsB t ∧ t.length ≤ 100000000 := by
  obtain ⟨bm, A, c, a, b, ca, cb, x, y, h1, h2, h3, h4, h5, h6, r⟩ := h
  exact (h6 t ht).2
end
theorem But.mono2 {S S1 : Nat → Prop} {w w1 w2 : World} (h : But S w w1) (hS : ∀ b, S1 b → S b ∨ w.heap.size ≤ b) (k : But S1 w1 w2) : But S w w2 :=
  ⟨Nat.le_trans h.size k.size, fun b hb hn => (k.block b (Nat.lt_of_lt_of_le hb h.size) (fun h1 => (hS b h1).elim hn (fun h2 => absurd hb (by omega)))).trans (h.block b hb hn), k.os.trans h.os, k.tape.trans h.tape, k.output.trans h.output⟩
theorem But.below {S : Nat → Prop} {w w' : World} {B : Nat} (h : But S w w') (hS : ∀ b, S b → B ≤ b) (hB : B ≤ w.heap.size) : Below B w w' :=
  ⟨h.os, h.tape, h.output, h.size, fun k hk => h.block k (Nat.lt_of_lt_of_le hk hB) (fun h1 => absurd (hS k h1) (by omega))⟩
theorem bclone_any (A : Option Addr) (l : List Nat) (c : Nat) (w : World) (hA : Arr w w.heap.size A l.length (u8s l)) (hn : l.length ≤ 140737488351232) :
    Calls Try.prog 219 #[.slice A l.length c] w fun e w' => ∃ R d, e = .returned (.slice R l.length d) ∧ OwnB w' w.heap.size R d l ∧ Below w.heap.size w w' := by
  obtain ⟨i0, hi0, hz0, hz1, hz2⟩ := info_parts info_b8
  rcases A with _ | ad
  · have h0 : l.length = 0 := by
      rcases Nat.eq_zero_or_pos l.length with h | h
      · exact h
      · obtain ⟨_, _, h, _⟩ := hA h; cases h
    obtain rfl : l = [] := List.length_eq_zero_iff.1 h0
    have h1 := Lib.run_eql_slice_nil (P := Try.prog) w 22 5 none 0 c 0 0 Try.underlying22
    simp only [Option.isNone_none] at h1
    clear hA h0
    go_enter Try.func219, Try.ntmps219
    go_wp2
    go_ret
    exact ⟨none, 0, rfl, OwnB.nil _ _, Below.refl _ _⟩
  · have h1 := Lib.run_eql_slice_nil (P := Try.prog) w 22 5 (some ad) l.length c 0 0 Try.underlying22
    simp only [Option.isNone_some] at h1
    have HA := hideP hA
    clear hA
    go_enter Try.func219, Try.ntmps219
    go_wp2_with (at_builtin; refine wpList_append_arr _ rfl (.tmp 5) (.tmp 6) 22 rfl w.heap.size 5 i0 _ 1 Try.underlying22 hi0 hz0 hz1 hz2 rfl (.slice (some ⟨w.heap.size, 0, none⟩) 0 0) 0 [] rfl (World.ownsRow_lit w #[] 0 (Nat.le_refl _) (by unfold maxLen; omega) (by simp)) w.heap.size (some ad) l.length c (u8s l) rfl (HA.out.keep fun p hp => World.cell?_alloc_lt w _ p hp) (fun _ => rfl) (by unfold maxLen; omega) (by omega) (by simp) ?_; intro A3 c3 w3 hown3 hg3 hat3)
    simp only [Nat.zero_add, List.nil_append] at hown3
    rw [map_u8s] at hown3
    have HO := hideP hown3
    clear hown3
    go_ret
    refine ⟨A3, c3, by simp, HO.out, ?_⟩
    refine Below.trans ((Below.refl _ _).alloc (Nat.le_refl _) _) ((Below.refl _ _).grown hg3 (by simp) fun k hk => ?_)
    simp [Value.ownBlock] at hk
    omega
theorem bequal_any (A B : Option Addr) (l m : List Nat) (c d : Nat) (w : World) (hA : Arr w w.heap.size A l.length (u8s l)) (hB : Arr w w.heap.size B m.length (u8s m)) (hl : IsB l) (hm : IsB m) :
    Calls Try.prog 220 #[.slice A l.length c, .slice B m.length d] w fun e w' => e = .returned (.bool (l == m)) ∧ w = w' := by
  have h1 := run_str (P := Try.prog) w 22 5 Try.underlying22 Try.underlying5 (c := c) hA rfl 9 Try.underlying9
  have h2 := run_str (P := Try.prog) w 22 5 Try.underlying22 Try.underlying5 (c := d) hB rfl 9 Try.underlying9
  have h3 : ((bstr l).toList == (bstr m).toList) = (l == m) := by
    rw [Bool.eq_iff_iff, toList_bstr, toList_bstr]
    simp only [beq_iff_eq]
    exact ⟨fun h => map_ofNat_inj l m hl hm h, fun h => by rw [h]⟩
  clear hA hB hl hm
  have Hh3 := hideP h3; clear h3
  go_enter Try.func220, Try.ntmps220
  go_wp2
  go_ret
  exact ⟨by rw [← Hh3.out]; rfl, rfl⟩
end Go.Proofs.Ytgcbodpjidoanaa
namespace Go.Proofs.Ytgcbodpjidoanaa
open Go.RowKit
/-- what is said so far: live entries, all entries, the box -/
structure SayS where
  live : Int
  size : Int
  lo : List Int
  hi : List Int
deriving Inhabited
def sayE (s : SayS) (e : EntD) : SayS := if e.live then ⟨s.live + 1, s.size, (hullB (s.lo, s.hi) (e.row, e.row)).1, (hullB (s.lo, s.hi) (e.row, e.row)).2⟩ else s
def sayK (s : SayS) (k : KidD) : SayS := ⟨s.live + k.live, s.size + k.size, (hullB (s.lo, s.hi) (k.lo, k.hi)).1, (hullB (s.lo, s.hi) (k.lo, k.hi)).2⟩
def sayR (n : NodeD) (i : Nat) : SayS := (n.rows.take i).foldl sayE ⟨0, n.rows.length, [], []⟩
def sayA (n : NodeD) (j : Nat) : SayS := (n.kids.take j).foldl sayK (sayR n n.rows.length)
theorem fold_take_succ {α β : Type} [Inhabited α] (f : β → α → β) (s : β) (l : List α) (i : Nat) (hi : i < l.length) : (l.take (i + 1)).foldl f s = f ((l.take i).foldl f s) (l.getD i default) := by
  rw [List.take_add_one, List.foldl_append, List.getElem?_eq_getElem hi]
  simp [List.getD, List.getElem?_eq_getElem hi]
theorem sayR_one (n : NodeD) (i : Nat) (hi : i < n.rows.length) : sayR n (i + 1) = sayE (sayR n i) (n.rows.getD i default) := fold_take_succ _ _ _ i hi
theorem sayA_one (n : NodeD) (j : Nat) (hj : j < n.kids.length) : sayA n (j + 1) = sayK (sayA n j) (n.kids.getD j default) := fold_take_succ _ _ _ j hj
theorem sayR_size (n : NodeD) : ∀ i, i ≤ n.rows.length → (sayR n i).size = n.rows.length
  | 0, _ => rfl
  | i + 1, h => by
    rw [sayR_one n i (by omega)]
    unfold sayE
    split
    · exact sayR_size n i (by omega)
    · exact sayR_size n i (by omega)
def keyN (n : NodeD) : List Int := if n.kind = 2 then (n.rows.getD 0 default).row else if n.kind = 3 then (n.kids.getD 0 default).key else []
/-- the kid that a node says -/
def sayN (n : NodeD) : KidD := ⟨sum9 (nodeB n), (sayA n n.kids.length).lo, (sayA n n.kids.length).hi, (sayA n n.kids.length).live, (sayA n n.kids.length).size, keyN n⟩
structure SayI (d : Nat) (M : Int) (s : SayS) : Prop where
  l : 0 ≤ s.live ∧ s.live ≤ M
  z : 0 ≤ s.size ∧ s.size ≤ M
  b : boxOk (s.lo, s.hi) d
  e : s.live = 0 ↔ s.lo = []
  lI : IsI s.lo
  hI : IsI s.hi
theorem row_right {r : List Int} {d : Nat} (h1 : 1 ≤ d) (h8 : d ≤ 8) (hl : r.length = d) : rightB r r d = true := by
  unfold rightB leAll
  simp only [Bool.and_eq_true, decide_eq_true_eq, List.all_eq_true, List.mem_range]
  exact ⟨⟨⟨⟨by omega, by omega⟩, by omega⟩, by omega⟩, fun i hi' => Int.le_refl _⟩
theorem hull_nil {a b : BoxD} {d : Nat} (ha : boxOk a d) (hb : boxOk b d) : (hullB a b).1 = [] ↔ a.1 = [] ∧ b.1 = [] := by
  unfold hullB
  by_cases ea : a.1 = []
  · simp [ea]
  · rw [if_neg ea]
    by_cases eb : b.1 = []
    · simp [ea, eb]
    · rw [if_neg eb]
      simp only [ea, eb, and_self, iff_false]
      intro h
      have := congrArg List.length h
      rw [hullLo_len] at this
      exact ea (List.eq_nil_of_length_eq_zero this)
theorem SayI.ent {d : Nat} {M : Int} {s : SayS} {e : EntD} (h : SayI d M s) (h1 : 1 ≤ d) (h8 : d ≤ 8) (hl : e.row.length = d) (hI : IsI e.row) : SayI d (M + 1) (sayE s e) := by
  unfold sayE
  have hb : boxOk (e.row, e.row) d := .inl (row_right h1 h8 hl)
  have hn : e.row ≠ [] := fun q => by rw [q] at hl; simp at hl; omega
  split
  · have hi := hullB_isI (a := (s.lo, s.hi)) (b := (e.row, e.row)) h.lI h.hI hI hI
    have hl := h.l
    have hz := h.z
    refine ⟨by dsimp only; omega, by dsimp only; omega, hullB_ok h.b hb, ?_, hi.1, hi.2⟩
    rw [hull_nil h.b hb]
    dsimp only
    constructor
    · intro q; omega
    · rintro ⟨_, q⟩; exact absurd q hn
  · exact ⟨⟨h.l.1, by have := h.l.2; omega⟩, ⟨h.z.1, by have := h.z.2; omega⟩, h.b, h.e, h.lI, h.hI⟩
theorem kidR_box {k : KidD} {d : Nat} (h : kidR k d = true) : boxOk (k.lo, k.hi) d ∧ (k.live = 0 ↔ k.lo = []) ∧ (0 ≤ k.live ∧ k.live ≤ 1048576) ∧ (0 ≤ k.size ∧ k.size ≤ 1048576) := by
  have hf := kidR_facts h
  refine ⟨?_, ?_, hf.1, hf.2.1⟩ <;>
  · unfold kidR at h
    simp only [Bool.or_eq_true, Bool.and_eq_true, decide_eq_true_eq] at h
    rcases h with rfl | ⟨h1, h2, h3, h4, h5⟩
    · first
        | exact .inr ⟨rfl, rfl⟩
        | simp [kidZ]
    · split at h5
      · rename_i e
        simp only [Bool.and_eq_true, decide_eq_true_eq] at h5
        first
          | exact .inr ⟨List.eq_nil_of_length_eq_zero h5.1, List.eq_nil_of_length_eq_zero h5.2⟩
          | exact ⟨fun _ => List.eq_nil_of_length_eq_zero h5.1, fun _ => e⟩
      · rename_i e
        first
          | exact .inl h5
          | (have hl := rightB_len h5; exact ⟨fun q => absurd q e, fun q => by rw [q] at hl; simp at hl; omega⟩)
theorem SayI.kid {d : Nat} {M : Int} {s : SayS} {k : KidD} (h : SayI d M s) (hk : kidR k d = true) (l : IsI k.lo) (r : IsI k.hi) : SayI d (M + 1048576) (sayK s k) := by
  obtain ⟨hb, he, h1, h2⟩ := kidR_box hk
  have hi := hullB_isI (a := (s.lo, s.hi)) (b := (k.lo, k.hi)) h.lI h.hI l r
  have hl := h.l
  have hz := h.z
  have hse := h.e
  unfold sayK
  refine ⟨by dsimp only; omega, by dsimp only; omega, hullB_ok h.b hb, ?_, hi.1, hi.2⟩
  rw [hull_nil h.b hb]
  dsimp only
  rw [← hse, ← he]
  omega
/-- a node that may be, its numbers' count a number -/
structure NodeRt (n : NodeD) (d : Nat) : Prop where
  dd : 1 ≤ d ∧ d ≤ 8
  row : ∀ i, i < n.rows.length → (n.rows.getD i default).row.length = d
  kid : ∀ i, i < n.kids.length → kidR (n.kids.getD i default) d = true
  rows : n.rows.length ≤ 4
  kids : n.kids.length ≤ 4
  leaf : n.kind = 2 → 0 < n.rows.length
  inner : n.kind = 3 → 0 < n.kids.length
  kind : n.kind = 1 ∨ n.kind = 2 ∨ n.kind = 3
  key : ∀ i, i < n.kids.length → (n.kids.getD i default).key.length ≤ 8
theorem nodeR_rt {n : NodeD} {d : Int} (h : nodeR n d = true) : ∃ D : Nat, d = (D : Int) ∧ NodeRt n D := by
  have hf := nodeR_facts h
  obtain ⟨D, rfl⟩ := Int.eq_ofNat_of_zero_le (show 0 ≤ d by have := hf.d.1; omega)
  unfold nodeR at h
  simp only [Bool.and_eq_true, decide_eq_true_eq, List.all_eq_true] at h
  obtain ⟨h1, h2, h3, h4, h5⟩ := h
  refine ⟨D, rfl, ⟨by omega, by omega⟩, fun i hi => by have := h3 _ (getD_mem' hi); omega, fun i hi => h4 _ (getD_mem' hi), hf.rows, hf.kids, ?_, ?_, ?_, fun i hi => (hf.kid i hi).2⟩
  · intro e; unfold kindR at h5; rw [if_neg (by omega), if_pos e] at h5; simp only [Bool.and_eq_true, decide_eq_true_eq] at h5; omega
  · intro e; unfold kindR at h5; rw [if_neg (by omega), if_neg (by omega)] at h5; simp only [Bool.and_eq_true, decide_eq_true_eq] at h5; omega
  · unfold kindR at h5
    split at h5
    · exact .inl ‹_›
    · split at h5
      · exact .inr (.inl ‹_›)
      · simp only [Bool.and_eq_true, decide_eq_true_eq] at h5; exact .inr (.inr h5.1)
theorem sayR_i {n : NodeD} {d : Nat} (h : NodeRt n d) (hn : NodeOk n) : ∀ i, i ≤ n.rows.length → SayI d (4 + i) (sayR n i)
  | 0, _ => by
    have := h.rows
    exact ⟨by simp [sayR], ⟨by simp [sayR], by simp [sayR]; omega⟩, .inr ⟨rfl, rfl⟩, by simp [sayR], fun i => by simp [sayR], fun i => by simp [sayR]⟩
  | i + 1, hi => by
    rw [sayR_one n i (by omega)]
    have := (sayR_i h hn i (by omega)).ent h.dd.1 h.dd.2 (h.row i (by omega)) (hn.row i (by omega)).1
    rwa [show (4 + (i : Int) + 1) = 4 + ((i + 1 : Nat) : Int) by omega] at this
theorem sayA_i {n : NodeD} {d : Nat} (h : NodeRt n d) (hn : NodeOk n) : ∀ j, j ≤ n.kids.length → SayI d (8 + 1048576 * j) (sayA n j)
  | 0, _ => by
    have := sayR_i h hn n.rows.length (Nat.le_refl _)
    have hr := h.rows
    exact ⟨⟨this.l.1, by have := this.l.2; show (sayR n n.rows.length).live ≤ _; omega⟩, ⟨this.z.1, by have := this.z.2; show (sayR n n.rows.length).size ≤ _; omega⟩, this.b, this.e, this.lI, this.hI⟩
  | j + 1, hj => by
    rw [sayA_one n j (by omega)]
    have := (sayA_i h hn j (by omega)).kid (h.kid j (by omega)) (hn.kid j (by omega)).lI (hn.kid j (by omega)).hI
    rwa [show (8 + 1048576 * (j : Int) + 1048576) = 8 + 1048576 * ((j + 1 : Nat) : Int) by omega] at this
theorem keyN_ok {n : NodeD} {d : Nat} (h : NodeRt n d) (hn : NodeOk n) : IsI (keyN n) ∧ (keyN n).length ≤ 8 := by
  unfold keyN
  split
  · rename_i e
    have h0 := h.leaf e
    have := h.row 0 h0
    have := h.dd
    exact ⟨(hn.row 0 h0).1, by omega⟩
  · split
    · rename_i e
      have h0 := h.inner e
      exact ⟨(hn.kid 0 h0).kI, h.key 0 h0⟩
    · exact ⟨fun i => by simp, by simp⟩
theorem sayN_ok {n : NodeD} {d : Nat} (h : NodeRt n d) (hn : NodeOk n) : KidOk (sayN n) := by
  have hs := sayA_i h hn n.kids.length (Nat.le_refl _)
  have hk := keyN_ok h hn
  have hb := boxOk_len hs.b
  have hq := h.kids
  have h1 := hs.l; have h2 := hs.z
  exact ⟨sum9_len _, isB_dig _, hs.lI, hs.hI, hk.1, by show _ ≤ (sayA n _).live ∧ (sayA n _).live ≤ _; omega, by show _ ≤ (sayA n _).size ∧ (sayA n _).size ≤ _; omega, by show (sayA n _).lo.length ≤ _; have := hb.1; dsimp only at this; omega, by show (sayA n _).hi.length ≤ _; have := hb.2.1; dsimp only at this; omega, by show (keyN n).length ≤ _; omega⟩
theorem mem_getDN {α : Type} [Inhabited α] {l : List α} {x : α} (h : x ∈ l) : ∃ i, i < l.length ∧ l.getD i default = x := by
  obtain ⟨i, hi, rfl⟩ := List.getElem_of_mem h
  exact ⟨i, hi, by simp [List.getD, List.getElem?_eq_getElem hi]⟩
theorem kid_len8 {n : NodeD} {d : Nat} (h : NodeRt n d) (i : Nat) (hi : i < n.kids.length) : (n.kids.getD i default).lo.length ≤ 8 ∧ (n.kids.getD i default).hi.length ≤ 8 := by
  have := boxOk_len (kidR_box (h.kid i hi)).1
  exact ⟨this.1, this.2.1⟩
theorem nodeB_isB {n : NodeD} {d : Nat} (h : NodeRt n d) (hn : NodeOk n) : IsB (nodeB n) := by
  have h1 := h.rows
  have h2 := h.kids
  have h3 := h.dd
  unfold nodeB
  refine isB_append (isB_append (isB_append (isB_append (isB_one hn.kind) (isB_one (by omega))) (isB_flat _ ?_)) (isB_one (by omega))) (isB_flat _ ?_)
  · intro x hx
    obtain ⟨e, he, rfl⟩ := List.mem_map.1 hx
    obtain ⟨i, hi, rfl⟩ := mem_getDN he
    have := h.row i hi
    unfold entB
    exact isB_append (isB_one (by split <;> decide)) (isB_rowB _ (by omega))
  · intro x hx
    obtain ⟨e, he, rfl⟩ := List.mem_map.1 hx
    obtain ⟨i, hi, rfl⟩ := mem_getDN he
    have hl := kid_len8 h i hi
    have hk := h.key i hi
    unfold kidB
    exact isB_append (isB_append (isB_append (isB_append (isB_append (hn.kid i hi).sB (isB_be3 _)) (isB_be3 _)) (isB_rowB _ (by omega))) (isB_rowB _ (by omega))) (isB_rowB _ (by omega))
theorem nodeB_len {n : NodeD} {d : Nat} (h : NodeRt n d) (hn : NodeOk n) : (nodeB n).length ≤ 100000 := by
  have h1 := h.rows
  have h2 := h.kids
  have h3 := h.dd
  have a := flat_len_le entB n.rows 66 (fun i hi => entB_len _ (by have := h.row i hi; omega)) n.rows.length (Nat.le_refl _)
  have b := flat_len_le kidB n.kids 233 (fun i hi => kidB_len _ (hn.kid i hi).s (kid_len8 h i hi).1 (kid_len8 h i hi).2 (h.key i hi)) n.kids.length (Nat.le_refl _)
  rw [List.take_length] at a b
  unfold nodeB
  simp only [List.length_append, List.length_cons, List.length_nil]
  omega
end Go.Proofs.Ytgcbodpjidoanaa
