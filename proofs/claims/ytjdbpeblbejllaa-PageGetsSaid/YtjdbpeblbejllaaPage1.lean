/- The state of a store of pages; contracts of bytes.Clone, bytes.Equal and page's New, Len, Get. -/
import Derived.Test.YtjdbpeblbejllaaSha12
import Derived.Test.YtjdbpeblbejllaaPage0
import Derived.Test.YtjdbpeblbejllaaMut
set_option linter.unusedVariables false
set_option linter.unusedSimpArgs false
namespace Go.Proofs.Ytjdbpeblbejllaa
open Go.RowKit
open Go.Maps (Keyed)
/-- bytes at A, in a block of S -/
def ArrS (S : Nat → Prop) (w : World) (A : Option Addr) (n : Nat) (f : Nat → Value) : Prop :=
  0 < n → ∃ b off, A = some ⟨b, off, none⟩ ∧ S b ∧ b < w.heap.size ∧ ∀ i, i < n → w.cell? ⟨b, off + i, none⟩ = some (f i)
section
variable {S S' : Nat → Prop} {w w' : World} {A : Option Addr} {n : Nat} {f : Nat → Value}
theorem ArrS.arr (h : ArrS S w A n f) : Arr w w.heap.size A n f := fun hn => by
  obtain ⟨b, off, hA, _, hb, hc⟩ := h hn
  exact ⟨b, off, hA, hb, hc⟩
theorem ArrS.keep (h : ArrS S w A n f) (hw : ∀ b, S b → w'.heap[b]? = w.heap[b]?) (hs : w.heap.size ≤ w'.heap.size) : ArrS S w' A n f := fun hn => by
  obtain ⟨b, off, hA, hS, hb, hc⟩ := h hn
  exact ⟨b, off, hA, hS, by omega, fun i hi => (World.cell?_of_block (w := w) (hw b hS)).trans (hc i hi)⟩
theorem ArrS.mono (h : ArrS S w A n f) (hS : ∀ b, S b → S' b) : ArrS S' w A n f := fun hn => by
  obtain ⟨b, off, hA, h1, hb, hc⟩ := h hn
  exact ⟨b, off, hA, hS b h1, hb, hc⟩
theorem OwnB.arrS {base c : Nat} {l : List Nat} (h : OwnB w base A c l) : ArrS (fun b => base ≤ b) w A l.length (u8s l) := fun hn => by
  obtain ⟨g, hA, hb, hg, _, hc⟩ := h.at hn
  exact ⟨g, 0, hA, hb, hg, fun i hi => by rw [Nat.zero_add]; exact hc i hi⟩
end
/-- the sum of a page, as numbers -/
def sum9 (t : List Nat) : List Nat := dig (sumW (preN 80 [t]))
theorem pageD_eq (t : List Nat) : Value.agg (pageD t).toArray = dg (sum9 t) := rfl
theorem sum9_len (t : List Nat) : (sum9 t).length = 32 := by simp [sum9, dig]
theorem isB_dig (h : List UInt32) : IsB (dig h) := by
  intro i
  unfold dig
  by_cases hi : i < 32
  · simp [List.getD, List.getElem?_map, List.getElem?_range hi]
    omega
  · simp [List.getD, hi]
def entsOf (A : List Nat → Option Addr) (c : List Nat → Nat) (L : List (List Nat)) : List (Value × Value) := L.map fun t => (dg (sum9 t), Value.slice (A t) t.length (c t))
/-- what a store of pages is: its texts in their order, its clash; S: its blocks -/
def PSt (w : World) (S : Nat → Prop) (g : Nat) (L : List (List Nat)) (C : Option (List Nat × List Nat)) : Prop :=
  ∃ (bm : Nat) (A : List Nat → Option Addr) (c : List Nat → Nat) (a b : Option Addr) (ca cb : Nat) (x y : List Nat),
    Row w g 84 [.map (some bm), .slice a x.length ca, .slice b y.length cb, .bool C.isSome] ∧ Ents Try.prog 25 w bm (entsOf A c L) ∧
    S g ∧ S bm ∧ g ≠ bm ∧ (∀ t ∈ L, ArrS S w (A t) t.length (u8s t) ∧ IsB t ∧ t.length ≤ 100000000) ∧ ArrS S w a x.length (u8s x) ∧ ArrS S w b y.length (u8s y) ∧ (∀ b, S b → b < w.heap.size) ∧
    IsB x ∧ IsB y ∧ x.length ≤ 100000000 ∧ y.length ≤ 100000000 ∧ (C = none → x = [] ∧ y = []) ∧ (∀ p, C = some p → p = (x, y) ∧ sum9 x = sum9 y ∧ x ≠ y)
section
variable {S : Nat → Prop} {w w' : World} {g : Nat} {L : List (List Nat)} {C : Option (List Nat × List Nat)}
theorem PSt.keep (h : PSt w S g L C) (hw : ∀ b, S b → w'.heap[b]? = w.heap[b]?) (hs : w.heap.size ≤ w'.heap.size) : PSt w' S g L C := by
  obtain ⟨bm, A, c, a, b, ca, cb, x, y, h1, h2, h3, h4, h5, h6, h7, h8, h9, r⟩ := h
  exact ⟨bm, A, c, a, b, ca, cb, x, y, (hw g h3).trans h1, h2.of_block (hw bm h4), h3, h4, h5, fun t ht => ⟨(h6 t ht).1.keep hw hs, (h6 t ht).2⟩, h7.keep hw hs, h8.keep hw hs, fun b hb => Nat.lt_of_lt_of_le (h9 b hb) hs, r⟩
theorem PSt.fresh (h : PSt w S g L C) : ∀ b, S b → b < w.heap.size := by
  obtain ⟨bm, A, c, a, b, ca, cb, x, y, h1, h2, h3, h4, h5, h6, h7, h8, h9, r⟩ := h
  exact h9
theorem PSt.after (h : PSt w S g L C) (hb : Below w.heap.size w w') : PSt w' S g L C := h.keep (fun b hS => hb.block b (h.fresh b hS)) hb.size
theorem PSt.self (h : PSt w S g L C) : S g := by
  obtain ⟨bm, A, c, a, b, ca, cb, x, y, h1, h2, h3, r⟩ := h
  exact h3
theorem PSt.isB (h : PSt w S g L C) {t : List Nat} (ht : t ∈ L) : IsB t ∧ t.length ≤ 100000000 := by
  obtain ⟨bm, A, c, a, b, ca, cb, x, y, h1, h2, h3, h4, h5, h6, r⟩ := h
  exact (h6 t ht).2
end
theorem But.mono2 {S S1 : Nat → Prop} {w w1 w2 : World} (h : But S w w1) (hS : ∀ b, S1 b → S b ∨ w.heap.size ≤ b) (k : But S1 w1 w2) : But S w w2 :=
  ⟨Nat.le_trans h.size k.size, fun b hb hn => (k.block b (Nat.lt_of_lt_of_le hb h.size) (fun h1 => (hS b h1).elim hn (fun h2 => absurd hb (by omega)))).trans (h.block b hb hn), k.os.trans h.os, k.tape.trans h.tape, k.output.trans h.output⟩
theorem But.below {S : Nat → Prop} {w w' : World} {B : Nat} (h : But S w w') (hS : ∀ b, S b → B ≤ b) (hB : B ≤ w.heap.size) : Below B w w' :=
  ⟨h.os, h.tape, h.output, h.size, fun k hk => h.block k (Nat.lt_of_lt_of_le hk hB) (fun h1 => absurd (hS k h1) (by omega))⟩
theorem bclone_any (A : Option Addr) (l : List Nat) (c : Nat) (w : World) (hA : Arr w w.heap.size A l.length (u8s l)) (hn : l.length ≤ 140737488351232) :
    Calls Try.prog 47 #[.slice A l.length c] w fun e w' => ∃ R d, e = .returned (.slice R l.length d) ∧ OwnB w' w.heap.size R d l ∧ Below w.heap.size w w' := by
  obtain ⟨i0, hi0, hz0, hz1, hz2⟩ := info_parts info_b8
  rcases A with _ | ad
  · have h0 : l.length = 0 := by
      rcases Nat.eq_zero_or_pos l.length with h | h
      · exact h
      · obtain ⟨_, _, h, _⟩ := hA h; cases h
    obtain rfl : l = [] := List.length_eq_zero_iff.1 h0
    have h1 := Lib.run_eql_slice_nil (P := Try.prog) w 22 5 none 0 c 0 0 Try.underlying22
    simp only [Option.isNone_none] at h1
    clear hA h0
    go_enter Try.func47, Try.ntmps47
    go_wp2
    go_ret
    exact ⟨none, 0, rfl, OwnB.nil _ _, Below.refl _ _⟩
  · have h1 := Lib.run_eql_slice_nil (P := Try.prog) w 22 5 (some ad) l.length c 0 0 Try.underlying22
    simp only [Option.isNone_some] at h1
    have HA := hideP hA
    clear hA
    go_enter Try.func47, Try.ntmps47
    go_wp2_with (at_builtin; refine wpList_append_arr _ rfl (.tmp 5) (.tmp 6) 22 rfl w.heap.size 5 i0 _ 1 Try.underlying22 hi0 hz0 hz1 hz2 rfl (.slice (some ⟨w.heap.size, 0, none⟩) 0 0) 0 [] rfl (World.ownsRow_lit w #[] 0 (Nat.le_refl _) (by unfold maxLen; omega) (by simp)) w.heap.size (some ad) l.length c (u8s l) rfl (HA.out.keep fun p hp => World.cell?_alloc_lt w _ p hp) (fun _ => rfl) (by unfold maxLen; omega) (by omega) (by simp) ?_; intro A3 c3 w3 hown3 hg3 hat3)
    simp only [Nat.zero_add, List.nil_append] at hown3
    rw [map_u8s] at hown3
    have HO := hideP hown3
    clear hown3
    go_ret
    refine ⟨A3, c3, by simp, HO.out, ?_⟩
    refine Below.trans ((Below.refl _ _).alloc (Nat.le_refl _) _) ((Below.refl _ _).grown hg3 (by simp) fun k hk => ?_)
    simp [Value.ownBlock] at hk
    omega
theorem bequal_any (A B : Option Addr) (l m : List Nat) (c d : Nat) (w : World) (hA : Arr w w.heap.size A l.length (u8s l)) (hB : Arr w w.heap.size B m.length (u8s m)) (hl : IsB l) (hm : IsB m) :
    Calls Try.prog 48 #[.slice A l.length c, .slice B m.length d] w fun e w' => e = .returned (.bool (l == m)) ∧ w = w' := by
  have h1 := run_str (P := Try.prog) w 22 5 Try.underlying22 Try.underlying5 (c := c) hA rfl 9 Try.underlying9
  have h2 := run_str (P := Try.prog) w 22 5 Try.underlying22 Try.underlying5 (c := d) hB rfl 9 Try.underlying9
  have h3 : ((bstr l).toList == (bstr m).toList) = (l == m) := by
    rw [Bool.eq_iff_iff, toList_bstr, toList_bstr]
    simp only [beq_iff_eq]
    exact ⟨fun h => map_ofNat_inj l m hl hm h, fun h => by rw [h]⟩
  clear hA hB hl hm
  have Hh3 := hideP h3; clear h3
  go_enter Try.func48, Try.ntmps48
  go_wp2
  go_ret
  exact ⟨by rw [← Hh3.out]; rfl, rfl⟩
end Go.Proofs.Ytjdbpeblbejllaa
