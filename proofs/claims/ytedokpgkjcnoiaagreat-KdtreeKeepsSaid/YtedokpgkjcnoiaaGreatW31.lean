/- Contract of the document's turn (chapter 1). Rows of bytes of the call's own; eight bytes of a number; the sum of a text, in plain words. Contract of the document's With (chapter 1). Contracts of the document's Words, Sum and Preimage (chapter 1), of package sha's Preimage, of the document's page Sum (chapter 9). -/
import Derived.IntWalk
import Derived.Laws.MakeOwn
import Derived.Deep.DeepCutAuto
import Derived.Test.YtedokpgkjcnoiaaGreatW30
set_option linter.unusedVariables false
set_option linter.unusedSimpArgs false
namespace Go.Proofs.YtedokpgkjcnoiaaGreat
open Go.RowKit
/-- a block whose first cells are these words -/
def Pre32 (w : World) (g : Nat) (t : TypeId) (l : List UInt32) : Prop := ∃ rest : List Value, Row w g t (l.map v32 ++ rest)
section
variable {w W : World} {g : Nat} {t : TypeId} {l : List UInt32}
theorem Pre32.cell (h : Pre32 w g t l) (i : Nat) (hi : i < l.length) : w.cell? ⟨g, i, none⟩ = some (v32 (l.getD i 0)) := by
 obtain ⟨r, h⟩ := h
 rw [Row.cell h i, List.getElem?_append_left (by simpa using hi)]; simp [List.getD, List.getElem?_eq_getElem hi]
theorem Pre32.fz (h : Pre32 w g t l) (i : Nat) : w.frozen? ⟨g, i, none⟩ = false := by obtain ⟨r, h⟩ := h; exact Row.fz h i
theorem Pre32.lt (h : Pre32 w g t l) : g < w.heap.size := by obtain ⟨r, h⟩ := h; exact Row.lt h
theorem Pre32.ext (h : Pre32 w g t l) (hW : Ext w W) : Pre32 W g t l := by obtain ⟨r, h⟩ := h; exact ⟨r, Row.ext h hW⟩
theorem Pre32.after (h : Pre32 w g t l) (hb : Below w.heap.size w W) : Pre32 W g t l := by obtain ⟨r, h⟩ := h; exact ⟨r, Row.after h hb⟩
theorem Pre32.set (h : Pre32 w g t l) (i : Nat) (x : UInt32) (hi : i < l.length) : Pre32 (w.setCell ⟨g, i, none⟩ (v32 x)) g t (l.set i x) := by
 obtain ⟨r, h⟩ := h
 refine ⟨r, ?_⟩
 have := Row.set h i (v32 x)
 rwa [List.set_append_left _ _ (by simpa using hi), ← List.map_set] at this
theorem Pre32.setOther (h : Pre32 w g t l) {a : Addr} (ha : g ≠ a.block) (v : Value) : Pre32 (w.setCell a v) g t l := by obtain ⟨r, h⟩ := h; exact ⟨r, Row.setOther h ha v⟩
theorem Pre32.of_row (h : Row32 w g t l) : Pre32 w g t l := ⟨[], by rw [List.append_nil]; exact h⟩
theorem Pre32.of_own {base : Nat} {A : Option Addr} {c : Nat} (h : w.ownsRow base t 1 (.slice A l.length c) l.length (l.map v32)) (hl : 0 < l.length) : ∃ g, A = some ⟨g, 0, none⟩ ∧ base ≤ g ∧ Pre32 w g t l := by
 rcases h.2 with ⟨he, h0⟩ | ⟨r, cap, cur, hv, hb, hh, hcap, hm, hs, ht⟩
 ·omega
 ·injection hv with hA _ _
  subst hA
  refine ⟨r, rfl, hb, cur.toList.drop l.length, ?_⟩
  unfold Row
  rw [← ht, Nat.mul_one, List.take_append_drop]
  simpa using hh
end
/-- the words of a slice -/
def u32s (l : List UInt32) (i : Nat) : Value := v32 (l.getD i 0)
theorem Pre32.arr {w : World} {g : Nat} {t : TypeId} {l : List UInt32} (h : Pre32 w g t l) (n : Nat) (hn : n ≤ l.length) : Arr w w.heap.size (some ⟨g, 0, none⟩) n (u32s l) := fun _ =>
 ⟨g, 0, rfl, h.lt, fun i hi => by rw [Nat.zero_add]; exact h.cell i (by omega)⟩
/-- a word under way -/
def qw (b : List Nat) (k : Nat) : Nat → UInt32
 | 0 => 0
 | n + 1 => 256 * qw b k n + UInt32.ofNat (b.getD (4 * k + n) 0)
theorem info_u32 : (Tryz.prog.info? 141).map (fun i => (i.zero, i.size, i.bytes)) = some (some (.int .u32 0), 1, 4) := by kernel_rfl
end Go.Proofs.YtedokpgkjcnoiaaGreat
namespace Go.Proofs.YtedokpgkjcnoiaaGreat
open Go.RowKit
def b8 (x : Nat) : Value := .int .u8 (x : Nat)
theorem info_b8 : (Tryz.prog.info? 5).map (fun i => (i.zero, i.size, i.bytes)) = some (some (.int .u8 0), 1, 1) := by kernel_rfl
/-- a row of bytes of the call's own -/
def OwnB (w : World) (base : Nat) (A : Option Addr) (c : Nat) (l : List Nat) : Prop := w.ownsRow base 5 1 (.slice A l.length c) l.length (l.map b8)
theorem OwnB.arr {w : World} {base : Nat} {A : Option Addr} {c : Nat} {l : List Nat} (h : OwnB w base A c l) : Arr w w.heap.size A l.length (u8s l) :=
 Arr.of_own h fun i hi => by unfold u8s b8; simp [List.getD, List.getElem?_map, List.getElem?_eq_getElem hi]
theorem OwnB.ext {w W : World} {base : Nat} {A : Option Addr} {c : Nat} {l : List Nat} (h : OwnB w base A c l) (hW : Ext w W) : OwnB W base A c l := ownsRow_ext h hW
theorem OwnB.after {w W : World} {base : Nat} {A : Option Addr} {c : Nat} {l : List Nat} (h : OwnB w base A c l) (hW : Below w.heap.size w W) : OwnB W base A c l := h.ext (Ext.of_below hW)
theorem OwnB.nil (w : World) (base : Nat) : OwnB w base none 0 [] := World.ownsRow_nil w base _ _
theorem OwnB.lit0 (w : World) : OwnB (w.alloc (.cells #[] 5)) w.heap.size (some ⟨w.heap.size, 0, none⟩) 0 [] := World.ownsRow_lit w #[] 0 (Nat.le_refl _) (Nat.zero_le _) rfl
theorem OwnB.lit1 (w : World) (x : Nat) : OwnB (w.alloc (.cells #[b8 x] 5)) w.heap.size (some ⟨w.heap.size, 0, none⟩) 1 [x] := World.ownsRow_lit w #[b8 x] 1 (Nat.le_refl _) (by decide) rfl
theorem OwnB.at {w : World} {base : Nat} {A : Option Addr} {c : Nat} {l : List Nat} (h : OwnB w base A c l) (h0 : 0 < l.length) : ∃ g, A = some ⟨g, 0, none⟩ ∧ base ≤ g ∧ g < w.heap.size ∧ l.length ≤ c ∧ ∀ i, i < l.length → w.cell? ⟨g, i, none⟩ = some (b8 (l.getD i 0)) := by
 rcases h.2 with ⟨hv, h1⟩ | ⟨g, cap, cur, hv, hb, hh, hnc, hcm, hs, ht⟩
 ·omega
 ·injection hv with hA _ hc
  subst hA hc
  refine ⟨g, rfl, hb, (Array.getElem?_eq_some_iff.1 hh).1, hnc, fun i hi => ?_⟩
  rw [World.ownsRow.cellAt h i (by omega)]
  simp [List.getD, List.getElem?_eq_getElem hi]
theorem map_u8s (l : List Nat) : (List.range l.length).map (u8s l) = l.map b8 := by
 refine List.ext_getElem? fun i => ?_
 rcases Nat.lt_or_ge i l.length with h | h
 ·simp [List.getElem?_map, List.getElem?_range h, u8s, b8, List.getD, List.getElem?_eq_getElem h]
 ·simp [h]
/-- one byte more -/
theorem wpList_app1 {ops : Array Oper} {rest : List Oper} {o : Oper} {a : Act} {w : World} {Q : Exit → Act → World → Prop} (hgd : o.guard = none) (s x : Operand)
    (ho : o.op = .call { callee := .builtin .append, args := #[s, x], argTypes := #[42, 42] }) (base : Nat) (A : Option Addr) (c n : Nat) (l : List Nat) (hl : n = l.length) (hs : a.eval s = .slice A n c) (hown : OwnB w base A c l)
    (y : Nat) (hx : a.eval x = .slice (some ⟨w.heap.size, 0, none⟩) 1 1) (hn : n ≤ 140737488355000) (hbase : base ≤ w.heap.size)
    (h : ∀ A' c' w', OwnB w' base A' c' (l ++ [y]) → Below base w w' → wpList Tryz.prog ops Q rest (a.put o.dst (.slice A' (n + 1) c')) w') : wpList Tryz.prog ops Q (o :: rest) a (w.alloc (.cells #[b8 y] 5)) := by
  obtain ⟨i0, hi0, hz0, hz1, hz2⟩ := info_parts info_b8
  subst hl
  refine wpList_append_cells w hgd s x 42 ho base 5 i0 _ 1 1 Tryz.underlying42 hi0 hz0 hz1 hz2 rfl (by decide) (.slice A l.length c) l.length (l.map b8) hs hown #[b8 y] 1 hx rfl (by simp [b8, Value.oneCell']) (by omega) (by unfold maxLen; omega) (by omega) hbase ?_
  intro g c3 w3 hown3 hg3 hat3
  refine h _ _ w3 ?_ (below_own hown hg3 (Nat.le_refl _) hbase)
  unfold OwnB
  rw [List.length_append, List.map_append]
  exact hown3
/-- the bytes of a slice more -/
theorem wpList_appn {ops : Array Oper} {rest : List Oper} {o : Oper} {a : Act} {w : World} {Q : Exit → Act → World → Prop} (hgd : o.guard = none) (s x : Operand)
    (ho : o.op = .call { callee := .builtin .append, args := #[s, x], argTypes := #[42, 42] }) (base : Nat) (A : Option Addr) (c n : Nat) (l : List Nat) (hl : n = l.length) (hs : a.eval s = .slice A n c) (hown : OwnB w base A c l)
    (B : Nat) (X : Option Addr) (m d : Nat) (k : List Nat) (hk : m = k.length) (hx : a.eval x = .slice X m d) (hX : Arr w B X m (u8s k)) (hn : n + m ≤ 140737488355000) (hbase : base ≤ w.heap.size)
    (h : ∀ A' c' w', OwnB w' base A' c' (l ++ k) → Below base w w' → wpList Tryz.prog ops Q rest (a.put o.dst (.slice A' (n + m) c')) w') : wpList Tryz.prog ops Q (o :: rest) a w := by
  obtain ⟨i0, hi0, hz0, hz1, hz2⟩ := info_parts info_b8
  subst hl hk
  refine wpList_append_arr w hgd s x 42 ho base 5 i0 _ 1 Tryz.underlying42 hi0 hz0 hz1 hz2 rfl (.slice A l.length c) l.length (l.map b8) hs hown B X k.length d (u8s k) hx hX (fun _ => rfl) (by unfold maxLen; omega) (by omega) hbase ?_
  intro A3 c3 w3 hown3 hg3 hat3
  refine h _ _ w3 ?_ (below_own hown hg3 (Nat.le_refl _) hbase)
  unfold OwnB
  rw [List.length_append, List.map_append, ← map_u8s k]
  exact hown3
/-- eight bytes of a number, the highest first -/
def be8 (n : Nat) : List Nat := (List.range 8).map fun i => n / 2 ^ (56 - 8 * i) % 256
theorem be8_succ (n k : Nat) (hk : k < 8) : (be8 n).take k ++ [n / 2 ^ (56 - 8 * k) % 256] = (be8 n).take (k + 1) := by
 rw [List.take_succ_eq_append_getElem (by simp [be8]; exact hk)]
 simp [be8]
theorem isB_be8 (n : Nat) : IsB (be8 n) := fun i => by
 unfold be8
 rcases Nat.lt_or_ge i 8 with h | h
 ·simp [List.getD, List.getElem?_map, List.getElem?_range h]; omega
 ·rw [getD_out _ _ _ (by simp; exact h)]; omega
/-- a text, filled up to whole blocks -/
def zeros (n : Nat) : Nat := (119 - n % 64) % 64
def padl (b : List Nat) : List Nat := b ++ [128] ++ List.replicate (zeros b.length) 0 ++ be8 (8 * b.length)
theorem padl_len (b : List Nat) : (padl b).length % 64 = 0 ∧ (padl b).length = b.length + 9 + zeros b.length := by
 unfold padl zeros
 simp [be8]
 omega
def blk (l : List Nat) (i : Nat) : List Nat := (l.drop (64 * i)).take 64
def compN (h : List UInt32) (l : List Nat) : Nat → List UInt32
 | 0 => h
 | i + 1 => turnS (compN h l i) (blk l i)
def sumW (b : List Nat) : List UInt32 := compN h0 (padl b) ((padl b).length / 64)
theorem turnS_len (h : List UInt32) (b : List Nat) : (turnS h b).length = 8 := by simp [turnS]
theorem compN_len (h : List UInt32) (l : List Nat) (hh : h.length = 8) : ∀ i, (compN h l i).length = 8
 | 0 => hh
 | i + 1 => turnS_len _ _
/-- 32 bytes of eight words -/
def dig (h : List UInt32) : List Nat := (List.range 32).map fun i => (h.getD (i / 4) 0).toNat / 2 ^ (24 - 8 * (i % 4)) % 256
theorem blk_get (l : List Nat) (i j : Nat) (hj : j < 64) : (blk l i).getD j 0 = l.getD (64 * i + j) 0 := by
 unfold blk List.getD
 rw [List.getElem?_take, if_pos hj, List.getElem?_drop]
theorem isB_blk {l : List Nat} (h : IsB l) (i : Nat) : IsB (blk l i) := fun j => by
 rcases Nat.lt_or_ge j 64 with hj | hj
 ·rw [blk_get _ _ _ hj]; exact h _
 ·rw [getD_out _ _ _ (by unfold blk; simp; omega)]; omega
theorem isB_append {x y : List Nat} (hx : IsB x) (hy : IsB y) : IsB (x ++ y) := fun i => by
 unfold List.getD
 rw [List.getElem?_append]
 split
 ·exact hx i
 ·exact hy _
set_option maxRecDepth 100000 in
set_option maxHeartbeats 1000000 in
theorem eight_any (n : Nat) (hn : n < 18446744073709551616) (w : World) :
    Calls Tryz.prog 156 #[.int .u64 n] w fun e w' => ∃ A c, e = .returned (.slice A 8 c) ∧ Below w.heap.size w w' ∧ OwnB w' w.heap.size A c (be8 n) := by
  go_enter Tryz.func156, Tryz.ntmps156
  go_wp2_with fail
  go_loopw [3, 4] (fun v3 v4 wr => ∃ (k : Nat) (A : Option Addr) (c : Nat), k ≤ 8 ∧ v3 = .slice A k c ∧ v4 = .int .i64 (56 - 8 * (k : Int)) ∧ Hid (OwnB wr w.heap.size A c ((be8 n).take k) ∧ Below w.heap.size w wr)) (fun _ v4 _ => (intOf v4 + 8).toNat)
  case atStart => exact ⟨0, none, 0, by omega, rfl, rfl, OwnB.nil _ _, Below.refl _ _⟩
  case round =>
    obtain ⟨k, A, c, hk, rfl, rfl, hV⟩ := hrel
    by_cases hlt : k < 8
    · have t' : decide ((0 : Int) ≤ 56 - 8 * (k : Int)) = true := by simp; omega
      have t2' : decide (8 * (k : Int) ≤ 56) = true := by simp; omega
      have i1 : (0 : Int) ≤ 56 - 8 * (k : Int) := by omega
      have i2 : 8 * (k : Int) ≤ 56 := by omega
      have e1 : ((56 : Int) - 8 * (k : Int)).toNat = 56 - 8 * k := by omega
      have m1 : IntKind.i64.wrap (56 - 8 * (k : Int) - 8) = 56 - 8 * ((k : Int) + 1) := by rw [show (56 : Int) - 8 * (k : Int) - 8 = 56 - 8 * ((k : Int) + 1) by omega]; exact IntWalk.i64_in _ (by omega)
      obtain ⟨y, hy⟩ : ∃ y, y = n / 2 ^ (56 - 8 * k) % 256 := ⟨_, rfl⟩
      have hy' : (n : Int) / 2 ^ (56 - 8 * k) % 256 = (y : Int) := by rw [hy]; simp
      have hE := hideP (show (be8 n).take k ++ [y] = (be8 n).take (k + 1) by rw [hy]; exact be8_succ n k hlt)
      have hl := hideP (show k = ((be8 n).take k).length by simp [be8]; omega)
      have hsz := hideP hV.out.2.size
      clear hy
      go_wp2_with (at_builtin; refine wpList_app1 rfl (.tmp 9) (.tmp 14) rfl w.heap.size A c k ((be8 n).take k) hl.out rfl hV.out.1 y rfl (by omega) hsz.out ?_; intro A3 c3 w3 hown3 hb3)
      rw [hE.out] at hown3
      have ho := hideP hown3
      have hb := hideP (hV.out.2.trans hb3)
      clear hV hown3 hb3
      go_roundw
      case rel => exact ⟨k + 1, A3, c3, by omega, rfl, by rw [show ((k + 1 : Nat) : Int) = (k : Int) + 1 by omega], ho.out, hb.out⟩
      case measure => simp [intOf]; omega
    · have t' : decide ((0 : Int) ≤ 56 - 8 * (k : Int)) = false := by simp; omega
      have t2' : decide (8 * (k : Int) ≤ 56) = false := by simp; omega
      have hk8 : k = 8 := by omega
      have ho := hideP hV.out.1
      have hb := hideP hV.out.2
      rw [hk8, show (be8 n).take 8 = be8 n from List.take_of_length_le (by simp [be8])] at ho
      clear hV hlt hk
      obtain ⟨K, hK⟩ : ∃ K, K = k := ⟨_, rfl⟩
      go_wp2_with fail
      go_ret
      exact ⟨A, c, by rw [hk8]; rfl, hb.out, ho.out⟩
end Go.Proofs.YtedokpgkjcnoiaaGreat
namespace Go.Proofs.YtedokpgkjcnoiaaGreat
open Go.RowKit
/-- 32 bytes, none set -/
def z32 : List Value := List.replicate 32 (.int .u8 0)
theorem size_dig : (Tryz.prog.info? 32).map (·.size) = some 32 := by kernel_rfl
theorem all_b8 (l : List Nat) : ((l.map b8).toArray).all (·.oneCell') = true := by
 rw [Array.all_eq_true_iff_forall_mem]
 intro v hv
 simp at hv
 obtain ⟨x, _, rfl⟩ := hv
 rfl
theorem zeros_step (n j : Nat) (hj : j ≤ zeros n) : ((n + 1 + j) % 64 = 56 ↔ j = zeros n) := by unfold zeros at *; omega
end Go.Proofs.YtedokpgkjcnoiaaGreat
namespace Go.Proofs.YtedokpgkjcnoiaaGreat
open Go.RowKit

theorem be8_len (n : Nat) : (be8 n).length = 8 := by simp [be8]
def prePart (tag : Nat) (ts : List (List Nat)) : Nat → List Nat
 | 0 => [tag]
 | i + 1 => prePart tag ts i ++ be8 (ts.getD i []).length ++ ts.getD i []
def preN (tag : Nat) (ts : List (List Nat)) : List Nat := prePart tag ts ts.length
theorem prePart_le (tag : Nat) (ts : List (List Nat)) : ∀ i j, i ≤ j → (prePart tag ts i).length ≤ (prePart tag ts j).length := by
 intro i j h
 induction h with
 | refl => omega
 | step _ ih => refine Nat.le_trans ih ?_; simp [prePart]
theorem isB_prePart {tag : Nat} {ts : List (List Nat)} (ht : tag < 256) (h : ∀ i, IsB (ts.getD i [])) : ∀ i, IsB (prePart tag ts i)
 | 0 => fun i => by cases i with
  | zero => simpa [prePart] using ht
  | succ i => rw [getD_out _ _ _ (by simp [prePart])]; omega
 | i + 1 => isB_append (isB_append (isB_prePart ht h i) (isB_be8 _)) (h i)
set_option maxRecDepth 100000 in
set_option maxHeartbeats 2000000 in
theorem pre_any (tag : Nat) (AT : Option Addr) (cT : Nat) (ts : List (List Nat)) (Af : Nat → Option Addr) (cf : Nat → Nat) (w : World) (hT : Arr w w.heap.size AT ts.length (fun i => .slice (Af i) (ts.getD i []).length (cf i)))
    (hA : ∀ i, i < ts.length → Arr w w.heap.size (Af i) (ts.getD i []).length (u8s (ts.getD i []))) (hn : (preN tag ts).length ≤ 1000000000000) (hK : ts.length ≤ 1000000000000) :
    Calls Tryz.prog 146 #[.int .u8 tag, .slice AT ts.length cT] w fun e w' => ∃ A c, e = .returned (.slice A (preN tag ts).length c) ∧ Below w.heap.size w w' ∧ OwnB w' w.heap.size A c (preN tag ts) := by
  obtain ⟨K, hKK⟩ : ∃ K, K = ts.length := ⟨_, rfl⟩
  rw [← hKK] at hT hA hK ⊢
  have HhT := hideP hT; have HhA := hideP hA; have Hhn := hideP hn; have HhKK := hideP hKK; clear hT hA hn hKK
  go_enter Tryz.func146, Tryz.ntmps146
  go_wp2_with fail
  obtain ⟨w1, hw1⟩ : ∃ w1, w1 = w.alloc (Obj.cells #[.int .u8 tag] 5) := ⟨_, rfl⟩
  have o1 := hideP (show OwnB w1 w.heap.size (some ⟨w.heap.size, 0, none⟩) 1 [tag] by rw [hw1]; exact OwnB.lit1 w tag)
  have cb := hideP (show Below w.heap.size w w1 by rw [hw1]; exact below_new _ _)
  rw [← hw1]
  clear hw1
  go_loopw [5, 12] (fun v5 v12 wr => ∃ (i L : Nat) (A : Option Addr) (c : Nat), i ≤ K ∧ v5 = .slice A L c ∧ v12 = .int .i64 i ∧ Hid (L = (prePart tag ts i).length ∧ OwnB wr w.heap.size A c (prePart tag ts i) ∧ Below w.heap.size w wr)) (fun _ v12 _ => K - (intOf v12).toNat)
  case atStart => exact ⟨0, 1, some ⟨w.heap.size, 0, none⟩, 1, by omega, rfl, rfl, rfl, o1.out, cb.out⟩
  case round =>
    clear o1 cb
    obtain ⟨i, L, A, c, hi, rfl, rfl, hV⟩ := hrel
    by_cases hlt : i < K
    · have t' : decide ((i : Int) < (K : Int)) = true := by simp; omega
      obtain ⟨gT, oT, rfl, hgT, hcT⟩ := (HhT.out.below hV.out.2.2) (by omega)
      have k0 := hcT i hlt
      obtain ⟨m, hm⟩ : ∃ m, m = (ts.getD i []).length := ⟨_, rfl⟩
      have hAi := hideP ((HhA.out i hlt).after hV.out.2.2)
      rw [← hm] at hAi
      simp only [← hm] at k0
      have hpl := hideP (show (prePart tag ts i).length + 8 + m = (prePart tag ts (i + 1)).length by rw [show prePart tag ts (i + 1) = prePart tag ts i ++ be8 (ts.getD i []).length ++ ts.getD i [] from rfl, List.length_append, List.length_append, ← hm, be8_len])
      have hple := prePart_le tag ts (i + 1) K (by omega)
      have hpn := Hhn.out
      unfold preN at hpn
      rw [← HhKK.out] at hpn
      have hLm : L + 8 + m ≤ 1000000000000 := by rw [hV.out.1, hpl.out]; omega
      have i0 : (0 : Int) ≤ (i : Int) := by omega
      have i1 : (i : Int) < (K : Int) := by omega
      have eT : IntKind.u64.wrap (m : Int) = (m : Int) := by rw [IntKind.wrap_u64]; omega
      have hm64 : m < 18446744073709551616 := by omega
      obtain ⟨pre, hp⟩ : ∃ pre, pre = prePart tag ts i := ⟨_, rfl⟩
      rw [← hp] at hV hpl
      have hE := hideP (show pre ++ be8 m ++ ts.getD i [] = prePart tag ts (i + 1) by rw [hp, hm]; rfl)
      have Hhm := hideP hm; clear hm
      have o1 := hideP hV.out.2.1
      have hL := hideP hV.out.1
      have cb := hideP hV.out.2.2
      have hs := hideP cb.out.size
      clear hV hcT hple hpn hp
      go_wp2_with (first
        | (go_at_call 156; refine (eight_any m hm64 _).mono ?_; rintro e w2 ⟨A2, c2, rfl, hb2, h2⟩; have hs2 := Nat.le_trans hs.out hb2.size; have o2 := hideP (o1.out.after hb2); have ha2 := hideP (h2.arr); have cb2 := hideP (cb.out.trans (hb2.mono cb.out.size)); have hAi2 := hideP (hAi.out.after hb2))
        | (at_builtin; refine wpList_appn rfl (.tmp 16) (.tmp 20) rfl w.heap.size A c L pre hL.out rfl o2.out _ A2 8 c2 (be8 m) (be8_len m).symm rfl ha2.out (by omega) hs2 ?_; intro A5 c5 w5 o5 b5; have hs5 := Nat.le_trans hs2 b5.size; have hl5 := hideP (show L + 8 = (pre ++ be8 m).length by rw [List.length_append, ← hL.out, be8_len]); have hAi5 := hideP ((HhA.out i hlt).after (cb2.out.trans b5)); rw [← Hhm.out] at hAi5)
        | (at_builtin; refine wpList_appn rfl (.tmp 21) (.tmp 22) rfl w.heap.size A5 c5 (L + 8) (pre ++ be8 m) hl5.out rfl o5 _ (Af i) m (cf i) (ts.getD i []) Hhm.out rfl hAi5.out (by omega) hs5 ?_; intro A6 c6 w6 o6 b6))
      have o7 := hideP (show OwnB w6 w.heap.size A6 c6 (prePart tag ts (i + 1)) by rw [← hE.out]; exact o6)
      have cb3 := hideP ((cb2.out.trans b5).trans b6)
      have hl7 := hideP (show L + 8 + m = (prePart tag ts (i + 1)).length by rw [← hpl.out, hL.out])
      clear o6 b6 o5 b5 hAi5 hAi2 o2 ha2 hs5 hs2 k0 eT
      go_roundw
      case rel => exact ⟨i + 1, L + 8 + m, A6, c6, by omega, rfl, by go_num, hl7.out, o7.out, cb3.out⟩
      case measure => simp [intOf]; omega
    · have t' : decide ((i : Int) < (K : Int)) = false := by simp; omega
      have hiK : i = K := by omega
      have hp : prePart tag ts i = preN tag ts := by rw [hiK, HhKK.out]; rfl
      have o4 := hideP (hp ▸ hV.out.2.1)
      have hL := hideP (hp ▸ hV.out.1)
      have cb := hideP hV.out.2.2
      clear hV hp hiK hi
      go_wp2_with fail
      go_ret
      exact ⟨A, c, by rw [← hL.out]; rfl, cb.out, o4.out⟩
end Go.Proofs.YtedokpgkjcnoiaaGreat
