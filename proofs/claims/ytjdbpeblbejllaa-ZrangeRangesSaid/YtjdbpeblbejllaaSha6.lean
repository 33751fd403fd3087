/- Rows of bytes of the call's own; eight bytes of a number; the sum of a text, in plain words. -/
import Derived.Test.YtjdbpeblbejllaaSha2
import Derived.IntWalk
set_option linter.unusedVariables false
set_option linter.unusedSimpArgs false
namespace Go.Proofs.Ytjdbpeblbejllaa
open Go.RowKit
def b8 (x : Nat) : Value := .int .u8 (x : Nat)
theorem info_b8 : (Try.prog.info? 5).map (fun i => (i.zero, i.size, i.bytes)) = some (some (.int .u8 0), 1, 1) := by kernel_rfl
/-- a row of bytes of the call's own -/
def OwnB (w : World) (base : Nat) (A : Option Addr) (c : Nat) (l : List Nat) : Prop := w.ownsRow base 5 1 (.slice A l.length c) l.length (l.map b8)
theorem OwnB.arr {w : World} {base : Nat} {A : Option Addr} {c : Nat} {l : List Nat} (h : OwnB w base A c l) : Arr w w.heap.size A l.length (u8s l) :=
  Arr.of_own h fun i hi => by unfold u8s b8; simp [List.getD, List.getElem?_map, List.getElem?_eq_getElem hi]
theorem OwnB.ext {w W : World} {base : Nat} {A : Option Addr} {c : Nat} {l : List Nat} (h : OwnB w base A c l) (hW : Ext w W) : OwnB W base A c l := ownsRow_ext h hW
theorem OwnB.after {w W : World} {base : Nat} {A : Option Addr} {c : Nat} {l : List Nat} (h : OwnB w base A c l) (hW : Below w.heap.size w W) : OwnB W base A c l := h.ext (Ext.of_below hW)
theorem OwnB.nil (w : World) (base : Nat) : OwnB w base none 0 [] := World.ownsRow_nil w base _ _
theorem OwnB.lit0 (w : World) : OwnB (w.alloc (.cells #[] 5)) w.heap.size (some ⟨w.heap.size, 0, none⟩) 0 [] := World.ownsRow_lit w #[] 0 (Nat.le_refl _) (Nat.zero_le _) rfl
theorem OwnB.lit1 (w : World) (x : Nat) : OwnB (w.alloc (.cells #[b8 x] 5)) w.heap.size (some ⟨w.heap.size, 0, none⟩) 1 [x] := World.ownsRow_lit w #[b8 x] 1 (Nat.le_refl _) (by decide) rfl
theorem OwnB.at {w : World} {base : Nat} {A : Option Addr} {c : Nat} {l : List Nat} (h : OwnB w base A c l) (h0 : 0 < l.length) : ∃ g, A = some ⟨g, 0, none⟩ ∧ base ≤ g ∧ g < w.heap.size ∧ l.length ≤ c ∧ ∀ i, i < l.length → w.cell? ⟨g, i, none⟩ = some (b8 (l.getD i 0)) := by
  rcases h.2 with ⟨hv, h1⟩ | ⟨g, cap, cur, hv, hb, hh, hnc, hcm, hs, ht⟩
  · omega
  · injection hv with hA _ hc
    subst hA hc
    refine ⟨g, rfl, hb, (Array.getElem?_eq_some_iff.1 hh).1, hnc, fun i hi => ?_⟩
    rw [World.ownsRow.cellAt h i (by omega)]
    simp [List.getD, List.getElem?_eq_getElem hi]
theorem map_u8s (l : List Nat) : (List.range l.length).map (u8s l) = l.map b8 := by
  refine List.ext_getElem? fun i => ?_
  rcases Nat.lt_or_ge i l.length with h | h
  · simp [List.getElem?_map, List.getElem?_range h, u8s, b8, List.getD, List.getElem?_eq_getElem h]
  · simp [h]
/-- one byte more -/
theorem wpList_app1 {ops : Array Oper} {rest : List Oper} {o : Oper} {a : Act} {w : World} {Q : Exit → Act → World → Prop} (hgd : o.guard = none) (s x : Operand)
    (ho : o.op = .call { callee := .builtin .append, args := #[s, x], argTypes := #[22, 22] }) (base : Nat) (A : Option Addr) (c n : Nat) (l : List Nat) (hl : n = l.length) (hs : a.eval s = .slice A n c) (hown : OwnB w base A c l)
    (y : Nat) (hx : a.eval x = .slice (some ⟨w.heap.size, 0, none⟩) 1 1) (hn : n ≤ 140737488355000) (hbase : base ≤ w.heap.size)
    (h : ∀ A' c' w', OwnB w' base A' c' (l ++ [y]) → Below base w w' → wpList Try.prog ops Q rest (a.put o.dst (.slice A' (n + 1) c')) w') : wpList Try.prog ops Q (o :: rest) a (w.alloc (.cells #[b8 y] 5)) := by
  obtain ⟨i0, hi0, hz0, hz1, hz2⟩ := info_parts info_b8
  subst hl
  refine wpList_append_cells w hgd s x 22 ho base 5 i0 _ 1 1 Try.underlying22 hi0 hz0 hz1 hz2 rfl (by decide) (.slice A l.length c) l.length (l.map b8) hs hown #[b8 y] 1 hx rfl (by simp [b8, Value.oneCell']) (by omega) (by unfold maxLen; omega) (by omega) hbase ?_
  intro g c3 w3 hown3 hg3 hat3
  refine h _ _ w3 ?_ (below_own hown hg3 (Nat.le_refl _) hbase)
  unfold OwnB
  rw [List.length_append, List.map_append]
  exact hown3
/-- the bytes of a slice more -/
theorem wpList_appn {ops : Array Oper} {rest : List Oper} {o : Oper} {a : Act} {w : World} {Q : Exit → Act → World → Prop} (hgd : o.guard = none) (s x : Operand)
    (ho : o.op = .call { callee := .builtin .append, args := #[s, x], argTypes := #[22, 22] }) (base : Nat) (A : Option Addr) (c n : Nat) (l : List Nat) (hl : n = l.length) (hs : a.eval s = .slice A n c) (hown : OwnB w base A c l)
    (B : Nat) (X : Option Addr) (m d : Nat) (k : List Nat) (hk : m = k.length) (hx : a.eval x = .slice X m d) (hX : Arr w B X m (u8s k)) (hn : n + m ≤ 140737488355000) (hbase : base ≤ w.heap.size)
    (h : ∀ A' c' w', OwnB w' base A' c' (l ++ k) → Below base w w' → wpList Try.prog ops Q rest (a.put o.dst (.slice A' (n + m) c')) w') : wpList Try.prog ops Q (o :: rest) a w := by
  obtain ⟨i0, hi0, hz0, hz1, hz2⟩ := info_parts info_b8
  subst hl hk
  refine wpList_append_arr w hgd s x 22 ho base 5 i0 _ 1 Try.underlying22 hi0 hz0 hz1 hz2 rfl (.slice A l.length c) l.length (l.map b8) hs hown B X k.length d (u8s k) hx hX (fun _ => rfl) (by unfold maxLen; omega) (by omega) hbase ?_
  intro A3 c3 w3 hown3 hg3 hat3
  refine h _ _ w3 ?_ (below_own hown hg3 (Nat.le_refl _) hbase)
  unfold OwnB
  rw [List.length_append, List.map_append, ← map_u8s k]
  exact hown3
/-- eight bytes of a number, the highest first -/
def be8 (n : Nat) : List Nat := (List.range 8).map fun i => n / 2 ^ (56 - 8 * i) % 256
theorem be8_succ (n k : Nat) (hk : k < 8) : (be8 n).take k ++ [n / 2 ^ (56 - 8 * k) % 256] = (be8 n).take (k + 1) := by
  rw [List.take_succ_eq_append_getElem (by simp [be8]; exact hk)]
  simp [be8]
theorem isB_be8 (n : Nat) : IsB (be8 n) := fun i => by
  unfold be8
  rcases Nat.lt_or_ge i 8 with h | h
  · simp [List.getD, List.getElem?_map, List.getElem?_range h]; omega
  · rw [getD_out _ _ _ (by simp; exact h)]; omega
/-- a text, filled up to whole blocks -/
def zeros (n : Nat) : Nat := (119 - n % 64) % 64
def padl (b : List Nat) : List Nat := b ++ [128] ++ List.replicate (zeros b.length) 0 ++ be8 (8 * b.length)
theorem padl_len (b : List Nat) : (padl b).length % 64 = 0 ∧ (padl b).length = b.length + 9 + zeros b.length := by
  unfold padl zeros
  simp [be8]
  omega
def blk (l : List Nat) (i : Nat) : List Nat := (l.drop (64 * i)).take 64
def compN (h : List UInt32) (l : List Nat) : Nat → List UInt32
  | 0 => h
  | i + 1 => turnS (compN h l i) (blk l i)
def sumW (b : List Nat) : List UInt32 := compN h0 (padl b) ((padl b).length / 64)
theorem turnS_len (h : List UInt32) (b : List Nat) : (turnS h b).length = 8 := by simp [turnS]
theorem compN_len (h : List UInt32) (l : List Nat) (hh : h.length = 8) : ∀ i, (compN h l i).length = 8
  | 0 => hh
  | i + 1 => turnS_len _ _
/-- 32 bytes of eight words -/
def dig (h : List UInt32) : List Nat := (List.range 32).map fun i => (h.getD (i / 4) 0).toNat / 2 ^ (24 - 8 * (i % 4)) % 256
theorem blk_get (l : List Nat) (i j : Nat) (hj : j < 64) : (blk l i).getD j 0 = l.getD (64 * i + j) 0 := by
  unfold blk List.getD
  rw [List.getElem?_take, if_pos hj, List.getElem?_drop]
theorem isB_blk {l : List Nat} (h : IsB l) (i : Nat) : IsB (blk l i) := fun j => by
  rcases Nat.lt_or_ge j 64 with hj | hj
  · rw [blk_get _ _ _ hj]; exact h _
  · rw [getD_out _ _ _ (by unfold blk; simp; omega)]; omega
theorem isB_append {x y : List Nat} (hx : IsB x) (hy : IsB y) : IsB (x ++ y) := fun i => by
  unfold List.getD
  rw [List.getElem?_append]
  split
  · exact hx i
  · exact hy _
theorem isB_padl {b : List Nat} (h : IsB b) : IsB (padl b) := by
  unfold padl
  refine isB_append (isB_append (isB_append h fun i => ?_) fun i => ?_) (isB_be8 _)
  · cases i with
    | zero => decide
    | succ i => rw [getD_out _ _ _ (by simp)]; omega
  · unfold List.getD; rw [List.getElem?_replicate]; split <;> simp
set_option maxRecDepth 100000 in
set_option maxHeartbeats 1000000 in
theorem eight_any (n : Nat) (hn : n < 18446744073709551616) (w : World) :
    Calls Try.prog 79 #[.int .u64 n] w fun e w' => ∃ A c, e = .returned (.slice A 8 c) ∧ Below w.heap.size w w' ∧ OwnB w' w.heap.size A c (be8 n) := by
  go_enter Try.func79, Try.ntmps79
  go_wp2_with fail
  go_loopw [3, 4] (fun v3 v4 wr => ∃ (k : Nat) (A : Option Addr) (c : Nat), k ≤ 8 ∧ v3 = .slice A k c ∧ v4 = .int .i64 (56 - 8 * (k : Int)) ∧ Hid (OwnB wr w.heap.size A c ((be8 n).take k) ∧ Below w.heap.size w wr)) (fun _ v4 _ => (intOf v4 + 8).toNat)
  case atStart => exact ⟨0, none, 0, by omega, rfl, rfl, OwnB.nil _ _, Below.refl _ _⟩
  case round =>
    obtain ⟨k, A, c, hk, rfl, rfl, hV⟩ := hrel
    by_cases hlt : k < 8
    · have t' : decide ((0 : Int) ≤ 56 - 8 * (k : Int)) = true := by simp; omega
      have t2' : decide (8 * (k : Int) ≤ 56) = true := by simp; omega
      have i1 : (0 : Int) ≤ 56 - 8 * (k : Int) := by omega
      have i2 : 8 * (k : Int) ≤ 56 := by omega
      have e1 : ((56 : Int) - 8 * (k : Int)).toNat = 56 - 8 * k := by omega
      have m1 : IntKind.i64.wrap (56 - 8 * (k : Int) - 8) = 56 - 8 * ((k : Int) + 1) := by rw [show (56 : Int) - 8 * (k : Int) - 8 = 56 - 8 * ((k : Int) + 1) by omega]; exact IntWalk.i64_in _ (by omega)
      obtain ⟨y, hy⟩ : ∃ y, y = n / 2 ^ (56 - 8 * k) % 256 := ⟨_, rfl⟩
      have hy' : (n : Int) / 2 ^ (56 - 8 * k) % 256 = (y : Int) := by rw [hy]; simp
      have hE := hideP (show (be8 n).take k ++ [y] = (be8 n).take (k + 1) by rw [hy]; exact be8_succ n k hlt)
      have hl := hideP (show k = ((be8 n).take k).length by simp [be8]; omega)
      have hsz := hideP hV.out.2.size
      clear hy
      go_wp2_with (at_builtin; refine wpList_app1 rfl (.tmp 9) (.tmp 14) rfl w.heap.size A c k ((be8 n).take k) hl.out rfl hV.out.1 y rfl (by omega) hsz.out ?_; intro A3 c3 w3 hown3 hb3)
      rw [hE.out] at hown3
      have ho := hideP hown3
      have hb := hideP (hV.out.2.trans hb3)
      clear hV hown3 hb3
      go_roundw
      case rel => exact ⟨k + 1, A3, c3, by omega, rfl, by rw [show ((k + 1 : Nat) : Int) = (k : Int) + 1 by omega], ho.out, hb.out⟩
      case measure => simp [intOf]; omega
    · have t' : decide ((0 : Int) ≤ 56 - 8 * (k : Int)) = false := by simp; omega
      have t2' : decide (8 * (k : Int) ≤ 56) = false := by simp; omega
      have hk8 : k = 8 := by omega
      have ho := hideP hV.out.1
      have hb := hideP hV.out.2
      rw [hk8, show (be8 n).take 8 = be8 n from List.take_of_length_le (by simp [be8])] at ho
      clear hV hlt hk
      obtain ⟨K, hK⟩ : ∃ K, K = k := ⟨_, rfl⟩
      go_wp2_with fail
      go_ret
      exact ⟨A, c, by rw [hk8]; rfl, hb.out, ho.out⟩
end Go.Proofs.Ytjdbpeblbejllaa
