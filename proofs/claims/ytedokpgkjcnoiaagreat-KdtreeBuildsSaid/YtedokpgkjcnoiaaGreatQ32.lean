/- Rows of bytes of the call's own; eight bytes of a number; the sum of a text, in plain words. Contract of the document's With (chapter 1). -/
import Derived.IntWalk
import Derived.Deep.DeepCutAuto
import Derived.Test.YtedokpgkjcnoiaaGreatQ30
import Derived.Test.YtedokpgkjcnoiaaGreatQ31
set_option linter.unusedVariables false
set_option linter.unusedSimpArgs false
namespace Go.Proofs.YtedokpgkjcnoiaaGreat
open Go.RowKit
def b8 (x : Nat) : Value := .int .u8 (x : Nat)
theorem info_b8 : (Tryz.prog.info? 5).map (fun i => (i.zero, i.size, i.bytes)) = some (some (.int .u8 0), 1, 1) := by kernel_rfl
/-- a row of bytes of the call's own -/
def OwnB (w : World) (base : Nat) (A : Option Addr) (c : Nat) (l : List Nat) : Prop := w.ownsRow base 5 1 (.slice A l.length c) l.length (l.map b8)
theorem OwnB.arr {w : World} {base : Nat} {A : Option Addr} {c : Nat} {l : List Nat} (h : OwnB w base A c l) : Arr w w.heap.size A l.length (u8s l) :=
 Arr.of_own h fun i hi => by unfold u8s b8; simp [List.getD, List.getElem?_map, List.getElem?_eq_getElem hi]
theorem OwnB.ext {w W : World} {base : Nat} {A : Option Addr} {c : Nat} {l : List Nat} (h : OwnB w base A c l) (hW : Ext w W) : OwnB W base A c l := ownsRow_ext h hW
theorem OwnB.after {w W : World} {base : Nat} {A : Option Addr} {c : Nat} {l : List Nat} (h : OwnB w base A c l) (hW : Below w.heap.size w W) : OwnB W base A c l := h.ext (Ext.of_below hW)
theorem OwnB.nil (w : World) (base : Nat) : OwnB w base none 0 [] := World.ownsRow_nil w base _ _
theorem OwnB.lit0 (w : World) : OwnB (w.alloc (.cells #[] 5)) w.heap.size (some ⟨w.heap.size, 0, none⟩) 0 [] := World.ownsRow_lit w #[] 0 (Nat.le_refl _) (Nat.zero_le _) rfl
theorem OwnB.lit1 (w : World) (x : Nat) : OwnB (w.alloc (.cells #[b8 x] 5)) w.heap.size (some ⟨w.heap.size, 0, none⟩) 1 [x] := World.ownsRow_lit w #[b8 x] 1 (Nat.le_refl _) (by decide) rfl
theorem OwnB.at {w : World} {base : Nat} {A : Option Addr} {c : Nat} {l : List Nat} (h : OwnB w base A c l) (h0 : 0 < l.length) : ∃ g, A = some ⟨g, 0, none⟩ ∧ base ≤ g ∧ g < w.heap.size ∧ l.length ≤ c ∧ ∀ i, i < l.length → w.cell? ⟨g, i, none⟩ = some (b8 (l.getD i 0)) := by
 rcases h.2 with ⟨hv, h1⟩ | ⟨g, cap, cur, hv, hb, hh, hnc, hcm, hs, ht⟩
 ·omega
 ·injection hv with hA _ hc
  subst hA hc
  refine ⟨g, rfl, hb, (Array.getElem?_eq_some_iff.1 hh).1, hnc, fun i hi => ?_⟩
  rw [World.ownsRow.cellAt h i (by omega)]
  simp [List.getD, List.getElem?_eq_getElem hi]
theorem map_u8s (l : List Nat) : (List.range l.length).map (u8s l) = l.map b8 := by
 refine List.ext_getElem? fun i => ?_
 rcases Nat.lt_or_ge i l.length with h | h
 ·simp [List.getElem?_map, List.getElem?_range h, u8s, b8, List.getD, List.getElem?_eq_getElem h]
 ·simp [h]
/-- one byte more -/
theorem wpList_app1 {ops : Array Oper} {rest : List Oper} {o : Oper} {a : Act} {w : World} {Q : Exit → Act → World → Prop} (hgd : o.guard = none) (s x : Operand)
    (ho : o.op = .call { callee := .builtin .append, args := #[s, x], argTypes := #[42, 42] }) (base : Nat) (A : Option Addr) (c n : Nat) (l : List Nat) (hl : n = l.length) (hs : a.eval s = .slice A n c) (hown : OwnB w base A c l)
    (y : Nat) (hx : a.eval x = .slice (some ⟨w.heap.size, 0, none⟩) 1 1) (hn : n ≤ 140737488355000) (hbase : base ≤ w.heap.size)
    (h : ∀ A' c' w', OwnB w' base A' c' (l ++ [y]) → Below base w w' → wpList Tryz.prog ops Q rest (a.put o.dst (.slice A' (n + 1) c')) w') : wpList Tryz.prog ops Q (o :: rest) a (w.alloc (.cells #[b8 y] 5)) := by
  obtain ⟨i0, hi0, hz0, hz1, hz2⟩ := info_parts info_b8
  subst hl
  refine wpList_append_cells w hgd s x 42 ho base 5 i0 _ 1 1 Tryz.underlying42 hi0 hz0 hz1 hz2 rfl (by decide) (.slice A l.length c) l.length (l.map b8) hs hown #[b8 y] 1 hx rfl (by simp [b8, Value.oneCell']) (by omega) (by unfold maxLen; omega) (by omega) hbase ?_
  intro g c3 w3 hown3 hg3 hat3
  refine h _ _ w3 ?_ (below_own hown hg3 (Nat.le_refl _) hbase)
  unfold OwnB
  rw [List.length_append, List.map_append]
  exact hown3
/-- the bytes of a slice more -/
theorem wpList_appn {ops : Array Oper} {rest : List Oper} {o : Oper} {a : Act} {w : World} {Q : Exit → Act → World → Prop} (hgd : o.guard = none) (s x : Operand)
    (ho : o.op = .call { callee := .builtin .append, args := #[s, x], argTypes := #[42, 42] }) (base : Nat) (A : Option Addr) (c n : Nat) (l : List Nat) (hl : n = l.length) (hs : a.eval s = .slice A n c) (hown : OwnB w base A c l)
    (B : Nat) (X : Option Addr) (m d : Nat) (k : List Nat) (hk : m = k.length) (hx : a.eval x = .slice X m d) (hX : Arr w B X m (u8s k)) (hn : n + m ≤ 140737488355000) (hbase : base ≤ w.heap.size)
    (h : ∀ A' c' w', OwnB w' base A' c' (l ++ k) → Below base w w' → wpList Tryz.prog ops Q rest (a.put o.dst (.slice A' (n + m) c')) w') : wpList Tryz.prog ops Q (o :: rest) a w := by
  obtain ⟨i0, hi0, hz0, hz1, hz2⟩ := info_parts info_b8
  subst hl hk
  refine wpList_append_arr w hgd s x 42 ho base 5 i0 _ 1 Tryz.underlying42 hi0 hz0 hz1 hz2 rfl (.slice A l.length c) l.length (l.map b8) hs hown B X k.length d (u8s k) hx hX (fun _ => rfl) (by unfold maxLen; omega) (by omega) hbase ?_
  intro A3 c3 w3 hown3 hg3 hat3
  refine h _ _ w3 ?_ (below_own hown hg3 (Nat.le_refl _) hbase)
  unfold OwnB
  rw [List.length_append, List.map_append, ← map_u8s k]
  exact hown3
/-- eight bytes of a number, the highest first -/
def be8 (n : Nat) : List Nat := (List.range 8).map fun i => n / 2 ^ (56 - 8 * i) % 256
theorem be8_succ (n k : Nat) (hk : k < 8) : (be8 n).take k ++ [n / 2 ^ (56 - 8 * k) % 256] = (be8 n).take (k + 1) := by
 rw [List.take_succ_eq_append_getElem (by simp [be8]; exact hk)]
 simp [be8]
theorem isB_be8 (n : Nat) : IsB (be8 n) := fun i => by
 unfold be8
 rcases Nat.lt_or_ge i 8 with h | h
 ·simp [List.getD, List.getElem?_map, List.getElem?_range h]; omega
 ·rw [getD_out _ _ _ (by simp; exact h)]; omega
/-- a text, filled up to whole blocks -/
def zeros (n : Nat) : Nat := (119 - n % 64) % 64
def padl (b : List Nat) : List Nat := b ++ [128] ++ List.replicate (zeros b.length) 0 ++ be8 (8 * b.length)
theorem padl_len (b : List Nat) : (padl b).length % 64 = 0 ∧ (padl b).length = b.length + 9 + zeros b.length := by
 unfold padl zeros
 simp [be8]
 omega
def blk (l : List Nat) (i : Nat) : List Nat := (l.drop (64 * i)).take 64
def compN (h : List UInt32) (l : List Nat) : Nat → List UInt32
 | 0 => h
 | i + 1 => turnS (compN h l i) (blk l i)
def sumW (b : List Nat) : List UInt32 := compN h0 (padl b) ((padl b).length / 64)
theorem turnS_len (h : List UInt32) (b : List Nat) : (turnS h b).length = 8 := by simp [turnS]
theorem compN_len (h : List UInt32) (l : List Nat) (hh : h.length = 8) : ∀ i, (compN h l i).length = 8
 | 0 => hh
 | i + 1 => turnS_len _ _
/-- 32 bytes of eight words -/
def dig (h : List UInt32) : List Nat := (List.range 32).map fun i => (h.getD (i / 4) 0).toNat / 2 ^ (24 - 8 * (i % 4)) % 256
theorem blk_get (l : List Nat) (i j : Nat) (hj : j < 64) : (blk l i).getD j 0 = l.getD (64 * i + j) 0 := by
 unfold blk List.getD
 rw [List.getElem?_take, if_pos hj, List.getElem?_drop]
theorem isB_blk {l : List Nat} (h : IsB l) (i : Nat) : IsB (blk l i) := fun j => by
 rcases Nat.lt_or_ge j 64 with hj | hj
 ·rw [blk_get _ _ _ hj]; exact h _
 ·rw [getD_out _ _ _ (by unfold blk; simp; omega)]; omega
theorem isB_append {x y : List Nat} (hx : IsB x) (hy : IsB y) : IsB (x ++ y) := fun i => by
 unfold List.getD
 rw [List.getElem?_append]
 split
 ·exact hx i
 ·exact hy _
theorem isB_padl {b : List Nat} (h : IsB b) : IsB (padl b) := by
 unfold padl
 refine isB_append (isB_append (isB_append h fun i => ?_) fun i => ?_) (isB_be8 _)
 ·cases i with
  | zero => decide
  | succ i => rw [getD_out _ _ _ (by simp)]; omega
 ·unfold List.getD; rw [List.getElem?_replicate]; split <;> simp
set_option maxRecDepth 100000 in
set_option maxHeartbeats 1000000 in
theorem eight_any (n : Nat) (hn : n < 18446744073709551616) (w : World) :
    Calls Tryz.prog 156 #[.int .u64 n] w fun e w' => ∃ A c, e = .returned (.slice A 8 c) ∧ Below w.heap.size w w' ∧ OwnB w' w.heap.size A c (be8 n) := by
  go_enter Tryz.func156, Tryz.ntmps156
  go_wp2_with fail
  go_loopw [3, 4] (fun v3 v4 wr => ∃ (k : Nat) (A : Option Addr) (c : Nat), k ≤ 8 ∧ v3 = .slice A k c ∧ v4 = .int .i64 (56 - 8 * (k : Int)) ∧ Hid (OwnB wr w.heap.size A c ((be8 n).take k) ∧ Below w.heap.size w wr)) (fun _ v4 _ => (intOf v4 + 8).toNat)
  case atStart => exact ⟨0, none, 0, by omega, rfl, rfl, OwnB.nil _ _, Below.refl _ _⟩
  case round =>
    obtain ⟨k, A, c, hk, rfl, rfl, hV⟩ := hrel
    by_cases hlt : k < 8
    · have t' : decide ((0 : Int) ≤ 56 - 8 * (k : Int)) = true := by simp; omega
      have t2' : decide (8 * (k : Int) ≤ 56) = true := by simp; omega
      have i1 : (0 : Int) ≤ 56 - 8 * (k : Int) := by omega
      have i2 : 8 * (k : Int) ≤ 56 := by omega
      have e1 : ((56 : Int) - 8 * (k : Int)).toNat = 56 - 8 * k := by omega
      have m1 : IntKind.i64.wrap (56 - 8 * (k : Int) - 8) = 56 - 8 * ((k : Int) + 1) := by rw [show (56 : Int) - 8 * (k : Int) - 8 = 56 - 8 * ((k : Int) + 1) by omega]; exact IntWalk.i64_in _ (by omega)
      obtain ⟨y, hy⟩ : ∃ y, y = n / 2 ^ (56 - 8 * k) % 256 := ⟨_, rfl⟩
      have hy' : (n : Int) / 2 ^ (56 - 8 * k) % 256 = (y : Int) := by rw [hy]; simp
      have hE := hideP (show (be8 n).take k ++ [y] = (be8 n).take (k + 1) by rw [hy]; exact be8_succ n k hlt)
      have hl := hideP (show k = ((be8 n).take k).length by simp [be8]; omega)
      have hsz := hideP hV.out.2.size
      clear hy
      go_wp2_with (at_builtin; refine wpList_app1 rfl (.tmp 9) (.tmp 14) rfl w.heap.size A c k ((be8 n).take k) hl.out rfl hV.out.1 y rfl (by omega) hsz.out ?_; intro A3 c3 w3 hown3 hb3)
      rw [hE.out] at hown3
      have ho := hideP hown3
      have hb := hideP (hV.out.2.trans hb3)
      clear hV hown3 hb3
      go_roundw
      case rel => exact ⟨k + 1, A3, c3, by omega, rfl, by rw [show ((k + 1 : Nat) : Int) = (k : Int) + 1 by omega], ho.out, hb.out⟩
      case measure => simp [intOf]; omega
    · have t' : decide ((0 : Int) ≤ 56 - 8 * (k : Int)) = false := by simp; omega
      have t2' : decide (8 * (k : Int) ≤ 56) = false := by simp; omega
      have hk8 : k = 8 := by omega
      have ho := hideP hV.out.1
      have hb := hideP hV.out.2
      rw [hk8, show (be8 n).take 8 = be8 n from List.take_of_length_le (by simp [be8])] at ho
      clear hV hlt hk
      obtain ⟨K, hK⟩ : ∃ K, K = k := ⟨_, rfl⟩
      go_wp2_with fail
      go_ret
      exact ⟨A, c, by rw [hk8]; rfl, hb.out, ho.out⟩
end Go.Proofs.YtedokpgkjcnoiaaGreat
namespace Go.Proofs.YtedokpgkjcnoiaaGreat
open Go.RowKit
/-- 32 bytes, none set -/
def z32 : List Value := List.replicate 32 (.int .u8 0)
theorem size_dig : (Tryz.prog.info? 32).map (·.size) = some 32 := by kernel_rfl
theorem all_b8 (l : List Nat) : ((l.map b8).toArray).all (·.oneCell') = true := by
 rw [Array.all_eq_true_iff_forall_mem]
 intro v hv
 simp at hv
 obtain ⟨x, _, rfl⟩ := hv
 rfl
theorem zeros_step (n j : Nat) (hj : j ≤ zeros n) : ((n + 1 + j) % 64 = 56 ↔ j = zeros n) := by unfold zeros at *; omega
set_option maxRecDepth 100000 in
set_option maxHeartbeats 4000000 in
theorem with_any (A AK : Option Addr) (t : List Nat) (c cK : Nat) (w : World) (hA : Arr w w.heap.size A t.length (u8s t)) (ht : IsB t) (hn : t.length ≤ 1000000000) (hK : Arr w w.heap.size AK 64 (u32s kk)) :
    Calls Tryz.prog 134 #[.slice A t.length c, .slice AK 64 cK] w fun e w' => e = .returned (.agg ((dig (sumW t)).map b8).toArray) ∧ Below w.heap.size w w' := by
  obtain ⟨T, hT⟩ : ∃ T, T = t.length := ⟨_, rfl⟩
  rw [← hT] at hA hn ⊢
  have HhA := hideP hA; have Hht := hideP ht; have HhK := hideP hK; have HhT := hideP hT; clear hA ht hK hT
  go_enter Tryz.func134, Tryz.ntmps134
  go_upto_region 1 with fail
  obtain ⟨w1, hw1⟩ : ∃ w1, w1 = w.alloc (Obj.cells #[.int .u8 0, .int .u8 0, .int .u8 0, .int .u8 0, .int .u8 0, .int .u8 0, .int .u8 0, .int .u8 0, .int .u8 0, .int .u8 0, .int .u8 0, .int .u8 0, .int .u8 0, .int .u8 0, .int .u8 0, .int .u8 0, .int .u8 0, .int .u8 0, .int .u8 0, .int .u8 0, .int .u8 0, .int .u8 0, .int .u8 0, .int .u8 0, .int .u8 0, .int .u8 0, .int .u8 0, .int .u8 0, .int .u8 0, .int .u8 0, .int .u8 0, .int .u8 0] 32) := ⟨_, rfl⟩
  have c1 := hideP (show Row w1 w.heap.size 32 z32 by rw [hw1]; exact Row.new w _ z32)
  have cb := hideP (show Below w.heap.size w w1 by rw [hw1]; exact below_new _ _)
  rw [← hw1]
  clear hw1
  have a1 := hideP ((HhA.out.after cb.out).after (below_new w1 (Obj.cells #[] 5)))
  have o1 := hideP (OwnB.lit0 w1)
  have s1 := hideP (show w1.heap.size ≤ (w1.alloc (Obj.cells #[] 5)).heap.size by simp)
  go_wp2_with (first
    | (at_builtin; refine wpList_appn rfl (.tmp 12) (.tmp 13) rfl w1.heap.size (some ⟨w1.heap.size, 0, none⟩) 0 0 [] rfl rfl o1.out _ A T c t HhT.out rfl a1.out (by omega) s1.out ?_; intro A2 c2 w2 o2 b2; have s2 : w1.heap.size ≤ w2.heap.size := Nat.le_trans s1.out (Nat.le_trans (by simp) b2.size))
    | (at_builtin; refine wpList_app1 rfl (.tmp 14) (.tmp 15) rfl w1.heap.size A2 c2 T t HhT.out rfl o2 128 rfl (by omega) s2 ?_; intro A3 c3 w3 o3 b3))
  have o4 := hideP o3
  obtain ⟨B, hB⟩ : ∃ B, B = w1.heap.size := ⟨_, rfl⟩
  rw [← hB] at o4 b2 b3 s2 s1
  have bB : Below B w1 w3 := (((Below.refl _ _).alloc (Nat.le_of_eq hB) _).trans b2).trans b3
  have hwB := hideP (show w.heap.size < B by rw [hB]; exact Row.lt c1.out)
  replace c1 := hideP (Row.below c1.out bB hwB.out)
  replace cb := hideP (cb.out.trans (bB.mono (Nat.le_of_lt hwB.out)))
  have s3 := hideP (Nat.le_trans s2 b3.size)
  clear a1 o1 s1 o2 b2 o3 b3 s2 bB hB
  go_loopw [5] (fun v5 wr => ∃ (j : Nat) (A3 : Option Addr) (c3 : Nat), j ≤ zeros T ∧ v5 = .slice A3 (T + 1 + j) c3 ∧ Hid (OwnB wr B A3 c3 (t ++ [128] ++ List.replicate j 0) ∧ Row wr w.heap.size 32 z32 ∧ Below w.heap.size w wr ∧ B ≤ wr.heap.size)) (fun v5 _ => match v5 with | .slice _ n _ => T + 1 + zeros T - n | _ => 0)
  case atStart => exact ⟨0, A3, c3, by omega, rfl, by simpa using o4.out, c1.out, cb.out, s3.out⟩
  case round =>
    obtain ⟨j, A3, c3, hj, rfl, hV⟩ := hrel
    clear c1 cb o4 s3
    have hz : zeros T < 64 := by unfold zeros; omega
    have hst := zeros_step T j hj
    by_cases hlt : j < zeros T
    · have e1 : ¬ (T + 1 + j) % 64 = 56 := fun h => by have := hst.1 h; omega
      have e2 : ((((T + 1 + j : Nat) : Int) % 64) != 56) = true := by simp; omega
      have e3 : (((T : Int) + 1 + (j : Int)) % 64 != 56) = true := by simp; omega
      have e4 : (((T : Int) + 1 + (j : Int)).tmod 64 != 56) = true := by rw [Int.tmod_eq_emod_of_nonneg (by omega)]; exact e3
      have i1 : (0 : Int) ≤ (T : Int) + 1 + (j : Int) := by omega
      have hl := hideP (show T + 1 + j = (t ++ [128] ++ List.replicate j 0).length by simp [HhT.out]; omega)
      clear hst
      go_wp2_with (at_builtin; refine wpList_app1 rfl (.tmp 21) (.tmp 22) rfl B A3 c3 (T + 1 + j) (t ++ [128] ++ List.replicate j 0) hl.out rfl hV.out.1 0 rfl (by omega) hV.out.2.2.2 ?_; intro A4 c4 w4 o4 b4)
      have o5 := hideP (show OwnB w4 B A4 c4 (t ++ [128] ++ List.replicate (j + 1) 0) by rw [List.replicate_succ', ← List.append_assoc]; exact o4)
      have c1 := hideP (Row.below hV.out.2.1 b4 hwB.out)
      have cb := hideP (hV.out.2.2.1.trans (b4.mono (Nat.le_of_lt hwB.out)))
      have s3 := hideP (Nat.le_trans hV.out.2.2.2 b4.size)
      clear hV o4 b4 e1 e2 e3 e4
      go_roundw
      case rel => exact ⟨j + 1, A4, c4, by omega, rfl, o5.out, c1.out, cb.out, s3.out⟩
      case measure => simp; omega
    · have hjz : j = zeros T := by omega
      have e1 : (T + 1 + j) % 64 = 56 := hst.2 hjz
      have e3 : (((T : Int) + 1 + (j : Int)) % 64 != 56) = false := by simp; omega
      have e4 : (((T : Int) + 1 + (j : Int)).tmod 64 != 56) = false := by rw [Int.tmod_eq_emod_of_nonneg (by omega)]; exact e3
      have i1 : (0 : Int) ≤ (T : Int) + 1 + (j : Int) := by omega
      have hj64 : j < 64 := by omega
      obtain ⟨N, hN⟩ : ∃ N, N = 8 * T := ⟨_, rfl⟩
      have eN : IntKind.u64.wrap (8 * (T : Int)) = (N : Int) := by rw [IntKind.wrap_u64, hN]; omega
      have eT : IntKind.u64.wrap (T : Int) = (T : Int) := by rw [IntKind.wrap_u64]; omega
      obtain ⟨M, hM⟩ : ∃ M, M = T + 1 + j := ⟨_, rfl⟩
      obtain ⟨pre, hp⟩ : ∃ pre, pre = t ++ [128] ++ List.replicate j 0 := ⟨_, rfl⟩
      have hpl : pre.length = M := by rw [hp, hM]; simp [HhT.out]; omega
      rw [← hp] at hV
      have hpad := hideP (show pre ++ be8 N = padl t by unfold padl; rw [hp, hN, hjz, HhT.out])
      have hMl : M ≤ 1000001000 := by omega
      have hN64 : N < 18446744073709551616 := by omega
      have o4 := hideP hV.out.1
      have c1 := hideP hV.out.2.1
      have cb := hideP hV.out.2.2.1
      have s3 := hideP hV.out.2.2.2
      have hMI : (T : Int) + 1 + (j : Int) = (M : Int) := by omega
      rw [← hM]
      rw [hMI] at e3 e4
      clear hV hst hz hlt hj e1 i1 hj64 hMI
      have HM := hideP hM
      have HPL := hideP hpl
      have HN := hideP hN
      clear hM hpl hN hp hjz
      have i1 : (0 : Int) ≤ (M : Int) := by omega
      go_wp2_with fail
      go_loopw [5, 7] (fun v5 v7 wr => ∃ (k : Nat) (A3 : Option Addr) (c3 : Nat), k ≤ 8 ∧ v5 = .slice A3 (M + k) c3 ∧ v7 = .int .i64 k ∧ Hid (OwnB wr B A3 c3 (pre ++ (be8 N).take k) ∧ Row wr w.heap.size 32 z32 ∧ Below w.heap.size w wr ∧ B ≤ wr.heap.size)) (fun _ v7 _ => 8 - (intOf v7).toNat)
      case atStart => exact ⟨0, A3, c3, by omega, rfl, rfl, by simpa using o4.out, c1.out, cb.out, s3.out⟩
      case round =>
        clear o4 c1 cb s3 e3 e4 eN eT
        obtain ⟨k, A4, c4, hk, rfl, rfl, hV⟩ := hrel
        by_cases hlt : k < 8
        · have t' : decide ((k : Int) < 8) = true := by simp; omega
          have i2 : (0 : Int) ≤ 56 - 8 * (k : Int) := by omega
          have i3 : 8 * (k : Int) ≤ 56 := by omega
          have i4 : (0 : Int) ≤ 8 * (k : Int) := by omega
          have e1 : ((56 : Int) - 8 * (k : Int)).toNat = 56 - 8 * k := by omega
          have m1 : IntKind.u64.wrap (56 - 8 * (k : Int)) = 56 - 8 * (k : Int) := by rw [IntKind.wrap_u64]; omega
          obtain ⟨y, hy⟩ : ∃ y, y = N / 2 ^ (56 - 8 * k) % 256 := ⟨_, rfl⟩
          have hy' : ((N : Int) / 2 ^ (56 - 8 * k)).tmod 256 % 256 = (y : Int) := by
            obtain ⟨q, hq⟩ : ∃ q, q = N / 2 ^ (56 - 8 * k) := ⟨_, rfl⟩
            have hq2 : (N : Int) / 2 ^ (56 - 8 * k) = (q : Int) := by rw [hq]; simp
            rw [← hq] at hy
            rw [hq2, Int.tmod_eq_emod_of_nonneg (by omega), hy]; omega
          have hE := hideP (show (be8 N).take k ++ [y] = (be8 N).take (k + 1) by rw [hy]; exact be8_succ N k hlt)
          have hl := hideP (show M + k = (pre ++ (be8 N).take k).length by rw [List.length_append, HPL.out]; simp [be8]; omega)
          have hyy := hideP hy
          clear hy
          go_wp2_with (at_builtin; refine wpList_app1 rfl (.tmp 32) (.tmp 41) rfl B A4 c4 (M + k) (pre ++ (be8 N).take k) hl.out rfl hV.out.1 y rfl (by omega) hV.out.2.2.2 ?_; intro A5 c5 w5 o5 b5)
          have o6 := hideP (show OwnB w5 B A5 c5 (pre ++ (be8 N).take (k + 1)) by rw [← hE.out, ← List.append_assoc]; exact o5)
          have c1 := hideP (Row.below hV.out.2.1 b5 hwB.out)
          have cb := hideP (hV.out.2.2.1.trans (b5.mono (Nat.le_of_lt hwB.out)))
          have s3 := hideP (Nat.le_trans hV.out.2.2.2 b5.size)
          clear hV o5 b5 hy' m1
          go_roundw
          case rel => exact ⟨k + 1, A5, c5, by omega, rfl, by go_num, o6.out, c1.out, cb.out, s3.out⟩
          case measure => simp [intOf]; omega
        · have t' : decide ((k : Int) < 8) = false := by simp; omega
          have hk8 : k = 8 := by omega
          have o4 := hideP (show OwnB wr B A4 c4 (padl t) by have := hV.out.1; rwa [hk8, show (be8 N).take 8 = be8 N from List.take_of_length_le (by simp [be8]), hpad.out] at this)
          have c1 := hideP hV.out.2.1
          have cb := hideP hV.out.2.2.1
          obtain ⟨L, hL⟩ : ∃ L, L = M + k := ⟨_, rfl⟩
          have hLp := hideP (show L = (padl t).length by rw [hL, hk8, ← hpad.out, List.length_append, HPL.out]; simp [be8])
          rw [← hL]
          clear hV hk8 hlt hk hL
          obtain ⟨g, rfl, hgB, hgl, hcap, hcell⟩ := o4.out.at (by rw [← hLp.out]; have := HM.out; have := (padl_len t).2; rw [← hLp.out] at this; omega)
          have hL64 := hideP (show L % 64 = 0 by rw [hLp.out]; exact (padl_len t).1)
          rw [← hLp.out] at hcap
          have hcell' := hideP (show ∀ i, i < L → wr.cell? ⟨g, i, none⟩ = some (b8 ((padl t).getD i 0)) by rw [hLp.out]; exact hcell)
          have hgB' := hideP hgB
          have hgl' := hideP hgl
          have hLs : L ≤ 1000002000 := by rw [hLp.out, (padl_len t).2]; have := HhT.out; unfold zeros; omega
          have hib := hideP (isB_padl Hht.out)
          clear o4 hcell hgB hgl hpad
          obtain ⟨w5, hw5⟩ : ∃ w5, w5 = wr := ⟨_, rfl⟩
          rw [← hw5] at hcell' c1 cb hgl' ⊢
          clear hw5
          have dh := hideP (Pre32.of_row (l := h0) (Row.new w5 141 (h0.map v32)))
          have hcg := hideP (fun i (hi : i < L) => (cell_below (below_new w5 (Obj.cells (h0.map v32).toArray 141)) (a := ⟨g, i, none⟩) hgl'.out (hcell'.out i hi)))
          replace c1 := hideP (Row.alloc c1.out (Obj.cells (h0.map v32).toArray 141))
          have lth := hideP (show w.heap.size < w5.heap.size from Nat.lt_of_lt_of_le hwB.out (Nat.le_trans hgB'.out (Nat.le_of_lt hgl'.out)))
          replace cb := hideP (cb.out.alloc (Nat.le_of_lt lth.out) (Obj.cells (h0.map v32).toArray 141))
          have hgl2 := hideP (show g < (w5.alloc (Obj.cells (h0.map v32).toArray 141)).heap.size by have := hgl'.out; simp; omega)
          clear hcell' hgl' hgB'
          go_wp2_with fail
          have eh := show (#[.int .u32 1779033703, .int .u32 3144134277, .int .u32 1013904242, .int .u32 2773480762, .int .u32 1359893119, .int .u32 2600822924, .int .u32 528734635, .int .u32 1541459225] : Array Value) = (h0.map v32).toArray by kernel_rfl
          rw [eh]
          clear eh
          obtain ⟨w6, hw6⟩ : ∃ w6, w6 = w5.alloc (Obj.cells (h0.map v32).toArray 141) := ⟨_, rfl⟩
          rw [← hw6] at dh hcg c1 cb hgl2 ⊢
          clear hw6
          go_loopw [8, 9] (fun v8 v9 wr => ∃ (i gh ch : Nat) (h : List UInt32), 64 * i ≤ L ∧ v8 = .slice (some ⟨gh, 0, none⟩) 8 ch ∧ v9 = .int .i64 (64 * (i : Int)) ∧ Hid (h = compN h0 (padl t) i ∧ h.length = 8 ∧ Pre32 wr gh 141 h ∧ Row wr w.heap.size 32 z32 ∧ Below w.heap.size w wr ∧ (∀ i, i < L → wr.cell? ⟨g, i, none⟩ = some (b8 ((padl t).getD i 0))) ∧ g < wr.heap.size)) (fun _ v9 _ => L - (intOf v9).toNat)
          case atStart => exact ⟨0, w5.heap.size, 8, h0, by omega, rfl, rfl, rfl, rfl, dh.out, c1.out, cb.out, hcg.out, hgl2.out⟩
          case round =>
            clear dh c1 cb hcg hgl2
            obtain ⟨i, gh, ch, h, hi, rfl, rfl, hV⟩ := hrel
            by_cases hlt : 64 * i < L
            · have t2' : decide (64 * (i : Int) < (L : Int)) = true := by simp; omega
              have hi64 : 64 * i + 64 ≤ L := by have := hL64.out; omega
              have i2 : (0 : Int) ≤ 64 * (i : Int) := by omega
              have i3 : 64 * (i : Int) + 64 ≤ (c4 : Int) := by omega
              have i4 : (0 : Int) ≤ 64 * (i : Int) + 64 := by omega
              have i5 : 64 * (i : Int) ≤ 64 * (i : Int) + 64 := by omega
              have i6 : ¬ c4 = 64 * i := by omega
              have m1 : IntKind.i64.wrap (64 * (i : Int) + 64) = 64 * (i : Int) + 64 := IntWalk.i64_in _ (by omega)
              have e1 : (64 * (i : Int)).toNat = 64 * i := by omega
              have e2 : (64 * (i : Int) + 64).toNat = 64 * i + 64 := by omega
              have hH := hideP (hV.out.2.2.1.arr 8 (by rw [hV.out.2.1]; omega))
              have hhl := hideP hV.out.2.1
              have hB := hideP (show ∀ W, W = wr → Arr W W.heap.size (some ⟨g, 64 * i, none⟩) 64 (u8s (blk (padl t) i)) from fun W hW _ => by
                subst hW
                exact ⟨g, 64 * i, rfl, hV.out.2.2.2.2.2.2, fun j hj => by rw [hV.out.2.2.2.2.2.1 _ (by omega)]; unfold u8s b8; rw [blk_get _ _ _ hj]⟩)
              have hbb := hideP (isB_blk hib.out i)
              have hKw := hideP (HhK.out.after hV.out.2.2.2.2.1)
              have hN := hideP (show turnS h (blk (padl t) i) = compN h0 (padl t) (i + 1) by rw [hV.out.1]; rfl)
              go_wp2_with (go_at_call 151; refine (rturn_any h hhl.out _ _ _ (blk (padl t) i) _ _ _ _ hH.out (hB.out _ rfl) hKw.out hbb.out).mono ?_; rintro e w7 ⟨g7, c7, rfl, hb7, hg7, h7⟩)
              go_roundw
              case rel => exact ⟨i + 1, g7, c7, compN h0 (padl t) (i + 1), by omega, rfl, by rw [show 64 * ((i + 1 : Nat) : Int) = 64 * (i : Int) + 64 by omega], rfl, by rw [← hN.out]; exact turnS_len _ _, by rw [← hN.out]; exact h7, hV.out.2.2.2.1.after hb7, hV.out.2.2.2.2.1.trans (hb7.mono hV.out.2.2.2.2.1.size), fun j hj => cell_below hb7 (a := ⟨g, j, none⟩) hV.out.2.2.2.2.2.2 (hV.out.2.2.2.2.2.1 j hj), Nat.lt_of_lt_of_le hV.out.2.2.2.2.2.2 hb7.size⟩
              case measure => simp [intOf]; omega
            · have t2' : decide (64 * (i : Int) < (L : Int)) = false := by simp; omega
              have hiL : i = (padl t).length / 64 := by rw [← hLp.out]; omega
              have hS := hideP (show h = sumW t by rw [hV.out.1, hiL]; rfl)
              have hhl := hideP hV.out.2.1
              have dh := hideP hV.out.2.2.1
              have c1 := hideP hV.out.2.2.2.1
              have cb := hideP hV.out.2.2.2.2.1
              clear hV hiL hi hlt
              go_wp2_with fail
              obtain ⟨w8, hw8⟩ : ∃ w8, w8 = wr := ⟨_, rfl⟩
              rw [← hw8] at dh c1 cb ⊢
              clear hw8
              have hz := hideP (show z32 = (List.replicate 32 0).map b8 by unfold z32; rw [List.map_replicate]; rfl)
              have dd := hideP (show Row (w8.alloc (Obj.cells z32.toArray 32)) w8.heap.size 32 ((List.replicate 32 0).map b8) by rw [← hz.out]; exact Row.new _ _ _)
              have ltd := hideP (show w.heap.size < w8.heap.size from Row.lt c1.out)
              have gne := hideP (show gh ≠ w8.heap.size from Nat.ne_of_lt dh.out.lt)
              replace dh := hideP (dh.out.after (below_new w8 (Obj.cells z32.toArray 32)))
              replace c1 := hideP (Row.alloc c1.out (Obj.cells z32.toArray 32))
              replace cb := hideP (cb.out.alloc (Nat.le_of_lt ltd.out) (Obj.cells z32.toArray 32))
              obtain ⟨w9, hw9⟩ : ∃ w9, w9 = w8.alloc (Obj.cells z32.toArray 32) := ⟨_, rfl⟩
              rw [← hw9] at dd dh c1 cb
              have hw9' : w8.alloc (Obj.cells #[.int .u8 0, .int .u8 0, .int .u8 0, .int .u8 0, .int .u8 0, .int .u8 0, .int .u8 0, .int .u8 0, .int .u8 0, .int .u8 0, .int .u8 0, .int .u8 0, .int .u8 0, .int .u8 0, .int .u8 0, .int .u8 0, .int .u8 0, .int .u8 0, .int .u8 0, .int .u8 0, .int .u8 0, .int .u8 0, .int .u8 0, .int .u8 0, .int .u8 0, .int .u8 0, .int .u8 0, .int .u8 0, .int .u8 0, .int .u8 0, .int .u8 0, .int .u8 0] 32) = w9 := by rw [hw9]; rfl
              rw [hw9']
              clear hw9 hw9'
              obtain ⟨D, hD⟩ : ∃ D, D = w8.heap.size := ⟨_, rfl⟩
              rw [← hD] at dd ltd gne ⊢
              clear hD
              go_loopw [11] (fun v11 wr => ∃ (j : Nat) (l : List Nat), j ≤ 32 ∧ v11 = .int .i64 j ∧ Hid (l.length = 32 ∧ (∀ i, l.getD i 0 = if i < j then (dig h).getD i 0 else 0) ∧ Row wr D 32 (l.map b8) ∧ Pre32 wr gh 141 h ∧ Row wr w.heap.size 32 z32 ∧ Below w.heap.size w wr)) (fun v11 _ => 32 - (intOf v11).toNat)
              case atStart => exact ⟨0, List.replicate 32 0, by omega, rfl, rfl, fun i => by unfold List.getD; rw [List.getElem?_replicate]; split <;> simp, dd.out, dh.out, c1.out, cb.out⟩
              case round =>
                clear dd dh c1 cb
                obtain ⟨j, l, hj, rfl, hV⟩ := hrel
                by_cases hlt : j < 32
                · have t3' : decide ((j : Int) < 32) = true := by simp; omega
                  obtain ⟨q, hq⟩ : ∃ q, q = j / 4 := ⟨_, rfl⟩
                  obtain ⟨r, hr⟩ : ∃ r, r = j % 4 := ⟨_, rfl⟩
                  have q1 : (j : Int) / 4 = (q : Int) := by omega
                  have q2 : (j : Int).tdiv 4 = (q : Int) := by rw [Int.tdiv_eq_ediv_of_nonneg (by omega)]; omega
                  have r1 : (j : Int) % 4 = (r : Int) := by omega
                  have r2 : (j : Int).tmod 4 = (r : Int) := by rw [Int.tmod_eq_emod_of_nonneg (by omega)]; omega
                  have q8 : (q : Int) < 8 := by omega
                  have q0 : (0 : Int) ≤ (q : Int) := by omega
                  have j0 : (0 : Int) ≤ (j : Int) := by omega
                  have j32 : (j : Int) < 32 := by omega
                  have i2 : (0 : Int) ≤ 24 - 8 * (r : Int) := by omega
                  have i3 : 8 * (r : Int) ≤ 24 := by omega
                  have i4 : (0 : Int) ≤ 8 * (r : Int) := by omega
                  have e1 : ((24 : Int) - 8 * (r : Int)).toNat = 24 - 8 * r := by omega
                  have m0 : IntKind.i64.wrap (8 * (r : Int)) = 8 * (r : Int) := IntWalk.i64_in _ (by omega)
                  have m2 : IntKind.i64.wrap (24 - 8 * (r : Int)) = 24 - 8 * (r : Int) := IntWalk.i64_in _ (by omega)
                  have m1 : IntKind.u64.wrap (24 - 8 * (r : Int)) = 24 - 8 * (r : Int) := by rw [IntKind.wrap_u64]; omega
                  have kx := hV.out.2.2.2.1.cell q (by rw [hhl.out]; omega)
                  unfold v32 at kx
                  obtain ⟨X, hX⟩ : ∃ X, X = (h.getD q 0).toNat := ⟨_, rfl⟩
                  rw [show n32 (h.getD q 0) = (X : Int) by rw [hX]; rfl] at kx
                  have hX32 : X < 4294967296 := by rw [hX]; exact UInt32.toNat_lt _
                  obtain ⟨y, hy⟩ : ∃ y, y = X / 2 ^ (24 - 8 * r) % 256 := ⟨_, rfl⟩
                  have hyd := hideP (show y = (dig h).getD j 0 by
                    rw [hy, hX, hq, hr]; unfold dig; simp [List.getD, List.getElem?_map, List.getElem?_range hlt])
                  have hXq : X / 2 ^ (24 - 8 * r) < 4294967296 := Nat.lt_of_le_of_lt (Nat.div_le_self _ _) hX32
                  obtain ⟨Z, hZ⟩ : ∃ Z, Z = X / 2 ^ (24 - 8 * r) := ⟨_, rfl⟩
                  have hZ1 : (X : Int) / 2 ^ (24 - 8 * r) = (Z : Int) := by rw [hZ]; simp
                  have hZ2 : (X : Int).tdiv (2 ^ (24 - 8 * r)) = (Z : Int) := by rw [Int.tdiv_eq_ediv_of_nonneg (by omega)]; exact hZ1
                  rw [← hZ] at hy hXq
                  have hz0 : (Z : Int).tmod 256 = (y : Int) := by rw [Int.tmod_eq_emod_of_nonneg (by omega), hy]; omega
                  have hz1 : (Z : Int) % 256 = (y : Int) := by rw [hy]; omega
                  have hy2 : y < 256 := by rw [hy]; omega
                  have hs1 : wr.cell? ⟨D, j, none⟩ = some (b8 (l.getD j 0)) := by
                    have hjl : j < l.length := by rw [hV.out.1]; exact hlt
                    rw [Row.cell hV.out.2.2.1 j]
                    simp [List.getD, List.getElem?_eq_getElem hjl]
                  have hs2 := Row.fz hV.out.2.2.1 j
                  have C2 := hideP (Row.set hV.out.2.2.1 j (b8 y))
                  have dh := hideP (hV.out.2.2.2.1.setOther (a := ⟨D, j, none⟩) gne.out (b8 y))
                  have c1 := hideP (Row.setOther hV.out.2.2.2.2.1 (a := ⟨D, j, none⟩) (Nat.ne_of_lt ltd.out) (b8 y))
                  have cb := hideP (hV.out.2.2.2.2.2.setCell (p := ⟨D, j, none⟩) (Nat.le_of_lt ltd.out) (b8 y))
                  have hl := hideP hV.out.1
                  have hi := hideP hV.out.2.1
                  clear hV hq hr hX hZ hy hXq
                  unfold b8 at hs1
                  go_wp2_with fail
                  go_roundw
                  case rel =>
                    refine ⟨j + 1, l.set j y, by omega, by go_num, by rw [List.length_set]; exact hl.out, fun i => ?_, by rw [List.map_set]; exact C2.out, dh.out, c1.out, cb.out⟩
                    unfold List.getD
                    rw [List.getElem?_set]
                    by_cases e : j = i
                    · subst e
                      rw [if_pos rfl, if_pos (by rw [hl.out]; exact hlt), if_pos (by omega)]
                      have := hyd.out
                      simp only [Option.getD_some]
                      exact this
                    · rw [if_neg e]
                      have := hi.out i
                      unfold List.getD at this
                      rw [this]
                      by_cases e2 : i < j
                      · rw [if_pos e2, if_pos (by omega)]
                      · rw [if_neg e2, if_neg (by omega)]
                  case measure => simp [intOf]; omega
                · have t3' : decide ((j : Int) < 32) = false := by simp; omega
                  have hj32 : j = 32 := by omega
                  have hld : l = dig h := by
                    refine List.ext_getElem? fun i => ?_
                    rcases Nat.lt_or_ge i 32 with hi | hi
                    · have := hV.out.2.1 i
                      rw [if_pos (by omega)] at this
                      unfold List.getD at this
                      rw [List.getElem?_eq_getElem (by rw [hV.out.1]; exact hi)] at this ⊢
                      rw [List.getElem?_eq_getElem (by simp [dig]; exact hi)] at this ⊢
                      simpa using this
                    · rw [List.getElem?_eq_none (by rw [hV.out.1]; exact hi), List.getElem?_eq_none (by simp [dig]; exact hi)]
                  have dd := hideP (hld ▸ hV.out.2.2.1)
                  have c1 := hideP hV.out.2.2.2.2.1
                  have cb := hideP hV.out.2.2.2.2.2
                  clear hV hld hj32 hlt hj
                  have hds := hideP (show (Tryz.prog.info? 32).map (·.size) = some ((dig h).map b8).toArray.size by rw [size_dig]; simp [dig])
                  have hdo := hideP (show z32.toArray.size = ((dig h).map b8).toArray.size by simp [dig, z32])
                  go_wp2_with (first
                    | (refine wpList_load_row rfl 32 (.tmp 10) rfl D rfl 32 ((dig h).map b8).toArray (0, 0) _ dd.out Tryz.underlying32 rfl hds.out ?_)
                    | (refine wpList_store_row rfl 32 (.tmp 4) (.tmp 77) rfl w.heap.size ((dig h).map b8).toArray rfl rfl 32 z32.toArray c1.out hds.out hdo.out (all_b8 _) ?_))
                  refine ret_row rfl rfl (Row.setRow c1.out ((dig h).map b8)) Tryz.underlying32 (by rw [size_dig]; simp [dig]) rfl ⟨by rw [hS.out], ?_⟩
                  exact below_setRow' cb.out (Nat.le_refl _) _
end Go.Proofs.YtedokpgkjcnoiaaGreat
