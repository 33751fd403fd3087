/- Contracts of the reference's Count, Num, Text, Row (what is written). Contracts of the reference's Text and Row (what is written). -/
import Derived.Deep.DeepCutAuto
import Derived.Test.YtgcbodpjidoanaaQ19
import Derived.Test.YtgcbodpjidoanaaQ23
set_option linter.unusedVariables false
set_option linter.unusedSimpArgs false
namespace Go.Proofs.Ytgcbodpjidoanaa
open Go.RowKit
theorem OwnB.of_row {w : World} {base g : Nat} {l : List Nat} (h : Row w g 5 (l.map b8)) (hb : base ≤ g) (hl : l.length ≤ 1000000) : OwnB w base (some ⟨g, 0, none⟩) l.length l :=
  ⟨by simp, .inr ⟨g, l.length, (l.map b8).toArray, rfl, hb, h, Nat.le_refl _, by unfold maxLen; omega, by simp, by simp [List.take_of_length_le]⟩⟩
def numL (u i : Nat) : List Nat := List.replicate i 0 ++ (be8 u).drop i
theorem numL_len (u i : Nat) (hi : i ≤ 8) : (numL u i).length = 8 := by simp [numL, be8]; omega
theorem numL_set (u i : Nat) (hi : i < 8) : ((numL u (i + 1)).map b8).set i (b8 (u / 256 ^ (7 - i) % 256)) = (numL u i).map b8 := by
  have e : u / 256 ^ (7 - i) = u / 2 ^ (56 - 8 * i) := by rw [show (256 : Nat) = 2 ^ 8 from rfl, ← Nat.pow_mul, show 8 * (7 - i) = 56 - 8 * i by omega]
  rw [e]
  match i, hi with
  | 0, _ => rfl
  | 1, _ => rfl
  | 2, _ => rfl
  | 3, _ => rfl
  | 4, _ => rfl
  | 5, _ => rfl
  | 6, _ => rfl
  | 7, _ => rfl
set_option maxRecDepth 100000 in
set_option maxHeartbeats 400000 in
theorem rwcount_any (n : Nat) (w : World) (hn : n ≤ 1000000000000) :
    Calls Try.prog 101 #[.int .i64 (n : Nat)] w fun e w' => e = .returned (.slice (some ⟨w.heap.size, 0, none⟩) 3 3) ∧ OwnB w' w.heap.size (some ⟨w.heap.size, 0, none⟩) 3 (be3 n) ∧ Below w.heap.size w w' := by
  obtain ⟨a, ha⟩ : ∃ a, a = n / 65536 % 256 := ⟨_, rfl⟩
  obtain ⟨b, hb⟩ : ∃ a, a = n / 256 % 256 := ⟨_, rfl⟩
  obtain ⟨c, hc⟩ : ∃ a, a = n % 256 := ⟨_, rfl⟩
  have e1 : (n : Int) / 65536 % 256 = (a : Int) := by omega
  have e2 : (n : Int) / 256 % 256 = (b : Int) := by omega
  have e3 : (n : Int) % 256 = (c : Int) := by omega
  have f1 : Int.tdiv (n : Int) 65536 = (n : Int) / 65536 := Int.tdiv_eq_ediv_of_nonneg (by omega)
  have hE := hideP (show be3 n = [a, b, c] by unfold be3; rw [ha, hb, hc])
  clear ha hb hc
  go_enter Try.func101, Try.ntmps101
  go_wp2_with fail
  go_ret
  refine ⟨rfl, ?_, below_new _ _⟩
  rw [hE.out]
  exact lit3 w a b c
theorem add_upw (x : Int) (h1 : -9223372036854775808 ≤ x) (h2 : x ≤ 9223372036854775807) : IntKind.u64.wrap (IntKind.u64.wrap x + 9223372036854775808) = ((x + 9223372036854775808).toNat : Nat) := by
  have e : ∀ y, IntKind.u64.wrap y = y % 18446744073709551616 := fun y => by go_num
  rw [e, e]
  omega
set_option maxRecDepth 100000 in
set_option maxHeartbeats 1000000 in
theorem rwnum_any (x : Int) (w : World) (h1 : -9223372036854775808 ≤ x) (h2 : x ≤ 9223372036854775807) :
    Calls Try.prog 178 #[.int .i64 x] w fun e w' => ∃ g, e = .returned (.slice (some ⟨g, 0, none⟩) 8 8) ∧ OwnB w' w.heap.size (some ⟨g, 0, none⟩) 8 (num8 x) ∧ Below w.heap.size w w' := by
  obtain ⟨u, hu⟩ : ∃ u, u = (x + 9223372036854775808).toNat := ⟨_, rfl⟩
  have hul := hideP (show u < 18446744073709551616 by omega)
  have cv : IntKind.u64.wrap (IntKind.u64.wrap x + 9223372036854775808) = (u : Int) := by rw [hu]; exact add_upw x h1 h2
  have hE := hideP (show num8 x = be8 u by unfold num8; rw [hu])
  clear hu
  obtain ⟨Q, hQ⟩ : ∃ Q, Q = num8 x := ⟨_, rfl⟩
  rw [← hQ] at hE ⊢
  clear hQ h1 h2
  go_enter Try.func178, Try.ntmps178
  have hmk : ∀ w, (Instr.makeSlice 22 (.int .i64 8) (.int .i64 8)).run Try.prog w = .ok (.slice (some ⟨w.heap.size, 0, none⟩) 8 8) (w.alloc (.cells ((numL u 8).map b8).toArray 5)) := fun w => by
    obtain ⟨i0, hi0, hz0, hz1, hz2⟩ := info_parts info_b8
    have := run_makeSlice (P := Try.prog) w 22 5 i0 _ Try.underlying22 hi0 hz0 .i64 .i64 8 8 (by omega) (by omega) (by rw [hz1]; decide) (by rw [hz2]; decide) (by omega)
    have hz : madeCells (Value.int .u8 0).cells 8 = ((numL u 8).map b8).toArray := by
      rw [show numL u 8 = List.replicate 8 0 by unfold numL; rw [List.drop_eq_nil_of_le (by simp [be8])]; rfl]
      kernel_rfl
    rw [hz1, show (8 : Int).toNat = 8 from rfl, Nat.mul_one, hz] at this
    exact this
  go_upto_region 4 with fail
  obtain ⟨v, hv⟩ : ∃ v, v = w.alloc (.cells ((numL u 8).map b8).toArray 5) := ⟨_, rfl⟩
  obtain ⟨g, hg⟩ : ∃ g, g = w.heap.size := ⟨_, rfl⟩
  rw [← hv, ← hg]
  have R := hideP (show Row v g 5 ((numL u 8).map b8) by rw [hv, hg]; exact Row.new w _ _)
  have B := hideP (show Below w.heap.size w v by rw [hv]; exact below_new _ _)
  have hgw := hideP (show w.heap.size ≤ g by rw [hg]; exact Nat.le_refl _)
  clear hmk hv hg cv
  go_loopw [3, 5] (fun v3 v5 wr => ∃ i : Nat, i ≤ 8 ∧ v3 = .int .u64 ((u / 256 ^ (8 - i) : Nat) : Int) ∧ v5 = .int .i64 ((i : Int) - 1) ∧ Hid (Row wr g 5 ((numL u i).map b8) ∧ Below w.heap.size w wr)) (fun _ v5 _ => (intOf v5 + 1).toNat)
  case atStart => exact ⟨8, Nat.le_refl _, by simp, rfl, R.out, B.out⟩
  case round =>
    obtain ⟨i, hi, rfl, rfl, hV⟩ := hrel
    rcases i with _ | i
    · have hf := hideP (show Row wr g 5 (Q.map b8) by have := hV.out.1; rwa [show numL u 0 = Q by rw [hE.out]; simp [numL]] at this)
      have hB := hideP hV.out.2
      clear hV
      go_wp2_with fail
      go_ret
      exact ⟨g, rfl, by have := OwnB.of_row hf.out hgw.out (by rw [hE.out]; simp [be8]); rwa [show Q.length = 8 by rw [hE.out]; rfl] at this, hB.out⟩
    · obtain ⟨y, hy⟩ : ∃ y, y = u / 256 ^ (8 - (i + 1)) := ⟨_, rfl⟩
      rw [← hy]
      have y1 := hideP (show y / 256 = u / 256 ^ (8 - i) by rw [hy, Nat.div_div_eq_div_mul, ← Nat.pow_succ, show (8 - (i + 1)).succ = 8 - i by omega])
      have y2 := hideP (show ((numL u (i + 1)).map b8).set i (b8 (y % 256)) = (numL u i).map b8 by rw [hy, show 8 - (i + 1) = 7 - i by omega]; exact numL_set u i (by omega))
      have e0 : ((i + 1 : Nat) : Int) - 1 = (i : Int) := by omega
      rw [e0]
      have hy64 := hideP (show y < 18446744073709551616 by rw [hy]; exact Nat.lt_of_le_of_lt (Nat.div_le_self _ _) hul.out)
      have c0 : wr.cell? ⟨g, i, none⟩ = some (((numL u (i + 1)).map b8).getD i undef) := by
        rw [Row.cell hV.out.1 i]; unfold List.getD; rw [List.getElem?_eq_getElem (by rw [List.length_map, numL_len _ _ hi]; omega)]; rfl
      obtain ⟨old, ho⟩ : ∃ o, o = ((numL u (i + 1)).map b8).getD i undef := ⟨_, rfl⟩
      rw [← ho] at c0
      have f0 := hV.out.1.fz i
      clear hy ho
      have i8 : (i : Int) < 8 := by omega
      go_wp2_with fail
      refine ⟨⟨i, by omega, ?_, rfl, ?_, ?_⟩, ?_⟩
      · rw [← y1.out]
        congr 1
        have := hy64.out
        have e : ∀ z, IntKind.u64.wrap z = z % 18446744073709551616 := fun z => by go_num
        rw [e]
        omega
      · have := Row.set hV.out.1 i (b8 (y % 256))
        rw [y2.out] at this
        exact this
      · exact hV.out.2.setCell (p := ⟨g, i, none⟩) hgw.out _
      · simp [intOf]
end Go.Proofs.Ytgcbodpjidoanaa
namespace Go.Proofs.Ytgcbodpjidoanaa
open Go.RowKit
set_option maxRecDepth 100000 in
set_option maxHeartbeats 1000000 in
theorem rwrow_any (A : Option Addr) (r : List Int) (K c : Nat) (w : World) (hK : K = r.length) (hA : Arr w w.heap.size A K (i64s r)) (hI : IsI r) (hn : K ≤ 255) :
    Calls Try.prog 100 #[.slice A K c] w fun e w' => ∃ R d, e = .returned (.slice R (rowB r).length d) ∧ OwnB w' w.heap.size R d (rowB r) ∧ Below w.heap.size w w' := by
  obtain ⟨Z, hZ⟩ : ∃ Z, Z = rowB r := ⟨_, rfl⟩
  rw [← hZ]
  have hst := hideP (rowB_succ r)
  have hE := hideP (show Z = [r.length] ++ ((r.take r.length).map num8).flatten by rw [hZ, List.take_length]; rfl)
  have hln := hideP (fun k (hk : k ≤ r.length) => (show ([r.length] ++ ((r.take k).map num8).flatten).length = 1 + 8 * k by
    rw [List.length_append, rows_len, List.length_take, Nat.min_eq_left hk]; rfl))
  rw [← hK] at hE hst hln
  have HhK := hideP hK; have HhA := hideP hA; have HhI := hideP hI; clear hK hA hI
  clear hZ
  go_enter Try.func100, Try.ntmps100
  have m1 : (K : Int) % 256 = (K : Int) := by omega
  go_wp2_with fail
  have O1 := hideP (OwnB.lit1 w K)
  go_loopw [3, 4] (fun v3 v4 wr => ∃ (k : Nat) (R : Option Addr) (d n : Nat), k ≤ K ∧ v4 = .int .i64 (k : Nat) ∧ v3 = .slice R n d ∧ Hid (n = 1 + 8 * k) ∧ Hid (OwnB wr w.heap.size R d ([K] ++ ((r.take k).map num8).flatten) ∧ Below w.heap.size w wr)) (fun _ v4 _ => K - (intOf v4).toNat)
  case atStart => exact ⟨0, some ⟨w.heap.size, 0, none⟩, 1, 1, Nat.zero_le _, rfl, rfl, rfl, by simpa using (show OwnB (w.alloc (.cells #[.int .u8 (K : Nat)] 5)) w.heap.size (some ⟨w.heap.size, 0, none⟩) 1 [K] from O1.out), below_new _ _⟩
  case round =>
    obtain ⟨k, R, d, n, hk, rfl, rfl, hN, hV⟩ := hrel
    by_cases hlt : k < K
    · have i1 : (k : Int) < (K : Int) := by omega
      obtain ⟨b0, off, hA, hB0, hc⟩ := HhA.out (by omega)
      subst hA
      have c0 := (hV.out.2.cell (p := ⟨b0, off + k, none⟩) hB0).trans (hc k hlt)
      unfold i64s at c0
      have hI0 := hideP (HhI.out k)
      have hs := hideP (hst.out k (by have := HhK.out; omega))
      obtain ⟨x, hx⟩ : ∃ x, x = r.getD k 0 := ⟨_, rfl⟩
      rw [← hx] at c0 hs hI0
      have O4 := hideP hV.out.1
      have B4 := hideP hV.out.2
      obtain ⟨P, hP⟩ : ∃ P, P = [K] ++ ((r.take k).map num8).flatten := ⟨_, rfl⟩
      have hPn := hideP (show n = P.length by rw [hP, hln.out k (by have := HhK.out; omega)]; exact hN.out)
      have hb := hideP (show P.length ≤ 100000 by rw [hP, hln.out k (by have := HhK.out; omega)]; omega)
      rw [← hP] at hs O4
      clear hx hc hV hP
      go_wp2_with (first
        | (go_at_call 178; refine (rwnum_any x _ hI0.out.1 hI0.out.2).mono ?_; rintro e1 w5 ⟨g5, rfl, o5_, b5_⟩; have O5 := hideP o5_; have B5 := hideP (bstep B4.out b5_); have P5 := hideP (O4.out.after b5_); clear o5_ b5_)
        | (at_builtin; refine wpList_appn rfl (.tmp 15) (.tmp 20) rfl w.heap.size R d n P hPn.out rfl P5.out w5.heap.size (some ⟨g5, 0, none⟩) 8 8 (num8 x) (num8_len x).symm rfl (by have := O5.out.arr; rwa [num8_len] at this) (by have := hb.out; have := hPn.out; omega) B5.out.size ?_; intro A6 c6 w6 o6_ b6_; have O6 := hideP o6_; have B6 := hideP (B5.out.trans b6_); clear o6_ b6_))
      rw [hs.out] at O6
      go_roundw
      case rel => exact ⟨k + 1, A6, c6, n + 8, by omega, by go_num, rfl, by have := hN.out; exact (show n + 8 = 1 + 8 * (k + 1) by omega), O6.out, B6.out⟩
      case measure => simp [intOf]; omega
    · obtain rfl : K = k := by omega
      have i1 : ¬ ((K : Int) < (K : Int)) := by omega
      have hf := hideP (show OwnB wr w.heap.size R d Z by rw [hE.out]; exact hV.out.1)
      have hB := hideP hV.out.2
      have hl := hideP (show n = Z.length by rw [hE.out, hln.out K (Nat.le_refl K)]; exact hN.out)
      clear hV
      go_wp2_with fail
      go_ret
      exact ⟨R, d, by rw [← hl.out]; rfl, hf.out, hB.out⟩
end Go.Proofs.Ytgcbodpjidoanaa
