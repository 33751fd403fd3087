/- Contracts of the reference of chapter 5. -/
import Derived.Test.YtjdbpeblbejllaaMort2
set_option linter.unusedVariables false
set_option linter.unusedSimpArgs false
namespace Go.Proofs.Ytjdbpeblbejllaa
open Go.RowKit
theorem less_any (A B : Option Addr) (a b : List Nat) (c d : Nat) (w : World) (hA : Arr w w.heap.size A a.length (u8s a)) (hB : Arr w w.heap.size B b.length (u8s b)) (ha : IsB a) (hb : IsB b)
    (hn : a.length ≤ 140737488351232) (hm : b.length ≤ 140737488351232) :
    Calls Try.prog 35 #[.slice A a.length c, .slice B b.length d] w fun e w' => e = .returned (.bool (lessB a b)) ∧ w = w' := by
  unfold lessB
  by_cases h : a.length = b.length
  · rw [if_pos h]
    have h1 := run_str (P := Try.prog) w 22 5 Try.underlying22 Try.underlying5 (c := c) hA rfl 9 Try.underlying9
    have h2 := run_str (P := Try.prog) w 22 5 Try.underlying22 Try.underlying5 (c := d) hB rfl 9 Try.underlying9
    have hb1 : ((a.length : Int) != (b.length : Int)) = false := by simp [h]
    have H := hideP h; clear h
    clear hA hB
    go_enter Try.func35, Try.ntmps35
    go_wp2
    go_ret
    exact ⟨ret_bool (by rw [← bytesLess_eq a b ha hb, ← toList_bstr, ← toList_bstr]), rfl⟩
  · rw [if_neg h]
    have hb1 : ((a.length : Int) != (b.length : Int)) = true := by simp; omega
    clear h
    go_enter Try.func35, Try.ntmps35
    go_wp2
    go_ret
    exact ⟨ret_bool (by simp), rfl⟩
theorem rbitx_in (A : Option Addr) (l : List Nat) (c : Nat) (i : Int) (w : World) (hA : Arr w w.heap.size A l.length (u8s l)) (hl : IsB l) (hn : l.length ≤ 140737488351232) (h0 : 0 ≤ i) (hi : i < 8 * l.length) :
    Calls Try.prog 65 #[.slice A l.length c, .int .i64 i] w fun e w' => e = .returned (.int .u8 (bitAt l i.toNat : Nat)) ∧ w = w' := by
  obtain ⟨i, rfl⟩ := Int.eq_ofNat_of_zero_le h0
  obtain ⟨b, off, rfl, hb, hc⟩ := hA (by omega)
  have hci := hc (i / 8) (by omega)
  unfold u8s at hci
  have hbd := hl (i / 8)
  clear hc hA
  have h1 : decide ((i : Int) < 0) = false := by simp
  have h2 : decide (8 * (l.length : Int) ≤ (i : Int)) = false := by simp; omega
  go_enter Try.func65, Try.ntmps65
  go_wp2
  go_ret
  refine ⟨ret_int ?_, rfl⟩
  simp only [Int.toNat_natCast]
  exact tmod_bit _ _
theorem rbitx_out (A : Option Addr) (n c : Nat) (i : Int) (w : World) (hn : n ≤ 140737488351232) (hi : i < 0 ∨ 8 * (n : Int) ≤ i) (hm : i ≤ 9223372036854775807) :
    Calls Try.prog 65 #[.slice A n c, .int .i64 i] w fun e w' => e = .returned (.int .u8 0) ∧ w = w' := by
  rcases hi with hi | hi
  · go_enter Try.func65, Try.ntmps65
    go_wp2
    go_ret
    exact ⟨rfl, rfl⟩
  · have h1 : decide (i < 0) = false := by simp; omega
    have h2 : decide (8 * (n : Int) ≤ i) = true := by simp; omega
    go_enter Try.func65, Try.ntmps65
    go_wp2
    go_ret
    exact ⟨rfl, rfl⟩
def bitVals (p : List Int) (n : Nat) : List Value := (List.range n).map fun i => .int .u8 (rbit p i : Nat)
theorem bitVals_succ (p : List Int) (n : Nat) : bitVals p (n + 1) = bitVals p n ++ [.int .u8 (rbit p n : Nat)] := by simp [bitVals, List.range_succ]

set_option maxHeartbeats 1000000 in
theorem bits_any (A : Option Addr) (p : List Int) (c : Nat) (w : World) (hA : Arr w w.heap.size A p.length (i64s p)) (hz : IsI p) (h8 : p.length ≤ 8) :
    Calls Try.prog 57 #[.slice A p.length c] w fun e w' => ∃ R d, e = .returned (.slice R (64 * p.length) d) ∧
      w'.ownsRow w.heap.size 5 1 (.slice R (64 * p.length) d) (64 * p.length) (bitVals p (64 * p.length)) ∧ Below w.heap.size w w' := by
  obtain ⟨i0, hi0, hz0, hz1, hz2⟩ := info_parts info_u8
  obtain ⟨B, hB⟩ : ∃ B, B = w.heap.size := ⟨_, rfl⟩
  rw [← hB] at hA ⊢
  have HA := hideP hA; clear hA
  have HB := hideP hB; clear hB
  have HZ := hideP hz; clear hz
  go_enter Try.func57, Try.ntmps57
  go_wp2
  go_loopw [3, 4] (fun v3 v4 wr => ∃ m q : Nat, ∃ R d, m ≤ 64 ∧ Hid (q = m * p.length) ∧ v4 = .int .i64 (63 - m) ∧ v3 = .slice R q d ∧ wr.ownsRow B 5 1 (.slice R q d) q (bitVals p q) ∧ Below B w wr) (fun _ v4 _ => (intOf v4 + 1).toNat)
  case atStart => exact ⟨0, 0, none, 0, by omega, by simp [Hid], rfl, rfl, World.ownsRow_nil _ _ _ _, Below.refl _ _⟩
  case round =>
    obtain ⟨m, q, R, d, hm, hq, rfl, rfl, hown, hbel⟩ := hrel
    by_cases hlt : m < 64
    · have hm63 : decide ((m : Int) ≤ 63) = true := by simp; omega
      have hqd : q + p.length ≤ 64 * p.length := by
        have := hq.out
        have h2 : (m + 1) * p.length ≤ 64 * p.length := Nat.mul_le_mul_right _ hlt
        rw [Nat.add_mul] at h2; omega
      go_wp2
      obtain ⟨wo, rfl⟩ : ∃ wo : World, wo = wr := ⟨_, rfl⟩
      go_loopw [3, 5] (fun v3 v5 wr => ∃ k : Nat, ∃ R d, k ≤ p.length ∧ v5 = .int .i64 k ∧ v3 = .slice R (q + k) d ∧ wr.ownsRow B 5 1 (.slice R (q + k) d) (q + k) (bitVals p (q + k)) ∧ Below B w wr) (fun _ v5 _ => p.length - (intOf v5).toNat)
      case atStart => exact ⟨0, R, d, by omega, rfl, rfl, hown, hbel⟩
      case round =>
        obtain ⟨k, R, d, hk, rfl, rfl, hown2, hbel2⟩ := hrel
        clear hown hbel
        by_cases hkl : k < p.length
        · obtain ⟨b, off, rfl, hb, hc⟩ := HA.out (by omega)
          have hcell := (hbel2.cell (p := ⟨b, off + k, none⟩) hb).trans (hc k hkl)
          clear hc
          unfold i64s at hcell
          have hzk := HZ.out k
          obtain ⟨z, hz⟩ : ∃ z, z = p.getD k 0 := ⟨_, rfl⟩
          rw [← hz] at hcell hzk
          have HZ' := hideP hz; clear hz
          have hBw : B ≤ wr.heap.size := Nat.le_trans (Nat.le_of_eq HB.out) hbel2.size
          go_wp2_with (at_builtin; refine wpList_append_cells _ rfl (.tmp 23) (.tmp 30) 22 rfl B 5 i0 _ 1 1 Try.underlying22 hi0 hz0 hz1 hz2 rfl (by decide) (.slice R (q + k) d) (q + k) (bitVals p (q + k)) rfl hown2 _ 1 rfl rfl (by simp [Value.oneCell']) (by omega) (by unfold maxLen; omega) (by omega) hBw ?_; intro g3 c3 w3 hown3 hg3 hat3)
          go_roundw
          case rel =>
            refine ⟨k + 1, some ⟨g3, 0, none⟩, c3, by omega, by go_num, rfl, ?_, hbel2.trans (below_own hown2 hg3 (Nat.le_refl _) hBw)⟩
            rw [← Nat.add_assoc, bitVals_succ]
            rw [wrap_pl z hzk.1 hzk.2, tmod_bit8] at hown3
            rw [hq.out, rbit_at p m k hkl, ← HZ'.out, ← hq.out]
            exact hown3
          case measure => simp [intOf]; omega
        · obtain rfl : k = p.length := by omega
          go_wp2
          go_roundw
          case rel => exact ⟨m + 1, q + p.length, R, d, by omega, by simp only [Hid]; rw [hq.out, Nat.add_mul, Nat.one_mul], by go_num, rfl, hown2, hbel2⟩
          case measure => simp [intOf]; omega
    · obtain rfl : m = 64 := by omega
      go_wp2
      go_ret
      have e := hq.out
      subst e
      exact ⟨R, d, rfl, hown, hbel⟩
/-- bytes of a list of bits -/
def bytesOfBits (l : List Nat) : List Nat := (List.range (l.length / 8)).map (byteOf fun i => l.getD i 0)
def byteVals (l : List Nat) (n : Nat) : List Value := (List.range n).map fun i => .int .u8 (byteOf (fun i => l.getD i 0) i : Nat)
theorem byteVals_succ (l : List Nat) (n : Nat) : byteVals l (n + 1) = byteVals l n ++ [.int .u8 (byteOf (fun i => l.getD i 0) n : Nat)] := by simp [byteVals, List.range_succ]

set_option maxRecDepth 100000 in
set_option maxHeartbeats 1000000 in
theorem bytes_any (A : Option Addr) (l : List Nat) (c : Nat) (w : World) (hA : Arr w w.heap.size A l.length (u8s l)) (hl : ∀ i, l.getD i 0 ≤ 1) (hn : l.length ≤ 65536) :
    Calls Try.prog 64 #[.slice A l.length c] w fun e w' => ∃ R d, e = .returned (.slice R (l.length / 8) d) ∧
      w'.ownsRow w.heap.size 5 1 (.slice R (l.length / 8) d) (l.length / 8) (byteVals l (l.length / 8)) ∧ Below w.heap.size w w' := by
  obtain ⟨i0, hi0, hz0, hz1, hz2⟩ := info_parts info_u8
  obtain ⟨B, hB⟩ : ∃ B, B = w.heap.size := ⟨_, rfl⟩
  rw [← hB] at hA ⊢
  have HA := hideP hA; clear hA
  have HB := hideP hB; clear hB
  have HL := hideP hl; clear hl
  go_enter Try.func64, Try.ntmps64
  go_wp2
  go_loopw [3, 4] (fun v3 v4 wr => ∃ m : Nat, ∃ R d, 8 * m ≤ l.length ∧ v4 = .int .i64 (8 * m : Nat) ∧ v3 = .slice R m d ∧ wr.ownsRow B 5 1 (.slice R m d) m (byteVals l m) ∧ Below B w wr) (fun _ v4 _ => l.length - (intOf v4).toNat)
  case atStart => exact ⟨0, none, 0, by omega, rfl, rfl, World.ownsRow_nil _ _ _ _, Below.refl _ _⟩
  case round =>
    obtain ⟨m, R, d, hm, rfl, rfl, hown, hbel⟩ := hrel
    by_cases hlt : 8 * m + 7 < l.length
    · have hm63 : decide ((8 : Int) * m + 7 < l.length) = true := by simp; omega
      obtain ⟨b, off, rfl, hb, hc⟩ := HA.out (by omega)
      have HC := hideP hc; clear hc
      go_wp2
      go_loop [5, 6] (fun v5 v6 => ∃ k : Nat, ∃ x : Nat, k ≤ 8 ∧ v6 = .int .i64 k ∧ v5 = .int .u8 x ∧ Hid (x = hornN (fun k => l.getD (8 * m + k) 0) k) ∧ x < 256) (fun _ v6 => 8 - (intOf v6).toNat)
      case atStart => exact ⟨0, 0, by omega, rfl, rfl, rfl, by omega⟩
      case round =>
        obtain ⟨k, x, hk, rfl, rfl, hx, hx256⟩ := hrel
        by_cases hkl : k < 8
        · have hcell := (hbel.cell (p := ⟨b, off + (8 * m + k), none⟩) hb).trans (HC.out (8 * m + k) (by omega))
          unfold u8s at hcell
          have hy1 := HL.out (8 * m + k)
          have hx128 : x < 128 := by
            have := hornN_lt (fun k => l.getD (8 * m + k) 0) (fun i => HL.out _) k
            have h2 : 2 ^ k ≤ 2 ^ 7 := Nat.pow_le_pow_right (by omega) (by omega)
            rw [hx.out]; omega
          obtain ⟨y, hy⟩ : ∃ y, y = l.getD (8 * m + k) 0 := ⟨_, rfl⟩
          rw [← hy] at hcell hy1
          have HY := hideP hy; clear hy
          go_wp2
          go_round
          case rel => exact ⟨k + 1, 2 * x + y, by omega, by go_num, by go_num, by simp only [Hid, hornN]; rw [← hx.out, HY.out], by omega⟩
          case measure => simp [intOf]; omega
        · obtain rfl : k = 8 := by omega
          have hBw : B ≤ wr.heap.size := Nat.le_trans (Nat.le_of_eq HB.out) hbel.size
          go_wp2_with (at_builtin; refine wpList_append_cells _ rfl (.tmp 27) (.tmp 29) 22 rfl B 5 i0 _ 1 1 Try.underlying22 hi0 hz0 hz1 hz2 rfl (by decide) (.slice R m d) m (byteVals l m) rfl hown _ 1 rfl rfl (by simp [Value.oneCell']) (by omega) (by unfold maxLen; omega) (by omega) hBw ?_; intro g3 c3 w3 hown3 hg3 hat3)
          go_roundw
          case rel =>
            refine ⟨m + 1, some ⟨g3, 0, none⟩, c3, by omega, by go_num, rfl, ?_, hbel.trans (below_own hown hg3 (Nat.le_refl _) hBw)⟩
            rw [byteVals_succ, ← hornN_8, ← hx.out]
            exact hown3
          case measure => simp [intOf]; omega
    · have e : l.length / 8 = m := by omega
      have HE := hideP e; clear e
      go_wp2
      go_ret
      rw [HE.out]
      exact ⟨R, d, rfl, hown, hbel⟩
def bitL (p : List Int) (n : Nat) : List Nat := (List.range n).map (rbit p)
theorem bitL_len (p : List Int) (n : Nat) : (bitL p n).length = n := by simp [bitL]
theorem bitL_get (p : List Int) (n i : Nat) (hi : i < n) : (bitL p n).getD i 0 = rbit p i := by simp [bitL, List.getD, List.getElem?_map, List.getElem?_range hi]
theorem bitL_le (p : List Int) (n i : Nat) : (bitL p n).getD i 0 ≤ 1 := by
  by_cases hi : i < n
  · rw [bitL_get p n i hi]; exact rbit_le p i
  · rw [getD_out _ _ _ (by rw [bitL_len]; omega)]; omega
theorem byteVals_code (p : List Int) (i : Nat) (hi : i < 8 * p.length) : (byteVals (bitL p (64 * p.length)) (8 * p.length))[i]? = some (u8s (code p) i) := by
  have h : byteOf (fun i => (bitL p (64 * p.length)).getD i 0) i = byteOf (rbit p) i := byteOf_congr _ _ _ fun k hk => bitL_get p _ _ (by omega)
  unfold byteVals u8s code
  simp only [List.getElem?_map, List.getElem?_range hi, Option.map_some]
  rw [h]
  simp [List.getD, List.getElem?_map, List.getElem?_range hi]
theorem rcode_any (A : Option Addr) (p : List Int) (c : Nat) (w : World) (hA : Arr w w.heap.size A p.length (i64s p)) (hz : IsI p) (h8 : p.length ≤ 8) :
    Calls Try.prog 36 #[.slice A p.length c] w fun e w' => ∃ R d, e = .returned (.slice R (8 * p.length) d) ∧
      Arr w' w'.heap.size R (8 * p.length) (u8s (code p)) ∧ Below w.heap.size w w' := by
  go_enter Try.func36, Try.ntmps36
  go_wp2_with fail
  refine (bits_any A p c _ hA hz h8).mono ?_
  rintro e w1 ⟨R1, d1, rfl, hown1, hb1⟩
  have hA1 : Arr w1 w1.heap.size R1 (64 * p.length) (u8s (bitL p (64 * p.length))) := Arr.of_own hown1 fun i hi => by
    unfold u8s
    rw [bitL_get _ _ _ hi]
    simp [bitVals, List.getElem?_range hi]
  have HO := hideP hown1
  clear hown1
  go_wp2_with fail
  have hB := bytes_any R1 (bitL p (64 * p.length)) d1 w1 (by rw [bitL_len]; exact hA1) (bitL_le p _) (by rw [bitL_len]; omega)
  rw [bitL_len, show 64 * p.length / 8 = 8 * p.length by omega] at hB
  refine hB.mono ?_
  rintro e w2 ⟨R2, d2, rfl, hown2, hb2⟩
  have HO2 := hideP hown2
  clear hown2
  go_wp2
  go_ret
  exact ⟨R2, d2, rfl, Arr.of_own HO2.out (byteVals_code p), hb1.trans (hb2.mono hb1.size)⟩

set_option maxRecDepth 100000 in
set_option maxHeartbeats 1000000 in
theorem rpoint_any (A : Option Addr) (l : List Nat) (c d : Nat) (w : World) (hA : Arr w w.heap.size A l.length (u8s l)) (hl : IsB l) (hd : d ≤ 8) (hn : l.length = 8 * d) :
    Calls Try.prog 38 #[.slice A l.length c, .int .i64 d] w fun e w' => ∃ R s, e = .returned (.slice R d s) ∧
      w'.ownsRow w.heap.size 2 1 (.slice R d s) d (ptVals l d d) ∧ Below w.heap.size w w' := by
  obtain ⟨i0, hi0, hz0, hz1, hz2⟩ := info_parts info_mi64
  obtain ⟨B, hB⟩ : ∃ B, B = w.heap.size := ⟨_, rfl⟩
  rw [← hB] at hA ⊢
  have HA := hideP hA; clear hA
  have HB := hideP hB; clear hB
  have HL := hideP hl; clear hl
  have HN := hideP hn; clear hn
  go_enter Try.func38, Try.ntmps38
  go_wp2
  go_loopw [5, 6] (fun v3 v4 wr => ∃ k : Nat, ∃ R s, k ≤ d ∧ v4 = .int .i64 k ∧ v3 = .slice R k s ∧ wr.ownsRow B 2 1 (.slice R k s) k (ptVals l d k) ∧ Below B w wr) (fun _ v4 _ => d - (intOf v4).toNat)
  case atStart => exact ⟨0, none, 0, by omega, rfl, rfl, World.ownsRow_nil _ _ _ _, Below.refl _ _⟩
  case round =>
    obtain ⟨k, R, s, hk, rfl, rfl, hown, hbel⟩ := hrel
    by_cases hlt : k < d
    · have hm63 : decide ((k : Int) < d) = true := by simp; omega
      go_wp2
      obtain ⟨wo, rfl⟩ : ∃ wo : World, wo = wr := ⟨_, rfl⟩
      go_loopw [7, 8] (fun v5 v6 wr => ∃ b : Nat, ∃ x : Nat, b ≤ 64 ∧ v6 = .int .i64 b ∧ v5 = .int .u64 x ∧ Hid (x = hornN (fun b => bitAt l (b * d + k)) b) ∧ wo = wr) (fun _ v6 _ => 64 - (intOf v6).toNat)
      case atStart => exact ⟨0, 0, by omega, rfl, rfl, rfl, rfl⟩
      case round =>
        obtain ⟨b, x, hb, rfl, rfl, hx, rfl⟩ := hrel
        by_cases hkl : b < 64
        · have hA := (HA.out.below hbel).more (Nat.le_trans (Nat.le_of_eq HB.out) hbel.size)
          have hN := HN.out
          have hx64 : x < 9223372036854775808 := by
            have := hornN_lt (fun b => bitAt l (b * d + k)) (fun i => bitAt_le _ _) b
            have h2 : 2 ^ b ≤ 2 ^ 63 := Nat.pow_le_pow_right (by omega) (by omega)
            rw [hx.out]; omega
          have hbd : b * d + k < 64 * d := by
            have : (b + 1) * d ≤ 64 * d := Nat.mul_le_mul_right _ hkl
            rw [Nat.add_mul] at this; omega
          obtain ⟨t, ht⟩ : ∃ t, t = b * d := ⟨_, rfl⟩
          rw [← ht] at hbd
          have hti : IntKind.i64.wrap ((b : Int) * d) = t := by
            rw [IntWalk.i64_in _ (by rw [← Int.natCast_mul, ← ht]; omega), ht, Int.natCast_mul]
          have HT := hideP ht; clear ht
          have hy := bitAt_le l (t + k)
          have hlen : l.length ≤ 64 := by omega
          have HB1 := fun W (h : Arr W W.heap.size A l.length (u8s l)) => rbitx_in A l c ((t : Int) + k) W h HL.out (by omega) (by omega) (by omega)
          have e1 : ((t : Int) + k).toNat = t + k := by omega
          rw [e1] at HB1
          have HB2 := hideP HB1
          have HN2 := hideP hN
          clear HB1 e1 hN
          go_wp2_with (go_at_call 65; refine (HB2.out _ hA).mono ?_; rintro e w1 ⟨rfl, rfl⟩)
          obtain ⟨y, hyy⟩ : ∃ y, y = bitAt l (t + k) := ⟨_, rfl⟩
          rw [← hyy] at hy ⊢
          have HY := hideP hyy; clear hyy
          go_wp2
          go_roundw
          case rel => exact ⟨b + 1, 2 * x + y, by omega, by go_num, by go_num, by simp only [Hid, hornN]; rw [← hx.out, HY.out, HT.out], trivial⟩
          case measure => simp [intOf]; omega
        · obtain rfl : b = 64 := by omega
          have hBw : B ≤ wo.heap.size := Nat.le_trans (Nat.le_of_eq HB.out) hbel.size
          go_wp2_with (at_builtin; refine wpList_append_cells _ rfl (.tmp 29) (.tmp 33) 56 rfl B 2 i0 _ 1 8 Try.underlying56 hi0 hz0 hz1 hz2 rfl (by decide) (.slice R k s) k (ptVals l d k) rfl hown _ 1 rfl rfl (by simp [Value.oneCell']) (by omega) (by unfold maxLen; omega) (by omega) hBw ?_; intro g3 c3 w3 hown3 hg3 hat3)
          go_roundw
          case rel =>
            refine ⟨k + 1, some ⟨g3, 0, none⟩, c3, by omega, by go_num, rfl, ?_, hbel.trans (below_own hown hg3 (Nat.le_refl _) hBw)⟩
            rw [ptVals_succ]
            have hu := hornN_lt64 (fun b => bitAt l (b * d + k)) (fun i => bitAt_le _ _) 64 (by omega)
            rw [← hx.out] at hu
            have e := i64_of_u64 x hu
            unfold ptNum
            rw [← hx.out, ← e]
            exact hown3
          case measure => simp [intOf]; omega
    · obtain rfl : k = d := by omega
      go_wp2
      go_ret
      exact ⟨R, s, rfl, hown, hbel⟩
end Go.Proofs.Ytjdbpeblbejllaa
