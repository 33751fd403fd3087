/- Contract of indentureref06's Region. -/
import Derived.Test.YtjdbpeblbejllaaZr11
import Derived.Test.YtjdbpeblbejllaaZr0
set_option linter.unusedVariables false
set_option linter.unusedSimpArgs false
namespace Go.Proofs.Ytjdbpeblbejllaa
open Go.RowKit
/-- the ends of a region's side: n bits known, the rest x -/
def regN (l : List Nat) (n d k x : Nat) : Nat := hornN (fun b => if b * d + k < n then l.getD (b * d + k) 0 else x) 64
def regL (l : List Nat) (n d x m : Nat) : List Int := (List.range m).map fun k => toI (regN l n d k x)
theorem regL_len (l : List Nat) (n d x m : Nat) : (regL l n d x m).length = m := by simp [regL]
theorem regL_succ (l : List Nat) (n d x m : Nat) : regL l n d x (m + 1) = regL l n d x m ++ [toI (regN l n d m x)] := by simp [regL, List.range_succ]
theorem regN_lt (l : List Nat) (n d k x : Nat) (hl : ∀ i, l.getD i 0 ≤ 1) (hx : x ≤ 1) : regN l n d k x < 18446744073709551616 :=
  hornN_lt64 _ (fun i => by split; exact hl _; exact hx) 64 (by omega)
set_option maxRecDepth 100000 in
set_option maxHeartbeats 4000000 in
theorem region_any (A : Option Addr) (l : List Nat) (c n d : Nat) (w : World) (hA : Arr w w.heap.size A l.length (u8s l)) (hl : ∀ i, l.getD i 0 ≤ 1) (hd : d ≤ 8) (hn : n ≤ l.length) (hll : l.length ≤ 512) :
    Calls Try.prog 59 #[.slice A l.length c, .int .i64 (n : Int), .int .i64 (d : Int)] w fun e w' => ∃ R s R' s', e = .returned (.agg #[.slice R d s, .slice R' d s']) ∧ Own w' w.heap.size R s (regL l n d 0 d) ∧ Own w' w.heap.size R' s' (regL l n d 1 d) ∧ Below w.heap.size w w' := by
  obtain ⟨i0, hi0, hz0, hz1, hz2⟩ := info_parts info_i64
  obtain ⟨m, hm⟩ : ∃ m, m = l.length := ⟨_, rfl⟩
  rw [← hm] at hA hn hll ⊢
  clear hm
  have HhA := hideP hA; have Hhl := hideP hl; have Hhn := hideP hn; have Hhll := hideP hll; clear hA hl hn hll
  go_enter Try.func59, Try.ntmps59
  go_upto_region 2 with fail
  obtain ⟨w1, hw1⟩ : ∃ w1, w1 = (w.alloc (Obj.cells #[.slice none 0 0, .slice none 0 0] 58)).alloc (Obj.cells #[.slice none 0 0, .slice none 0 0] 58) := ⟨_, rfl⟩
  have c3 := hideP (show Two w1 w.heap.size 58 (.slice none 0 0) (.slice none 0 0) by rw [hw1]; exact (Two.new _ _ _ _).alloc _)
  obtain ⟨g6, hg6⟩ : ∃ g, g = w.heap.size + 1 := ⟨_, rfl⟩
  have c4 := hideP (show Duo w1 (g6 + 1) g6 (regL l n d 0 0) (regL l n d 1 0) by rw [hw1, hg6]; exact Duo.nil (Two.new' _ _ _ _ _ (by simp)) (by omega))
  have s4 := hideP (show g6 + 1 ≤ w1.heap.size by rw [hw1, hg6]; simp)
  have cb := hideP (show Below w.heap.size w w1 by rw [hw1]; exact (below_new _ _).alloc (by simp) _)
  have l6 := hideP (show w.heap.size < g6 by rw [hg6]; omega)
  rw [← hw1, ← hg6]
  clear hw1 hg6
  go_wp2
  go_loopw [8] (fun v8 wr => ∃ k : Nat, k ≤ d ∧ v8 = .int .i64 k ∧ Hid (Duo wr (g6 + 1) g6 (regL l n d 0 k) (regL l n d 1 k) ∧ g6 + 1 ≤ wr.heap.size ∧ Two wr w.heap.size 58 (.slice none 0 0) (.slice none 0 0) ∧ Below w.heap.size w wr)) (fun v _ => d - (intOf v).toNat)
  case atStart => exact ⟨0, Nat.zero_le _, rfl, ⟨c4.out, s4.out, c3.out, cb.out⟩⟩
  case round =>
    obtain ⟨k, hkd, rfl, hI⟩ := hrel
    clear c3 c4 cb s4
    have cD := hideP hI.out.1
    have s4 := hideP hI.out.2.1
    have c3 := hideP hI.out.2.2.1
    have cb := hideP hI.out.2.2.2
    clear hI
    by_cases hlt : k < d
    · have hm63 : decide ((k : Int) < d) = true := by simp; omega
      go_wp2
      obtain ⟨wo, rfl⟩ : ∃ wo : World, wo = wr := ⟨_, rfl⟩
      go_loopw [9, 10, 11] (fun v9 v10 v11 wr => ∃ b x y : Nat, b ≤ 64 ∧ v11 = .int .i64 b ∧ v9 = .int .u64 x ∧ v10 = .int .u64 y ∧ Hid (x = hornN (fun b => if b * d + k < n then l.getD (b * d + k) 0 else 0) b) ∧ Hid (y = hornN (fun b => if b * d + k < n then l.getD (b * d + k) 0 else 1) b) ∧ wo = wr) (fun _ _ v _ => 64 - (intOf v).toNat)
      case atStart => exact ⟨0, 0, 0, by omega, rfl, rfl, rfl, rfl, rfl, rfl⟩
      case round =>
        obtain ⟨b, x, y, hb, rfl, rfl, rfl, hx, hy, rfl⟩ := hrel
        by_cases hkl : b < 64
        · have hx64 : x < 9223372036854775808 := by
            have := hornN_lt (fun b => if b * d + k < n then l.getD (b * d + k) 0 else 0) (fun i => by split; exact Hhl.out _; omega) b
            have h2 : 2 ^ b ≤ 2 ^ 63 := Nat.pow_le_pow_right (by omega) (by omega)
            rw [hx.out]; omega
          have hy64 : y < 9223372036854775808 := by
            have := hornN_lt (fun b => if b * d + k < n then l.getD (b * d + k) 0 else 1) (fun i => by split; exact Hhl.out _; omega) b
            have h2 : 2 ^ b ≤ 2 ^ 63 := Nat.pow_le_pow_right (by omega) (by omega)
            rw [hy.out]; omega
          have hbd : b * d + k < 64 * d := by
            have : (b + 1) * d ≤ 64 * d := Nat.mul_le_mul_right _ hkl
            rw [Nat.add_mul] at this; omega
          obtain ⟨t, ht⟩ : ∃ t, t = b * d := ⟨_, rfl⟩
          rw [← ht] at hbd
          have hti : IntKind.i64.wrap ((b : Int) * d) = t := by
            rw [IntWalk.i64_in _ (by rw [← Int.natCast_mul, ← ht]; omega), ht, Int.natCast_mul]
          have HT := hideP ht; clear ht
          by_cases hat : t + k < n
          · have hat' : decide ((t : Int) + k < n) = true := by simp; omega
            obtain ⟨z, hz⟩ : ∃ z, z = l.getD (t + k) 0 := ⟨_, rfl⟩
            obtain ⟨ab, af, rfl, hAb, hAc⟩ := HhA.out (by have := Hhn.out; omega)
            have hcell := (cb.out.cell (p := ⟨ab, af + (t + k), none⟩) hAb).trans (hAc (t + k) (by have := Hhn.out; omega))
            unfold u8s at hcell
            rw [← hz] at hcell
            have hz1 := Hhl.out (t + k)
            rw [← hz] at hz1
            have hx2 := hideP (show 2 * x + z = hornN (fun b => if b * d + k < n then l.getD (b * d + k) 0 else 0) (b + 1) by
              simp only [hornN]; rw [← hx.out, ← HT.out, if_pos hat, hz])
            have hy2 := hideP (show 2 * y + z = hornN (fun b => if b * d + k < n then l.getD (b * d + k) 0 else 1) (b + 1) by
              simp only [hornN]; rw [← hy.out, ← HT.out, if_pos hat, hz])
            have hmm := Hhn.out
            have hat2 : t + k < m := by omega
            clear hAc hz hat hx hy
            go_wp2
            go_roundw
            case rel => exact ⟨b + 1, 2 * x + z, 2 * y + z, by omega, by go_num, by go_num, by go_num, hx2, hy2, trivial⟩
            case measure => simp [intOf]; omega
          · have hat' : decide ((t : Int) + k < n) = false := by simp; omega
            have hx2 := hideP (show 2 * x = hornN (fun b => if b * d + k < n then l.getD (b * d + k) 0 else 0) (b + 1) by
              simp only [hornN]; rw [← hx.out, ← HT.out, if_neg hat]; rfl)
            have hy2 := hideP (show 2 * y + 1 = hornN (fun b => if b * d + k < n then l.getD (b * d + k) 0 else 1) (b + 1) by
              simp only [hornN]; rw [← hy.out, ← HT.out, if_neg hat])
            clear hat hx hy
            go_wp2
            go_roundw
            case rel => exact ⟨b + 1, 2 * x, 2 * y + 1, by omega, by go_num, by go_num, by go_num, hx2, hy2, trivial⟩
            case measure => simp [intOf]; omega
        · obtain rfl : b = 64 := by omega
          have hu := hideP (show x < 18446744073709551616 by rw [hx.out]; exact hornN_lt64 _ (fun i => by split; exact Hhl.out _; omega) 64 (by omega))
          have hv := hideP (show y < 18446744073709551616 by rw [hy.out]; exact hornN_lt64 _ (fun i => by split; exact Hhl.out _; omega) 64 (by omega))
          have hst := hideP (show regL l n d 0 (k + 1) = regL l n d 0 k ++ [toI x] by rw [regL_succ, hx.out]; rfl)
          have hst' := hideP (show regL l n d 1 (k + 1) = regL l n d 1 k ++ [toI y] by rw [regL_succ, hy.out]; rfl)
          have ex : wrap64 (IntKind.u64.wrap ((x : Int) - 9223372036854775808)) = toI x := i64_of_u64 x hu.out
          have ey : wrap64 (IntKind.u64.wrap ((y : Int) - 9223372036854775808)) = toI y := i64_of_u64 y hv.out
          obtain ⟨a, ha⟩ : ∃ a, a = toI x := ⟨_, rfl⟩
          obtain ⟨b', hb'⟩ : ∃ a, a = toI y := ⟨_, rfl⟩
          rw [← ha] at ex hst
          rw [← hb'] at ey hst'
          clear ha hb' hu hv hx hy hm63
          obtain ⟨R, s, R', s', hDD⟩ := cD.out
          have hD := hideP hDD
          have t4 := hideP hD.out.1
          have o4 := hideP hD.out.2.1
          have cl := regL_len l n d 0 k
          have ch := regL_len l n d 1 k
          rw [cl, ch] at t4
          have HCL := hideP cl
          clear cD hDD cl ch
          have z0 := t4.out.fz 0
          have kt40 := t4.out.c0; have kt41 := t4.out.c1
          have hr4 := hideP (show wo.ownsRow (g6 + 1) 2 1 (.slice R k s) k ((regL l n d 0 k).map (Value.int .i64)) by have := o4.out; unfold Own at this; rw [HCL.out] at this; exact this)
          go_upto_region 17 with (at_builtin; refine wpList_append_cells _ rfl (.tmp 47) (.tmp 51) 56 rfl (g6 + 1) 2 i0 _ 1 8 Try.underlying56 hi0 hz0 hz1 hz2 rfl (by decide) (.slice R k s) k _ rfl hr4.out #[.int .i64 a] 1 rfl rfl (by simp [Value.oneCell']) (by omega) (by unfold maxLen; omega) (by omega) s4.out ?_; intro g3 c3' w3' hown3 hg3 hat3; have A1 := hideP hown3; have A2 := hideP hg3; have A3 := hideP hat3; clear hown3 hg3 hat3; have E3 := hideP (below_own hr4.out A2.out (Nat.le_refl _) s4.out); have ec := (t4.out.below E3.out (by omega)).c0; have z3 := (t4.out.below E3.out (by omega)).fz 0)
          have D5 := hideP (hD.out.push0 s4.out HCL.out.symm A1.out A2.out A3.out)
          rw [← hst.out] at D5
          clear kt40 kt41 z0 ec z3 ex
          have b5 := hideP (show Below g6 wo (w3'.setCell ⟨g6, 0, none⟩ (.slice (some ⟨g3, 0, none⟩) (k + 1) c3')) from (E3.out.mono (Nat.le_succ _)).setCell (p := ⟨g6, 0, none⟩) (Nat.le_refl _) _)
          obtain ⟨W5, hW5⟩ : ∃ W, W = w3'.setCell ⟨g6, 0, none⟩ (.slice (some ⟨g3, 0, none⟩) (k + 1) c3') := ⟨_, rfl⟩
          rw [← hW5] at D5 b5 ⊢
          clear hW5 hD t4 o4 HCL hr4 A1 A2 A3 E3
          replace c3 := hideP (c3.out.below b5.out (by have := l6.out; omega))
          replace cb := hideP (cb.out.trans (b5.out.mono (by have := l6.out; omega)))
          replace s4 := hideP (Nat.le_trans s4.out b5.out.size)
          clear b5
          obtain ⟨R, s, R', s', hDD⟩ := D5.out
          have hD := hideP hDD
          have t4 := hideP hD.out.1
          have p4 := hideP hD.out.2.2.1
          have cl := regL_len l n d 0 (k + 1)
          have ch := regL_len l n d 1 k
          rw [cl, ch] at t4
          have HCH := hideP ch
          clear hDD cl ch D5
          have z0 := t4.out.fz 1
          have kt40 := t4.out.c0; have kt41 := t4.out.c1
          have hr4 := hideP (show W5.ownsRow (g6 + 1) 2 1 (.slice R' k s') k ((regL l n d 1 k).map (Value.int .i64)) by have := p4.out; unfold Own at this; rw [HCH.out] at this; exact this)
          go_wp2_with (at_builtin; refine wpList_append_cells _ rfl (.tmp 55) (.tmp 59) 56 rfl (g6 + 1) 2 i0 _ 1 8 Try.underlying56 hi0 hz0 hz1 hz2 rfl (by decide) (.slice R' k s') k _ rfl hr4.out #[.int .i64 b'] 1 rfl rfl (by simp [Value.oneCell']) (by omega) (by unfold maxLen; omega) (by omega) s4.out ?_; intro g3 c3' w3' hown3 hg3 hat3; have A1 := hideP hown3; have A2 := hideP hg3; have A3 := hideP hat3; clear hown3 hg3 hat3; have E3 := hideP (below_own hr4.out A2.out (Nat.le_refl _) s4.out); have ec := (t4.out.below E3.out (by omega)).c1; have z3 := (t4.out.below E3.out (by omega)).fz 1)
          have D5 := hideP (hD.out.push1 s4.out HCH.out.symm A1.out A2.out A3.out)
          rw [← hst'.out] at D5
          clear kt40 kt41 z0 ec z3
          have b5 := hideP (show Below g6 W5 (w3'.setCell ⟨g6, 1, none⟩ (.slice (some ⟨g3, 0, none⟩) (k + 1) c3')) from (E3.out.mono (Nat.le_succ _)).setCell (p := ⟨g6, 1, none⟩) (Nat.le_refl _) _)
          go_roundw
          case rel =>
            exact ⟨k + 1, by omega, by go_num, ⟨D5.out, Nat.le_trans s4.out b5.out.size, c3.out.below b5.out (by have := l6.out; omega), cb.out.trans (b5.out.mono (by have := l6.out; omega))⟩⟩
          case measure => simp [intOf]; omega
    · obtain rfl : k = d := by omega
      obtain ⟨R, s, R', s', hDD⟩ := cD.out
      have hD := hideP hDD
      have t4 := hideP hD.out.1
      rw [regL_len, regL_len] at t4
      have z0 := c3.out.fz 0
      have z1 := c3.out.fz 1
      clear hDD
      have kt40 := t4.out.c0; have kt41 := t4.out.c1
      go_upto_region 18 with fail
      go_wp2_with (refine wpList_store_pair rfl 58 (.tmp 6) (.tmp 62) rfl w.heap.size _ _ 58 _ _ rfl rfl c3.out size_box' rfl rfl ?_)
      refine ret_box rfl rfl (c3.out.set2 _ _) rfl ?_
      have hl6 := l6.out
      exact ⟨R, s, R', s', rfl, (own_setCell (own_setCell hD.out.2.1 (by simp; omega) _) (by simp; omega) _).mono (by omega), (own_setCell (own_setCell hD.out.2.2.1 (by simp; omega) _) (by simp; omega) _).mono (by omega), (cb.out.setCell (p := ⟨w.heap.size, 0, none⟩) (by simp) _).setCell (p := ⟨w.heap.size, 1, none⟩) (by simp) _⟩
end Go.Proofs.Ytjdbpeblbejllaa
