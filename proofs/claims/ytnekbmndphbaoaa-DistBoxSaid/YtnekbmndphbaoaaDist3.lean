/- Contracts of math/bits at the divisor 10. -/
import Derived.Test.YtnekbmndphbaoaaDist2
import Derived.Test.YtnekbmndphbaoaaMortPl
set_option linter.unusedVariables false
set_option linter.unusedSimpArgs false
namespace Go.Proofs.Ytnekbmndphbaoaa
open Go.RowKit

set_option maxRecDepth 100000 in
theorem len64_10 (w : World) : Calls Try.prog 76 #[.int .u64 10] w fun e w' => e = .returned (.int .i64 4) ∧ w = w' := by
  go_enter Try.func76, Try.ntmps76
  go_wp2
  go_ret
  exact ⟨ret_int (by decide +kernel), rfl⟩
theorem lead64_10 (w : World) : Calls Try.prog 70 #[.int .u64 10] w fun e w' => e = .returned (.int .i64 60) ∧ w = w' := by
  go_enter Try.func70, Try.ntmps70
  go_wp2_with fail
  refine (len64_10 w).mono ?_
  rintro e w' ⟨rfl, rfl⟩
  go_wp2
  go_ret
  exact ⟨rfl, rfl⟩

theorem div64_0 (l : Nat) (w : World) (hl : l < 18446744073709551616) :
    Calls Try.prog 51 #[.int .u64 0, .int .u64 l, .int .u64 10] w fun e w' => e = .returned (.tuple #[.int .u64 (l / 10 : Nat), .int .u64 (l % 10 : Nat)]) ∧ ∃ nq, w.drewN nq = w' := by
  go_enter Try.func51, Try.ntmps51
  go_wp2
  go_quiet (fail)
  go_wp2
  go_ret2
  exact ⟨rfl, ⟨_, rfl⟩⟩

theorem wrapS (n : Nat) (h : n < 18446744073709551616) : IntKind.u64.wrap (n : Int) = (n : Int) := by
  simp only [IntKind.wrap, IntKind.signed, IntKind.bits]; simp; omega
theorem wrapM (x : Int) : IntKind.u64.wrap x = x % 18446744073709551616 := by
  simp [IntKind.wrap, IntKind.signed, IntKind.bits]
theorem d_or (h l : Nat) (hh : h < 10) (hl : l < 18446744073709551616) : bits BinOp.or IntKind.u64 ((h : Int) * 1152921504606846976) ((l : Int) / 16) = ((h * 1152921504606846976 + l / 16 : Nat) : Int) := by
  have e1 : (h : Int) * 1152921504606846976 = ((h * 1152921504606846976 : Nat) : Int) := by omega
  have e2 : (l : Int) / 16 = ((l / 16 : Nat) : Int) := by omega
  rw [e1, e2, u64_or_nat _ _ (by omega) (by omega), nat_join 60 (h * 1152921504606846976) (l / 16) (by omega) (by omega)]
theorem d_un10 (l : Nat) : IntKind.u64.wrap ((l : Int) * 1152921504606846976) = (((l % 16) * 268435456 * 4294967296 : Nat) : Int) := by
  rw [wrapM]; omega
theorem d_q1 (a : Nat) (ha : a < 18446744073709551616) : IntKind.u64.wrap ((a : Int).tdiv 2684354560) = ((a / 2684354560 : Nat) : Int) := by
  have e : (a : Int).tdiv 2684354560 = ((a / 2684354560 : Nat) : Int) := rfl
  rw [e]; exact wrapS _ (by omega)
theorem d_r1 (a : Nat) (ha : a < 18446744073709551616) : IntKind.u64.wrap ((a : Int) - IntKind.u64.wrap (((a / 2684354560 : Nat) : Int) * 2684354560)) = ((a % 2684354560 : Nat) : Int) := by
  rw [wrapM, wrapM]; omega
theorem d_un21 (a c : Nat) (ha : a < 11529215046068469760) (hc : c < 4294967296) :
    IntKind.u64.wrap (IntKind.u64.wrap (IntKind.u64.wrap ((a : Int) * 4294967296) + (c : Int)) - IntKind.u64.wrap (((a / 2684354560 : Nat) : Int) * 11529215046068469760)) = ((a % 2684354560 * 4294967296 + c : Nat) : Int) := by
  have m := Nat.div_add_mod a 2684354560
  have m2 := Nat.mod_lt a (show 0 < 2684354560 by omega)
  generalize a / 2684354560 = q at *
  generalize a % 2684354560 = r at *
  rw [wrapM, wrapM, wrapM, wrapM]
  omega
theorem d_and (c : Nat) (hc : c < 4294967296) : bits BinOp.and IntKind.u64 ((c : Int) * 4294967296) 4294967295 = 0 := by
  have h := u64_and_nat (c * 4294967296) 4294967295 (by omega) (by omega)
  have e : (c * 4294967296 : Nat) &&& 4294967295 = 0 := by
    rw [show (4294967295 : Nat) = 2 ^ 32 - 1 from by decide, Nat.and_two_pow_sub_one_eq_mod]
    omega
  rw [e] at h
  exact h
theorem d_neg (x : Int) : decide (IntKind.u64.wrap x < 0) = false := by rw [wrapM]; simp; omega
theorem d_quo (q1 q0 : Nat) (h1 : q1 < 4294967296) (h0 : q0 < 4294967296) : IntKind.u64.wrap (IntKind.u64.wrap ((q1 : Int) * 4294967296) + (q0 : Int)) = ((q1 * 4294967296 + q0 : Nat) : Int) := by
  rw [wrapM, wrapM]; omega
theorem d_rem (u q0 r0 : Nat) (h : u = 2684354560 * q0 + r0) (h0 : r0 < 2684354560) :
    IntKind.u64.wrap (IntKind.u64.wrap (IntKind.u64.wrap ((u : Int) * 4294967296)) - IntKind.u64.wrap ((q0 : Int) * 11529215046068469760)) / 1152921504606846976 = ((r0 / 268435456 : Nat) : Int) := by
  subst h
  have e : IntKind.u64.wrap (IntKind.u64.wrap (IntKind.u64.wrap (((2684354560 * q0 + r0 : Nat) : Int) * 4294967296)) - IntKind.u64.wrap ((q0 : Int) * 11529215046068469760)) = ((r0 * 4294967296 : Nat) : Int) := by
    rw [wrapM, wrapM, wrapM, wrapM]; omega
  rw [e]; omega
theorem d_end (h l q1 r1 q0 r0 : Nat) (h1 : 2684354560 * q1 + r1 = h * 1152921504606846976 + l / 16) (h2 : 2684354560 * q0 + r0 = r1 * 4294967296 + (l % 16) * 268435456) (h3 : r0 < 2684354560) :
    q1 * 4294967296 + q0 = (h * 18446744073709551616 + l) / 10 ∧ r0 / 268435456 = (h * 18446744073709551616 + l) % 10 := by
  obtain ⟨N, hN⟩ : ∃ N, N = h * 18446744073709551616 + l := ⟨_, rfl⟩
  obtain ⟨Q, hQ⟩ : ∃ Q, Q = q1 * 4294967296 + q0 := ⟨_, rfl⟩
  have key : N * 268435456 = Q * 2684354560 + r0 := by omega
  rw [← hN, ← hQ]
  clear h1 h2 hN hQ
  omega

set_option maxRecDepth 100000 in
set_option maxHeartbeats 1000000 in
theorem div64_n (h l : Nat) (w : World) (h1 : 1 ≤ h) (h2 : h < 10) (hl : l < 18446744073709551616) :
    Calls Try.prog 51 #[.int .u64 h, .int .u64 l, .int .u64 10] w fun e w' => e = .returned (.tuple #[.int .u64 ((h * 18446744073709551616 + l) / 10 : Nat), .int .u64 ((h * 18446744073709551616 + l) % 10 : Nat)]) ∧ w = w' := by
  have t0 : decide ((10 : Int) ≤ h) = false := by simp; omega
  have t1 : ((h : Int) == 0) = false := by simp; omega
  obtain ⟨a, ea⟩ : ∃ a, a = h * 1152921504606846976 + l / 16 := ⟨_, rfl⟩
  obtain ⟨c, ec⟩ : ∃ c, c = (l % 16) * 268435456 := ⟨_, rfl⟩
  have ha : a < 11529215046068469760 := by omega
  have hc : c < 4294967296 := by omega
  obtain ⟨q1, eq1⟩ : ∃ q, q = a / 2684354560 := ⟨_, rfl⟩
  obtain ⟨r1, er1⟩ : ∃ r, r = a % 2684354560 := ⟨_, rfl⟩
  have hq1 : q1 < 4294967296 := by rw [eq1]; omega
  have hr1 : r1 < 2684354560 := by rw [er1]; exact Nat.mod_lt _ (by omega)
  have m1 : 2684354560 * q1 + r1 = a := by rw [eq1, er1]; exact Nat.div_add_mod _ _
  obtain ⟨u, eu⟩ : ∃ u, u = r1 * 4294967296 + c := ⟨_, rfl⟩
  have hu : u < 11529215046068469760 := by clear m1 er1 eq1 ea ec; omega
  obtain ⟨q0, eq0⟩ : ∃ q, q = u / 2684354560 := ⟨_, rfl⟩
  obtain ⟨r0, er0⟩ : ∃ r, r = u % 2684354560 := ⟨_, rfl⟩
  have hq0 : q0 < 4294967296 := by clear m1 er1 eq1 ea ec eu; rw [eq0]; omega
  have hr0 : r0 < 2684354560 := by rw [er0]; exact Nat.mod_lt _ (by omega)
  have m0 : 2684354560 * q0 + r0 = u := by rw [eq0, er0]; exact Nat.div_add_mod _ _
  have hend := d_end h l q1 r1 q0 r0 (by rw [m1, ea]) (by rw [m0, eu, ec]) hr0
  have t2 : decide ((4294967296 : Int) ≤ q1) = false := by clear m1 m0 er1 eq1 ea ec eu hend; simp; omega
  have t3 : decide ((4294967296 : Int) ≤ q0) = false := by clear m1 m0 er1 eq1 ea ec eu hend; simp; omega
  have HEND := hideP hend
  clear hend m0 m1
  have eor := d_or h l h2 hl
  rw [← ea] at eor
  have ew := d_un10 l
  rw [← ec] at ew
  have e10 : (a : Int) / 2684354560 = ((a / 2684354560 : Nat) : Int) := rfl
  have e11 : (a : Int) - ((a / 2684354560 : Nat) : Int) * 2684354560 = ((a % 2684354560 : Nat) : Int) := by clear ea ec eq1 er1 eu eq0 er0 t2 t3 eor ew e10; omega
  have e12 := d_un21 a c ha hc
  rw [← eq1] at e10 e11 e12
  rw [← er1] at e11 e12
  rw [← eu] at e12
  have e13 : (u : Int) / 2684354560 = ((u / 2684354560 : Nat) : Int) := rfl
  have e14 : (u : Int) - ((u / 2684354560 : Nat) : Int) * 2684354560 = ((u % 2684354560 : Nat) : Int) := by clear ea ec eq1 er1 eu eq0 er0 t2 t3 eor ew e10 e11 e12 e13; omega
  rw [← eq0] at e13 e14
  rw [← er0] at e14
  have ewd : ((c * 4294967296 : Nat) : Int) / 4294967296 = (c : Int) := by clear eor ew e10 e11 e12 e13 e14 ea ec eq1 er1 eu eq0 er0; omega
  have e8 : bits BinOp.and IntKind.u64 11529215046068469760 4294967295 = 0 := by kernel_rfl
  have e9 : bits BinOp.and IntKind.u64 ((c : Int) * 4294967296) 4294967295 = 0 := d_and c hc
  have t4 := d_neg (IntKind.u64.wrap ((4294967296 : Int) * (r1 : Int)) + (c : Int))
  have t5 := d_neg (IntKind.u64.wrap ((4294967296 : Int) * (r0 : Int)))
  have e16 : IntKind.u64.wrap (q0 : Int) = (q0 : Int) := wrapS _ (Nat.lt_trans hq0 (by decide))
  have e17 : IntKind.u64.wrap ((u : Int) - IntKind.u64.wrap (((u / 2684354560 : Nat) : Int) * 2684354560)) = ((u % 2684354560 : Nat) : Int) := d_r1 u (Nat.lt_trans hu (by decide))
  rw [← eq0, ← er0] at e17
  have e18 := d_quo q1 q0 hq1 hq0
  have e19 := d_rem u q0 r0 (by rw [eq0, er0]; exact (Nat.div_add_mod _ _).symm) hr0
  have S1 := hideP (And.intro eor (And.intro ew (And.intro e10 (And.intro e11 (And.intro ewd (And.intro e8 e9))))))
  have B2 := hideP (And.intro hc (And.intro hr1 hq1))
  have S2 := hideP (And.intro e12 (And.intro e13 (And.intro e17 (And.intro t2 (And.intro t4 e16)))))
  have B3 := hideP (And.intro hu (And.intro hr0 hq0))
  have S3 := hideP (And.intro t3 t5)
  have S4 := hideP (And.intro e18 e19)
  clear ea ec eq1 er1 eu eq0 er0 eor ew e10 e11 ewd e8 e9 e12 e13 e14 t2 t4 t3 t5 e16 e17 e18 e19 hc hr1 hq1 hu hr0 hq0
  go_enter Try.func51, Try.ntmps51
  go_wp2_with fail
  refine (lead64_10 w).mono ?_
  rintro e w' ⟨rfl, rfl⟩
  obtain ⟨eor, ew, e10, e11, ewd, e8, e9⟩ := S1.out
  go_wp2_with fail
  clear eor ew e10 e11 ewd e8 e9 ha h1 h2 hl t0 t1
  obtain ⟨e12, e13, e14, t2, t4, e16⟩ := S2.out
  refine wp_loop_once ?_
  go_wp2_with fail
  clear e12 e13 e14 t2 t4
  obtain ⟨t3, t5⟩ := S3.out
  refine wp_loop_once ?_
  go_wp2
  go_ret2
  obtain ⟨e18, e19⟩ := S4.out
  refine ⟨?_, rfl⟩
  rw [← HEND.out.1, ← HEND.out.2, ← e19, ← e18]
  rfl

/-- bits.Div64 at 10 -/
theorem div64_10 (D : Nat) (w : World) (h l : Nat) (hh : h < 10) (hl : l < 18446744073709551616) :
    Calls Try.prog 51 #[.int .u64 h, .int .u64 l, .int .u64 10] w fun e w' => e = .returned (.tuple #[.int .u64 ((h * 18446744073709551616 + l) / 10 : Nat), .int .u64 ((h * 18446744073709551616 + l) % 10 : Nat)]) ∧ ∃ nq, w.drewN nq = w' := by
  rcases Nat.eq_zero_or_pos h with h0 | h0
  · subst h0
    rw [Nat.zero_mul, Nat.zero_add]
    exact div64_0 l w hl
  · exact (div64_n h l w h0 hh hl).mono fun e w' h => ⟨h.1, 0, h.2⟩

/-- the digits of a number, the last one first, as bytes -/
def dig (D : Nat) : List Nat := if h : D / 10 = 0 then [48 + D % 10] else (48 + D % 10) :: dig (D / 10)
termination_by D
decreasing_by omega
theorem dig_len (m D : Nat) (h : D < 10 ^ m) (hm : 0 < m) : (dig D).length ≤ m := by
  induction m generalizing D with
  | zero => omega
  | succ m ih =>
    unfold dig
    split
    · simp
    · rename_i h0
      have h1 : D / 10 < 10 ^ m := by rw [Nat.pow_succ] at h; omega
      have := ih (D / 10) h1 (by rcases Nat.eq_zero_or_pos m with e | e; subst e; simp at h1; omega; exact e)
      simp; omega
theorem dig_B (D : Nat) : ∀ x ∈ dig D, x < 256 := by
  induction D using Nat.strongRecOn with
  | ind D ih =>
    unfold dig
    split
    · simp; omega
    · rename_i h0
      intro x hx
      simp only [List.mem_cons] at hx
      rcases hx with rfl | hx
      · omega
      · exact ih (D / 10) (by omega) x hx

/-- a row with its first k cells and its last k ones exchanged -/
def revAt (n k : Nat) (f : Nat → Value) (i : Nat) : Value := if i < k ∨ n - k ≤ i then f (n - 1 - i) else f i

set_option maxHeartbeats 1000000 in
theorem reverse_any (g n c : Nat) (f : Nat → Value) (B : Nat) (w : World) (hb : Blk w g 5 n f) (hB : B ≤ g) (hn : n ≤ 1000000) (hf : ∀ i, ∃ x : Int, f i = .int .u8 x) :
    Calls Try.prog 52 #[.slice (some ⟨g, 0, none⟩) n c] w fun e w' => e = .returned (.tuple #[]) ∧ Blk w' g 5 n (fun i => f (n - 1 - i)) ∧ Below B w w' := by
  have HF := hideP hf; clear hf
  go_enter Try.func52, Try.ntmps52
  go_wp2
  go_loopw [2, 3] (fun v2 v3 wr => ∃ i : Nat, v2 = .int .i64 i ∧ v3 = .int .i64 ((n : Int) - 1 - i) ∧ 2 * i ≤ n ∧ Blk wr g 5 n (revAt n i f) ∧ Below B w wr) (fun v2 _ _ => n - (intOf v2).toNat)
  case atStart => exact ⟨0, rfl, by simp, by omega, hb.congr (fun i hi => by unfold revAt; rw [if_neg (by omega)]), Below.refl _ _⟩
  case round =>
    obtain ⟨i, rfl, rfl, hi, hblk, hbel⟩ := hrel
    clear hb
    by_cases hlt : 2 * i + 1 < n
    · have t : decide ((i : Int) < (n : Int) - 1 - i) = true := by simp; omega
      obtain ⟨x, hx⟩ := HF.out (n - 1 - i)
      obtain ⟨y, hy⟩ := HF.out i
      have k1 := hblk.cell (i := i) (by omega)
      have k2 := hblk.cell (i := n - 1 - i) (by omega)
      have f1 := hblk.frozen i
      have f2 := hblk.frozen (n - 1 - i)
      have e1 : revAt n i f i = .int .u8 y := by unfold revAt; rw [if_neg (by omega), hy]
      have e2 : revAt n i f (n - 1 - i) = .int .u8 x := by unfold revAt; rw [if_neg (by omega), hx]
      rw [e1] at k1
      rw [e2] at k2
      obtain ⟨j, ej⟩ : ∃ j, j = n - 1 - i := ⟨_, rfl⟩
      have ej' : (n : Int) - 1 - i = (j : Int) := by omega
      rw [← ej] at k2 f2 hx
      rw [ej'] at t ⊢
      have hij : i < j := by omega
      have hjn : j < n := by omega
      have HX := hideP hx; have HY := hideP hy; have EJ := hideP ej; have E1 := hideP e1; have E2 := hideP e2; have HBK := hideP hblk; have HBE := hideP hbel; have HI := hideP hi; have HL := hideP hlt
      clear hx hy ej ej' e1 e2 hblk hbel hi hlt
      go_wp2
      go_region
      all_goals go_wp2
      all_goals have EI := HI.out
      all_goals have EL := HL.out
      all_goals have EJ' := EJ.out
      all_goals refine ⟨⟨i + 1, by go_num, ?_, by omega, ?_, ?_⟩, by simp [intOf]; omega⟩
      · congr 1; omega
      · refine (((HBK.out.set i _).set j _).drew).congr fun k hk => ?_
        unfold revAt
        by_cases e1 : k = j
        · subst e1
          rw [if_pos rfl, if_pos (by omega), show n - 1 - k = i from by omega, HY.out]
        · rw [if_neg e1]
          by_cases e2 : k = i
          · subst e2
            rw [if_pos rfl, if_pos (by omega), show n - 1 - k = j from by omega, HX.out]
          · rw [if_neg e2]
            by_cases e3 : k < i ∨ n - i ≤ k
            · rw [if_pos e3, if_pos (by omega)]
            · rw [if_neg e3, if_neg (by omega)]
      · exact ((HBE.out.setCell (p := ⟨g, i, none⟩) hB _).setCell (p := ⟨g, j, none⟩) hB _).drew
    · have t : decide ((i : Int) < (n : Int) - 1 - i) = false := by simp; omega
      go_wp2
      go_end0
      refine ⟨rfl, hblk.congr fun k hk => ?_, hbel⟩
      unfold revAt
      split
      · rfl
      · rw [show n - 1 - k = k from by omega]
end Go.Proofs.Ytnekbmndphbaoaa
