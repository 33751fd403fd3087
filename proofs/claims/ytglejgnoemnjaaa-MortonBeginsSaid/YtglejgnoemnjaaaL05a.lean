/- The walk of MortonBegins. -/
import Derived.Test.YtglejgnoemnjaaaLaw05
import Derived.Test.YtglejgnoemnjaaaMortPl2
set_option linter.unusedVariables false
set_option linter.unusedSimpArgs false
namespace Go.Proofs.Ytglejgnoemnjaaa
open Go.RowKit

theorem rowArr {w : World} {g n m : Nat} {t : TypeId} {f : Nat → Value} (h : w.rowIs g t m f) (hn : n = m) : Arr w w.heap.size (some ⟨g, 0, none⟩) n f := Arr.of_row h (Nat.le_of_eq hn)

/-- the plain law -/
def topEq (p q : List Int) (n j : Nat) : Prop := (pl (p.getD j 0) ^^^ pl (q.getD j 0)) / 2 ^ (64 - n) = 0
theorem xor_high (a b s : Nat) : (a ^^^ b) / 2 ^ s = 0 ↔ a / 2 ^ s = b / 2 ^ s := by
  rw [← Nat.shiftRight_eq_div_pow, ← Nat.shiftRight_eq_div_pow, ← Nat.shiftRight_eq_div_pow, Nat.shiftRight_xor_distrib]
  constructor
  · intro h
    have h2 : (a >>> s) ^^^ ((a >>> s) ^^^ (b >>> s)) = a >>> s := by rw [h, Nat.xor_zero]
    rw [← Nat.xor_assoc, Nat.xor_self, Nat.zero_xor] at h2
    exact h2.symm
  · intro h; rw [h, Nat.xor_self]
/-- two words have the same n highest bits just if they are the same above -/
theorem high_bits (a b n : Nat) (hn : n ≤ 64) (ha : a < 2 ^ 64) (hb : b < 2 ^ 64) : (∀ m, m < n → a / 2 ^ (63 - m) % 2 = b / 2 ^ (63 - m) % 2) ↔ a / 2 ^ (64 - n) = b / 2 ^ (64 - n) := by
  induction n with
  | zero =>
    simp only [Nat.sub_zero]
    rw [Nat.div_eq_of_lt ha, Nat.div_eq_of_lt hb]
    simp
  | succ n ih =>
    have e : 64 - n = (64 - (n + 1)) + 1 := by omega
    have e3 : 63 - n = 64 - (n + 1) := by omega
    have i2 := ih (by omega)
    rw [e, Nat.pow_succ, ← Nat.div_div_eq_div_mul, ← Nat.div_div_eq_div_mul] at i2
    constructor
    · intro h
      have h1 := i2.1 fun m hm => h m (by omega)
      have h2 := h n (by omega)
      rw [e3] at h2
      omega
    · intro h m hm
      by_cases hmn : m = n
      · rw [hmn, e3, h]
      · exact i2.2 (by rw [h]) m (by omega)
theorem begins_law (p q : List Int) (n : Nat) (hp : IsI p) (hq : IsI q) (hl : p.length = q.length) (h1 : 1 ≤ p.length) (hn : n ≤ 64) :
    (∀ i, i < n * p.length → bitAt (code p) i = bitAt (code q) i) ↔ (0 < n → ∀ j, j < p.length → topEq p q n j) := by
  have hN : n * p.length ≤ 64 * p.length := Nat.mul_le_mul_right _ hn
  have key : ∀ j, j < p.length → ((∀ m, m < n → bitAt (code p) (m * p.length + j) = bitAt (code q) (m * p.length + j)) ↔ topEq p q n j) := fun j hj => by
    unfold topEq
    rw [xor_high, ← high_bits _ _ n hn (pl_lt _ (hp j).2) (pl_lt _ (hq j).2)]
    constructor
    · intro h m hm
      have hi : m * p.length + j < 64 * p.length := by
        have : (m + 1) * p.length ≤ n * p.length := Nat.mul_le_mul_right _ hm
        rw [Nat.add_mul] at this; omega
      have := h m hm
      rw [bitAt_code p _ hi, bitAt_code q _ (by omega), rbit_at p m j hj] at this
      rw [hl, rbit_at q m j (by omega)] at this
      exact this
    · intro h m hm
      have hi : m * p.length + j < 64 * p.length := by
        have : (m + 1) * p.length ≤ n * p.length := Nat.mul_le_mul_right _ hm
        rw [Nat.add_mul] at this; omega
      rw [bitAt_code p _ hi, bitAt_code q _ (by omega), rbit_at p m j hj]
      rw [hl, rbit_at q m j (by omega)]
      exact h m hm
  constructor
  · intro h h0 j hj
    refine (key j hj).1 fun m hm => h _ ?_
    have : (m + 1) * p.length ≤ n * p.length := Nat.mul_le_mul_right _ hm
    rw [Nat.add_mul] at this; omega
  · intro h i hi
    have h0 : 0 < n := by
      rcases Nat.eq_zero_or_pos n with e | e
      · subst e; simp at hi
      · exact e
    have hm : i / p.length < n := by rw [Nat.div_lt_iff_lt_mul (by omega)]; exact hi
    have := (key (i % p.length) (Nat.mod_lt _ (by omega))).2 (h h0 _ (Nat.mod_lt _ (by omega))) (i / p.length) hm
    have e : i / p.length * p.length + i % p.length = i := by rw [Nat.mul_comm, Nat.div_add_mod]
    rwa [e] at this

set_option maxHeartbeats 2000000 in
theorem walk_MortonBegins (A0 : Option Addr) (z0 : List Int) (c0 : Nat) (A1 : Option Addr) (z1 : List Int) (c1 : Nat) (x2 : Int) (w : World)
    (a0 : Arr w w.heap.size A0 z0.length (i64s z0)) (i0 : IsI z0) (n0 : z0.length ≤ 17592186043904) (a1 : Arr w w.heap.size A1 z1.length (i64s z1)) (i1 : IsI z1) (n1 : z1.length ≤ 17592186043904) (b2 : 0 ≤ x2 ∧ x2 ≤ 255) :
    Calls Try.prog 3 #[.slice A0 z0.length c0, .slice A1 z1.length c1, .int .u8 x2] w fun e w' => e = .returned (.bool true) ∧ Below w.heap.size w w' := by
  by_cases hg : z0.length < 1 ∨ 8 < z0.length ∨ z0.length ≠ z1.length
  · by_cases g1 : z0.length < 1
    · have t1 : decide ((z0.length : Int) < 1) = true := by simp; omega
      clear hg a0 a1
      go_enter Try.func3, Try.ntmps3
      go_wp2_with (go_at_call 8; refine (alive_any w).mono ?_; rintro e w1 ⟨rfl, hb1⟩)
      go_ret
      exact ⟨rfl, hb1⟩
    · have t1 : decide ((z0.length : Int) < 1) = false := by simp; omega
      by_cases g2 : 8 < z0.length
      · have t2 : decide ((8 : Int) < (z0.length : Int)) = true := by simp; omega
        clear hg a0 a1
        go_enter Try.func3, Try.ntmps3
        go_wp2_with (go_at_call 8; refine (alive_any w).mono ?_; rintro e w1 ⟨rfl, hb1⟩)
        go_ret
        exact ⟨rfl, hb1⟩
      · have t2 : decide ((8 : Int) < (z0.length : Int)) = false := by simp; omega
        have t3 : ((z0.length : Int) != (z1.length : Int)) = true := by simp; omega
        clear hg a0 a1
        go_enter Try.func3, Try.ntmps3
        go_wp2_with (go_at_call 8; refine (alive_any w).mono ?_; rintro e w1 ⟨rfl, hb1⟩)
        go_ret
        exact ⟨rfl, hb1⟩
  · have t1 : decide ((z0.length : Int) < 1) = false := by simp; omega
    have t2 : decide ((8 : Int) < (z0.length : Int)) = false := by simp; omega
    have t3 : ((z0.length : Int) != (z1.length : Int)) = false := by simp; omega
    obtain ⟨x, rfl⟩ := Int.eq_ofNat_of_zero_le b2.1
    obtain ⟨n, hn⟩ : ∃ n, n = x % 65 := ⟨_, rfl⟩
    have e1 : ((x : Int)) % 65 = (n : Int) := by omega
    have hn64 : n ≤ 64 := by omega
    have d1 : 1 ≤ z0.length := by omega
    have d8 : z0.length ≤ 8 := by omega
    have hl : z0.length = z1.length := by omega
    clear hg
    have HA0 := hideP a0; have HA1 := hideP a1; have HI0 := hideP i0; have HI1 := hideP i1; have HL := hideP hl; have HN := hideP hn
    clear a0 a1 i0 i1 hn
    have d1' : 1 ≤ z1.length := by omega
    have d8' : z1.length ≤ 8 := by omega
    clear hl
    go_enter Try.func3, Try.ntmps3
    go_wp2_with (go_at_call 8; refine (alive_any w).mono ?_; rintro e w1 ⟨rfl, hb1⟩)
    have B1 := hideP hb1; clear hb1
    have A0' := HA0.out.after B1.out
    refine (code_in A0 z0 c0 w1 A0' HI0.out d1 d8).mono ?_
    rintro e w2 ⟨g2, rfl, hg2, hr2, hb2⟩
    have B2 := hideP hb2; have R2 := hideP hr2; clear hb2 hr2 A0' hg2
    go_wp2_with fail
    have A1' := (HA1.out.after B1.out).after B2.out
    refine (code_in A1 z1 c1 w2 A1' HI1.out d1' d8').mono ?_
    rintro e w3 ⟨g3, rfl, hg3, hr3, hb3⟩
    have B3 := hideP hb3; have R3 := hideP hr3; clear hb3 hr3 A1' hg3
    have B13 : Below w.heap.size w w3 := B1.out.trans ((B2.out.trans (B3.out.mono B2.out.size)).mono B1.out.size)
    have BB := hideP B13; clear B13
    have C2 : Arr w3 w3.heap.size (some ⟨g2, 0, none⟩) (8 * z0.length) (u8s (code z0)) := rowArr (rowIs_below R2.out B3.out R2.out.lt) rfl
    have C3 : Arr w3 w3.heap.size (some ⟨g3, 0, none⟩) (8 * z1.length) (u8s (code z1)) := rowArr R3.out rfl
    have H2 := hideP C2; have H3 := hideP C3; clear C2 C3
    obtain ⟨N, hN⟩ : ∃ N, N = n * z0.length := ⟨_, rfl⟩
    have hNi : IntKind.i64.wrap ((n : Int) * z0.length) = N := by
      have h2 : n * z0.length ≤ 64 * 8 := Nat.mul_le_mul hn64 d8
      rw [IntWalk.i64_in _ (by rw [← Int.natCast_mul]; omega), hN, Int.natCast_mul]
    have hNd : N ≤ 64 * z0.length := by rw [hN]; exact Nat.mul_le_mul_right _ hn64
    have HNe := hideP hN; clear hN
    go_wp2_with fail
    go_loop [12, 14] (fun v12 v14 => ∃ i : Nat, ∃ b : Bool, i ≤ N ∧ v14 = .int .i64 i ∧ v12 = .bool b ∧ Hid (b = true ↔ ∀ j, j < i → bitAt (code z0) j = bitAt (code z1) j)) (fun _ v14 => N - (intOf v14).toNat)
    case atStart => exact ⟨0, true, by omega, rfl, rfl, by simp [Hid]⟩
    case round =>
      obtain ⟨i, b, hi, rfl, rfl, hb⟩ := hrel
      have hl := HL.out
      by_cases hlt : i < N
      · have tN : decide ((i : Int) < (N : Int)) = true := by simp; omega
        have HL2 := hideP hl
        cases b
        · clear hl
          go_wp2_with fail
          go_round
          case rel =>
            refine ⟨i + 1, false, by omega, by go_num, rfl, ?_⟩
            have h := hb.out
            simp only [Hid]
            simp only [Bool.false_eq_true, false_iff] at h ⊢
            exact fun h2 => h fun j hj => h2 j (by omega)
          case measure => simp [intOf]; omega
        · have K2 := hideP (bit_in (some ⟨g2, 0, none⟩) (code z0) (8 * z0.length) i w3 (by rw [code_len]; exact H2.out) (code_lt z0) (by rw [code_len]; omega) (by omega) (by rw [code_len]; omega))
          have K3 := hideP (bit_in (some ⟨g3, 0, none⟩) (code z1) (8 * z1.length) i w3 (by rw [code_len]; exact H3.out) (code_lt z1) (by rw [code_len]; omega) (by omega) (by rw [code_len]; omega))
          rw [code_len, Int.toNat_natCast] at K2 K3
          have y2 := bitAt_le (code z0) i
          have y3 := bitAt_le (code z1) i
          obtain ⟨y, hy⟩ : ∃ y, y = bitAt (code z0) i := ⟨_, rfl⟩
          obtain ⟨z, hz⟩ : ∃ z, z = bitAt (code z1) i := ⟨_, rfl⟩
          rw [← hy] at K2 y2
          rw [← hz] at K3 y3
          have HY := hideP hy; have HZ := hideP hz; clear hy hz hl
          go_wp2_with fail
          refine K2.out.mono ?_
          rintro e w' ⟨rfl, rfl⟩
          go_wp2_with fail
          refine K3.out.mono ?_
          rintro e w' ⟨rfl, rfl⟩
          go_wp2_with fail
          go_round
          case rel =>
            refine ⟨i + 1, ((y : Int) == z), by omega, by go_num, rfl, ?_⟩
            have h := hb.out
            simp only [Hid]
            simp only [true_iff] at h
            rw [beq_iff_eq]
            constructor
            · intro h2 j hj
              by_cases e : j = i
              · rw [e, ← HY.out, ← HZ.out]; omega
              · exact h j (by omega)
            · intro h2
              have := h2 i (by omega)
              rw [← HY.out, ← HZ.out] at this
              omega
          case measure => simp [intOf]; omega
      · have tN : decide ((i : Int) < (N : Int)) = false := by simp; omega
        have e : i = N := by omega
        have HE := hideP e; have HL2 := hideP hl
        clear e hl
        go_wp2_with fail
        have hfin : ∀ b' : Bool, (b' = true ↔ (0 < n → ∀ k, k < z0.length → topEq z0 z1 n k)) → (b == b') = true := fun b' hb' => by
          have h := begins_law z0 z1 n HI0.out HI1.out HL.out d1 hn64
          rw [← HNe.out, ← HE.out] at h
          have h2 := hb.out.trans (h.trans hb'.symm)
          cases b <;> cases b' <;> simp_all
        have HF := hideP hfin; clear hfin
        go_loopw [13, 15] (fun v13 v15 wr => ∃ j : Nat, ∃ b' : Bool, ∃ nq : Nat, j ≤ z0.length ∧ v15 = .int .i64 j ∧ v13 = .bool b' ∧ Hid (b' = true ↔ (0 < n → ∀ k, k < j → topEq z0 z1 n k)) ∧ Hid (w3.drewN nq = wr)) (fun _ v15 _ => z0.length - (intOf v15).toNat)
        case atStart => exact ⟨0, true, 0, by omega, rfl, rfl, by simp [Hid], rfl⟩
        case round =>
          obtain ⟨j, b', nq, hj, rfl, rfl, hb', hw⟩ := hrel
          have hret : Below w.heap.size w wr := by rw [← hw.out]; exact below_drewN BB.out nq
          have HR := hideP hret; clear hret
          by_cases hjl : j < z0.length
          · have u1 : decide ((j : Int) < (z0.length : Int)) = true := by simp; omega
            by_cases hn0 : 0 < n
            · have u2 : decide ((0 : Int) < (n : Int)) = true := by simp; omega
              have hw2 : ∀ k, w3.drewN (nq + k) = wr.drewN k := fun k => by rw [← hw.out, World.drewN_drewN]
              have HW := hideP hw2; clear hw2
              cases b'
              · go_wp2_with fail
                go_quiet (fail)
                go_wp2_with fail
                go_roundw
                case rel =>
                  refine ⟨j + 1, false, _, by omega, by go_num, rfl, ?_, HW.out _⟩
                  have h := hb'.out
                  simp only [Hid]
                  simp only [Bool.false_eq_true, false_iff] at h ⊢
                  exact fun h2 => h fun h3 k hk => h2 h3 k (by omega)
                case measure => simp [intOf]; omega
              · obtain ⟨b0, o0, rfl, hb0, hc0⟩ := HA0.out (by omega)
                obtain ⟨b1, o1, rfl, hb1, hc1⟩ := HA1.out (by omega)
                have hl := HL.out
                have k1 := (HR.out.cell (p := ⟨b0, o0 + j, none⟩) hb0).trans (hc0 j hjl)
                have k2 := (HR.out.cell (p := ⟨b1, o1 + j, none⟩) hb1).trans (hc1 j (by omega))
                unfold i64s at k1 k2
                have z1' := HI0.out j
                have z2' := HI1.out j
                obtain ⟨u, hu⟩ : ∃ u, u = z0.getD j 0 := ⟨_, rfl⟩
                obtain ⟨v, hv⟩ : ∃ v, v = z1.getD j 0 := ⟨_, rfl⟩
                rw [← hu] at k1 z1'
                rw [← hv] at k2 z2'
                have hX := uw_xor u v z1'.1 z1'.2 z2'.1 z2'.2
                have hX64 := pl_xor_lt u v z1'.2 z2'.2
                obtain ⟨X, hXe⟩ : ∃ X, X = pl u ^^^ pl v := ⟨_, rfl⟩
                rw [← hXe] at hX hX64
                have i1' : (0 : Int) ≤ (j : Int) := by omega
                have i2' : (j : Int) < (z0.length : Int) := by omega
                have i3' : (j : Int) < (z1.length : Int) := by omega
                obtain ⟨m, hm⟩ : ∃ m, m = 64 - n := ⟨_, rfl⟩
                have m64 : m ≤ 64 := by omega
                have s1 : IntKind.i64.wrap (64 - (n : Int)) = (m : Int) := by rw [IntWalk.i64_in _ (by omega)]; omega
                have s2 : IntKind.u64.wrap (m : Int) = (m : Int) := IntWalk.u64_in _ (by omega)
                have Hu := hideP hu; have Hv := hideP hv; have HX := hideP hXe; have HM := hideP hm; have HL3 := hideP hl
                clear hu hv hXe hm hc0 hc1 hl
                have s3 : (0 : Int) ≤ (m : Int) := by omega
                have s4 : (m : Int) ≤ 64 := by omega
                go_wp2_with fail
                go_quiet (fail)
                go_wp2_with fail
                go_roundw
                case rel =>
                  refine ⟨j + 1, _, _, by omega, by go_num, rfl, ?_, HW.out _⟩
                  have h := hb'.out
                  simp only [Hid]
                  simp only [true_iff] at h
                  have hc : ((X : Int) / 2 ^ m) = ((X / 2 ^ m : Nat) : Int) := by simp
                  have ht : topEq z0 z1 n j ↔ X / 2 ^ m = 0 := by unfold topEq; rw [HX.out, HM.out, Hu.out, Hv.out]
                  rw [beq_iff_eq, hc]
                  constructor
                  · intro h2 h3 k hk
                    by_cases e : k = j
                    · rw [e, ht]; omega
                    · exact h h3 k (by omega)
                  · intro h2
                    have := ht.1 (h2 hn0 j (by omega))
                    omega
                case measure => simp [intOf]; omega
            · have u2 : decide ((0 : Int) < (n : Int)) = false := by simp; omega
              go_wp2_with fail
              go_ret
              refine ⟨ret_bool (HF.out _ ?_), HR.out⟩
              have h := hb'.out
              exact h.trans ⟨fun h2 h3 => absurd h3 hn0, fun h2 h3 => absurd h3 hn0⟩
          · have u1 : decide ((j : Int) < (z0.length : Int)) = false := by simp; omega
            have e2 : j = z0.length := by omega
            have HE2 := hideP e2; clear e2
            go_wp2_with fail
            go_ret
            refine ⟨ret_bool (HF.out _ ?_), HR.out⟩
            have h := hb'.out
            rw [HE2.out] at h
            exact h
end Go.Proofs.Ytglejgnoemnjaaa
