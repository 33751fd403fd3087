/- The walk of MortonOrder. -/
import Derived.Test.YtglejgnoemnjaaaLaw05
import Derived.Test.YtglejgnoemnjaaaMortPl2
import Derived.Test.YtglejgnoemnjaaaEager
set_option linter.unusedVariables false
set_option linter.unusedSimpArgs false
namespace Go.Proofs.Ytglejgnoemnjaaa
open Go.RowKit

theorem lexLt_irr : ∀ a : List Nat, lexLt a a = false
  | [] => rfl
  | x :: a => by simp [lexLt, lexLt_irr a]
theorem lexLt_asymm (a b : List Nat) (hl : a.length = b.length) (h : lexLt a b = true) : lexLt b a = false := by
  rw [Bool.eq_false_iff]
  intro h'
  rw [lexLt_iff _ _ hl] at h
  rw [lexLt_iff _ _ hl.symm] at h'
  obtain ⟨i, hi, h1, h2⟩ := h
  obtain ⟨j, hj, h3, h4⟩ := h'
  rcases Nat.lt_trichotomy i j with e | e | e
  · have := h3 i e; omega
  · subst e; omega
  · have := h1 j e; omega
theorem lexLt_total (a b : List Nat) (hl : a.length = b.length) (h : lexLt a b = false) (h' : lexLt b a = false) : a = b := by
  induction a generalizing b with
  | nil => exact (List.eq_nil_of_length_eq_zero hl.symm).symm
  | cons x a ih =>
    cases b with
    | nil => simp at hl
    | cons y b =>
      simp only [lexLt, Bool.or_eq_false_iff, Bool.and_eq_false_iff, decide_eq_false_iff_not] at h h'
      have hxy : x = y := by omega
      subst hxy
      rw [ih b (by simpa using hl) (by simpa using h.2) (by simpa using h'.2)]
theorem code_inj (p q : List Int) (hp : IsI p) (hq : IsI q) (hl : p.length = q.length) (h : code p = code q) : p = q := by
  rw [← ptL_code p hp, ← ptL_code q hq, h, hl]
theorem code_mono (p q : List Int) (hp : IsI p) (hq : IsI q) (hl : p.length = q.length) (h : ∀ i, i < p.length → p.getD i 0 ≤ q.getD i 0) : lexLt (code q) (code p) = false := by
  rw [Bool.eq_false_iff]
  intro h'
  rw [lex_bits q p hl.symm] at h'
  obtain ⟨i, hi, h1, h2⟩ := h'
  have h0 : 0 < q.length := by
    rcases Nat.eq_zero_or_pos q.length with e | e
    · rw [e] at hi; omega
    · exact e
  have hj : i % q.length < q.length := Nat.mod_lt _ h0
  have ei : i / q.length * q.length + i % q.length = i := by rw [Nat.mul_comm, Nat.div_add_mod]
  have hb : i / q.length < 64 := by rw [Nat.div_lt_iff_lt_mul h0]; exact hi
  have rq : ∀ b, rbit q (b * q.length + i % q.length) = pl (q.getD (i % q.length) 0) / 2 ^ (63 - b) % 2 := fun b => rbit_at q b _ hj
  have rp : ∀ b, rbit p (b * q.length + i % q.length) = pl (p.getD (i % q.length) 0) / 2 ^ (63 - b) % 2 := fun b => by
    rw [← hl]; exact rbit_at p b _ (by rw [hl]; exact hj)
  have hle := h (i % q.length) (by rw [hl]; exact hj)
  have hlt : pl (q.getD (i % q.length) 0) < pl (p.getD (i % q.length) 0) := by
    rw [word_lt _ _ (pl_lt _ (hq _).2) (pl_lt _ (hp _).2)]
    refine ⟨i / q.length, hb, fun s hs => ?_, ?_⟩
    · have := h1 (s * q.length + i % q.length) (by
        have : (s + 1) * q.length ≤ i / q.length * q.length := Nat.mul_le_mul_right _ hs
        rw [Nat.add_mul] at this; omega)
      rw [rq, rp] at this
      exact this
    · have := h2
      rw [← ei, rq, rp] at this
      exact this
  rw [pl_le _ _ (hq _).1 (hp _).1] at hlt
  omega
/-- how the law's loop comes out -/
def allLe (p q : List Int) (n : Nat) : Bool := (List.range n).all fun i => decide (p.getD i 0 ≤ q.getD i 0)
theorem allLe_succ (p q : List Int) (n : Nat) : allLe p q (n + 1) = (allLe p q n && decide (p.getD n 0 ≤ q.getD n 0)) := by simp [allLe, List.range_succ]
theorem allLe_iff (p q : List Int) (n : Nat) : allLe p q n = true ↔ ∀ i, i < n → p.getD i 0 ≤ q.getD i 0 := by simp [allLe]

/-- all that the law asks of the two codes' order -/
structure OrderFacts (p q : List Int) (l m : Bool) : Prop where
  ahead : aheadB p q = l
  less : lexLt (code p) (code q) = l
  more : lexLt (code q) (code p) = m
  cmp : cmpB (code p) (code q) = if l = true then -1 else if m = true then 1 else 0
  same : sameB p q = (!l && !m)
  none : allLe p q p.length = true → m = false
  not : (l && m) = false
theorem order_facts (p q : List Int) (hp : IsI p) (hq : IsI q) (hl : p.length = q.length) (h1 : 1 ≤ p.length) : OrderFacts p q (lexLt (code p) (code q)) (lexLt (code q) (code p)) := by
  have hlen : (code p).length = (code q).length := by rw [code_len, code_len, hl]
  refine ⟨ahead_eq p q hp hq hl h1, rfl, rfl, rfl, ?_, fun h => ?_, ?_⟩
  · rw [Bool.eq_iff_iff, sameB_iff]
    simp only [Bool.and_eq_true, Bool.not_eq_true']
    constructor
    · rintro rfl; exact ⟨lexLt_irr _, lexLt_irr _⟩
    · rintro ⟨h2, h3⟩
      exact code_inj p q hp hq hl (lexLt_total _ _ hlen h2 h3)
  · exact code_mono p q hp hq hl ((allLe_iff p q _).1 h)
  · cases h : lexLt (code p) (code q)
    · rfl
    · rw [lexLt_asymm _ _ hlen h]; rfl

set_option maxHeartbeats 3200000 in
theorem walk_MortonOrder (A0 : Option Addr) (z0 : List Int) (c0 : Nat) (A1 : Option Addr) (z1 : List Int) (c1 : Nat) (w : World)
    (a0 : Arr w w.heap.size A0 z0.length (i64s z0)) (i0 : IsI z0) (n0 : z0.length ≤ 17592186043904) (a1 : Arr w w.heap.size A1 z1.length (i64s z1)) (i1 : IsI z1) (n1 : z1.length ≤ 17592186043904) :
    Calls Try.prog 7 #[.slice A0 z0.length c0, .slice A1 z1.length c1] w fun e w' => e = .returned (.bool true) ∧ Below w.heap.size w w' := by
  have HA0 := hideP a0; have HA1 := hideP a1; have HI0 := hideP i0; have HI1 := hideP i1
  clear a0 a1 i0 i1
  by_cases hg : z0.length < 1 ∨ 8 < z0.length ∨ z0.length ≠ z1.length
  · have HN := hideP (fun W => ahead_no A0 A1 z0.length z1.length c0 c1 W (by omega) (by omega) hg)
    by_cases g1 : z0.length < 1
    · have t1 : decide ((z0.length : Int) < 1) = true := by simp; omega
      clear hg
      go_enter Try.func7, Try.ntmps7
      go_wp2_with fail
      refine (alive_any w).mono ?_
      rintro e w1 ⟨rfl, hb1⟩
      go_wp2_with fail
      refine (HN.out w1).mono ?_
      rintro e w' ⟨rfl, rfl⟩
      go_wp2_with fail
      go_ret
      exact ⟨rfl, hb1⟩
    · have t1 : decide ((z0.length : Int) < 1) = false := by simp; omega
      by_cases g2 : 8 < z0.length
      · have t2 : decide ((8 : Int) < (z0.length : Int)) = true := by simp; omega
        clear hg
        go_enter Try.func7, Try.ntmps7
        go_wp2_with fail
        refine (alive_any w).mono ?_
        rintro e w1 ⟨rfl, hb1⟩
        go_wp2_with fail
        refine (HN.out w1).mono ?_
        rintro e w' ⟨rfl, rfl⟩
        go_wp2_with fail
        go_ret
        exact ⟨rfl, hb1⟩
      · have t2 : decide ((8 : Int) < (z0.length : Int)) = false := by simp; omega
        have t3 : ((z0.length : Int) != (z1.length : Int)) = true := by simp; omega
        clear hg
        go_enter Try.func7, Try.ntmps7
        go_wp2_with fail
        refine (alive_any w).mono ?_
        rintro e w1 ⟨rfl, hb1⟩
        go_wp2_with fail
        refine (HN.out w1).mono ?_
        rintro e w' ⟨rfl, rfl⟩
        go_wp2_with fail
        go_ret
        exact ⟨rfl, hb1⟩
  · have t1 : decide ((z0.length : Int) < 1) = false := by simp; omega
    have t2 : decide ((8 : Int) < (z0.length : Int)) = false := by simp; omega
    have t3 : ((z0.length : Int) != (z1.length : Int)) = false := by simp; omega
    have hl : z0.length = z1.length := by omega
    have d1 : 1 ≤ z0.length := by omega
    have d8 : z0.length ≤ 8 := by omega
    have OF := hideP (order_facts z0 z1 HI0.out HI1.out hl d1)
    obtain ⟨l, m, OF'⟩ : ∃ l m, OrderFacts z0 z1 l m := ⟨_, _, OF.out⟩
    have HO := hideP OF'
    have HL := hideP hl
    have d8' : z1.length ≤ 8 := by omega
    clear hg hl OF OF'
    go_enter Try.func7, Try.ntmps7
    go_wp2_with fail
    refine (alive_any w).mono ?_
    rintro e w1 ⟨rfl, hb1⟩
    have B1 := hideP hb1; clear hb1
    go_wp2_with fail
    refine (rcode_any A0 z0 c0 w1 (HA0.out.after B1.out) HI0.out d8).mono ?_
    rintro e w2 ⟨R2, s2, rfl, hA2, hb2⟩
    have B2 := hideP hb2; have HA2 := hideP hA2; clear hb2 hA2
    go_wp2_with fail
    refine (rcode_any A1 z1 c1 w2 ((HA1.out.after B1.out).after B2.out) HI1.out d8').mono ?_
    rintro e w3 ⟨R3, s3, rfl, hA3, hb3⟩
    have B3 := hideP hb3; have HA3 := hideP hA3; clear hb3 hA3
    have BB := hideP (B1.out.trans ((B2.out.trans (B3.out.mono B2.out.size)).mono B1.out.size))
    go_wp2_with fail
    go_loopw [7, 8] (fun v6 v7 wr => ∃ i : Nat, ∃ b : Bool, i ≤ z0.length ∧ v7 = .int .i64 i ∧ v6 = .bool b ∧ Hid (b = allLe z0 z1 i) ∧ Hid (Ext w3 wr)) (fun _ v7 _ => z0.length - (intOf v7).toNat)
    case atStart => exact ⟨0, true, by omega, rfl, rfl, rfl, Ext.refl _⟩
    case round =>
      obtain ⟨i, b, hi, rfl, rfl, hb, hx⟩ := hrel
      by_cases hlt : i < z0.length
      · have u1 : decide ((i : Int) < (z0.length : Int)) = true := by simp; omega
        cases b
        · go_wp2_with fail
          go_quiet (fail)
          have HX := hideP (hx.out.drewN nq)
          go_wp2_with fail
          go_roundw
          case rel => exact ⟨i + 1, false, by omega, by go_num, rfl, by simp only [Hid]; rw [allLe_succ, ← hb.out]; rfl, HX.out⟩
          case measure => simp [intOf]; omega
        · have hlq : i < z1.length := by have := HL.out; omega
          have hw := (B1.out.trans ((B2.out.trans (B3.out.mono B2.out.size)).mono B1.out.size)).trans (hx.out.below.mono BB.out.size)
          obtain ⟨b0, o0, rfl, hb0, hc0⟩ := HA0.out (by omega)
          obtain ⟨b1, o1, rfl, hb1, hc1⟩ := HA1.out (by omega)
          have k1 := (hw.cell (p := ⟨b0, o0 + i, none⟩) hb0).trans (hc0 i hlt)
          have k2 := (hw.cell (p := ⟨b1, o1 + i, none⟩) hb1).trans (hc1 i hlq)
          unfold i64s at k1 k2
          clear hc0 hc1 hw
          obtain ⟨u, hu⟩ : ∃ u, u = z0.getD i 0 := ⟨_, rfl⟩
          obtain ⟨v, hv⟩ : ∃ v, v = z1.getD i 0 := ⟨_, rfl⟩
          rw [← hu] at k1
          rw [← hv] at k2
          have j0 : (0 : Int) ≤ (i : Int) := by omega
          have j1 : (i : Int) < (z0.length : Int) := by omega
          have j2 : (i : Int) < (z1.length : Int) := by omega
          have Hu := hideP hu; have Hv := hideP hv; clear hu hv
          go_wp2_with fail
          go_quiet (fail)
          have HX := hideP (hx.out.drewN nq)
          go_wp2_with fail
          go_roundw
          case rel => exact ⟨i + 1, _, by omega, by go_num, rfl, by simp only [Hid]; rw [allLe_succ, ← hb.out, ← Hu.out, ← Hv.out]; rfl, HX.out⟩
          case measure => simp [intOf]; omega
      · have u1 : decide ((i : Int) < (z0.length : Int)) = false := by simp; omega
        have e : i = z0.length := by omega
        rw [e] at hb
        have hnone : b = true → m = false := fun h => HO.out.none (by rw [← hb.out, h])
        have hnot := HO.out.not
        have hA0r : ∀ W, Ext w3 W → Arr W W.heap.size A0 z0.length (i64s z0) := fun W hW => (HA0.out.after BB.out).ext hW
        have hA1r : ∀ W, Ext w3 W → Arr W W.heap.size A1 z1.length (i64s z1) := fun W hW => (HA1.out.after BB.out).ext hW
        have hC0 : ∀ W, Ext w3 W → Arr W W.heap.size R2 (code z0).length (u8s (code z0)) := fun W hW => by rw [code_len]; exact (HA2.out.after B3.out).ext hW
        have hC1 : ∀ W, Ext w3 W → Arr W W.heap.size R3 (code z1).length (u8s (code z1)) := fun W hW => by rw [code_len]; exact HA3.out.ext hW
        have hlc : (code z0).length = (code z1).length := by rw [code_len, code_len, HL.out]
        have n8 : (code z0).length ≤ 140737488351232 := by rw [code_len]; omega
        have n8' : (code z1).length ≤ 140737488351232 := by rw [code_len]; omega
        have KC : ∀ W, Ext w3 W → Calls Try.prog 19 #[.slice R2 (8 * z0.length) s2, .slice R3 (8 * z1.length) s3] W fun e w' => e = .returned (.int .i64 (if l = true then -1 else if m = true then 1 else 0)) ∧ W = w' := fun W hW => by
          have := cmp_same R2 R3 (code z0) (code z1) s2 s3 W (hC0 W hW) (hC1 W hW) (code_lt z0) (code_lt z1) hlc
          rwa [HO.out.cmp, code_len, code_len] at this
        have KA : ∀ W, Ext w3 W → Calls Try.prog 18 #[.slice A0 z0.length c0, .slice A1 z1.length c1] W fun e w' => e = .returned (.bool l) ∧ Hid (Ext W w') := fun W hW => by
          refine (ahead_in A0 A1 z0 z1 c0 c1 W (hA0r W hW) (hA1r W hW) HI0.out HI1.out d1 d8 HL.out).mono ?_
          rintro e w' ⟨rfl, nq, hw'⟩
          exact ⟨ret_bool HO.out.ahead, by rw [← hw']; exact (Ext.refl _).drewN nq⟩
        have K1 : ∀ W, Ext w3 W → Calls Try.prog 12 #[.slice R2 (8 * z0.length) s2, .slice R3 (8 * z1.length) s3] W fun e w' => e = .returned (.bool l) ∧ W = w' := fun W hW => by
          have := less_any R2 R3 (code z0) (code z1) s2 s3 W (hC0 W hW) (hC1 W hW) (code_lt z0) (code_lt z1) n8 n8'
          unfold lessB at this
          rwa [if_pos hlc, HO.out.less, code_len, code_len] at this
        have K2 : ∀ W, Ext w3 W → Calls Try.prog 12 #[.slice R3 (8 * z1.length) s3, .slice R2 (8 * z0.length) s2] W fun e w' => e = .returned (.bool m) ∧ W = w' := fun W hW => by
          have := less_any R3 R2 (code z1) (code z0) s3 s2 W (hC1 W hW) (hC0 W hW) (code_lt z1) (code_lt z0) n8' n8
          unfold lessB at this
          rwa [if_pos hlc.symm, HO.out.more, code_len, code_len] at this
        have KS : ∀ W, Ext w3 W → Calls Try.prog 15 #[.slice A0 z0.length c0, .slice A1 z1.length c1] W fun e w' => e = .returned (.bool (!l && !m)) ∧ Hid (Ext W w') := fun W hW => by
          refine (same_any A0 A1 z0 z1 c0 c1 W (hA0r W hW) (hA1r W hW) (by omega) (by omega)).mono ?_
          rintro e w' ⟨rfl, nq, hw'⟩
          exact ⟨ret_bool HO.out.same, by rw [← hw']; exact (Ext.refl _).drewN nq⟩
        have HKC := hideP KC; have HKA := hideP KA; have HK1 := hideP K1; have HK2 := hideP K2; have HKS := hideP KS
        clear KC KA K1 K2 KS hC0 hC1 hlc hA0r hA1r e hb
        cases l <;> cases m <;> cases b <;> first | (exfalso; simp at hnone hnot; done) | (
          clear hnone hnot
          go_wp2_with fail
          refine (HKC.out wr hx.out).mono ?_
          rintro e w' ⟨rfl, rfl⟩
          go_wp2_with fail
          refine (HKA.out wr hx.out).mono ?_
          rintro e w4 ⟨rfl, hx4⟩
          have X4 := hideP (hx.out.trans hx4.out)
          go_wp2_with fail
          refine (HK1.out w4 X4.out).mono ?_
          rintro e w' ⟨rfl, rfl⟩
          go_wp2_with fail
          refine (HK1.out w4 X4.out).mono ?_
          rintro e w' ⟨rfl, rfl⟩
          go_wp2_with fail
          refine (HK2.out w4 X4.out).mono ?_
          rintro e w' ⟨rfl, rfl⟩
          go_wp2_with fail
          refine (HKS.out w4 X4.out).mono ?_
          rintro e w5 ⟨rfl, hx5⟩
          have X5 := hideP (X4.out.trans hx5.out)
          go_wp2_with fail
          go_ret
          exact ⟨rfl, BB.out.trans (X5.out.below.mono BB.out.size)⟩)
end Go.Proofs.Ytglejgnoemnjaaa
