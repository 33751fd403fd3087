/- The walk of MortonPoints. -/
import Derived.Test.YtglejgnoemnjaaaLaw05
import Derived.Test.YtglejgnoemnjaaaMortPl2
import Derived.Test.YtglejgnoemnjaaaEager
set_option linter.unusedVariables false
set_option linter.unusedSimpArgs false
namespace Go.Proofs.Ytglejgnoemnjaaa
open Go.RowKit

set_option maxHeartbeats 3200000 in
theorem walk_MortonPoints (A0 : Option Addr) (l0 : List Nat) (c0 : Nat) (x1 x2 : Int) (w : World)
    (a0 : Arr w w.heap.size A0 l0.length (u8s l0)) (i0 : IsB l0) (n0 : l0.length ≤ 140737488351232) (b1 : -9223372036854775808 ≤ x1 ∧ x1 ≤ 9223372036854775807) (b2 : -9223372036854775808 ≤ x2 ∧ x2 ≤ 9223372036854775807) :
    Calls Try.prog 6 #[.slice A0 l0.length c0, .int .i64 x1, .int .i64 x2] w fun e w' => e = .returned (.bool true) ∧ Below w.heap.size w w' := by
  have HA0 := hideP a0; have HI0 := hideP i0
  clear a0 i0
  by_cases g1 : 300 < l0.length
  · have t1 : decide ((300 : Int) < l0.length) = true := by simp; omega
    go_enter Try.func6, Try.ntmps6
    go_wp2_with fail
    refine (alive_any w).mono ?_
    rintro e w1 ⟨rfl, hb1⟩
    go_wp2_with fail
    go_ret
    exact ⟨rfl, hb1⟩
  · have t1 : decide ((300 : Int) < l0.length) = false := by simp; omega
    have HB : ∀ w1, Below w.heap.size w w1 → ∃ y : Nat, (∀ W, Ext w1 W → Calls Try.prog 10 #[.slice A0 l0.length c0, .int .i64 x2] W fun e w' => e = .returned (.int .u8 y) ∧ W = w') ∧
        (∀ W, Ext w1 W → Calls Try.prog 16 #[.slice A0 l0.length c0, .int .i64 x2] W fun e w' => e = .returned (.int .u8 y) ∧ W = w') := by
      intro w1 hb
      have hA := HA0.out.after hb
      by_cases h : 0 ≤ x2 ∧ x2 < 8 * l0.length
      · exact ⟨bitAt l0 x2.toNat, fun W hW => bit_in A0 l0 c0 x2 W (hA.ext hW) HI0.out (by omega) h.1 h.2, fun W hW => rbitx_in A0 l0 c0 x2 W (hA.ext hW) HI0.out (by omega) h.1 h.2⟩
      · exact ⟨0, fun W hW => bit_out A0 l0.length c0 x2 W (by omega) (by omega) b2.2, fun W hW => rbitx_out A0 l0.length c0 x2 W (by omega) (by omega) b2.2⟩
    have HB' := hideP HB; clear HB
    go_enter Try.func6, Try.ntmps6
    go_wp2_with fail
    refine (alive_any w).mono ?_
    rintro e w1 ⟨rfl, hb1⟩
    obtain ⟨y, hy1, hy2⟩ := HB'.out w1 hb1
    have B1 := hideP hb1; have Y1 := hideP hy1; have Y2 := hideP hy2; clear hb1 hy1 hy2 HB'
    go_wp2_with fail
    refine (Y1.out w1 (Ext.refl _)).mono ?_
    rintro e w' ⟨rfl, rfl⟩
    go_wp2_with fail
    refine (Y2.out w1 (Ext.refl _)).mono ?_
    rintro e w' ⟨rfl, rfl⟩
    have A1 := hideP (HA0.out.after B1.out)
    by_cases e1 : x1 < 1 ∨ 8 < x1
    · go_wp2_with fail
      refine (point_arg A0 l0.length c0 x1 w1 e1).mono ?_
      rintro e w' ⟨rfl, rfl⟩
      by_cases e2 : x1 < 1
      · have t3 : decide (x1 < 1) = true := by simp; omega
        go_wp2_with fail
        go_ret
        exact ⟨rfl, B1.out⟩
      · have t3 : decide (x1 < 1) = false := by simp; omega
        have t4 : decide (8 < x1) = true := by simp; omega
        go_wp2_with fail
        go_ret
        exact ⟨rfl, B1.out⟩
    · have t3 : decide (x1 < 1) = false := by simp; omega
      have t4 : decide (8 < x1) = false := by simp; omega
      by_cases e2 : (l0.length : Int) = 8 * x1
      · obtain ⟨d, rfl⟩ := Int.eq_ofNat_of_zero_le (show 0 ≤ x1 by omega)
        have hd : l0.length = 8 * d := by omega
        have d1 : 1 ≤ d := by omega
        have d8 : d ≤ 8 := by omega
        have t5 : ((l0.length : Int) != 8 * (d : Int)) = false := by simp; omega
        have HD := hideP hd
        clear e1 e2 hd
        go_wp2_with fail
        refine (point_in A0 l0 c0 d w1 A1.out HI0.out d1 d8 HD.out).mono ?_
        rintro e w2 ⟨R, s, rfl, hown, hb2⟩
        have AP : Arr w2 w2.heap.size R d (i64s (ptL l0 d)) := Arr.of_own hown fun i hi => ptVals_get l0 d i hi
        have B2 := hideP hb2; have HP := hideP AP
        clear hb2 AP hown
        go_wp2_with fail
        refine (code_in' R (ptL l0 d) d s w2 (ptL_len l0 d) HP.out (ptL_I l0 d) d1 d8).mono ?_
        rintro e w3 ⟨g, rfl, hg, hr, hb3⟩
        rw [code_ptL l0 d HI0.out d1 HD.out] at hr
        have B3 := hideP hb3; have HR := hideP hr
        clear hb3 hr hg
        have A3 := hideP ((A1.out.after B2.out).after B3.out)
        have P3 := hideP (HP.out.after B3.out)
        go_wp2_with fail
        refine (rpoint_any A0 l0 c0 d w3 A3.out HI0.out d8 HD.out).mono ?_
        rintro e w4 ⟨R4, s4, rfl, hown4, hb4⟩
        have A4 : Arr w4 w4.heap.size R4 d (i64s (ptL l0 d)) := Arr.of_own hown4 fun i hi => ptVals_get l0 d i hi
        have B4 := hideP hb4; have HA4 := hideP A4
        clear hb4 A4 hown4
        have P4 := hideP (P3.out.after B4.out)
        have S4 := same_any R R4 (ptL l0 d) (ptL l0 d) s s4 w4 (by rw [ptL_len]; exact P4.out) (by rw [ptL_len]; exact HA4.out) (by rw [ptL_len]; omega) (by rw [ptL_len]; omega)
        rw [ptL_len, (sameB_iff _ _).2 rfl] at S4
        have HS4 := hideP S4; clear S4
        go_wp2_with fail
        refine HS4.out.mono ?_
        rintro e w5 ⟨rfl, nq, hw5⟩
        have X5 : Ext w4 w5 := by rw [← hw5]; exact (Ext.refl _).drewN nq
        have r1 := run_str (P := Try.prog) w5 25 5 Try.underlying25 Try.underlying5 (c := c0) (((A3.out.after B4.out)).ext X5) rfl 9 Try.underlying9
        have r2 := run_str (P := Try.prog) w5 25 5 Try.underlying25 Try.underlying5 (l := l0) (n := 8 * d) (c := 8 * d) (((Arr.of_row HR.out (Nat.le_refl _)).after B4.out).ext X5) HD.out 9 Try.underlying9
        have BB := hideP (B1.out.trans ((B2.out.trans ((B3.out.trans (B4.out.mono B3.out.size)).mono B2.out.size)).mono B1.out.size))
        have B5 := hideP (BB.out.trans (X5.below.mono BB.out.size))
        clear hw5 X5
        go_wp2_with fail
        go_ret
        exact ⟨by simp, B5.out⟩
      · have t5 : ((l0.length : Int) != 8 * x1) = true := by simpa using e2
        go_wp2_with fail
        refine (point_form A0 l0.length c0 x1 w1 (by omega) (by omega) e2 (by omega)).mono ?_
        rintro e w' ⟨rfl, rfl⟩
        have hx1 : 1 ≤ x1 := by omega
        have hx8 : x1 ≤ 8 := by omega
        clear e1 e2
        go_wp2_with fail
        go_ret
        exact ⟨rfl, B1.out⟩
end Go.Proofs.Ytglejgnoemnjaaa
