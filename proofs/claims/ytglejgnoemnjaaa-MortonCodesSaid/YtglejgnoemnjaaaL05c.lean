/- The walk of MortonCodes. -/
import Derived.Test.YtglejgnoemnjaaaLaw05
import Derived.Test.YtglejgnoemnjaaaMortPl2
import Derived.Test.YtglejgnoemnjaaaEager
set_option linter.unusedVariables false
set_option linter.unusedSimpArgs false
namespace Go.Proofs.Ytglejgnoemnjaaa
open Go.RowKit

/-- bytes at A read as this string, in this world -/
def Str (w : World) (A : Option Addr) (n c : Nat) (s : ByteArray) : Prop := (convert 25 9 (.slice A n c)).run Try.prog w = .ok (.string s) w
theorem Str.of {w : World} {B : Nat} {A : Option Addr} {n c : Nat} {l : List Nat} (h : Arr w B A n (u8s l)) (hl : l.length = n) : Str w A n c (bstr l) :=
  run_str (P := Try.prog) w 25 5 Try.underlying25 Try.underlying5 h hl 9 Try.underlying9

set_option maxHeartbeats 3200000 in
theorem walk_MortonCodes (A0 : Option Addr) (z0 : List Int) (c0 : Nat) (x1 : Int) (w : World)
    (a0 : Arr w w.heap.size A0 z0.length (i64s z0)) (i0 : IsI z0) (n0 : z0.length ≤ 17592186043904) (b1 : -9223372036854775808 ≤ x1 ∧ x1 ≤ 9223372036854775807) :
    Calls Try.prog 5 #[.slice A0 z0.length c0, .int .i64 x1] w fun e w' => e = .returned (.bool true) ∧ Below w.heap.size w w' := by
  have HA0 := hideP a0; have HI0 := hideP i0
  clear a0 i0
  by_cases g1 : z0.length < 1
  · have t1 : decide ((z0.length : Int) < 1) = true := by simp; omega
    go_enter Try.func5, Try.ntmps5
    go_wp2_with fail
    refine (alive_any w).mono ?_
    rintro e w1 ⟨rfl, hb1⟩
    go_wp2_with fail
    refine (code_arg A0 z0.length c0 w1 (by omega) (.inl g1)).mono ?_
    rintro e w' ⟨rfl, rfl⟩
    go_wp2_with fail
    go_ret
    exact ⟨rfl, hb1⟩
  · have t1 : decide ((z0.length : Int) < 1) = false := by simp; omega
    by_cases g2 : 8 < z0.length
    · have t2 : decide ((8 : Int) < z0.length) = true := by simp; omega
      go_enter Try.func5, Try.ntmps5
      go_wp2_with fail
      refine (alive_any w).mono ?_
      rintro e w1 ⟨rfl, hb1⟩
      go_wp2_with fail
      refine (code_arg A0 z0.length c0 w1 (by omega) (.inr g2)).mono ?_
      rintro e w' ⟨rfl, rfl⟩
      go_wp2_with fail
      go_ret
      exact ⟨rfl, hb1⟩
    · have t2 : decide ((8 : Int) < z0.length) = false := by simp; omega
      have d1 : 1 ≤ z0.length := by omega
      have d8 : z0.length ≤ 8 := by omega
      go_enter Try.func5, Try.ntmps5
      go_wp2_with fail
      refine (alive_any w).mono ?_
      rintro e w1 ⟨rfl, hb1⟩
      have B1 := hideP hb1; clear hb1
      go_wp2_with fail
      refine (code_in A0 z0 c0 w1 (HA0.out.after B1.out) HI0.out d1 d8).mono ?_
      rintro e w2 ⟨g, rfl, hg, hr, hb2⟩
      have B2 := hideP hb2; have R2 := hideP hr; clear hb2 hr
      go_wp2_with fail
      have C2 : Arr w2 w2.heap.size (some ⟨g, 0, none⟩) (8 * z0.length) (u8s (code z0)) := Arr.of_row R2.out (Nat.le_refl _)
      have hP := point_in (some ⟨g, 0, none⟩) (code z0) (8 * z0.length) z0.length w2 (by rw [code_len]; exact C2) (code_lt z0) d1 d8 (code_len z0)
      rw [code_len] at hP
      refine hP.mono ?_
      rintro e w3 ⟨R, s, rfl, hown, hb3⟩
      have B3 := hideP hb3; clear hb3 hP C2
      have AQ : Arr w3 w3.heap.size R z0.length (i64s z0) := Arr.of_own hown fun i hi => by rw [ptVals_get _ _ i hi, ptL_code z0 HI0.out]
      have HQ := hideP AQ; clear AQ hown
      have A0' : Arr w3 w3.heap.size A0 z0.length (i64s z0) := ((HA0.out.after B1.out).after B2.out).after B3.out
      have C3 : Arr w3 w3.heap.size (some ⟨g, 0, none⟩) (8 * z0.length) (u8s (code z0)) := Arr.of_row (rowIs_below R2.out B3.out R2.out.lt) (Nat.le_refl _)
      have BB := hideP (B1.out.trans ((B2.out.trans (B3.out.mono B2.out.size)).mono B1.out.size))
      have F1 : Hid (∀ W, Ext w3 W → (convert 25 9 (.slice (some ⟨g, 0, none⟩) (8 * z0.length) (8 * z0.length))).run Try.prog W = .ok (.string (bstr (code z0))) W) := fun W hW => Str.of (B := W.heap.size) (C3.ext hW) (code_len z0)
      have HA0' := hideP A0'; have C4 := hideP C3
      clear A0' C3
      go_wp2_with fail
      refine wp_region_eager 20 [(true, 0), (true, 1), (true, 2), (true, 3), (true, 4), (true, 5), (false, 6), (true, 7), (true, 8), (true, 9), (true, 10), (true, 11), (true, 12), (true, 13), (true, 14), (true, 15), (true, 16), (true, 17), (true, 18), (true, 19)] (by kernel_rfl) (by kernel_rfl) ?_
      simp only [pick, List.map_cons, List.map_nil, nthO_zero, nthO_succ]
      repeat (first
        | (refine wpPlan_skipK (by rfl) (fun K hK => ?_); go_simp; refine hK _ ?_; clear hK K)
        | (refine wpPlan_valK (by rfl) (fun K hK => ?_); apply Exists.intro; refine ⟨fun W hW => ?_, ?_⟩; (focus (have hs := F1.out W hW.drew_left; go_simp; (try rfl); done)); go_simp; refine hK _ ?_; clear hK K))
      refine wpPlan_loud 14 #[.slice A0 z0.length c0] (by rfl) (fun W => by go_simp) (fun W hW => ?_)
      refine (rcode_any A0 z0 c0 W (HA0'.out.ext hW.drew_left) HI0.out d8).mono ?_
      rintro e w4 ⟨R4, d4, rfl, hA4, hb4⟩
      have hx4 : Ext w3 w4 := hW.drew_left.trans (Ext.of_below hb4)
      refine ⟨_, rfl, Ext.of_below hb4, ?_⟩
      have F2 : Hid (∀ W, Ext w4 W → (convert 25 9 (.slice R4 (8 * z0.length) d4)).run Try.prog W = .ok (.string (bstr (code z0))) W) := fun W hW => Str.of (B := W.heap.size) (hA4.ext hW) (code_len z0)
      have X4 := hideP hx4
      clear hA4 hb4 hx4 hW W
      go_simp
      repeat (first
        | (refine wpPlan_skipK (by rfl) (fun K hK => ?_); go_simp; refine hK _ ?_; clear hK K)
        | (refine wpPlan_valK (by rfl) (fun K hK => ?_); apply Exists.intro; refine ⟨fun W hW => ?_, ?_⟩; (focus (have hs := F2.out W hW; go_simp; (try rfl); done)); go_simp; refine hK _ ?_; clear hK K)
        | (refine wpPlan_callK (.bool true) 15 #[.slice A0 z0.length c0, .slice R z0.length s] (by rfl) (fun W => by go_simp) (fun W hW => ?_) (fun K hK => ?_); (focus (
            have hW' := X4.out.trans hW
            refine (same_any A0 R z0 z0 c0 s W (HA0'.out.ext hW') (HQ.out.ext hW') (by omega) (by omega)).mono ?_
            rintro e w' ⟨rfl, nq, hw'⟩
            exact ⟨ret_bool ((sameB_iff _ _).2 rfl), by rw [← hw']; exact (Ext.refl _).drewN nq⟩)); go_simp; refine hK _ ?_; clear hK K))
      refine wpPlan_nil (fun W hW => ?_)
      try simp only [List.drop_succ_cons, List.drop_zero, List.drop_nil]
      have hxW : Ext w3 W := X4.out.trans hW
      have BW := hideP (BB.out.trans (hxW.below.mono BB.out.size))
      have CW : Arr W W.heap.size (some ⟨g, 0, none⟩) (8 * z0.length) (u8s (code z0)) := C4.out.ext hxW
      have HCW := hideP CW
      clear CW hxW hW X4 F2 F1
      by_cases e1 : x1 < 1 ∨ 8 < x1
      · go_wp2_with fail
        refine (point_arg (some ⟨g, 0, none⟩) (8 * z0.length) (8 * z0.length) x1 W e1).mono ?_
        rintro e w' ⟨rfl, rfl⟩
        by_cases e2 : x1 < 1
        · have t3 : decide (x1 < 1) = true := by simp; omega
          go_wp2_with fail
          go_ret
          exact ⟨rfl, BW.out⟩
        · have t3 : decide (x1 < 1) = false := by simp; omega
          have t4 : decide (8 < x1) = true := by simp; omega
          go_wp2_with fail
          go_ret
          exact ⟨rfl, BW.out⟩
      · have t3 : decide (x1 < 1) = false := by simp; omega
        have t4 : decide (8 < x1) = false := by simp; omega
        by_cases e2 : x1 = z0.length
        · subst e2
          have hP := point_in (some ⟨g, 0, none⟩) (code z0) (8 * z0.length) z0.length W (by rw [code_len]; exact HCW.out) (code_lt z0) d1 d8 (code_len z0)
          rw [code_len] at hP
          go_wp2_with fail
          refine hP.mono ?_
          rintro e w5 ⟨R5, s5, rfl, hown5, hb5⟩
          have B5 := hideP (BW.out.trans (hb5.mono BW.out.size))
          clear hP hown5 hb5
          go_wp2_with fail
          go_ret
          exact ⟨rfl, B5.out⟩
        · have t5 : (x1 != (z0.length : Int)) = true := by simpa using e2
          go_wp2_with fail
          refine (point_form (some ⟨g, 0, none⟩) (8 * z0.length) (8 * z0.length) x1 W (by omega) (by omega) (by omega) (by omega)).mono ?_
          rintro e w' ⟨rfl, rfl⟩
          clear e1 e2
          go_wp2_with fail
          go_ret
          exact ⟨rfl, BW.out⟩
end Go.Proofs.Ytglejgnoemnjaaa
