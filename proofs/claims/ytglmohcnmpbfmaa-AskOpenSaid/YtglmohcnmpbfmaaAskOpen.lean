/-
  AskOpen: whatever the input, the law returns true, and each argument reads as it did. The proof joins the walk of the Go text to the given row.
-/
import Derived.Test.YtglmohcnmpbfmaaRows
import Derived.Test.YtglmohcnmpbfmaaUf
import Derived.Test.YtglmohcnmpbfmaaUd
import Derived.Test.YtglmohcnmpbfmaaAskOpenC
set_option linter.unusedVariables false
set_option linter.unusedSimpArgs false
namespace Go.Proofs.Ytglmohcnmpbfmaa.lawAskOpen
open Go.ChangeShapes Go.WideShapes Go.ChangeAt Go.RowKit
open Go.ChangeMaps (open_string shut_string)

theorem own : ownKnob Try.prog.godebug = none := by kernel_rfl
theorem laidOut : laidOutB Try.prog = true := by kernel_rfl
def zK : List Value := List.replicate 32 (.int .u8 0) ++ [.slice none 0 0, .slice none 0 0, .int .i64 0, .int .i64 0, .slice none 0 0]
def zT : List Value := [.string ByteArray.empty, .slice none 0 0] ++ zK ++ zK
set_option maxRecDepth 100000 in
theorem lifted (os : Os) (started : os.Started) (H : Type) (enc : TypeId × Value → H) :
    ReturnsInHanded {} Try.checked os 6 .any (Rows.askOpenSpec.pre6 enc Try.prog Try.f6 Rows.askOpenRow.domain false) (Rows.askOpenSpec.post enc Try.prog Try.f6 false true false false) := by
  refine returnsInHanded_of_change_sized (C := Try.checked) own started (by kernel_rfl) Try.func6
    (ChangeSpec.witness6 (enc := enc) (C := Try.checked) false ⟨#[], #[.agg #[.slice none 0 0, .slice none 0 0, .int .u8 0, .int .i64 0, .slice none 0 0, .int .i64 0, .bool false], .agg zK.toArray, .slice none 0 0, .slice none 0 0], []⟩ 8 (by kernel_rfl) (by kernel_rfl) (by kernel_rfl) (by kernel_rfl)) ?_
  intro W base args ds gs before hval0 hW hcnd hsz0 _
  have hval : ∀ (j : Nat) t v, Try.f6.params[j]? = some t → args[j]? = some v → Value.okWide Try.prog W .any base t v := hval0
  have hW' := hW
  obtain ⟨p, q, hA0, hV, rfl, hfz, hnd⟩ := hW
  have hA : DataW.TrodAll enc Try.prog W 0 (fun _ => true) true Try.f6.params.toList args.toList ds p := hA0
  rw [Try.params6] at hA hval
  obtain ⟨v0, vs0, d0, ds0, p0, q0, hargs, rfl, rfl, h0, r0⟩ := trodAll_cons hA
  obtain ⟨v1, vs1, d1, ds1, p1, q1, rfl, rfl, rfl, h1, r1⟩ := trodAll_cons r0
  obtain ⟨v2, vs2, d2, ds2, p2, q2, rfl, rfl, rfl, h2, r2⟩ := trodAll_cons r1
  obtain ⟨v3, vs3, d3, ds3, p3, q3, rfl, rfl, rfl, h3, r3⟩ := trodAll_cons r2
  obtain ⟨rfl, rfl, rfl⟩ := trodAll_nil r3
  obtain rfl : args = #[v0, v1, v2, v3] := by cases args; simp_all
  obtain ⟨rfl, rfl⟩ := trodVars_none hV
  have k0 := h0
  have lt0 : ∀ x ∈ p0, x.block < W.heap.size := by obtain ⟨m, hm⟩ := k0; exact DataW.trod_lt m _ _ _ hm
  have k1 := h1
  have lt1 : ∀ x ∈ p1, x.block < W.heap.size := by obtain ⟨m, hm⟩ := k1; exact DataW.trod_lt m _ _ _ hm
  have k2 := h2
  have lt2 : ∀ x ∈ p2, x.block < W.heap.size := by obtain ⟨m, hm⟩ := k2; exact DataW.trod_lt m _ _ _ hm
  have k3 := h3
  have lt3 : ∀ x ∈ p3, x.block < W.heap.size := by obtain ⟨m, hm⟩ := k3; exact DataW.trod_lt m _ _ _ hm
  obtain ⟨cs0, rfl, hsz0⟩ := okWide_struct Try.underlying64 (hval 0 64 v0 rfl rfl)
  obtain ⟨x0, hQ0, rt0⟩ : ∃ x : QryD, QryQ x ∧ RDs W (qryL x) cs0.toList := by obtain ⟨m, hm⟩ := h0; exact come_query hm
  obtain ⟨cs1, rfl, hsz1⟩ := okWide_struct Try.underlying35 (hval 1 35 v1 rfl rfl)
  obtain ⟨x1, hQ1, rt1⟩ : ∃ x : KidD, KidQ x ∧ RDs W (kidL x) cs1.toList := by obtain ⟨m, hm⟩ := h1; exact come_kid hm
  have c2 := cells_slice Try.underlying31 (hval 2 31 v2 rfl rfl)
  obtain ⟨x2, hQ2, rt2⟩ : ∃ x : List Int, (Pl.IsI x ∧ x.length ≤ maxLen) ∧ RDs W [i64L x] v2.cells.toList := by obtain ⟨m, hm⟩ := h2; simpa only [and_assoc] using come_row hm
  have c3 := cells_slice Try.underlying31 (hval 3 31 v3 rfl rfl)
  obtain ⟨x3, hQ3, rt3⟩ : ∃ x : List Int, (Pl.IsI x ∧ x.length ≤ maxLen) ∧ RDs W [i64L x] v3.cells.toList := by obtain ⟨m, hm⟩ := h3; simpa only [and_assoc] using come_row hm
  clear hA0 hval0
  refine (walk_of (askOpenLaw_ok x0 x1 x2 x3 hQ0.at_ hQ0.box.lo hQ0.box.hi hQ1.lo hQ1.hi hQ2.1 hQ2.2 hQ0.box.l1 hQ3.1 hQ3.2 hQ1.ll hQ1.lh) (vs := [.agg cs0.toList.toArray, .agg cs1.toList.toArray, v2, v3]) rfl fun j hj C hN hC => ?_).mono fun e W' ⟨he, bel⟩ => ?_
  · rcases j with _ | _ | _ | _ | j
    · exact rv_agg rt0 hN hC
    · exact rv_agg rt1 hN hC
    · exact rv_slice rt2 c2 hN hC
    · exact rv_slice rt3 c3 hN hC
    · simp at hj; omega
  subst he
  exact ⟨_, rfl, _, _, _, [], _, [], hW', trodAll_mk1 (shut_bool Try.underlying4 _), (trodAll_cons_mk (Below.trod laidOut (by kernel_rfl) (of_decide_eq_true (by kernel_rfl)) k0 bel lt0) (trodAll_cons_mk (Below.trod laidOut (by kernel_rfl) (of_decide_eq_true (by kernel_rfl)) k1 bel lt1) (trodAll_cons_mk (Below.trod laidOut (by kernel_rfl) (of_decide_eq_true (by kernel_rfl)) k2 bel lt2) (trodAll_cons_mk (Below.trod laidOut (by kernel_rfl) (of_decide_eq_true (by kernel_rfl)) k3 bel lt3) trodAll_mk0)))), rfl, bel.frame _, fun h => by cases h⟩

theorem over : Rows.askOpenRow.holds Try.pinned (OpenSpec.ofChange Rows.askOpenSpec) :=
  OpenClaim.holds_of_wide 6 Try.f6 rfl rfl rfl rfl rfl rfl rfl ⟨rfl, rfl, rfl, rfl, rfl⟩ rfl rfl rfl rfl rfl (by kernel_rfl) Try.func6 clAskOpen.closed
    (of_decide_eq_true (by kernel_rfl)) (by unfold Func.isWrapper; first | (rw [if_pos (by decide +kernel)]; kernel_rfl) | (rw [if_neg (by decide +kernel)]; exact ⟨rfl, rfl⟩))
    (fun os started H enc _ => lifted os started H enc)

theorem proved : Rows.AskOpenSaid := over
end Go.Proofs.Ytglmohcnmpbfmaa.lawAskOpen
