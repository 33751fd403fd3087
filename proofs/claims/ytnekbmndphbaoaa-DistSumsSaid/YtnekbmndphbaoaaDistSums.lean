/-
  DistSums: whatever the input, the law returns true, and each argument reads as it did. The proof joins the walk of the Go text (walk_DistSums) to the given row.
-/
import Derived.Test.YtnekbmndphbaoaaRows
import Derived.Test.YtnekbmndphbaoaaL03c
import Derived.Test.YtnekbmndphbaoaaFrame
set_option linter.unusedVariables false
set_option linter.unusedSimpArgs false
namespace Go.Proofs.Ytnekbmndphbaoaa.lawDistSums
open Go.ChangeShapes Go.WideShapes Go.ChangeAt Go.RowKit
open Go.ChangeMaps (open_string shut_string)

theorem own : ownKnob Try.prog.godebug = none := by kernel_rfl
theorem laidOut : laidOutB Try.prog = true := by kernel_rfl

set_option maxRecDepth 100000 in
theorem lifted (os : Os) (started : os.Started) (H : Type) (enc : TypeId × Value → H) :
    ReturnsInHanded {} Try.checked os 5 .any (Rows.distSumsSpec.pre6 enc Try.prog Try.f5 Rows.distSumsRow.domain false) (Rows.distSumsSpec.post enc Try.prog Try.f5 false true false false) := by
  refine returnsInHanded_of_change_sized (C := Try.checked) own started (by kernel_rfl) Try.func5
    (ChangeSpec.witness6 (enc := enc) (C := Try.checked) false ⟨#[], #[.int .i64 0, .int .i64 0, .int .i64 0, .slice none 0 0, .agg #[.int .u64 0, .int .u64 0], .agg #[.int .u64 0, .int .u64 0]], []⟩ 8 (by kernel_rfl) (by kernel_rfl) (by kernel_rfl) (by kernel_rfl)) ?_
  intro W base args ds gs before hval0 hW hcnd hsz0 _
  have hval : ∀ (j : Nat) t v, Try.f5.params[j]? = some t → args[j]? = some v → Value.okWide Try.prog W .any base t v := hval0
  have hW' := hW
  obtain ⟨p, q, hA0, hV, rfl, hfz, hnd⟩ := hW
  have hA : DataW.TrodAll enc Try.prog W 0 (fun _ => true) true Try.f5.params.toList args.toList ds p := hA0
  have hsz : (DataW.weightsEach Try.prog (Try.f5.params.toList ++ Rows.distSumsSpec.plain.varTypes Try.prog) (ds ++ gs)).all (· ≤ reachBytes) = true := hsz0
  rw [Try.params5] at hA hval hsz
  obtain ⟨v0, vs0, d0, ds0, p0, q0, hargs, rfl, rfl, h0, r0⟩ := trodAll_cons hA
  obtain ⟨v1, vs1, d1, ds1, p1, q1, rfl, rfl, rfl, h1, r1⟩ := trodAll_cons r0
  obtain ⟨v2, vs2, d2, ds2, p2, q2, rfl, rfl, rfl, h2, r2⟩ := trodAll_cons r1
  obtain ⟨v3, vs3, d3, ds3, p3, q3, rfl, rfl, rfl, h3, r3⟩ := trodAll_cons r2
  obtain ⟨v4, vs4, d4, ds4, p4, q4, rfl, rfl, rfl, h4, r4⟩ := trodAll_cons r3
  obtain ⟨v5, vs5, d5, ds5, p5, q5, rfl, rfl, rfl, h5, r5⟩ := trodAll_cons r4
  obtain ⟨rfl, rfl, rfl⟩ := trodAll_nil r5
  obtain rfl : args = #[v0, v1, v2, v3, v4, v5] := by cases args; simp_all
  obtain ⟨rfl, rfl⟩ := trodVars_none hV
  obtain ⟨x0, rfl, rfl, rfl, w0⟩ := open_int Try.underlying2 (hval 0 2 v0 rfl rfl) h0
  have b0 := wf_i64_bd w0
  obtain ⟨x1, rfl, rfl, rfl, w1⟩ := open_int Try.underlying2 (hval 1 2 v1 rfl rfl) h1
  have b1 := wf_i64_bd w1
  obtain ⟨x2, rfl, rfl, rfl, w2⟩ := open_int Try.underlying2 (hval 2 2 v2 rfl rfl) h2
  have b2 := wf_i64_bd w2
  have k3 := h3
  have lt3 : ∀ x ∈ p3, x.block < W.heap.size := by obtain ⟨m, hm⟩ := k3; exact DataW.trod_lt m _ _ _ hm
  obtain ⟨A3, len3, cap3, z3, rfl, hl3, hc3, hm3, ha3, hw3, hd3⟩ := frame_arr Try.underlying40 Try.underlying27 (by kernel_rfl) (hval 3 40 v3 rfl rfl) h3
  have n3 : len3 ≤ 17592186043904 := by
    rcases hd3 with h | ⟨E, S, hd, hE⟩
    · omega
    · have h := sized_slice hsz (j := 3) (t := 40) (e := 27) (elems := E) (spare := S) rfl (by rw [hd]; rfl) Try.underlying40
      rw [show Try.prog.bytesOf 27 = 8 from by kernel_rfl] at h
      simp only [reachBytes] at h
      omega
  obtain ⟨l3, rfl, a3, i3⟩ := frame_words hl3 ha3 hw3
  have k4 := h4
  have lt4 : ∀ x ∈ p4, x.block < W.heap.size := by obtain ⟨m, hm⟩ := k4; exact DataW.trod_lt m _ _ _ hm
  obtain ⟨vh4, vl4, yh4, yl4, m4, rfl, ed4, ep4, hh4, hl4⟩ := Go.Joins.open_agg2 Try.underlying29 (by kernel_rfl) (by kernel_rfl) (hval 4 29 v4 rfl rfl) h4
  obtain ⟨xh4, rfl, bh4⟩ := frame_u64 Try.underlying27 hh4
  obtain ⟨xl4, rfl, bl4⟩ := frame_u64 Try.underlying27 hl4
  obtain ⟨D4, b4, rfl, rfl⟩ := dv_split _ _ bh4 bl4
  have k5 := h5
  have lt5 : ∀ x ∈ p5, x.block < W.heap.size := by obtain ⟨m, hm⟩ := k5; exact DataW.trod_lt m _ _ _ hm
  obtain ⟨vh5, vl5, yh5, yl5, m5, rfl, ed5, ep5, hh5, hl5⟩ := Go.Joins.open_agg2 Try.underlying29 (by kernel_rfl) (by kernel_rfl) (hval 5 29 v5 rfl rfl) h5
  obtain ⟨xh5, rfl, bh5⟩ := frame_u64 Try.underlying27 hh5
  obtain ⟨xl5, rfl, bl5⟩ := frame_u64 Try.underlying27 hl5
  obtain ⟨D5, b5, rfl, rfl⟩ := dv_split _ _ bh5 bl5
  clear hA0 hval0
  refine (walk_DistSums x0 x1 x2 A3 l3 cap3 D4 D5 W b0 b1 b2 a3 i3 n3 b4 b5).mono fun e W' ⟨he, bel⟩ => ?_
  subst he
  exact ⟨_, rfl, _, _, _, [], _, [], hW', trodAll_mk1 (shut_bool Try.underlying4 _), (trodAll_cons_mk (shut_int Try.underlying2 w0) (trodAll_cons_mk (shut_int Try.underlying2 w1) (trodAll_cons_mk (shut_int Try.underlying2 w2) (trodAll_cons_mk (Below.trod laidOut (by kernel_rfl) (of_decide_eq_true (by kernel_rfl)) k3 bel lt3) (trodAll_cons_mk (Below.trod laidOut (by kernel_rfl) (of_decide_eq_true (by kernel_rfl)) k4 bel lt4) (trodAll_cons_mk (Below.trod laidOut (by kernel_rfl) (of_decide_eq_true (by kernel_rfl)) k5 bel lt5) trodAll_mk0)))))), rfl, bel.frame _, fun h => by cases h⟩

theorem over : Rows.distSumsRow.holds Try.pinned (OpenSpec.ofChange Rows.distSumsSpec) :=
  OpenClaim.holds_of_wide 5 Try.f5 rfl rfl rfl rfl rfl rfl rfl ⟨rfl, rfl, rfl, rfl, rfl⟩ rfl rfl rfl rfl rfl (by kernel_rfl) Try.func5 (by kernel_rfl)
    (of_decide_eq_true (by kernel_rfl)) (by unfold Func.isWrapper; first | (rw [if_pos (by decide +kernel)]; kernel_rfl) | (rw [if_neg (by decide +kernel)]; exact ⟨rfl, rfl⟩))
    (fun os started H enc _ => lifted os started H enc)

theorem proved : Rows.DistSumsSaid := over
end Go.Proofs.Ytnekbmndphbaoaa.lawDistSums
