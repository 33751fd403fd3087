/-
  ZrangeRanges: whatever the input, the law returns true, and each argument reads as it did. The proof joins the walk of the Go text (walk_ZrangeRanges) to the given row.
-/
import Derived.Test.YtjdbpeblbejllaaRows
import Derived.Test.YtjdbpeblbejllaaZr23
import Derived.Test.YtjdbpeblbejllaaFrame
set_option linter.unusedVariables false
set_option linter.unusedSimpArgs false
namespace Go.Proofs.Ytjdbpeblbejllaa.lawZrangeRanges
open Go.ChangeShapes Go.WideShapes Go.ChangeAt Go.RowKit
open Go.ChangeMaps (open_string shut_string)

theorem own : ownKnob Try.prog.godebug = none := by kernel_rfl
theorem laidOut : laidOutB Try.prog = true := by kernel_rfl

set_option maxRecDepth 100000 in
theorem lifted (os : Os) (started : os.Started) (H : Type) (enc : TypeId × Value → H) :
    ReturnsInHanded {} Try.checked os 10 .any (Rows.zrangeRangesSpec.pre6 enc Try.prog Try.f10 Rows.zrangeRangesRow.domain false) (Rows.zrangeRangesSpec.post enc Try.prog Try.f10 false true false false) := by
  refine returnsInHanded_of_change_sized (C := Try.checked) own started (by kernel_rfl) Try.func10
    (ChangeSpec.witness6 (enc := enc) (C := Try.checked) false ⟨#[], #[.agg #[.slice none 0 0, .slice none 0 0], .int .i64 0, .slice none 0 0, .slice none 0 0], []⟩ 8 (by kernel_rfl) (by kernel_rfl) (by kernel_rfl) (by kernel_rfl)) ?_
  intro W base args ds gs before hval0 hW hcnd hsz0 _
  have hval : ∀ (j : Nat) t v, Try.f10.params[j]? = some t → args[j]? = some v → Value.okWide Try.prog W .any base t v := hval0
  have hW' := hW
  obtain ⟨p, q, hA0, hV, rfl, hfz, hnd⟩ := hW
  have hA : DataW.TrodAll enc Try.prog W 0 (fun _ => true) true Try.f10.params.toList args.toList ds p := hA0
  have hsz : (DataW.weightsEach Try.prog (Try.f10.params.toList ++ Rows.zrangeRangesSpec.plain.varTypes Try.prog) (ds ++ gs)).all (· ≤ reachBytes) = true := hsz0
  rw [Try.params10] at hA hval hsz
  obtain ⟨v0, vs0, d0, ds0, p0, q0, hargs, rfl, rfl, h0, r0⟩ := trodAll_cons hA
  obtain ⟨v1, vs1, d1, ds1, p1, q1, rfl, rfl, rfl, h1, r1⟩ := trodAll_cons r0
  obtain ⟨v2, vs2, d2, ds2, p2, q2, rfl, rfl, rfl, h2, r2⟩ := trodAll_cons r1
  obtain ⟨v3, vs3, d3, ds3, p3, q3, rfl, rfl, rfl, h3, r3⟩ := trodAll_cons r2
  obtain ⟨rfl, rfl, rfl⟩ := trodAll_nil r3
  obtain rfl : args = #[v0, v1, v2, v3] := by cases args; simp_all
  obtain ⟨rfl, rfl⟩ := trodVars_none hV
  have k0 := h0
  have lt0 : ∀ x ∈ p0, x.block < W.heap.size := by obtain ⟨m, hm⟩ := k0; exact DataW.trod_lt m _ _ _ hm
  obtain ⟨vl0, vh0, yl0, yh0, m0, rfl, ed0, ep0, hl0, hh0⟩ := Go.Joins.open_agg2 Try.underlying58 (by kernel_rfl) (by kernel_rfl) (hval 0 58 v0 rfl rfl) h0
  obtain ⟨L0, ln0, lc0, lo0, rfl, hln0, cl0, _, al0, wl0, rl0⟩ := frame_part Try.underlying56 Try.underlying2 (by kernel_rfl) hl0
  obtain ⟨H0, hn0, hc0, hi0, rfl, hhn0, ch0, _, ah0, wh0, rh0⟩ := frame_part Try.underlying56 Try.underlying2 (by kernel_rfl) hh0
  have nl0 : ln0 ≤ 17592186043904 := by
    rcases rl0 with h | ⟨E, S, hd, hE⟩
    · omega
    · have h := sized_part hsz (j := 0) (i := 0) (t := 58) (t' := 56) (e := 2) (elems := E) (spare := S) rfl (by rw [ed0]; rfl) Try.underlying58 rfl (by rw [← hd]; rfl) Try.underlying56
      rw [show Try.prog.bytesOf 2 = 8 from by kernel_rfl] at h
      simp only [reachBytes] at h
      omega
  have nh0 : hn0 ≤ 17592186043904 := by
    rcases rh0 with h | ⟨E, S, hd, hE⟩
    · omega
    · have h := sized_part hsz (j := 0) (i := 1) (t := 58) (t' := 56) (e := 2) (elems := E) (spare := S) rfl (by rw [ed0]; rfl) Try.underlying58 rfl (by rw [← hd]; rfl) Try.underlying56
      rw [show Try.prog.bytesOf 2 = 8 from by kernel_rfl] at h
      simp only [reachBytes] at h
      omega
  subst hln0 hhn0
  have il0 := isI_of_wf wl0
  have ih0 := isI_of_wf wh0
  have bl0 : Arr W W.heap.size L0 lo0.length (i64s lo0) := al0
  have bh0 : Arr W W.heap.size H0 hi0.length (i64s hi0) := ah0
  obtain ⟨x1, rfl, rfl, rfl, w1⟩ := open_int Try.underlying3 (hval 1 3 v1 rfl rfl) h1
  have b1 := wf_i64_bd w1
  have k2 := h2
  have lt2 : ∀ x ∈ p2, x.block < W.heap.size := by obtain ⟨m, hm⟩ := k2; exact DataW.trod_lt m _ _ _ hm
  obtain ⟨A2, len2, cap2, z2, rfl, hl2, hc2, hm2, ha2, hw2, hd2⟩ := frame_arr Try.underlying56 Try.underlying2 (by kernel_rfl) (hval 2 56 v2 rfl rfl) h2
  have n2 : len2 ≤ 17592186043904 := by
    rcases hd2 with h | ⟨E, S, hd, hE⟩
    · omega
    · have h := sized_slice hsz (j := 2) (t := 56) (e := 2) (elems := E) (spare := S) rfl (by rw [hd]; rfl) Try.underlying56
      rw [show Try.prog.bytesOf 2 = 8 from by kernel_rfl] at h
      simp only [reachBytes] at h
      omega
  subst hl2
  have i2 := isI_of_wf hw2
  have a2 : Arr W W.heap.size A2 z2.length (i64s z2) := ha2
  have k3 := h3
  have lt3 : ∀ x ∈ p3, x.block < W.heap.size := by obtain ⟨m, hm⟩ := k3; exact DataW.trod_lt m _ _ _ hm
  obtain ⟨A3, len3, cap3, z3, rfl, hl3, hc3, hm3, ha3, hw3, hd3⟩ := frame_arr Try.underlying56 Try.underlying2 (by kernel_rfl) (hval 3 56 v3 rfl rfl) h3
  have n3 : len3 ≤ 17592186043904 := by
    rcases hd3 with h | ⟨E, S, hd, hE⟩
    · omega
    · have h := sized_slice hsz (j := 3) (t := 56) (e := 2) (elems := E) (spare := S) rfl (by rw [hd]; rfl) Try.underlying56
      rw [show Try.prog.bytesOf 2 = 8 from by kernel_rfl] at h
      simp only [reachBytes] at h
      omega
  subst hl3
  have i3 := isI_of_wf hw3
  have a3 : Arr W W.heap.size A3 z3.length (i64s z3) := ha3
  clear hA0 hval0
  refine (walk_ZrangeRanges L0 lo0 lc0 H0 hi0 hc0 x1 A2 z2 cap2 A3 z3 cap3 W bl0 il0 bh0 ih0 nl0 nh0 cl0 ch0 b1 a2 i2 n2 a3 i3 n3).mono fun e W' ⟨he, bel⟩ => ?_
  subst he
  exact ⟨_, rfl, _, _, _, [], _, [], hW', trodAll_mk1 (shut_bool Try.underlying4 _), (trodAll_cons_mk (Below.trod laidOut (by kernel_rfl) (of_decide_eq_true (by kernel_rfl)) k0 bel lt0) (trodAll_cons_mk (shut_int Try.underlying3 w1) (trodAll_cons_mk (Below.trod laidOut (by kernel_rfl) (of_decide_eq_true (by kernel_rfl)) k2 bel lt2) (trodAll_cons_mk (Below.trod laidOut (by kernel_rfl) (of_decide_eq_true (by kernel_rfl)) k3 bel lt3) trodAll_mk0)))), rfl, bel.frame _, fun h => by cases h⟩

theorem over : Rows.zrangeRangesRow.holds Try.pinned (OpenSpec.ofChange Rows.zrangeRangesSpec) :=
  OpenClaim.holds_of_wide 10 Try.f10 rfl rfl rfl rfl rfl rfl rfl ⟨rfl, rfl, rfl, rfl, rfl⟩ rfl rfl rfl rfl rfl (by kernel_rfl) Try.func10 (by kernel_rfl)
    (of_decide_eq_true (by kernel_rfl)) (by unfold Func.isWrapper; first | (rw [if_pos (by decide +kernel)]; kernel_rfl) | (rw [if_neg (by decide +kernel)]; exact ⟨rfl, rfl⟩))
    (fun os started H enc _ => lifted os started H enc)

theorem proved : Rows.ZrangeRangesSaid := over
end Go.Proofs.Ytjdbpeblbejllaa.lawZrangeRanges
