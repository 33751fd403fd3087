/-
  BoxLeast: whatever the input, the law returns true, and each argument reads as it did. The proof joins the walk of the Go text (walk_BoxLeast) to the given row.
-/
import Derived.Test.YtnekbmndphbaoaaRows
import Derived.Test.YtnekbmndphbaoaaL04g
import Derived.Test.YtnekbmndphbaoaaFrame
set_option linter.unusedVariables false
set_option linter.unusedSimpArgs false
namespace Go.Proofs.Ytnekbmndphbaoaa.lawBoxLeast
open Go.ChangeShapes Go.WideShapes Go.ChangeAt Go.RowKit
open Go.ChangeMaps (open_string shut_string)

theorem own : ownKnob Try.prog.godebug = none := by kernel_rfl
theorem laidOut : laidOutB Try.prog = true := by kernel_rfl

set_option maxRecDepth 100000 in
theorem lifted (os : Os) (started : os.Started) (H : Type) (enc : TypeId × Value → H) :
    ReturnsInHanded {} Try.checked os 10 .any (Rows.boxLeastSpec.pre6 enc Try.prog Try.f10 Rows.boxLeastRow.domain false) (Rows.boxLeastSpec.post enc Try.prog Try.f10 false true false false) := by
  refine returnsInHanded_of_change_sized (C := Try.checked) own started (by kernel_rfl) Try.func10
    (ChangeSpec.witness6 (enc := enc) (C := Try.checked) false ⟨#[], #[.agg #[.int .u8 0, .int .i64 0, .slice none 0 0], .agg #[.slice none 0 0, .slice none 0 0], .slice none 0 0, .slice none 0 0], []⟩ 8 (by kernel_rfl) (by kernel_rfl) (by kernel_rfl) (by kernel_rfl)) ?_
  intro W base args ds gs before hval0 hW hcnd hsz0 _
  have hval : ∀ (j : Nat) t v, Try.f10.params[j]? = some t → args[j]? = some v → Value.okWide Try.prog W .any base t v := hval0
  have hW' := hW
  obtain ⟨p, q, hA0, hV, rfl, hfz, hnd⟩ := hW
  have hA : DataW.TrodAll enc Try.prog W 0 (fun _ => true) true Try.f10.params.toList args.toList ds p := hA0
  have hsz : (DataW.weightsEach Try.prog (Try.f10.params.toList ++ Rows.boxLeastSpec.plain.varTypes Try.prog) (ds ++ gs)).all (· ≤ reachBytes) = true := hsz0
  rw [Try.params10] at hA hval hsz
  obtain ⟨v0, vs0, d0, ds0, p0, q0, hargs, rfl, rfl, h0, r0⟩ := trodAll_cons hA
  obtain ⟨v1, vs1, d1, ds1, p1, q1, rfl, rfl, rfl, h1, r1⟩ := trodAll_cons r0
  obtain ⟨v2, vs2, d2, ds2, p2, q2, rfl, rfl, rfl, h2, r2⟩ := trodAll_cons r1
  obtain ⟨v3, vs3, d3, ds3, p3, q3, rfl, rfl, rfl, h3, r3⟩ := trodAll_cons r2
  obtain ⟨rfl, rfl, rfl⟩ := trodAll_nil r3
  obtain rfl : args = #[v0, v1, v2, v3] := by cases args; simp_all
  obtain ⟨rfl, rfl⟩ := trodVars_none hV
  have k0 := h0
  have lt0 : ∀ x ∈ p0, x.block < W.heap.size := by obtain ⟨m, hm⟩ := k0; exact DataW.trod_lt m _ _ _ hm
  obtain ⟨vk0, vc0, va0, yk0, yc0, ya0, m0, rfl, ed0, ep0, hk0, hcc0, haa0⟩ := Go.Joins.open_agg3 Try.underlying50 (by kernel_rfl) (by kernel_rfl) (hval 0 50 v0 rfl rfl) h0
  obtain ⟨K0, rfl, wk0⟩ := frame_int Try.underlying5 hk0
  obtain ⟨C0, rfl, wc0⟩ := frame_int Try.underlying3 hcc0
  obtain ⟨A0, n0, ac0, at0, rfl, han0, _, _, aa0, wa0, _⟩ := frame_part Try.underlying23 Try.underlying2 (by kernel_rfl) haa0
  subst han0
  have ia0 := isI_of_wf wa0
  have ba0 : Arr W W.heap.size A0 at0.length (i64s at0) := aa0
  have k1 := h1
  have lt1 : ∀ x ∈ p1, x.block < W.heap.size := by obtain ⟨m, hm⟩ := k1; exact DataW.trod_lt m _ _ _ hm
  obtain ⟨vl1, vh1, yl1, yh1, m1, rfl, ed1, ep1, hl1, hh1⟩ := Go.Joins.open_agg2 Try.underlying25 (by kernel_rfl) (by kernel_rfl) (hval 1 25 v1 rfl rfl) h1
  obtain ⟨L1, ln1, lc1, lo1, rfl, hln1, cl1, _, al1, wl1, rl1⟩ := frame_part Try.underlying23 Try.underlying2 (by kernel_rfl) hl1
  obtain ⟨H1, hn1, hc1, hi1, rfl, hhn1, ch1, _, ah1, wh1, rh1⟩ := frame_part Try.underlying23 Try.underlying2 (by kernel_rfl) hh1
  have nl1 : ln1 ≤ 17592186043904 := by
    rcases rl1 with h | ⟨E, S, hd, hE⟩
    · omega
    · have h := sized_part hsz (j := 1) (i := 0) (t := 25) (t' := 23) (e := 2) (elems := E) (spare := S) rfl (by rw [ed1]; rfl) Try.underlying25 rfl (by rw [← hd]; rfl) Try.underlying23
      rw [show Try.prog.bytesOf 2 = 8 from by kernel_rfl] at h
      simp only [reachBytes] at h
      omega
  have nh1 : hn1 ≤ 17592186043904 := by
    rcases rh1 with h | ⟨E, S, hd, hE⟩
    · omega
    · have h := sized_part hsz (j := 1) (i := 1) (t := 25) (t' := 23) (e := 2) (elems := E) (spare := S) rfl (by rw [ed1]; rfl) Try.underlying25 rfl (by rw [← hd]; rfl) Try.underlying23
      rw [show Try.prog.bytesOf 2 = 8 from by kernel_rfl] at h
      simp only [reachBytes] at h
      omega
  subst hln1 hhn1
  have il1 := isI_of_wf wl1
  have ih1 := isI_of_wf wh1
  have bl1 : Arr W W.heap.size L1 lo1.length (i64s lo1) := al1
  have bh1 : Arr W W.heap.size H1 hi1.length (i64s hi1) := ah1
  have k2 := h2
  have lt2 : ∀ x ∈ p2, x.block < W.heap.size := by obtain ⟨m, hm⟩ := k2; exact DataW.trod_lt m _ _ _ hm
  obtain ⟨A2, len2, cap2, z2, rfl, hl2, hc2, hm2, ha2, hw2, hd2⟩ := frame_arr Try.underlying23 Try.underlying2 (by kernel_rfl) (hval 2 23 v2 rfl rfl) h2
  have n2 : len2 ≤ 17592186043904 := by
    rcases hd2 with h | ⟨E, S, hd, hE⟩
    · omega
    · have h := sized_slice hsz (j := 2) (t := 23) (e := 2) (elems := E) (spare := S) rfl (by rw [hd]; rfl) Try.underlying23
      rw [show Try.prog.bytesOf 2 = 8 from by kernel_rfl] at h
      simp only [reachBytes] at h
      omega
  subst hl2
  have i2 := isI_of_wf hw2
  have a2 : Arr W W.heap.size A2 z2.length (i64s z2) := ha2
  have k3 := h3
  have lt3 : ∀ x ∈ p3, x.block < W.heap.size := by obtain ⟨m, hm⟩ := k3; exact DataW.trod_lt m _ _ _ hm
  obtain ⟨A3, len3, cap3, z3, rfl, hl3, hc3, hm3, ha3, hw3, hd3⟩ := frame_arr Try.underlying23 Try.underlying2 (by kernel_rfl) (hval 3 23 v3 rfl rfl) h3
  have n3 : len3 ≤ 17592186043904 := by
    rcases hd3 with h | ⟨E, S, hd, hE⟩
    · omega
    · have h := sized_slice hsz (j := 3) (t := 23) (e := 2) (elems := E) (spare := S) rfl (by rw [hd]; rfl) Try.underlying23
      rw [show Try.prog.bytesOf 2 = 8 from by kernel_rfl] at h
      simp only [reachBytes] at h
      omega
  subst hl3
  have i3 := isI_of_wf hw3
  have a3 : Arr W W.heap.size A3 z3.length (i64s z3) := ha3
  clear hA0 hval0
  refine (walk_BoxLeast K0 C0 A0 at0 ac0 L1 lo1 lc1 H1 hi1 hc1 A2 z2 cap2 A3 z3 cap3 W ba0 ia0 bl1 il1 bh1 ih1 nl1 nh1 cl1 ch1 a2 i2 n2 hc2 a3 i3 n3 hc3).mono fun e W' ⟨he, bel⟩ => ?_
  subst he
  exact ⟨_, rfl, _, _, _, [], _, [], hW', trodAll_mk1 (shut_bool Try.underlying4 _), (trodAll_cons_mk (Below.trod laidOut (by kernel_rfl) (of_decide_eq_true (by kernel_rfl)) k0 bel lt0) (trodAll_cons_mk (Below.trod laidOut (by kernel_rfl) (of_decide_eq_true (by kernel_rfl)) k1 bel lt1) (trodAll_cons_mk (Below.trod laidOut (by kernel_rfl) (of_decide_eq_true (by kernel_rfl)) k2 bel lt2) (trodAll_cons_mk (Below.trod laidOut (by kernel_rfl) (of_decide_eq_true (by kernel_rfl)) k3 bel lt3) trodAll_mk0)))), rfl, bel.frame _, fun h => by cases h⟩

theorem over : Rows.boxLeastRow.holds Try.pinned (OpenSpec.ofChange Rows.boxLeastSpec) :=
  OpenClaim.holds_of_wide 10 Try.f10 rfl rfl rfl rfl rfl rfl rfl ⟨rfl, rfl, rfl, rfl, rfl⟩ rfl rfl rfl rfl rfl (by kernel_rfl) Try.func10 (by kernel_rfl)
    (of_decide_eq_true (by kernel_rfl)) (by unfold Func.isWrapper; first | (rw [if_pos (by decide +kernel)]; kernel_rfl) | (rw [if_neg (by decide +kernel)]; exact ⟨rfl, rfl⟩))
    (fun os started H enc _ => lifted os started H enc)

theorem proved : Rows.BoxLeastSaid := over
end Go.Proofs.Ytnekbmndphbaoaa.lawBoxLeast
