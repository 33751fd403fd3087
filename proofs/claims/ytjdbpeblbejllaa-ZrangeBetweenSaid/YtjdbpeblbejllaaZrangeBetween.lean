/-
  ZrangeBetween: whatever the input, the law returns true, and each argument reads as it did. The proof joins the walk of the Go text (walk_ZrangeBetween) to the given row.
-/
import Derived.Test.YtjdbpeblbejllaaRows
import Derived.Test.YtjdbpeblbejllaaZr16
import Derived.Test.YtjdbpeblbejllaaFrame
set_option linter.unusedVariables false
set_option linter.unusedSimpArgs false
namespace Go.Proofs.Ytjdbpeblbejllaa.lawZrangeBetween
open Go.ChangeShapes Go.WideShapes Go.ChangeAt Go.RowKit
open Go.ChangeMaps (open_string shut_string)

theorem own : ownKnob Try.prog.godebug = none := by kernel_rfl
theorem laidOut : laidOutB Try.prog = true := by kernel_rfl

set_option maxRecDepth 100000 in
theorem lifted (os : Os) (started : os.Started) (H : Type) (enc : TypeId × Value → H) :
    ReturnsInHanded {} Try.checked os 9 .any (Rows.zrangeBetweenSpec.pre6 enc Try.prog Try.f9 Rows.zrangeBetweenRow.domain false) (Rows.zrangeBetweenSpec.post enc Try.prog Try.f9 false true false false) := by
  refine returnsInHanded_of_change_sized (C := Try.checked) own started (by kernel_rfl) Try.func9
    (ChangeSpec.witness6 (enc := enc) (C := Try.checked) false ⟨#[], #[.slice none 0 0, .slice none 0 0, .agg #[.slice none 0 0, .slice none 0 0]], []⟩ 8 (by kernel_rfl) (by kernel_rfl) (by kernel_rfl) (by kernel_rfl)) ?_
  intro W base args ds gs before hval0 hW hcnd hsz0 _
  have hval : ∀ (j : Nat) t v, Try.f9.params[j]? = some t → args[j]? = some v → Value.okWide Try.prog W .any base t v := hval0
  have hW' := hW
  obtain ⟨p, q, hA0, hV, rfl, hfz, hnd⟩ := hW
  have hA : DataW.TrodAll enc Try.prog W 0 (fun _ => true) true Try.f9.params.toList args.toList ds p := hA0
  have hsz : (DataW.weightsEach Try.prog (Try.f9.params.toList ++ Rows.zrangeBetweenSpec.plain.varTypes Try.prog) (ds ++ gs)).all (· ≤ reachBytes) = true := hsz0
  rw [Try.params9] at hA hval hsz
  obtain ⟨v0, vs0, d0, ds0, p0, q0, hargs, rfl, rfl, h0, r0⟩ := trodAll_cons hA
  obtain ⟨v1, vs1, d1, ds1, p1, q1, rfl, rfl, rfl, h1, r1⟩ := trodAll_cons r0
  obtain ⟨v2, vs2, d2, ds2, p2, q2, rfl, rfl, rfl, h2, r2⟩ := trodAll_cons r1
  obtain ⟨rfl, rfl, rfl⟩ := trodAll_nil r2
  obtain rfl : args = #[v0, v1, v2] := by cases args; simp_all
  obtain ⟨rfl, rfl⟩ := trodVars_none hV
  have k0 := h0
  have lt0 : ∀ x ∈ p0, x.block < W.heap.size := by obtain ⟨m, hm⟩ := k0; exact DataW.trod_lt m _ _ _ hm
  obtain ⟨A0, len0, cap0, z0, rfl, hl0, hc0, hm0, ha0, hw0, hd0⟩ := frame_arr Try.underlying56 Try.underlying2 (by kernel_rfl) (hval 0 56 v0 rfl rfl) h0
  have n0 : len0 ≤ 17592186043904 := by
    rcases hd0 with h | ⟨E, S, hd, hE⟩
    · omega
    · have h := sized_slice hsz (j := 0) (t := 56) (e := 2) (elems := E) (spare := S) rfl (by rw [hd]; rfl) Try.underlying56
      rw [show Try.prog.bytesOf 2 = 8 from by kernel_rfl] at h
      simp only [reachBytes] at h
      omega
  subst hl0
  have i0 := isI_of_wf hw0
  have a0 : Arr W W.heap.size A0 z0.length (i64s z0) := ha0
  have k1 := h1
  have lt1 : ∀ x ∈ p1, x.block < W.heap.size := by obtain ⟨m, hm⟩ := k1; exact DataW.trod_lt m _ _ _ hm
  obtain ⟨A1, len1, cap1, z1, rfl, hl1, hc1, hm1, ha1, hw1, hd1⟩ := frame_arr Try.underlying56 Try.underlying2 (by kernel_rfl) (hval 1 56 v1 rfl rfl) h1
  have n1 : len1 ≤ 17592186043904 := by
    rcases hd1 with h | ⟨E, S, hd, hE⟩
    · omega
    · have h := sized_slice hsz (j := 1) (t := 56) (e := 2) (elems := E) (spare := S) rfl (by rw [hd]; rfl) Try.underlying56
      rw [show Try.prog.bytesOf 2 = 8 from by kernel_rfl] at h
      simp only [reachBytes] at h
      omega
  subst hl1
  have i1 := isI_of_wf hw1
  have a1 : Arr W W.heap.size A1 z1.length (i64s z1) := ha1
  have k2 := h2
  have lt2 : ∀ x ∈ p2, x.block < W.heap.size := by obtain ⟨m, hm⟩ := k2; exact DataW.trod_lt m _ _ _ hm
  obtain ⟨vl2, vh2, yl2, yh2, m2, rfl, ed2, ep2, hl2, hh2⟩ := Go.Joins.open_agg2 Try.underlying58 (by kernel_rfl) (by kernel_rfl) (hval 2 58 v2 rfl rfl) h2
  obtain ⟨L2, ln2, lc2, lo2, rfl, hln2, _, _, al2, wl2, _⟩ := frame_part Try.underlying56 Try.underlying2 (by kernel_rfl) hl2
  obtain ⟨H2, hn2, hc2, hi2, rfl, hhn2, _, _, ah2, wh2, _⟩ := frame_part Try.underlying56 Try.underlying2 (by kernel_rfl) hh2
  subst hln2 hhn2
  have il2 := isI_of_wf wl2
  have ih2 := isI_of_wf wh2
  have bl2 : Arr W W.heap.size L2 lo2.length (i64s lo2) := al2
  have bh2 : Arr W W.heap.size H2 hi2.length (i64s hi2) := ah2
  clear hA0 hval0
  refine (walk_ZrangeBetween A0 z0 cap0 A1 z1 cap1 L2 lo2 lc2 H2 hi2 hc2 W a0 i0 n0 a1 i1 n1 bl2 il2 bh2 ih2).mono fun e W' ⟨he, bel⟩ => ?_
  subst he
  exact ⟨_, rfl, _, _, _, [], _, [], hW', trodAll_mk1 (shut_bool Try.underlying4 _), (trodAll_cons_mk (Below.trod laidOut (by kernel_rfl) (of_decide_eq_true (by kernel_rfl)) k0 bel lt0) (trodAll_cons_mk (Below.trod laidOut (by kernel_rfl) (of_decide_eq_true (by kernel_rfl)) k1 bel lt1) (trodAll_cons_mk (Below.trod laidOut (by kernel_rfl) (of_decide_eq_true (by kernel_rfl)) k2 bel lt2) trodAll_mk0))), rfl, bel.frame _, fun h => by cases h⟩

theorem over : Rows.zrangeBetweenRow.holds Try.pinned (OpenSpec.ofChange Rows.zrangeBetweenSpec) :=
  OpenClaim.holds_of_wide 9 Try.f9 rfl rfl rfl rfl rfl rfl rfl ⟨rfl, rfl, rfl, rfl, rfl⟩ rfl rfl rfl rfl rfl (by kernel_rfl) Try.func9 (by kernel_rfl)
    (of_decide_eq_true (by kernel_rfl)) (by unfold Func.isWrapper; first | (rw [if_pos (by decide +kernel)]; kernel_rfl) | (rw [if_neg (by decide +kernel)]; exact ⟨rfl, rfl⟩))
    (fun os started H enc _ => lifted os started H enc)

theorem proved : Rows.ZrangeBetweenSaid := over
end Go.Proofs.Ytjdbpeblbejllaa.lawZrangeBetween
