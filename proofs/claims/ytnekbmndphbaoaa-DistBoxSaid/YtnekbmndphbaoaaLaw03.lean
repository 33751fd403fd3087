/- The examples of chapter 3. -/
import Derived.Test.YtnekbmndphbaoaaDist4
import Derived.Test.YtnekbmndphbaoaaRef03b
set_option linter.unusedVariables false
set_option linter.unusedSimpArgs false
namespace Go.Proofs.Ytnekbmndphbaoaa
open Go.RowKit
theorem isI_of (l : List Int) (h : ∀ z ∈ l, -9223372036854775808 ≤ z ∧ z ≤ 9223372036854775807) : IsI l := fun i => by
  by_cases hi : i < l.length
  · rw [show l.getD i 0 = l[i] from by simp [List.getD, List.getElem?_eq_getElem hi]]; exact h _ (List.getElem_mem hi)
  · rw [getD_out _ _ _ (by omega)]; omega
theorem al3a : dv (dpt [0, 0] [3, -4] 2) = .agg #[.int .u64 0, .int .u64 7] := by
  have : dpt [0, 0] [3, -4] 2 = 7 := by decide +kernel
  rw [this]; rfl
theorem al3b : dv (dbox [0, 9] [1, 2] [3, 5] 2) = .agg #[.int .u64 0, .int .u64 5] := by
  have : dbox [0, 9] [1, 2] [3, 5] 2 = 5 := by decide +kernel
  rw [this]; rfl
theorem al3c : digText 18446744073709551616 = ⟨#[49, 56, 52, 52, 54, 55, 52, 52, 48, 55, 51, 55, 48, 57, 53, 53, 49, 54, 49, 54]⟩ := by
  have : dig 18446744073709551616 = [54, 49, 54, 49, 53, 53, 57, 48, 55, 51, 55, 48, 52, 52, 55, 54, 52, 52, 56, 49] := by
    iterate 20 (rw [dig]; simp only [Nat.reduceDiv, Nat.reduceMod, Nat.reduceAdd, Nat.reduceEqDiff, dite_false, dite_true])
  unfold digText
  rw [this]
  decide +kernel
theorem al3d : apart (-9223372036854775808) 9223372036854775807 = 18446744073709551615 := by decide +kernel

set_option maxRecDepth 100000 in
set_option maxHeartbeats 2000000 in
theorem alive03 (w : World) : Calls Try.prog 13 #[] w fun e w' => e = .returned (.bool true) ∧ Below w.heap.size w w' := by
  have D := al3a
  have E := al3b
  have X := al3c
  go_enter Try.func13, Try.ntmps13
  go_wp2_with fail
  have hA := (Arr.of_i64' w [0, 0] 2 w.heap.size 2 rfl rfl).after (below_new (w.alloc (.cells #[.int .i64 0, .int .i64 0] 2)) (.cells #[.int .i64 3, .int .i64 (-4)] 2))
  have hB := Arr.of_i64' (w.alloc (.cells #[.int .i64 0, .int .i64 0] 2)) [3, -4] 2 (w.heap.size + 1) 2 (by simp) rfl
  refine (between_in (some ⟨w.heap.size, 0, none⟩) (some ⟨w.heap.size + 1, 0, none⟩) [0, 0] [3, -4] 2 2 2 _ hA hB (isI_of _ (by simp)) (isI_of _ (by simp)) (by omega) (by omega)).mono ?_
  rw [al3a]
  rintro e w1 ⟨rfl, hb1⟩
  have hb1' : Below w.heap.size w w1 := (((Below.refl _ _).alloc (Nat.le_refl _) _).alloc (by simp) _).trans (hb1.mono (by simp; omega))
  have B1 := hideP hb1'
  clear hA hB hb1 hb1'
  go_wp2_with fail
  obtain ⟨v1, hv1⟩ : ∃ v1, v1 = w1.alloc (Obj.cells #[.int .u64 0, .int .u64 7] 29) := ⟨_, rfl⟩
  obtain ⟨v2, hv2⟩ : ∃ v2, v2 = v1.alloc (Obj.cells #[.int .i64 0, .int .i64 9] 2) := ⟨_, rfl⟩
  obtain ⟨v3, hv3⟩ : ∃ v3, v3 = v2.alloc (Obj.cells #[.int .i64 1, .int .i64 2] 2) := ⟨_, rfl⟩
  obtain ⟨v4, hv4⟩ : ∃ v4, v4 = v3.alloc (Obj.cells #[.int .i64 3, .int .i64 5] 2) := ⟨_, rfl⟩
  have s1 : v1.heap.size = w1.heap.size + 1 := by rw [hv1]; simp
  have s2 : v2.heap.size = w1.heap.size + 1 + 1 := by rw [hv2]; simp [s1]
  have s3 : v3.heap.size = w1.heap.size + 1 + 1 + 1 := by rw [hv3]; simp [s2]
  have b1 : Below w1.heap.size w1 v1 := by rw [hv1]; exact below_new _ _
  have b2 : Below v1.heap.size v1 v2 := by rw [hv2]; exact below_new _ _
  have b3 : Below v2.heap.size v2 v3 := by rw [hv3]; exact below_new _ _
  have b4 : Below v3.heap.size v3 v4 := by rw [hv4]; exact below_new _ _
  have ta : Two v1 w1.heap.size 29 (.int .u64 0) (.int .u64 7) := by rw [hv1]; exact Two.new _ _ _ _
  have hA : Arr v2 v2.heap.size (some ⟨w1.heap.size + 1, 0, none⟩) 2 (i64s [0, 9]) := by rw [hv2]; exact Arr.of_i64' v1 [0, 9] 2 _ 2 s1.symm rfl
  have hB : Arr v3 v3.heap.size (some ⟨w1.heap.size + 1 + 1, 0, none⟩) 2 (i64s [1, 2]) := by rw [hv3]; exact Arr.of_i64' v2 [1, 2] 2 _ 2 s2.symm rfl
  have hC : Arr v4 v4.heap.size (some ⟨w1.heap.size + 1 + 1 + 1, 0, none⟩) 2 (i64s [3, 5]) := by rw [hv4]; exact Arr.of_i64' v3 [3, 5] 2 _ 2 s3.symm rfl
  have ta4 : Two v4 w1.heap.size 29 (.int .u64 0) (.int .u64 7) := ((ta.after b2).after b3).after b4
  have bb : Below w1.heap.size w1 v4 := b1.trans ((b2.trans ((b3.trans (b4.mono b3.size)).mono b2.size)).mono b1.size)
  rw [← hv1, ← hv2, ← hv3, ← hv4]
  refine (toBox_in _ _ _ [0, 9] [1, 2] [3, 5] 2 2 2 2 v4 ((hA.after b3).after b4) (hB.after b4) hC (isI_of _ (by simp)) (isI_of _ (by simp)) (isI_of _ (by simp)) (by omega) (by omega)).mono ?_
  rw [al3b]
  rintro e w2 ⟨rfl, hb2⟩
  have ta5 := (ta4.after hb2).alloc (Obj.cells #[.int .u64 0, .int .u64 5] 29)
  have hb2' : Below w.heap.size w w2 := B1.out.trans ((bb.trans (hb2.mono bb.size)).mono B1.out.size)
  have q0 := ta5.c0
  have q1 := ta5.c1
  have B2 := hideP hb2'
  clear hA hB hC hb2 hb2' bb ta ta4 ta5 b1 b2 b3 b4 s1 s2 s3 hv1 hv2 hv3 hv4 B1
  clear D E
  go_wp2_with fail
  refine (apart_any (-9223372036854775808) 9223372036854775807 _ (by unfold I64; omega) (by unfold I64; omega)).mono ?_
  rw [al3d]
  rintro e w3 ⟨rfl, rfl⟩
  go_wp2_with fail
  have hT := dist_text 18446744073709551616 (w2.alloc (Obj.cells #[.int .u64 0, .int .u64 5] 29)) (by decide)
  rw [show dv 18446744073709551616 = .agg #[.int .u64 1, .int .u64 0] from rfl, X] at hT
  refine hT.mono ?_
  rintro e w5 ⟨rfl, hb5⟩
  have B5 := hideP (B2.out.trans (((Below.refl _ _).alloc (Nat.le_refl _) _).trans (hb5.mono (by simp)) |>.mono B2.out.size))
  clear hb5 hT X
  go_wp2
  go_ret
  exact ⟨rfl, B5.out⟩
end Go.Proofs.Ytnekbmndphbaoaa
