/- The examples of chapter 4. -/
import Derived.Test.YtnekbmndphbaoaaAhead2
import Derived.Test.YtnekbmndphbaoaaBox5
import Derived.Test.YtnekbmndphbaoaaRef04
set_option linter.unusedVariables false
set_option linter.unusedSimpArgs false
namespace Go.Proofs.Ytnekbmndphbaoaa
open Go.RowKit
theorem isI_of4 (l : List Int) (h : ∀ z ∈ l, -9223372036854775808 ≤ z ∧ z ≤ 9223372036854775807) : IsI l := fun i => by
  by_cases hi : i < l.length
  · rw [show l.getD i 0 = l[i] from by simp [List.getD, List.getElem?_eq_getElem hi]]; exact h _ (List.getElem_mem hi)
  · rw [getD_out _ _ _ (by omega)]; omega
theorem lit2 (w : World) (x y : Int) : Arr (w.alloc (.cells #[.int .i64 x, .int .i64 y] 2)) (w.alloc (.cells #[.int .i64 x, .int .i64 y] 2)).heap.size (some ⟨w.heap.size, 0, none⟩) 2 (i64s [x, y]) := Arr.of_i64' w [x, y] 2 _ 2 rfl rfl
theorem lit1 (w : World) (x : Int) : Arr (w.alloc (.cells #[.int .i64 x] 2)) (w.alloc (.cells #[.int .i64 x] 2)).heap.size (some ⟨w.heap.size, 0, none⟩) 1 (i64s [x]) := Arr.of_i64' w [x] 2 _ 1 rfl rfl
theorem a4cut (A B C D : Option Addr) (a b c d : Nat) (w : World) (hA : Arr w w.heap.size A 2 (i64s [1, 2])) (hB : Arr w w.heap.size B 2 (i64s [3, 4])) (hC : Arr w w.heap.size C 2 (i64s [0, 3])) (hD : Arr w w.heap.size D 2 (i64s [2, 9])) :
    Calls Try.prog 54 #[.agg #[.slice A 2 a, .slice B 2 b], .agg #[.slice C 2 c, .slice D 2 d]] w fun e w' => ∃ R s R' s', e = .returned (.tuple #[.agg #[.slice R 2 s, .slice R' 2 s'], .bool true]) ∧ Below w.heap.size w w' ∧ Arr w' w'.heap.size R 2 (i64s [1, 3]) ∧ Arr w' w'.heap.size R' 2 (i64s [2, 4]) :=
  (cut_in A B C D [1, 2] [3, 4] [0, 3] [2, 9] a b c d w hA hB hC hD (by decide)).mono fun e w' ⟨R, s, R', s', he, hb, o1, o2, _⟩ => ⟨R, s, R', s', he, hb, o1.arr, o2.arr⟩
theorem a4hull (A B C D : Option Addr) (a b c d : Nat) (w : World) (hA : Arr w w.heap.size A 2 (i64s [1, 2])) (hB : Arr w w.heap.size B 2 (i64s [3, 4])) (hC : Arr w w.heap.size C 2 (i64s [0, 3])) (hD : Arr w w.heap.size D 2 (i64s [2, 9])) :
    Calls Try.prog 56 #[.agg #[.slice A 2 a, .slice B 2 b], .agg #[.slice C 2 c, .slice D 2 d]] w fun e w' => ∃ R s R' s', e = .returned (.agg #[.slice R 2 s, .slice R' 2 s']) ∧ Below w.heap.size w w' ∧ Arr w' w'.heap.size R 2 (i64s [0, 2]) ∧ Arr w' w'.heap.size R' 2 (i64s [3, 9]) :=
  (hull_in A B C D [1, 2] [3, 4] [0, 3] [2, 9] a b c d w hA hB hC hD (by decide) (by decide) rfl).mono fun e w' ⟨R, s, R', s', he, hb, o1, o2, _⟩ => ⟨R, s, R', s', he, hb, o1.arr, o2.arr⟩
theorem a4key (A Q : Option Addr) (ca : Nat) (w : World) (hA : Arr w w.heap.size A 1 (i64s [0])) (hQ : Arr w w.heap.size Q 2 (i64s [7, -3])) :
    Calls Try.prog 30 #[.agg #[.int .u8 3, .int .i64 0, .slice A 1 ca], .slice Q 2 2] w fun e w' => e = .returned (.tuple #[.agg #[.int .u64 0, .int .u64 3], .int .i64 0]) ∧ Below w.heap.size w w' :=
  (key_in 3 0 A Q [0] [7, -3] ca 2 w hA hQ (isI_of4 _ (by simp)) (isI_of4 _ (by simp)) (Nat.le_refl _) (by decide)).mono fun e w' ⟨he, hb⟩ => ⟨by rw [he, show keyN 3 0 [0] [7, -3] = 3 from by decide +kernel]; rfl, hb⟩
theorem a4same (A B C D : Option Addr) (a b c d : Nat) (x y z u : Int) (w : World) (hA : Arr w w.heap.size A 2 (i64s [x, y])) (hB : Arr w w.heap.size B 2 (i64s [z, u])) (hC : Arr w w.heap.size C 2 (i64s [x, y])) (hD : Arr w w.heap.size D 2 (i64s [z, u])) :
    Calls Try.prog 55 #[.agg #[.slice A 2 a, .slice B 2 b], .agg #[.slice C 2 c, .slice D 2 d]] w fun e w' => e = .returned (.bool true) ∧ Below w.heap.size w w' :=
  (same_any A B C D [x, y] [z, u] [x, y] [z, u] a b c d w hA hB hC hD (by simp) (by simp)).mono fun e w' ⟨he, hb⟩ => ⟨by rw [he]; simp, hb⟩
theorem a4ahead (P Q : Option Addr) (ca : Nat) (w : World) (hP : Arr w w.heap.size P 2 (i64s [1, 9])) (hQ : Arr w w.heap.size Q 2 (i64s [2, 5])) :
    Calls Try.prog 34 #[.agg #[.int .u8 2, .int .i64 1, .slice none 0 0], .slice P 2 2, .slice Q 2 2] w fun e w' => e = .returned (.bool true) ∧ Below w.heap.size w w' :=
  (aheadO_any 2 1 none P Q [] [1, 9] [2, 5] 0 2 2 w Arr.none_ hP hQ (isI_of4 _ (by simp)) (isI_of4 _ (by simp)) (isI_of4 _ (by simp)) (by simp) (by simp) (Nat.le_refl _) (Nat.le_refl _)).mono fun e w' ⟨he, hb⟩ =>
    ⟨by rw [he, show aheadO 2 1 [] [1, 9] [2, 5] = true from by decide +kernel], hb⟩

set_option maxRecDepth 100000 in
set_option maxHeartbeats 4000000 in
theorem alive04 (w : World) : Calls Try.prog 29 #[] w fun e w' => e = .returned (.bool true) ∧ Below w.heap.size w w' := by
  go_enter Try.func29, Try.ntmps29
  go_wp2_with fail
  have cb := hideP (Below.refl w.heap.size w)
  obtain ⟨v1, h_v1⟩ : ∃ v, v = w.alloc (Obj.cells #[.int .i64 1, .int .i64 2] 2) := ⟨_, rfl⟩
  have b_v1 : Below w.heap.size w v1 := by rw [h_v1]; exact below_new _ _
  have s_v1 : v1.heap.size = w.heap.size + 1 := by rw [h_v1]; simp
  replace cb := hideP (bstep cb.out b_v1)
  have A1 := hideP (show Arr v1 v1.heap.size (some ⟨w.heap.size, 0, none⟩) 2 (i64s [1, 2]) by rw [h_v1]; exact Arr.of_i64' w [1, 2] 2 _ 2 rfl rfl)
  obtain ⟨v2, h_v2⟩ : ∃ v, v = v1.alloc (Obj.cells #[.int .i64 3, .int .i64 4] 2) := ⟨_, rfl⟩
  have b_v2 : Below v1.heap.size v1 v2 := by rw [h_v2]; exact below_new _ _
  have s_v2 : v2.heap.size = w.heap.size + 1 + 1 := by rw [h_v2]; simp [s_v1]
  replace A1 := hideP (A1.out.after b_v2)
  replace cb := hideP (bstep cb.out b_v2)
  have A2 := hideP (show Arr v2 v2.heap.size (some ⟨w.heap.size + 1, 0, none⟩) 2 (i64s [3, 4]) by rw [h_v2]; exact Arr.of_i64' v1 [3, 4] 2 _ 2 s_v1.symm rfl)
  obtain ⟨v3, h_v3⟩ : ∃ v, v = v2.alloc (Obj.cells #[.slice (some ⟨w.heap.size, 0, none⟩) 2 2, .slice (some ⟨w.heap.size + 1, 0, none⟩) 2 2] 25) := ⟨_, rfl⟩
  have b_v3 : Below v2.heap.size v2 v3 := by rw [h_v3]; exact below_new _ _
  have s_v3 : v3.heap.size = w.heap.size + 1 + 1 + 1 := by rw [h_v3]; simp [s_v2]
  replace A1 := hideP (A1.out.after b_v3)
  replace A2 := hideP (A2.out.after b_v3)
  replace cb := hideP (bstep cb.out b_v3)
  have xa := hideP (show Two v3 (w.heap.size + 1 + 1) 25 (.slice (some ⟨w.heap.size, 0, none⟩) 2 2) (.slice (some ⟨w.heap.size + 1, 0, none⟩) 2 2) by rw [h_v3]; exact Two.new' _ _ _ _ _ s_v2)
  obtain ⟨v4, h_v4⟩ : ∃ v, v = v3.alloc (Obj.cells #[.int .i64 0, .int .i64 3] 2) := ⟨_, rfl⟩
  have b_v4 : Below v3.heap.size v3 v4 := by rw [h_v4]; exact below_new _ _
  have s_v4 : v4.heap.size = w.heap.size + 1 + 1 + 1 + 1 := by rw [h_v4]; simp [s_v3]
  replace A1 := hideP (A1.out.after b_v4)
  replace A2 := hideP (A2.out.after b_v4)
  replace xa := hideP (xa.out.after b_v4)
  replace cb := hideP (bstep cb.out b_v4)
  have A3 := hideP (show Arr v4 v4.heap.size (some ⟨w.heap.size + 1 + 1 + 1, 0, none⟩) 2 (i64s [0, 3]) by rw [h_v4]; exact Arr.of_i64' v3 [0, 3] 2 _ 2 s_v3.symm rfl)
  obtain ⟨v5, h_v5⟩ : ∃ v, v = v4.alloc (Obj.cells #[.int .i64 2, .int .i64 9] 2) := ⟨_, rfl⟩
  have b_v5 : Below v4.heap.size v4 v5 := by rw [h_v5]; exact below_new _ _
  have s_v5 : v5.heap.size = w.heap.size + 1 + 1 + 1 + 1 + 1 := by rw [h_v5]; simp [s_v4]
  replace A1 := hideP (A1.out.after b_v5)
  replace A2 := hideP (A2.out.after b_v5)
  replace xa := hideP (xa.out.after b_v5)
  replace A3 := hideP (A3.out.after b_v5)
  replace cb := hideP (bstep cb.out b_v5)
  have A4 := hideP (show Arr v5 v5.heap.size (some ⟨w.heap.size + 1 + 1 + 1 + 1, 0, none⟩) 2 (i64s [2, 9]) by rw [h_v5]; exact Arr.of_i64' v4 [2, 9] 2 _ 2 s_v4.symm rfl)
  obtain ⟨v6, h_v6⟩ : ∃ v, v = v5.alloc (Obj.cells #[.slice (some ⟨w.heap.size + 1 + 1 + 1, 0, none⟩) 2 2, .slice (some ⟨w.heap.size + 1 + 1 + 1 + 1, 0, none⟩) 2 2] 25) := ⟨_, rfl⟩
  have b_v6 : Below v5.heap.size v5 v6 := by rw [h_v6]; exact below_new _ _
  have s_v6 : v6.heap.size = w.heap.size + 1 + 1 + 1 + 1 + 1 + 1 := by rw [h_v6]; simp [s_v5]
  replace A1 := hideP (A1.out.after b_v6)
  replace A2 := hideP (A2.out.after b_v6)
  replace xa := hideP (xa.out.after b_v6)
  replace A3 := hideP (A3.out.after b_v6)
  replace A4 := hideP (A4.out.after b_v6)
  replace cb := hideP (bstep cb.out b_v6)
  have xb := hideP (show Two v6 (w.heap.size + 1 + 1 + 1 + 1 + 1) 25 (.slice (some ⟨w.heap.size + 1 + 1 + 1, 0, none⟩) 2 2) (.slice (some ⟨w.heap.size + 1 + 1 + 1 + 1, 0, none⟩) 2 2) by rw [h_v6]; exact Two.new' _ _ _ _ _ s_v5)
  rw [← h_v1, ← h_v2, ← h_v3, ← h_v4, ← h_v5, ← h_v6]
  clear h_v1 h_v2 h_v3 h_v4 h_v5 h_v6 b_v1 b_v2 b_v3 b_v4 b_v5 b_v6 s_v1 s_v2 s_v3 s_v4 s_v5 s_v6
  refine (a4cut _ _ _ _ 2 2 2 2 v6 A1.out A2.out A3.out A4.out).mono ?_
  rintro e w1 ⟨R, s, R', s', rfl, hb, o1, o2⟩
  have Ho1 := hideP o1; have Ho2 := hideP o2; clear o1 o2
  replace A1 := hideP (A1.out.after hb)
  replace A2 := hideP (A2.out.after hb)
  replace A3 := hideP (A3.out.after hb)
  replace A4 := hideP (A4.out.after hb)
  replace xa := hideP (xa.out.after hb)
  replace xb := hideP (xb.out.after hb)
  replace cb := hideP (bstep cb.out hb)
  clear hb
  go_wp2_with fail
  obtain ⟨u1, h_u1⟩ : ∃ v, v = w1.alloc (Obj.cells #[.slice R 2 s, .slice R' 2 s'] 25) := ⟨_, rfl⟩
  have b_u1 : Below w1.heap.size w1 u1 := by rw [h_u1]; exact below_new _ _
  have s_u1 : u1.heap.size = w1.heap.size + 1 := by rw [h_u1]; simp
  replace A1 := hideP (A1.out.after b_u1)
  replace A2 := hideP (A2.out.after b_u1)
  replace A3 := hideP (A3.out.after b_u1)
  replace A4 := hideP (A4.out.after b_u1)
  replace xa := hideP (xa.out.after b_u1)
  replace xb := hideP (xb.out.after b_u1)
  replace Ho1 := hideP (Ho1.out.after b_u1)
  replace Ho2 := hideP (Ho2.out.after b_u1)
  replace cb := hideP (bstep cb.out b_u1)
  have xc := hideP (show Two u1 (w1.heap.size) 25 (.slice R 2 s) (.slice R' 2 s') by rw [h_u1]; exact Two.new' _ _ _ _ _ rfl)
  obtain ⟨u2, h_u2⟩ : ∃ v, v = u1.alloc (Obj.cells #[.int .i64 0] 2) := ⟨_, rfl⟩
  have b_u2 : Below u1.heap.size u1 u2 := by rw [h_u2]; exact below_new _ _
  have s_u2 : u2.heap.size = w1.heap.size + 1 + 1 := by rw [h_u2]; simp [s_u1]
  replace A1 := hideP (A1.out.after b_u2)
  replace A2 := hideP (A2.out.after b_u2)
  replace A3 := hideP (A3.out.after b_u2)
  replace A4 := hideP (A4.out.after b_u2)
  replace xa := hideP (xa.out.after b_u2)
  replace xb := hideP (xb.out.after b_u2)
  replace Ho1 := hideP (Ho1.out.after b_u2)
  replace Ho2 := hideP (Ho2.out.after b_u2)
  replace xc := hideP (xc.out.after b_u2)
  replace cb := hideP (bstep cb.out b_u2)
  have B1 := hideP (show Arr u2 u2.heap.size (some ⟨w1.heap.size + 1, 0, none⟩) 1 (i64s [0]) by rw [h_u2]; exact Arr.of_i64' u1 [0] 2 _ 1 s_u1.symm rfl)
  obtain ⟨u3, h_u3⟩ : ∃ v, v = u2.alloc (Obj.cells #[.int .i64 7, .int .i64 (-3)] 2) := ⟨_, rfl⟩
  have b_u3 : Below u2.heap.size u2 u3 := by rw [h_u3]; exact below_new _ _
  have s_u3 : u3.heap.size = w1.heap.size + 1 + 1 + 1 := by rw [h_u3]; simp [s_u2]
  replace A1 := hideP (A1.out.after b_u3)
  replace A2 := hideP (A2.out.after b_u3)
  replace A3 := hideP (A3.out.after b_u3)
  replace A4 := hideP (A4.out.after b_u3)
  replace xa := hideP (xa.out.after b_u3)
  replace xb := hideP (xb.out.after b_u3)
  replace Ho1 := hideP (Ho1.out.after b_u3)
  replace Ho2 := hideP (Ho2.out.after b_u3)
  replace xc := hideP (xc.out.after b_u3)
  replace B1 := hideP (B1.out.after b_u3)
  replace cb := hideP (bstep cb.out b_u3)
  have B2 := hideP (show Arr u3 u3.heap.size (some ⟨w1.heap.size + 1 + 1, 0, none⟩) 2 (i64s [7, -3]) by rw [h_u3]; exact Arr.of_i64' u2 [7, -3] 2 _ 2 s_u2.symm rfl)
  rw [← h_u1, ← h_u2, ← h_u3]
  clear h_u1 b_u1 s_u1 h_u2 b_u2 s_u2 h_u3 b_u3 s_u3
  refine (a4key _ _ 1 u3 B1.out B2.out).mono ?_
  rintro e w2 ⟨rfl, hb⟩
  replace A1 := hideP (A1.out.after hb)
  replace A2 := hideP (A2.out.after hb)
  replace A3 := hideP (A3.out.after hb)
  replace A4 := hideP (A4.out.after hb)
  replace xa := hideP (xa.out.after hb)
  replace xb := hideP (xb.out.after hb)
  replace Ho1 := hideP (Ho1.out.after hb)
  replace Ho2 := hideP (Ho2.out.after hb)
  replace xc := hideP (xc.out.after hb)
  replace cb := hideP (bstep cb.out hb)
  clear hb
  clear B1 B2
  have q0 := (xc.out.alloc (Obj.cells #[.int .u64 0, .int .u64 3] 29)).c0
  have q1 := (xc.out.alloc (Obj.cells #[.int .u64 0, .int .u64 3] 29)).c1
  go_wp2_with fail
  clear q0 q1
  obtain ⟨y1, h_y1⟩ : ∃ v, v = w2.alloc (Obj.cells #[.int .u64 0, .int .u64 3] 29) := ⟨_, rfl⟩
  have b_y1 : Below w2.heap.size w2 y1 := by rw [h_y1]; exact below_new _ _
  have s_y1 : y1.heap.size = w2.heap.size + 1 := by rw [h_y1]; simp
  replace A1 := hideP (A1.out.after b_y1)
  replace A2 := hideP (A2.out.after b_y1)
  replace A3 := hideP (A3.out.after b_y1)
  replace A4 := hideP (A4.out.after b_y1)
  replace xa := hideP (xa.out.after b_y1)
  replace xb := hideP (xb.out.after b_y1)
  replace Ho1 := hideP (Ho1.out.after b_y1)
  replace Ho2 := hideP (Ho2.out.after b_y1)
  replace cb := hideP (bstep cb.out b_y1)
  have x5 := hideP (show Two y1 (w2.heap.size) 29 (.int .u64 0) (.int .u64 3) by rw [h_y1]; exact Two.new' _ _ _ _ _ rfl)
  obtain ⟨y2, h_y2⟩ : ∃ v, v = y1.alloc (Obj.cells #[.int .i64 1, .int .i64 3] 2) := ⟨_, rfl⟩
  have b_y2 : Below y1.heap.size y1 y2 := by rw [h_y2]; exact below_new _ _
  have s_y2 : y2.heap.size = w2.heap.size + 1 + 1 := by rw [h_y2]; simp [s_y1]
  replace A1 := hideP (A1.out.after b_y2)
  replace A2 := hideP (A2.out.after b_y2)
  replace A3 := hideP (A3.out.after b_y2)
  replace A4 := hideP (A4.out.after b_y2)
  replace xa := hideP (xa.out.after b_y2)
  replace xb := hideP (xb.out.after b_y2)
  replace Ho1 := hideP (Ho1.out.after b_y2)
  replace Ho2 := hideP (Ho2.out.after b_y2)
  replace x5 := hideP (x5.out.after b_y2)
  replace cb := hideP (bstep cb.out b_y2)
  have B1 := hideP (show Arr y2 y2.heap.size (some ⟨w2.heap.size + 1, 0, none⟩) 2 (i64s [1, 3]) by rw [h_y2]; exact Arr.of_i64' y1 [1, 3] 2 _ 2 s_y1.symm rfl)
  obtain ⟨y3, h_y3⟩ : ∃ v, v = y2.alloc (Obj.cells #[.int .i64 2, .int .i64 4] 2) := ⟨_, rfl⟩
  have b_y3 : Below y2.heap.size y2 y3 := by rw [h_y3]; exact below_new _ _
  have s_y3 : y3.heap.size = w2.heap.size + 1 + 1 + 1 := by rw [h_y3]; simp [s_y2]
  replace A1 := hideP (A1.out.after b_y3)
  replace A2 := hideP (A2.out.after b_y3)
  replace A3 := hideP (A3.out.after b_y3)
  replace A4 := hideP (A4.out.after b_y3)
  replace xa := hideP (xa.out.after b_y3)
  replace xb := hideP (xb.out.after b_y3)
  replace Ho1 := hideP (Ho1.out.after b_y3)
  replace Ho2 := hideP (Ho2.out.after b_y3)
  replace x5 := hideP (x5.out.after b_y3)
  replace B1 := hideP (B1.out.after b_y3)
  replace cb := hideP (bstep cb.out b_y3)
  have B2 := hideP (show Arr y3 y3.heap.size (some ⟨w2.heap.size + 1 + 1, 0, none⟩) 2 (i64s [2, 4]) by rw [h_y3]; exact Arr.of_i64' y2 [2, 4] 2 _ 2 s_y2.symm rfl)
  rw [← h_y1, ← h_y2, ← h_y3]
  clear h_y1 b_y1 s_y1 h_y2 b_y2 s_y2 h_y3 b_y3 s_y3
  refine (a4same R R' _ _ s s' 2 2 1 3 2 4 y3 Ho1.out Ho2.out B1.out B2.out).mono ?_
  rintro e w3 ⟨rfl, hb⟩
  replace A1 := hideP (A1.out.after hb)
  replace A2 := hideP (A2.out.after hb)
  replace A3 := hideP (A3.out.after hb)
  replace A4 := hideP (A4.out.after hb)
  replace xa := hideP (xa.out.after hb)
  replace xb := hideP (xb.out.after hb)
  replace x5 := hideP (x5.out.after hb)
  replace cb := hideP (bstep cb.out hb)
  clear hb
  clear B1 B2 Ho1 Ho2
  have kxa0 := xa.out.c0; have kxa1 := xa.out.c1
  have kxb0 := xb.out.c0; have kxb1 := xb.out.c1
  go_wp2_with fail
  clear kxa0 kxa1 kxb0 kxb1
  refine (a4hull _ _ _ _ 2 2 2 2 w3 A1.out A2.out A3.out A4.out).mono ?_
  rintro e w4 ⟨Q, t, Q', t', rfl, hb, o1, o2⟩
  have Ho1 := hideP o1; have Ho2 := hideP o2; clear o1 o2
  replace x5 := hideP (x5.out.after hb)
  replace cb := hideP (bstep cb.out hb)
  clear hb
  clear A1 A2 A3 A4 xa xb
  go_wp2_with fail
  obtain ⟨z1, h_z1⟩ : ∃ v, v = w4.alloc (Obj.cells #[.int .i64 0, .int .i64 2] 2) := ⟨_, rfl⟩
  have b_z1 : Below w4.heap.size w4 z1 := by rw [h_z1]; exact below_new _ _
  have s_z1 : z1.heap.size = w4.heap.size + 1 := by rw [h_z1]; simp
  replace Ho1 := hideP (Ho1.out.after b_z1)
  replace Ho2 := hideP (Ho2.out.after b_z1)
  replace x5 := hideP (x5.out.after b_z1)
  replace cb := hideP (bstep cb.out b_z1)
  have B1 := hideP (show Arr z1 z1.heap.size (some ⟨w4.heap.size, 0, none⟩) 2 (i64s [0, 2]) by rw [h_z1]; exact Arr.of_i64' w4 [0, 2] 2 _ 2 rfl rfl)
  obtain ⟨z2, h_z2⟩ : ∃ v, v = z1.alloc (Obj.cells #[.int .i64 3, .int .i64 9] 2) := ⟨_, rfl⟩
  have b_z2 : Below z1.heap.size z1 z2 := by rw [h_z2]; exact below_new _ _
  have s_z2 : z2.heap.size = w4.heap.size + 1 + 1 := by rw [h_z2]; simp [s_z1]
  replace Ho1 := hideP (Ho1.out.after b_z2)
  replace Ho2 := hideP (Ho2.out.after b_z2)
  replace x5 := hideP (x5.out.after b_z2)
  replace B1 := hideP (B1.out.after b_z2)
  replace cb := hideP (bstep cb.out b_z2)
  have B2 := hideP (show Arr z2 z2.heap.size (some ⟨w4.heap.size + 1, 0, none⟩) 2 (i64s [3, 9]) by rw [h_z2]; exact Arr.of_i64' z1 [3, 9] 2 _ 2 s_z1.symm rfl)
  rw [← h_z1, ← h_z2]
  clear h_z1 b_z1 s_z1 h_z2 b_z2 s_z2
  refine (a4same Q Q' _ _ t t' 2 2 0 2 3 9 z2 Ho1.out Ho2.out B1.out B2.out).mono ?_
  rintro e w5 ⟨rfl, hb⟩
  replace x5 := hideP (x5.out.after hb)
  replace cb := hideP (bstep cb.out hb)
  clear hb
  clear B1 B2 Ho1 Ho2
  have kx50 := x5.out.c0; have kx51 := x5.out.c1
  go_wp2_with fail
  clear kx50 kx51
  obtain ⟨t1, h_t1⟩ : ∃ v, v = w5.alloc (Obj.cells #[.int .i64 1, .int .i64 9] 2) := ⟨_, rfl⟩
  have b_t1 : Below w5.heap.size w5 t1 := by rw [h_t1]; exact below_new _ _
  have s_t1 : t1.heap.size = w5.heap.size + 1 := by rw [h_t1]; simp
  replace cb := hideP (bstep cb.out b_t1)
  have B1 := hideP (show Arr t1 t1.heap.size (some ⟨w5.heap.size, 0, none⟩) 2 (i64s [1, 9]) by rw [h_t1]; exact Arr.of_i64' w5 [1, 9] 2 _ 2 rfl rfl)
  obtain ⟨t2, h_t2⟩ : ∃ v, v = t1.alloc (Obj.cells #[.int .i64 2, .int .i64 5] 2) := ⟨_, rfl⟩
  have b_t2 : Below t1.heap.size t1 t2 := by rw [h_t2]; exact below_new _ _
  have s_t2 : t2.heap.size = w5.heap.size + 1 + 1 := by rw [h_t2]; simp [s_t1]
  replace B1 := hideP (B1.out.after b_t2)
  replace cb := hideP (bstep cb.out b_t2)
  have B2 := hideP (show Arr t2 t2.heap.size (some ⟨w5.heap.size + 1, 0, none⟩) 2 (i64s [2, 5]) by rw [h_t2]; exact Arr.of_i64' t1 [2, 5] 2 _ 2 s_t1.symm rfl)
  rw [← h_t1, ← h_t2]
  clear h_t1 b_t1 s_t1 h_t2 b_t2 s_t2
  refine (a4ahead _ _ 0 t2 B1.out B2.out).mono ?_
  rintro e w6 ⟨rfl, hb⟩
  replace cb := hideP (bstep cb.out hb)
  clear hb
  go_wp2
  go_ret
  exact ⟨rfl, cb.out⟩
end Go.Proofs.Ytnekbmndphbaoaa
