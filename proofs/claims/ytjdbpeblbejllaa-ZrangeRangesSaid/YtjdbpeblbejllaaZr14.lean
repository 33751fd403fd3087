/- The examples of chapter 6; two new slices side by side in a region that draws its order. -/
import Derived.Test.YtjdbpeblbejllaaZr13
import Derived.Test.YtjdbpeblbejllaaZr5
import Derived.Test.YtjdbpeblbejllaaZr7
import Derived.Test.YtjdbpeblbejllaaRef04
set_option linter.unusedVariables false
set_option linter.unusedSimpArgs false
namespace Go.Proofs.Ytjdbpeblbejllaa
open Go.RowKit
theorem isI_lit (l : List Int) (h : ∀ z ∈ l, -9223372036854775808 ≤ z ∧ z ≤ 9223372036854775807) : IsI l := fun i => by
  by_cases hi : i < l.length
  · rw [show l.getD i 0 = l[i] from by simp [List.getD, List.getElem?_eq_getElem hi]]; exact h _ (List.getElem_mem hi)
  · rw [getD_out _ _ _ (by omega)]; omega
section
variable {P : Program} {ops : Array Oper} {Lq : Act → World → Prop} {r : TO} {a : Act} {w : World} {o1 o2 : Oper}
/-- an operation that makes a new block and yields a value that names it -/
structure IsNew (P : Program) (o : Oper) (mk : Nat → Value) (ob : Obj) : Prop where
  run : ∀ (a : Act) (W : World), (execOp a.eval o).run P W = .ok (.value (mk W.heap.size)) (W.alloc ob)
/-- two new blocks, in either order -/
theorem wpT_build2 (mk1 mk2 : Nat → Value) (ob1 ob2 : Obj) (h1 : IsNew P o1 mk1 ob1) (h2 : IsNew P o2 mk2 ob2) (hap : o1.apart ops o2 = true) (hw1 : Region.wanted o1 (yielded ops a.tmps) = true) (hw2 : Region.wanted o2 (yielded ops a.tmps) = true)
    (h : ∀ W p q, Ext w W → w.heap.size ≤ p → p < W.heap.size → W.heap[p]? = some ob1 → w.heap.size ≤ q → q < W.heap.size → W.heap[q]? = some ob2 → p ≠ q → ∀ K : Act → Prop, (∀ a, wpT P ops Lq r a W → K a) → K ((a.put o1.dst (mk1 p)).put o2.dst (mk2 q))) :
    wpT P ops Lq (.alt (.l o1 (.l o2 r)) (.l o2 (.l o1 r))) a w := by
  obtain ⟨a1, a2, a3⟩ := Oper.apart_spec hap
  have one : ∀ W W', Ext w W → Ext (W.alloc ob1) W' → wpT P ops Lq r ((a.put o1.dst (mk1 W.heap.size)).put o2.dst (mk2 W'.heap.size)) (W'.alloc ob2) := fun W W' hW hW' => by
    have e1 : Ext W (W'.alloc ob2) := (Ext.alloc W ob1).trans (hW'.trans (Ext.alloc _ _))
    have s1 : (W.alloc ob1).heap.size = W.heap.size + 1 := by simp
    have s2 : (W'.alloc ob2).heap.size = W'.heap.size + 1 := by simp
    have l1 := hW'.size
    have l2 := hW.size
    refine h (W'.alloc ob2) W.heap.size W'.heap.size (hW.trans e1) l2 (by omega) ?_ (by omega) (by omega) (heap_alloc_new _ _) (by omega) _ fun _ h => h
    rw [(Ext.alloc W' ob2).block _ (by omega), hW'.block _ (by omega)]
    exact heap_alloc_new _ _
  have two : ∀ W W', Ext w W → Ext (W.alloc ob2) W' → wpT P ops Lq r ((a.put o1.dst (mk1 W'.heap.size)).put o2.dst (mk2 W.heap.size)) (W'.alloc ob1) := fun W W' hW hW' => by
    have e1 : Ext W (W'.alloc ob1) := (Ext.alloc W ob2).trans (hW'.trans (Ext.alloc _ _))
    have s1 : (W.alloc ob2).heap.size = W.heap.size + 1 := by simp
    have s2 : (W'.alloc ob1).heap.size = W'.heap.size + 1 := by simp
    have l1 := hW'.size
    have l2 := hW.size
    refine h (W'.alloc ob1) W'.heap.size W.heap.size (hW.trans e1) (by omega) (by omega) (heap_alloc_new _ _) l2 (by omega) ?_ (by omega) _ fun _ h => h
    rw [(Ext.alloc W' ob1).block _ (by omega), hW'.block _ (by omega)]
    exact heap_alloc_new _ _
  refine ⟨⟨fun W hW => ?_⟩, ⟨fun W hW => ?_⟩⟩
  · simp only [hw1, if_true, Oper.wp, h1.run, Oper.upon]
    refine ⟨Ext.alloc _ _, fun W' hW' => ?_⟩
    rw [wanted_put o2 a o1.dst _ a1]
    simp only [hw2, if_true, Oper.wp, h2.run, Oper.upon]
    exact ⟨Ext.alloc _ _, one W W' hW hW'⟩
  · simp only [hw2, if_true, Oper.wp, h2.run, Oper.upon]
    refine ⟨Ext.alloc _ _, fun W' hW' => ?_⟩
    rw [wanted_put o1 a o2.dst _ a3]
    simp only [hw1, if_true, Oper.wp, h1.run, Oper.upon]
    refine ⟨Ext.alloc _ _, ?_⟩
    rw [← Act.put_comm a _ _ a2]
    exact two W W' hW hW'
end
theorem arr_new {W : World} {p : Nat} {l : List Int} {T : TypeId} (h : W.heap[p]? = some (.cells (l.map (Value.int .i64)).toArray T (0, 0))) (n : Nat) (hn : n = l.length) : Arr W W.heap.size (some ⟨p, 0, none⟩) n (i64s l) := fun h0 => by
  refine ⟨p, 0, rfl, (Array.getElem?_eq_some_iff.1 h).1, fun i hi => ?_⟩
  rw [Nat.zero_add, cell_of_row W p i _ T (0, 0) h]
  subst hn
  simp [i64s, List.getD, List.getElem?_eq_getElem hi]
theorem a6block (L H : Option Addr) (dl sh : Nat) (w : World) (hL : Arr w w.heap.size L 2 (i64s [0, 0])) (hH : Arr w w.heap.size H 2 (i64s [1, 1])) :
    Calls Try.prog 32 #[.agg #[.slice L 2 dl, .slice H 2 sh]] w fun e w' => e = .returned (.bool true) ∧ Below w.heap.size w w' :=
  (block_any L H [0, 0] [1, 1] dl sh w hL hH (isI_lit _ (by simp)) (isI_lit _ (by simp))).mono fun e w' ⟨he, hb⟩ => ⟨by rw [he, show blockP [0, 0] [1, 1] = true from by decide +kernel], hb⟩
theorem a6none (L H : Option Addr) (dl sh : Nat) (w : World) (hL : Arr w w.heap.size L 2 (i64s [0, 0])) (hH : Arr w w.heap.size H 2 (i64s [2, 0])) :
    Calls Try.prog 32 #[.agg #[.slice L 2 dl, .slice H 2 sh]] w fun e w' => e = .returned (.bool false) ∧ Below w.heap.size w w' :=
  (block_any L H [0, 0] [2, 0] dl sh w hL hH (isI_lit _ (by simp)) (isI_lit _ (by simp))).mono fun e w' ⟨he, hb⟩ => ⟨by rw [he, show blockP [0, 0] [2, 0] = false from by decide +kernel], hb⟩
theorem a6split (L H : Option Addr) (dl sh : Nat) (w : World) (hL : Arr w w.heap.size L 2 (i64s [0, 0])) (hH : Arr w w.heap.size H 2 (i64s [1, 1])) :
    Calls Try.prog 29 #[.agg #[.slice L 2 dl, .slice H 2 sh]] w fun e w' => ∃ A a B b C c D d, e = .returned (.tuple #[.agg #[.slice A 2 a, .slice B 2 b], .agg #[.slice C 2 c, .slice D 2 d], .bool true]) ∧ Below w.heap.size w w' ∧
      Arr w' w'.heap.size A 2 (i64s [0, 0]) ∧ Arr w' w'.heap.size B 2 (i64s [0, 1]) ∧ Arr w' w'.heap.size C 2 (i64s [1, 0]) ∧ Arr w' w'.heap.size D 2 (i64s [1, 1]) :=
  (split_in L H [0, 0] [1, 1] dl sh w hL hH (isI_lit _ (by simp)) (isI_lit _ (by simp)) (by decide +kernel) 0 0 (by decide +kernel) (by decide) (by decide)).mono fun e w' ⟨r1, s1, q1, u1, r2, s2, q2, u2, he, hb, o1, o2, o3, o4⟩ => by
    have e1 : toI (upN (pl ((([1, 1] : List Int)).getD 0 0)) 0) = 0 := by decide +kernel
    have e2 : toI (loN (pl ((([1, 1] : List Int)).getD 0 0)) 0) = 1 := by decide +kernel
    rw [e1] at o2
    rw [e2] at o3
    exact ⟨_, _, _, _, _, _, _, _, he, hb, o1.arr, o2.arr, o3.arr, o4.arr⟩
set_option maxRecDepth 100000 in
theorem a6skip (A L H : Option Addr) (ca dl sh : Nat) (w : World) (hA : Arr w w.heap.size A 16 (u8s (code [0, 1]))) (hL : Arr w w.heap.size L 2 (i64s [0, 0])) (hH : Arr w w.heap.size H 2 (i64s [2, 0])) :
    Calls Try.prog 39 #[.slice A 16 ca, .agg #[.slice L 2 dl, .slice H 2 sh]] w fun e w' => ∃ R d, e = .returned (.tuple #[.slice R 16 d, .bool true]) ∧ Arr w' w'.heap.size R 16 (u8s (code [1, 0])) ∧ Below w.heap.size w w' :=
  (skip_in A L H (code [0, 1]) [0, 0] [2, 0] ca dl sh w hA (code_lt _) hL hH (isI_lit _ (by simp)) (isI_lit _ (by simp)) (by decide +kernel) rfl).mono fun e w' h => by
    rw [show skipGo (code [0, 1]) ([0, 0] : List Int).length (64 * ([0, 0] : List Int).length) 0 [0, 0] [2, 0] none = some (code [1, 0]) from by decide +kernel] at h
    obtain ⟨R, d, he, _, ha, hb⟩ := h
    exact ⟨R, d, he, ha, hb⟩
theorem a6code (A : Option Addr) (c : Nat) (p : List Int) (w : World) (hA : Arr w w.heap.size A 2 (i64s p)) (hp : p.length = 2) (hz : IsI p) :
    Calls Try.prog 36 #[.slice A 2 c] w fun e w' => ∃ R d, e = .returned (.slice R 16 d) ∧ Arr w' w'.heap.size R 16 (u8s (code p)) ∧ Below w.heap.size w w' := by
  have h := rcode_any A p c w (by rw [hp]; exact hA) hz (by omega)
  rw [hp] at h
  exact h
theorem a6same (A B C D : Option Addr) (a b c d : Nat) (x y z u : Int) (w : World) (hA : Arr w w.heap.size A 2 (i64s [x, y])) (hB : Arr w w.heap.size B 2 (i64s [z, u])) (hC : Arr w w.heap.size C 2 (i64s [x, y])) (hD : Arr w w.heap.size D 2 (i64s [z, u])) :
    Calls Try.prog 31 #[.agg #[.slice A 2 a, .slice B 2 b], .agg #[.slice C 2 c, .slice D 2 d]] w fun e w' => e = .returned (.bool true) ∧ Below w.heap.size w w' :=
  (same_any A B C D [x, y] [z, u] [x, y] [z, u] a b c d w hA hB hC hD (by simp) (by simp)).mono fun e w' ⟨he, hb⟩ => ⟨by rw [he]; simp, hb⟩
def a6T2 : Tr := .q 21 (.q 22 (.q 23 (.q 24 (.q 25 (.q 26 (.q 27 (.q 28 (.q 29 (.l 30 (.l 31 (.q 32 (.q 33 (.q 34 (.q 35 .nil))))))))))))))
def a6T1 : Tr := .q 14 (.q 15 (.q 16 (.q 17 (.q 18 (.alt (.l 19 (.l 20 a6T2)) (.l 20 (.l 19 a6T2)))))))
def a6T0 : Tr := .q 0 (.q 1 (.q 2 (.q 3 (.q 4 (.q 5 (.q 6 (.q 7 (.q 8 (.q 9 (.q 10 (.q 11 (.alt (.l 12 (.l 13 a6T1)) (.l 13 (.l 12 a6T1))))))))))))))
set_option maxRecDepth 100000 in
set_option maxHeartbeats 8000000 in
theorem alive06 (w : World) : Calls Try.prog 28 #[] w fun e w' => e = .returned (.bool true) ∧ Below w.heap.size w w' := by
  go_enter Try.func28, Try.ntmps28
  go_wp2_with fail
  have cb := hideP (Below.refl w.heap.size w)
  obtain ⟨v1, h_v1⟩ : ∃ v, v = w.alloc (Obj.cells #[.int .i64 0, .int .i64 0] 2) := ⟨_, rfl⟩
  have b_v1 : Below w.heap.size w v1 := by rw [h_v1]; exact below_new _ _
  have s_v1 : v1.heap.size = w.heap.size + 1 := by rw [h_v1]; simp
  replace cb := hideP (bstep cb.out b_v1)
  have A1 := hideP (show Arr v1 v1.heap.size (some ⟨w.heap.size, 0, none⟩) 2 (i64s [0, 0]) by rw [h_v1]; exact Arr.of_i64' w [0, 0] 2 _ 2 rfl rfl)
  obtain ⟨v2, h_v2⟩ : ∃ v, v = v1.alloc (Obj.cells #[.int .i64 1, .int .i64 1] 2) := ⟨_, rfl⟩
  have b_v2 : Below v1.heap.size v1 v2 := by rw [h_v2]; exact below_new _ _
  have s_v2 : v2.heap.size = w.heap.size + 1 + 1 := by rw [h_v2]; simp [s_v1]
  replace A1 := hideP (A1.out.after b_v2)
  replace cb := hideP (bstep cb.out b_v2)
  have A2 := hideP (show Arr v2 v2.heap.size (some ⟨w.heap.size + 1, 0, none⟩) 2 (i64s [1, 1]) by rw [h_v2]; exact Arr.of_i64' v1 [1, 1] 2 _ 2 s_v1.symm rfl)
  obtain ⟨v3, h_v3⟩ : ∃ v, v = v2.alloc (Obj.cells #[.slice (some ⟨w.heap.size, 0, none⟩) 2 2, .slice (some ⟨w.heap.size + 1, 0, none⟩) 2 2] 58) := ⟨_, rfl⟩
  have b_v3 : Below v2.heap.size v2 v3 := by rw [h_v3]; exact below_new _ _
  have s_v3 : v3.heap.size = w.heap.size + 1 + 1 + 1 := by rw [h_v3]; simp [s_v2]
  replace A1 := hideP (A1.out.after b_v3)
  replace A2 := hideP (A2.out.after b_v3)
  replace cb := hideP (bstep cb.out b_v3)
  have xa := hideP (show Two v3 (w.heap.size + 1 + 1) 58 (.slice (some ⟨w.heap.size, 0, none⟩) 2 2) (.slice (some ⟨w.heap.size + 1, 0, none⟩) 2 2) by rw [h_v3]; exact Two.new' _ _ _ _ _ s_v2)
  obtain ⟨v4, h_v4⟩ : ∃ v, v = v3.alloc (Obj.cells #[.int .i64 0, .int .i64 0] 2) := ⟨_, rfl⟩
  have b_v4 : Below v3.heap.size v3 v4 := by rw [h_v4]; exact below_new _ _
  have s_v4 : v4.heap.size = w.heap.size + 1 + 1 + 1 + 1 := by rw [h_v4]; simp [s_v3]
  replace A1 := hideP (A1.out.after b_v4)
  replace A2 := hideP (A2.out.after b_v4)
  replace xa := hideP (xa.out.after b_v4)
  replace cb := hideP (bstep cb.out b_v4)
  have A3 := hideP (show Arr v4 v4.heap.size (some ⟨w.heap.size + 1 + 1 + 1, 0, none⟩) 2 (i64s [0, 0]) by rw [h_v4]; exact Arr.of_i64' v3 [0, 0] 2 _ 2 s_v3.symm rfl)
  obtain ⟨v5, h_v5⟩ : ∃ v, v = v4.alloc (Obj.cells #[.int .i64 2, .int .i64 0] 2) := ⟨_, rfl⟩
  have b_v5 : Below v4.heap.size v4 v5 := by rw [h_v5]; exact below_new _ _
  have s_v5 : v5.heap.size = w.heap.size + 1 + 1 + 1 + 1 + 1 := by rw [h_v5]; simp [s_v4]
  replace A1 := hideP (A1.out.after b_v5)
  replace A2 := hideP (A2.out.after b_v5)
  replace xa := hideP (xa.out.after b_v5)
  replace A3 := hideP (A3.out.after b_v5)
  replace cb := hideP (bstep cb.out b_v5)
  have A4 := hideP (show Arr v5 v5.heap.size (some ⟨w.heap.size + 1 + 1 + 1 + 1, 0, none⟩) 2 (i64s [2, 0]) by rw [h_v5]; exact Arr.of_i64' v4 [2, 0] 2 _ 2 s_v4.symm rfl)
  obtain ⟨v6, h_v6⟩ : ∃ v, v = v5.alloc (Obj.cells #[.slice (some ⟨w.heap.size + 1 + 1 + 1, 0, none⟩) 2 2, .slice (some ⟨w.heap.size + 1 + 1 + 1 + 1, 0, none⟩) 2 2] 58) := ⟨_, rfl⟩
  have b_v6 : Below v5.heap.size v5 v6 := by rw [h_v6]; exact below_new _ _
  have s_v6 : v6.heap.size = w.heap.size + 1 + 1 + 1 + 1 + 1 + 1 := by rw [h_v6]; simp [s_v5]
  replace A1 := hideP (A1.out.after b_v6)
  replace A2 := hideP (A2.out.after b_v6)
  replace xa := hideP (xa.out.after b_v6)
  replace A3 := hideP (A3.out.after b_v6)
  replace A4 := hideP (A4.out.after b_v6)
  replace cb := hideP (bstep cb.out b_v6)
  have xb := hideP (show Two v6 (w.heap.size + 1 + 1 + 1 + 1 + 1) 58 (.slice (some ⟨w.heap.size + 1 + 1 + 1, 0, none⟩) 2 2) (.slice (some ⟨w.heap.size + 1 + 1 + 1 + 1, 0, none⟩) 2 2) by rw [h_v6]; exact Two.new' _ _ _ _ _ s_v5)
  rw [← h_v1, ← h_v2, ← h_v3, ← h_v4, ← h_v5, ← h_v6]
  clear h_v1 h_v2 h_v3 h_v4 h_v5 h_v6 b_v1 b_v2 b_v3 b_v4 b_v5 b_v6 s_v1 s_v2 s_v3 s_v4 s_v5 s_v6
  refine (a6split _ _ 2 2 v6 A1.out A2.out).mono ?_
  rintro e w1 ⟨E1, e1, E2, e2, E3, e3, E4, e4, rfl, hb, o1, o2, o3, o4⟩
  have Ho1 := hideP o1; have Ho2 := hideP o2; have Ho3 := hideP o3; have Ho4 := hideP o4; clear o1 o2 o3 o4
  replace A1 := hideP (A1.out.after hb)
  replace A2 := hideP (A2.out.after hb)
  replace A3 := hideP (A3.out.after hb)
  replace A4 := hideP (A4.out.after hb)
  replace xa := hideP (xa.out.after hb)
  replace xb := hideP (xb.out.after hb)
  replace cb := hideP (bstep cb.out hb)
  clear hb
  have tS := hideP (Two.new w1 58 (.slice none 0 0) (.slice none 0 0))
  go_upto_region 4 with fail
  clear tS
  obtain ⟨y1, h_y1⟩ : ∃ v, v = w1.alloc (Obj.cells #[.slice E1 2 e1, .slice E2 2 e2] 58) := ⟨_, rfl⟩
  have b_y1 : Below w1.heap.size w1 y1 := by rw [h_y1]; exact below_new _ _
  have s_y1 : y1.heap.size = w1.heap.size + 1 := by rw [h_y1]; simp
  replace Ho1 := hideP (Ho1.out.after b_y1)
  replace Ho2 := hideP (Ho2.out.after b_y1)
  replace Ho3 := hideP (Ho3.out.after b_y1)
  replace Ho4 := hideP (Ho4.out.after b_y1)
  replace xa := hideP (xa.out.after b_y1)
  replace xb := hideP (xb.out.after b_y1)
  replace A1 := hideP (A1.out.after b_y1)
  replace A2 := hideP (A2.out.after b_y1)
  replace A3 := hideP (A3.out.after b_y1)
  replace A4 := hideP (A4.out.after b_y1)
  replace cb := hideP (bstep cb.out b_y1)
  have x3 := hideP (show Two y1 w1.heap.size 58 (.slice E1 2 e1) (.slice E2 2 e2) by rw [h_y1]; exact Two.new _ _ _ _)
  obtain ⟨y2, h_y2⟩ : ∃ v, v = y1.alloc (Obj.cells #[.slice E3 2 e3, .slice E4 2 e4] 58) := ⟨_, rfl⟩
  have b_y2 : Below y1.heap.size y1 y2 := by rw [h_y2]; exact below_new _ _
  have s_y2 : y2.heap.size = w1.heap.size + 1 + 1 := by rw [h_y2]; simp [s_y1]
  replace Ho1 := hideP (Ho1.out.after b_y2)
  replace Ho2 := hideP (Ho2.out.after b_y2)
  replace Ho3 := hideP (Ho3.out.after b_y2)
  replace Ho4 := hideP (Ho4.out.after b_y2)
  replace xa := hideP (xa.out.after b_y2)
  replace xb := hideP (xb.out.after b_y2)
  replace x3 := hideP (x3.out.after b_y2)
  replace A1 := hideP (A1.out.after b_y2)
  replace A2 := hideP (A2.out.after b_y2)
  replace A3 := hideP (A3.out.after b_y2)
  replace A4 := hideP (A4.out.after b_y2)
  replace cb := hideP (bstep cb.out b_y2)
  have x4 := hideP (show Two y2 (w1.heap.size + 1) 58 (.slice E3 2 e3) (.slice E4 2 e4) by rw [h_y2]; exact Two.new' _ _ _ _ _ s_y1)
  rw [← h_y1, ← h_y2]
  clear h_y1 h_y2 b_y1 b_y2 s_y1 s_y2
  have kxa0 := xa.out.c0; have kxa1 := xa.out.c1
  have kxb0 := xb.out.c0; have kxb1 := xb.out.c1
  have kx30 := x3.out.c0; have kx31 := x3.out.c1
  have kx40 := x4.out.c0; have kx41 := x4.out.c1
  obtain ⟨g1, hg1⟩ : ∃ g, g = w.heap.size + 1 + 1 := ⟨_, rfl⟩
  obtain ⟨g2, hg2⟩ : ∃ g, g = w.heap.size + 1 + 1 + 1 + 1 + 1 := ⟨_, rfl⟩
  obtain ⟨g3, hg3⟩ : ∃ g, g = w1.heap.size := ⟨_, rfl⟩
  obtain ⟨g4, hg4⟩ : ∃ g, g = w1.heap.size + 1 := ⟨_, rfl⟩
  obtain ⟨d1, hd1⟩ : ∃ g, g = w.heap.size + 1 := ⟨_, rfl⟩
  obtain ⟨d2, hd2⟩ : ∃ g, g = w.heap.size + 1 + 1 + 1 := ⟨_, rfl⟩
  obtain ⟨d3, hd3⟩ : ∃ g, g = w.heap.size + 1 + 1 + 1 + 1 := ⟨_, rfl⟩
  rw [← hg2] at kxb0 kxb1
  rw [← hd2] at kxb0
  rw [← hd3] at kxb1
  rw [← hg1] at kxa0 kxa1
  rw [← hd1] at kxa1
  rw [← hg4] at kx40 kx41
  rw [← hg3] at kx30 kx31
  rw [← hd1] at A2
  rw [← hd2] at A3
  rw [← hd3] at A4
  rw [← hg2, ← hd3, ← hd2, ← hg1, ← hd1, ← hg4, ← hg3]
  clear xa xb x3 x4 hg1 hg2 hg3 hg4 hd1 hd2 hd3
  refine wp_region_fork 9 (.q 2 (.l 0 (.l 1 (.l 3 (.q 4 (.q 5 (.q 6 (.q 7 (.q 8 .nil))))))))) (by kernel_rfl) (by kernel_rfl) ?_
  simp only [pickT, nthO_zero, nthO_succ]
  (refine wpT_valK (by rfl) (fun K hK => ?_); apply Exists.intro; refine ⟨fun W hW => ?_, ?_⟩; (focus (have hs0 := hW.cell kxb0; have hs1 := hW.cell kxb1; go_simp; (try rfl); done)); go_simp; refine hK _ ?_; clear hK K)
  refine wpT_buildK (by rfl) (fun W hW => ?_)
  refine ⟨.slice (some ⟨W.heap.size, 0, none⟩) 2 2, W.alloc (.cells #[.int .i64 0, .int .i64 1] 2), ⟨by go_simp, Ext.alloc _ _⟩, fun K hK => ?_⟩
  go_simp
  refine hK _ ?_
  clear hK K
  have xx := hideP (hW.drew_left.trans (Ext.alloc W (.cells #[.int .i64 0, .int .i64 1] 2)))
  have aN := hideP (Arr.of_i64' W [0, 1] 2 _ 2 rfl rfl)
  obtain ⟨W1, hW1⟩ : ∃ V, V = W.alloc (.cells #[.int .i64 0, .int .i64 1] 2) := ⟨_, rfl⟩
  have aM := hideP (show Arr W1 W1.heap.size (some ⟨W.heap.size, 0, none⟩) 2 (i64s [0, 1]) by rw [hW1]; exact aN.out)
  rw [← hW1] at xx ⊢
  clear hW1 aN hW
  refine wpT_loudK 36 #[.slice (some ⟨W.heap.size, 0, none⟩) 2 2] (by rfl) (fun W => by go_simp) (fun V hW => (a6code _ 2 [0, 1] _ (aM.out.ext hW) rfl (isI_lit _ (by simp))).mono ?_)
  rintro e W2 ⟨RC, dc, rfl, ha, hb_⟩
  refine ⟨_, rfl, Ext.of_below hb_, fun K hK => ?_⟩
  go_simp
  refine hK _ ?_
  clear hK K
  have x2 := hideP (xx.out.trans (hW.trans (Ext.of_below hb_)))
  have aC := hideP ha
  clear xx hW ha hb_ aM
  refine wpT_loudK 39 #[.slice RC 16 dc, .agg #[.slice (some ⟨d2, 0, none⟩) 2 2, .slice (some ⟨d3, 0, none⟩) 2 2]] (by rfl) (fun W => by go_simp) (fun V hW => (a6skip _ _ _ dc 2 2 _ (aC.out.ext hW) (A3.out.ext (x2.out.trans hW)) (A4.out.ext (x2.out.trans hW))).mono ?_)
  rintro e W3 ⟨RZ, dz, rfl, ha, hb_⟩
  refine ⟨_, rfl, Ext.of_below hb_, fun K hK => ?_⟩
  go_simp
  refine hK _ ?_
  clear hK K
  have x3 := hideP (x2.out.trans (hW.trans (Ext.of_below hb_)))
  have aZ := hideP ha
  clear x2 hW ha hb_ aC
  iterate 5 (refine wpT_valK (by rfl) (fun K hK => ?_); apply Exists.intro; refine ⟨fun W hW => ?_, ?_⟩; (focus (go_simp; (try rfl); done)); go_simp; refine hK _ ?_; clear hK K)
  refine wpT_nil (fun W4 hW => ?_)
  try simp only [List.drop_succ_cons, List.drop_zero, List.drop_nil]
  have x4 := hideP (x3.out.trans hW)
  replace aZ := hideP (aZ.out.ext hW)
  clear x3 hW
  replace A1 := hideP (A1.out.ext x4.out)
  replace A2 := hideP (A2.out.ext x4.out)
  replace A3 := hideP (A3.out.ext x4.out)
  replace A4 := hideP (A4.out.ext x4.out)
  replace Ho1 := hideP (Ho1.out.ext x4.out)
  replace Ho2 := hideP (Ho2.out.ext x4.out)
  replace Ho3 := hideP (Ho3.out.ext x4.out)
  replace Ho4 := hideP (Ho4.out.ext x4.out)
  replace cb := hideP (below_ext cb.out x4.out)
  have m1 := x4.out.cell kxa0
  have m2 := x4.out.cell kxa1
  have m3 := x4.out.cell kxb0
  have m4 := x4.out.cell kxb1
  have m5 := x4.out.cell kx30
  have m6 := x4.out.cell kx31
  have m7 := x4.out.cell kx40
  have m8 := x4.out.cell kx41
  clear x4
  clear kxa0 kxa1 kxb0 kxb1 kx30 kx31 kx40 kx41
  go_upto_region 5 with fail
  obtain ⟨cz, hcz⟩ : ∃ z, z = code [1, 0] := ⟨_, rfl⟩
  have czl := hideP (show cz.length = 16 by rw [hcz]; rfl)
  rw [← hcz] at aZ
  have Hcz := hideP hcz
  clear hcz
  refine wp_region_fork 36 a6T0 (by kernel_rfl) (by kernel_rfl) ?_
  simp only [a6T0, a6T1, a6T2, pickT, nthO_zero, nthO_succ]
  (refine wpT_valK (by rfl) (fun K hK => ?_); apply Exists.intro; refine ⟨fun W hW => ?_, ?_⟩; (focus (have hs0 := hW.cell m1; have hs1 := hW.cell m2; go_simp; (try rfl); done)); go_simp; refine hK _ ?_; clear hK K)
  refine wpT_callK (.bool true) 32 #[.agg #[.slice (some ⟨w.heap.size, 0, none⟩) 2 2, .slice (some ⟨d1, 0, none⟩) 2 2]] (by rfl) (fun W => by go_simp) (fun W hW => (a6block _ _ 2 2 W (A1.out.ext hW.drew_left) (A2.out.ext hW.drew_left)).mono fun e w2 ⟨h1, h2⟩ => ⟨h1, Ext.of_below h2⟩) (fun K hK => ?_)
  go_simp
  refine hK _ ?_
  clear hK K
  iterate 2 (refine wpT_valK (by rfl) (fun K hK => ?_); apply Exists.intro; refine ⟨fun W hW => ?_, ?_⟩; (focus (have hs0 := hW.cell m3; have hs1 := hW.cell m4; go_simp; (try rfl); done)); go_simp; refine hK _ ?_; clear hK K)
  refine wpT_callK (.bool false) 32 #[.agg #[.slice (some ⟨d2, 0, none⟩) 2 2, .slice (some ⟨d3, 0, none⟩) 2 2]] (by rfl) (fun W => by go_simp) (fun W hW => (a6none _ _ 2 2 W (A3.out.ext hW.drew_left) (A4.out.ext hW.drew_left)).mono fun e w2 ⟨h1, h2⟩ => ⟨h1, Ext.of_below h2⟩) (fun K hK => ?_)
  go_simp
  refine hK _ ?_
  clear hK K
  iterate 7 (refine wpT_valK (by rfl) (fun K hK => ?_); apply Exists.intro; refine ⟨fun W hW => ?_, ?_⟩; (focus (have hs0 := hW.cell m5; have hs1 := hW.cell m6; go_simp; (try rfl); done)); go_simp; refine hK _ ?_; clear hK K)
  refine wpT_build2 (fun g => .slice (some ⟨g, 0, none⟩) 2 2) (fun g => .slice (some ⟨g, 0, none⟩) 2 2) (.cells #[.int .i64 0, .int .i64 0] 2) (.cells #[.int .i64 0, .int .i64 1] 2) ⟨fun ρ W => by go_simp⟩ ⟨fun ρ W => by go_simp⟩ (by kernel_rfl) (by rfl) (by rfl) (fun W5 px5 qx5 hW _ _ hp3 _ _ hq3 _ K hK => ?_)
  go_simp
  refine hK _ ?_
  clear hK K
  have x5 := hideP (hW.drew_left)
  have B1 := hideP (arr_new (l := [0, 0]) hp3 2 rfl)
  have B2 := hideP (arr_new (l := [0, 1]) hq3 2 rfl)
  clear hW hp3 hq3
  have n7 := x5.out.cell m7
  have n8 := x5.out.cell m8
  clear m1 m2 m3 m4 m5 m6 m7 m8 A1 A2 A3 A4
  (refine wpT_valK (by rfl) (fun K hK => ?_); apply Exists.intro; refine ⟨fun W hW => ?_, ?_⟩; (focus (go_simp; (try rfl); done)); go_simp; refine hK _ ?_; clear hK K)
  refine wpT_callK (.bool true) 31 #[.agg #[.slice E1 2 e1, .slice E2 2 e2], .agg #[.slice (some ⟨px5, 0, none⟩) 2 2, .slice (some ⟨qx5, 0, none⟩) 2 2]] (by rfl) (fun W => by go_simp) (fun W hW => (a6same _ _ _ _ e1 e2 2 2 _ _ _ _ W (Ho1.out.ext (x5.out.trans hW)) (Ho2.out.ext (x5.out.trans hW)) (B1.out.ext hW) (B2.out.ext hW)).mono fun e w2 ⟨h1, h2⟩ => ⟨h1, Ext.of_below h2⟩) (fun K hK => ?_)
  go_simp
  refine hK _ ?_
  clear hK K
  iterate 3 (refine wpT_valK (by rfl) (fun K hK => ?_); apply Exists.intro; refine ⟨fun W hW => ?_, ?_⟩; (focus (have hs0 := hW.cell n7; have hs1 := hW.cell n8; go_simp; (try rfl); done)); go_simp; refine hK _ ?_; clear hK K)
  refine wpT_build2 (fun g => .slice (some ⟨g, 0, none⟩) 2 2) (fun g => .slice (some ⟨g, 0, none⟩) 2 2) (.cells #[.int .i64 1, .int .i64 0] 2) (.cells #[.int .i64 1, .int .i64 1] 2) ⟨fun ρ W => by go_simp⟩ ⟨fun ρ W => by go_simp⟩ (by kernel_rfl) (by rfl) (by rfl) (fun W6 px6 qx6 hW _ _ hp3 _ _ hq3 _ K hK => ?_)
  go_simp
  refine hK _ ?_
  clear hK K
  have x6 := hideP (x5.out.trans hW)
  have B3 := hideP (arr_new (l := [1, 0]) hp3 2 rfl)
  have B4 := hideP (arr_new (l := [1, 1]) hq3 2 rfl)
  clear hW hp3 hq3
  clear n7 n8 B1 B2 Ho1 Ho2 x5
  (refine wpT_valK (by rfl) (fun K hK => ?_); apply Exists.intro; refine ⟨fun W hW => ?_, ?_⟩; (focus (go_simp; (try rfl); done)); go_simp; refine hK _ ?_; clear hK K)
  refine wpT_callK (.bool true) 31 #[.agg #[.slice E3 2 e3, .slice E4 2 e4], .agg #[.slice (some ⟨px6, 0, none⟩) 2 2, .slice (some ⟨qx6, 0, none⟩) 2 2]] (by rfl) (fun W => by go_simp) (fun W hW => (a6same _ _ _ _ e3 e4 2 2 _ _ _ _ W (Ho3.out.ext (x6.out.trans hW)) (Ho4.out.ext (x6.out.trans hW)) (B3.out.ext hW) (B4.out.ext hW)).mono fun e w2 ⟨h1, h2⟩ => ⟨h1, Ext.of_below h2⟩) (fun K hK => ?_)
  go_simp
  refine hK _ ?_
  clear hK K
  iterate 6 (refine wpT_valK (by rfl) (fun K hK => ?_); apply Exists.intro; refine ⟨fun W hW => ?_, ?_⟩; (focus (go_simp; (try rfl); done)); go_simp; refine hK _ ?_; clear hK K)
  (refine wpT_valK (by rfl) (fun K hK => ?_); apply Exists.intro; refine ⟨fun W hW => ?_, ?_⟩; (focus (have hs0 := run_str (P := Try.prog) W 22 5 Try.underlying22 Try.underlying5 (c := dz) (aZ.out.ext (x6.out.trans hW)) czl.out 9 Try.underlying9; go_simp; (try rfl); done)); go_simp; refine hK _ ?_; clear hK K)
  refine wpT_buildK (by rfl) (fun W hW => ?_)
  refine ⟨.slice (some ⟨W.heap.size, 0, none⟩) 2 2, W.alloc (.cells #[.int .i64 1, .int .i64 0] 2), ⟨by go_simp, Ext.alloc _ _⟩, fun K hK => ?_⟩
  go_simp
  refine hK _ ?_
  clear hK K
  have x7 := hideP (x6.out.trans (hW.trans (Ext.alloc W (.cells #[.int .i64 1, .int .i64 0] 2))))
  have aN := hideP (Arr.of_i64' W [1, 0] 2 _ 2 rfl rfl)
  obtain ⟨W7, hW7⟩ : ∃ V, V = W.alloc (.cells #[.int .i64 1, .int .i64 0] 2) := ⟨_, rfl⟩
  have aM := hideP (show Arr W7 W7.heap.size (some ⟨W.heap.size, 0, none⟩) 2 (i64s [1, 0]) by rw [hW7]; exact aN.out)
  rw [← hW7] at x7 ⊢
  clear hW7 aN hW x6
  refine wpT_loudK 36 #[.slice (some ⟨W.heap.size, 0, none⟩) 2 2] (by rfl) (fun W => by go_simp) (fun V hW => (a6code _ 2 [1, 0] _ (aM.out.ext hW) rfl (isI_lit _ (by simp))).mono ?_)
  rintro e W8 ⟨RC, dc, rfl, ha, hb_⟩
  refine ⟨_, rfl, Ext.of_below hb_, fun K hK => ?_⟩
  go_simp
  refine hK _ ?_
  clear hK K
  have x8 := hideP (x7.out.trans (hW.trans (Ext.of_below hb_)))
  have aC := hideP ha
  rw [← Hcz.out] at aC
  clear hW ha hb_ aM x7
  (refine wpT_valK (by rfl) (fun K hK => ?_); apply Exists.intro; refine ⟨fun W hW => ?_, ?_⟩; (focus (have hs0 := run_str (P := Try.prog) W 22 5 Try.underlying22 Try.underlying5 (c := dc) (aC.out.ext hW) czl.out 9 Try.underlying9; go_simp; (try rfl); done)); go_simp; refine hK _ ?_; clear hK K)
  iterate 3 (refine wpT_valK (by rfl) (fun K hK => ?_); apply Exists.intro; refine ⟨fun W hW => ?_, ?_⟩; (focus (go_simp; (try rfl); done)); go_simp; refine hK _ ?_; clear hK K)
  refine wpT_nil (fun W9 hW => ?_)
  try simp only [List.drop_succ_cons, List.drop_zero, List.drop_nil]
  have x9 := hideP (x8.out.trans hW)
  clear hW x8
  go_wp2
  go_ret
  exact ⟨rfl, below_ext cb.out x9.out⟩
end Go.Proofs.Ytjdbpeblbejllaa
