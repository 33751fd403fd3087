/- Contracts of package sha: begin, rounds, turn. -/
import Derived.Deep.MidRow
import Derived.Deep.DeepCutAuto
import Derived.Test.YtedokpgkjcnoiaaGreatQ30
import Derived.Test.YtedokpgkjcnoiaaGreatQ33
set_option linter.unusedVariables false
set_option linter.unusedSimpArgs false
namespace Go.Proofs.YtedokpgkjcnoiaaGreat
open Go.RowKit
set_option maxRecDepth 100000 in
set_option maxHeartbeats 1000000 in
theorem begin_any (w : World) :
    Calls Tryz.prog 154 #[] w fun e w' => e = .returned (.agg (h0.map v32).toArray) ∧ Below w.heap.size w w' := by
  go_enter Tryz.func154, Tryz.ntmps154
  go_wp2
  exact ret_row rfl rfl (Row.new w 194 (h0.map v32)) Tryz.underlying194 (by kernel_rfl) rfl ⟨rfl, below_new _ _⟩
theorem exec_load_row {a : Act} {o : Oper} {W : World} (ty : TypeId) (x : Operand) (ho : o.op = .load ty x) (g : Nat) (hx : a.eval x = .pointer (some ⟨g, 0, none⟩)) (v : Value) (h : (loadVar ty ⟨g, 0, none⟩).run Tryz.prog W = .ok v W) :
    (execOp a.eval o).run Tryz.prog W = .ok (.value v) W := by
  unfold execOp
  simp only [ho, hx, Instr.loadAt, Instr.sureAddr, Sem.run_bind, Sem.run_pure, Result.andThen_ok, h]
theorem exec_store_row {a : Act} {o : Oper} {W : World} (ty : TypeId) (x y : Operand) (ho : o.op = .store ty x y) (g : Nat) (cells : Array Value) (hx : a.eval x = .pointer (some ⟨g, 0, none⟩)) (hy : a.eval y = .agg cells)
    (t : TypeId) (old : Array Value) (hg : W.heap[g]? = some (.cells old t (0, 0))) (hi : (Tryz.prog.info? ty).map (·.size) = some cells.size) (hold : old.size = cells.size) (h1 : cells.all (·.oneCell') = true) :
    (execOp a.eval o).run Tryz.prog W = .ok .skip (W.setRow g cells) := by
  unfold execOp
  simp only [ho, hx, hy, Instr.storeAt, Instr.sureAddr, Sem.run_bind, Sem.run_pure, Result.andThen_ok, run_storeVar_row W g t ty old cells hg hi hold h1]
theorem but_below {S : Nat → Prop} {w w1 W : World} (hb : Below w.heap.size w w1) (hW : But S w1 W) (hS : ∀ k, k < w.heap.size → ¬ S k) : Below w.heap.size w W :=
 ⟨hW.os.trans hb.os, hW.tape.trans hb.tape, hW.output.trans hb.output, Nat.le_trans hb.size hW.size, fun k hk => (hW.block k (Nat.lt_of_lt_of_le hk hb.size) (hS k hk)).trans (hb.block k hk)⟩
/-- 8 words, none set -/
def z8 : List UInt32 := List.replicate 8 0
theorem wpList_build_as {ops : Array Oper} {rest : List Oper} {o : Oper} {a : Act} {w : World} {Q : Exit → Act → World → Prop} (hg : o.guard = none) (t : TypeId) (parts : Array (Nat × Operand)) (ho : o.op = .build t parts) (cells : Array Value)
    (hb : Tryz.prog.built t (parts.map fun (i, x) => (i, a.eval x)).toList = some cells) (h : wpList Tryz.prog ops Q rest (a.put o.dst (.agg cells)) w) : wpList Tryz.prog ops Q (o :: rest) a w :=
  wpList_build hg t parts ho (by rw [hb]; rfl) (by rw [hb]; exact h)
set_option maxRecDepth 100000 in
set_option maxHeartbeats 1000000 in
theorem rounds_any (w : World) :
    Calls Tryz.prog 159 #[] w fun e w' => e = .returned (.agg (kk.map v32).toArray) ∧ Below w.heap.size w w' := by
  obtain ⟨Z, hZ⟩ : ∃ Z, Z = kk.map v32 := ⟨_, rfl⟩
  have hk := hideP (show (kk.map v32).toArray = Z.toArray by rw [hZ])
  have hall := hideP (show Z.toArray.all (·.oneCell') = true by rw [hZ]; exact all_v32 kk)
  have hl := hideP (show Z.length = 64 by rw [hZ]; rfl)
  have hsz := hideP (show (Tryz.prog.info? 201).map (·.size) = some Z.toArray.size by rw [size_w64]; simp [hl.out])
  have C := hideP (Row.new w 201 (z64.map v32))
  clear hZ
  go_enter Tryz.func159, Tryz.ntmps159
  go_wp2_with (first
    | (refine wpList_build_as rfl 201 _ rfl Z.toArray (by rw [← hk.out]; kernel_rfl) ?_)
    | (refine wpList_store_row rfl 201 (.tmp 0) (.tmp 1) rfl w.heap.size Z.toArray rfl rfl 201 (z64.map v32).toArray C.out hsz.out (by rw [show (z64.map v32).toArray.size = 64 from rfl]; simp [hl.out]) hall.out ?_))
  refine ret_row rfl rfl (Row.setRow C.out Z) Tryz.underlying201 (by rw [size_w64, hl.out]) rfl ⟨by rw [hk.out], ?_⟩
  exact below_setRow' (below_new _ _) (Nat.le_refl _) _
set_option maxRecDepth 100000 in
set_option maxHeartbeats 4000000 in
theorem turn_any (h : List UInt32) (hh : h.length = 8) (A : Option Addr) (b : List Nat) (c : Nat) (w : World) (hA : Arr w w.heap.size A 64 (u8s b)) (hb : IsB b) :
    Calls Tryz.prog 155 #[.agg (h.map v32).toArray, .slice A 64 c] w fun e w' => e = .returned (.agg ((turnS h b).map v32).toArray) ∧ Below w.heap.size w w' := by
  have t1 := fun W hW => schedule_any A b c W hW hb
  have t2 := fun W => rounds_any W
  obtain ⟨Z, hZ⟩ : ∃ Z, Z = h.map v32 := ⟨_, rfl⟩
  rw [← hZ]
  have HhA := hideP hA; have Ht1 := hideP t1; have Ht2 := hideP t2; have Hhh := hideP hh; have HhZ := hideP hZ; clear hA t1 t2 hh hZ
  go_enter Tryz.func155, Tryz.ntmps155
  go_wp2_with fail
  obtain ⟨w1, hw1⟩ : ∃ w1, w1 = (w.alloc (Obj.cells Z.toArray 194)).alloc (Obj.cells #[.int .u32 0, .int .u32 0, .int .u32 0, .int .u32 0, .int .u32 0, .int .u32 0, .int .u32 0, .int .u32 0] 194) := ⟨_, rfl⟩
  have c1 := hideP (show Row w1 w.heap.size 194 Z by rw [hw1]; exact Row.alloc (Row.new w 194 Z) _)
  have c2 := hideP (show Row w1 (w.heap.size + 1) 194 (z8.map v32) by rw [hw1]; exact Row.new' _ 194 (z8.map v32) _ (by simp))
  have cb := hideP (show Below w.heap.size w w1 by rw [hw1]; exact (below_new _ _).alloc (by simp) _)
  rw [← hw1]
  clear hw1
  obtain ⟨S, hS⟩ : ∃ S : List Value, S = (List.range 64).map fun i => v32 (wrd b i) := ⟨_, rfl⟩
  rw [← hS] at Ht1
  obtain ⟨M, hM⟩ : ∃ M : List Value, M = kk.map v32 := ⟨_, rfl⟩
  rw [← hM] at Ht2
  have hld := fun W (hW : W.heap[w.heap.size]? = w1.heap[w.heap.size]?) => run_loadVar_row (P := Tryz.prog) W w.heap.size 194 194 Z.toArray (0, 0) _ (hW.trans c1.out) Tryz.underlying194 rfl (by rw [size_w8, HhZ.out]; simp [Hhh.out])
  have hSl : S.toArray.size = 64 := by rw [hS]; simp
  have hMl : M.toArray.size = 64 := by rw [hM]; rfl
  have hZl : Z.toArray.size = 8 := by rw [HhZ.out]; simp [Hhh.out]
  have hq1 : (Tryz.prog.info? 201).map (·.size) = some S.toArray.size := by rw [size_w64, hSl]
  have hq2 : (z64.map v32).toArray.size = S.toArray.size := by rw [hSl]; rfl
  have hq3 : S.toArray.all (·.oneCell') = true := by
    rw [hS, show ((List.range 64).map fun i => v32 (wrd b i)) = ((List.range 64).map (wrd b)).map v32 by rw [List.map_map]; rfl]; exact all_v32 _
  have hq4 : (Tryz.prog.info? 201).map (·.size) = some M.toArray.size := by rw [size_w64, hMl]
  have hq5 : (z64.map v32).toArray.size = M.toArray.size := by rw [hMl]; rfl
  have hq6 : M.toArray.all (·.oneCell') = true := by rw [hM]; exact all_v32 _
  have hq7 : (Tryz.prog.info? 194).map (·.size) = some Z.toArray.size := by rw [size_w8, hZl]
  have hq8 : (z8.map v32).toArray.size = Z.toArray.size := by rw [hZl]; rfl
  have hq9 : Z.toArray.all (·.oneCell') = true := by rw [HhZ.out]; exact all_v32 _
  have HhS := hideP hS; have HhM := hideP hM; have Hhld := hideP hld; have Hhq1 := hideP hq1; have Hhq2 := hideP hq2; have Hhq3 := hideP hq3; have Hhq4 := hideP hq4; have Hhq5 := hideP hq5; have Hhq6 := hideP hq6; have Hhq7 := hideP hq7; have Hhq8 := hideP hq8; have Hhq9 := hideP hq9; clear hS hM hld hq1 hq2 hq3 hq4 hq5 hq6 hq7 hq8 hq9
  clear hSl hMl hZl
  go_cut [5, 6, 7] (fun s5 s6 s7 wx => ∃ g5 g6 g7 : Nat, s5 = .pointer (some ⟨g5, 0, none⟩) ∧ s6 = .pointer (some ⟨g6, 0, none⟩) ∧ s7 = .pointer (some ⟨g7, 0, none⟩) ∧ Hid (Row wx g5 201 S ∧ Row wx g6 201 M ∧ Row wx g7 194 Z) ∧ Hid (w.heap.size + 1 < g5 ∧ w.heap.size + 1 < g6 ∧ w.heap.size + 1 < g7 ∧ g5 ≠ g6 ∧ g5 ≠ g7 ∧ g6 ≠ g7) ∧ Hid (Row wx w.heap.size 194 Z ∧ Row wx (w.heap.size + 1) 194 (z8.map v32) ∧ Below w.heap.size w wx))
  case first =>
    have nA : ∀ k, k < w.heap.size → ¬ (w.heap.size + 1 < k) := fun k hk => by omega
    have nB : ¬ (w.heap.size + 1 < w.heap.size) := by omega
    have HnA := hideP nA; have HnB := hideP nB; clear nA nB
    refine wp_region_mut (S := fun k => w.heap.size + 1 < k) 9 (.q 0 (.q 1 (.q 2 (.q 3 (.alt (.l 4 (.alt (.l 5 (.l 6 (.l 7 (.l 8 .nil)))) (.l 6 (.l 5 (.l 7 (.l 8 .nil)))))) (.alt (.l 5 (.alt (.l 4 (.l 6 (.l 7 (.l 8 .nil)))) (.l 6 (.l 4 (.l 7 (.l 8 .nil)))))) (.l 6 (.alt (.l 4 (.l 5 (.l 7 (.l 8 .nil)))) (.l 5 (.l 4 (.l 7 (.l 8 .nil)))))))))))) (by kernel_rfl) (by kernel_rfl) ?_
    simp only [pickT, nthO_zero, nthO_succ]
    refine wpM_valK (by rfl) (fun K hK => ?_); apply Exists.intro; refine ⟨fun W hW => ?_, ?_⟩; (focus (go_simp; (try rfl); done)); go_simp; refine hK _ ?_; clear hK K
    refine wpM_callK (.agg S.toArray) 158 #[.slice A 64 c] (by rfl) (fun W => by go_simp) (fun W hW => (Ht1.out W ((HhA.out.below (but_below cb.out hW.drew_left HnA.out)).more (Nat.le_trans cb.out.size hW.size))).mono fun e w' h => ⟨h.1, Ext.of_below h.2⟩) (fun K hK => ?_); go_simp; refine hK _ ?_; clear hK K
    refine wpM_callK (.agg M.toArray) 159 #[] (by rfl) (fun W => by go_simp) (fun W hW => (Ht2.out W).mono fun e w' h => ⟨h.1, Ext.of_below h.2⟩) (fun K hK => ?_); go_simp; refine hK _ ?_; clear hK K
    refine wpM_valK (by rfl) (fun K hK => ?_); refine ⟨.agg Z.toArray, fun W hW => exec_load_row 194 (.tmp 2) rfl w.heap.size rfl _ (Hhld.out W (hW.drew_left.block _ c1.out.lt HnB.out)), ?_⟩; go_simp; refine hK _ ?_; clear hK K
    refine wpM_alt ?_ ?_
    · skip
      refine wpM_buildK (by rfl) (fun W hW => ?_)
      refine ⟨.pointer (some ⟨W.heap.size, 0, none⟩), W.alloc (Obj.cells (z64.map v32).toArray 201), ⟨by go_simp; (try rfl), Ext.alloc _ _⟩, fun K hK => ?_⟩
      go_simp
      refine hK _ ?_
      clear hK K
      obtain ⟨v4, hv_⟩ : ∃ v, v = W.alloc (Obj.cells (z64.map v32).toArray 201) := ⟨_, rfl⟩
      obtain ⟨g4, hg_⟩ : ∃ g, g = W.heap.size := ⟨_, rfl⟩
      have hb_ : Below W.heap.size W v4 := by rw [hv_]; exact below_new _ _
      replace c1 := hideP (Row.ext c1.out hW.drew_left)
      replace c2 := hideP (Row.ext c2.out hW.drew_left)
      have l4 := hideP (show w.heap.size + 1 < g4 by rw [hg_]; exact c2.out.lt)
      have d4 := hideP (show Row v4 g4 201 (z64.map v32) by rw [hv_, hg_]; exact Row.new W _ _)
      replace c1 := hideP (Row.after c1.out hb_)
      replace c2 := hideP (Row.after c2.out hb_)
      replace cb := hideP (bstep (below_ext cb.out hW.drew_left) hb_)
      rw [← hv_, ← hg_]
      clear hv_ hg_ hb_ hW
      refine wpM_alt ?_ ?_
      · skip
        refine wpM_buildK (by rfl) (fun W hW => ?_)
        refine ⟨.pointer (some ⟨W.heap.size, 0, none⟩), W.alloc (Obj.cells (z64.map v32).toArray 201), ⟨by go_simp; (try rfl), Ext.alloc _ _⟩, fun K hK => ?_⟩
        go_simp
        refine hK _ ?_
        clear hK K
        obtain ⟨v5, hv_⟩ : ∃ v, v = W.alloc (Obj.cells (z64.map v32).toArray 201) := ⟨_, rfl⟩
        obtain ⟨g5, hg_⟩ : ∃ g, g = W.heap.size := ⟨_, rfl⟩
        have hb_ : Below W.heap.size W v5 := by rw [hv_]; exact below_new _ _
        replace c1 := hideP (Row.ext c1.out hW)
        replace c2 := hideP (Row.ext c2.out hW)
        replace d4 := hideP (Row.ext d4.out hW)
        have l5 := hideP (show w.heap.size + 1 < g5 by rw [hg_]; exact c2.out.lt)
        have n45 := hideP (show g4 ≠ g5 by have := d4.out.lt; omega)
        have d5 := hideP (show Row v5 g5 201 (z64.map v32) by rw [hv_, hg_]; exact Row.new W _ _)
        replace c1 := hideP (Row.after c1.out hb_)
        replace c2 := hideP (Row.after c2.out hb_)
        replace d4 := hideP (Row.after d4.out hb_)
        replace cb := hideP (bstep (below_ext cb.out hW) hb_)
        rw [← hv_, ← hg_]
        clear hv_ hg_ hb_ hW
        refine wpM_buildK (by rfl) (fun W hW => ?_)
        refine ⟨.pointer (some ⟨W.heap.size, 0, none⟩), W.alloc (Obj.cells (z8.map v32).toArray 194), ⟨by go_simp; (try rfl), Ext.alloc _ _⟩, fun K hK => ?_⟩
        go_simp
        refine hK _ ?_
        clear hK K
        obtain ⟨v6, hv_⟩ : ∃ v, v = W.alloc (Obj.cells (z8.map v32).toArray 194) := ⟨_, rfl⟩
        obtain ⟨g6, hg_⟩ : ∃ g, g = W.heap.size := ⟨_, rfl⟩
        have hb_ : Below W.heap.size W v6 := by rw [hv_]; exact below_new _ _
        replace c1 := hideP (Row.ext c1.out hW)
        replace c2 := hideP (Row.ext c2.out hW)
        replace d4 := hideP (Row.ext d4.out hW)
        replace d5 := hideP (Row.ext d5.out hW)
        have l6 := hideP (show w.heap.size + 1 < g6 by rw [hg_]; exact c2.out.lt)
        have n46 := hideP (show g4 ≠ g6 by have := d4.out.lt; omega)
        have n56 := hideP (show g5 ≠ g6 by have := d5.out.lt; omega)
        have d6 := hideP (show Row v6 g6 194 (z8.map v32) by rw [hv_, hg_]; exact Row.new W _ _)
        replace c1 := hideP (Row.after c1.out hb_)
        replace c2 := hideP (Row.after c2.out hb_)
        replace d4 := hideP (Row.after d4.out hb_)
        replace d5 := hideP (Row.after d5.out hb_)
        replace cb := hideP (bstep (below_ext cb.out hW) hb_)
        rw [← hv_, ← hg_]
        clear hv_ hg_ hb_ hW
        refine wpM_storeK (by rfl) (fun W hW => ⟨W.setRow g4 S.toArray, ⟨exec_store_row 201 (.tmp 5) (.tmp 15) rfl g4 S.toArray rfl rfl 201 (z64.map v32).toArray (Row.ext d4.out hW) Hhq1.out Hhq2.out Hhq3.out, But.setRow _ _ _ l4.out⟩, fun K hK => ?_⟩)
        go_simp
        refine hK _ ?_
        clear hK K
        replace c1 := hideP (Row.setRowOther (Row.ext c1.out hW) (g' := g4) (by have := l4.out; omega) S.toArray)
        replace c2 := hideP (Row.setRowOther (Row.ext c2.out hW) (g' := g4) (by have := l4.out; omega) S.toArray)
        replace d5 := hideP (Row.setRowOther (Row.ext d5.out hW) (g' := g4) (by have := n45.out; omega) S.toArray)
        replace d6 := hideP (Row.setRowOther (Row.ext d6.out hW) (g' := g4) (by have := n46.out; omega) S.toArray)
        replace d4 := hideP (Row.setRow (Row.ext d4.out hW) S)
        replace cb := hideP (below_setRow' (below_ext cb.out hW) (g := g4) (by have := l4.out; omega) S.toArray)
        clear hW
        refine wpM_storeK (by rfl) (fun W hW => ⟨W.setRow g5 M.toArray, ⟨exec_store_row 201 (.tmp 6) (.tmp 16) rfl g5 M.toArray rfl rfl 201 (z64.map v32).toArray (Row.ext d5.out hW) Hhq4.out Hhq5.out Hhq6.out, But.setRow _ _ _ l5.out⟩, fun K hK => ?_⟩)
        go_simp
        refine hK _ ?_
        clear hK K
        replace c1 := hideP (Row.setRowOther (Row.ext c1.out hW) (g' := g5) (by have := l5.out; omega) M.toArray)
        replace c2 := hideP (Row.setRowOther (Row.ext c2.out hW) (g' := g5) (by have := l5.out; omega) M.toArray)
        replace d4 := hideP (Row.setRowOther (Row.ext d4.out hW) (g' := g5) (by have := n45.out; omega) M.toArray)
        replace d6 := hideP (Row.setRowOther (Row.ext d6.out hW) (g' := g5) (by have := n56.out; omega) M.toArray)
        replace d5 := hideP (Row.setRow (Row.ext d5.out hW) M)
        replace cb := hideP (below_setRow' (below_ext cb.out hW) (g := g5) (by have := l5.out; omega) M.toArray)
        clear hW
        refine wpM_nil (fun W hW => ?_)
        simp only [List.drop_succ_cons, List.drop_zero, List.drop_nil]
        replace c1 := hideP (Row.ext c1.out hW)
        replace c2 := hideP (Row.ext c2.out hW)
        replace d4 := hideP (Row.ext d4.out hW)
        replace d5 := hideP (Row.ext d5.out hW)
        replace d6 := hideP (Row.ext d6.out hW)
        replace cb := hideP (below_ext cb.out hW)
        clear hW
        refine wpList_store_row rfl 194 (.tmp 7) (.tmp 17) rfl g6 Z.toArray rfl rfl 194 (z8.map v32).toArray d6.out Hhq7.out Hhq8.out Hhq9.out ?_
        replace c1 := hideP (Row.setRowOther c1.out (g' := g6) (by have := l6.out; omega) Z.toArray)
        replace c2 := hideP (Row.setRowOther c2.out (g' := g6) (by have := l6.out; omega) Z.toArray)
        replace d4 := hideP (Row.setRowOther d4.out (g' := g6) (by have := n46.out; omega) Z.toArray)
        replace d5 := hideP (Row.setRowOther d5.out (g' := g6) (by have := n56.out; omega) Z.toArray)
        replace d6 := hideP (Row.setRow d6.out Z)
        replace cb := hideP (below_setRow' cb.out (g := g6) (by have := l6.out; omega) Z.toArray)
        go_wp2_with fail
        go_meet
        exact ⟨g4, g5, g6, rfl, rfl, rfl, ⟨d4.out, d5.out, d6.out⟩, ⟨l4.out, l5.out, l6.out, n45.out, n46.out, n56.out⟩, c1.out, c2.out, cb.out⟩
      refine wpM_buildK (by rfl) (fun W hW => ?_)
      refine ⟨.pointer (some ⟨W.heap.size, 0, none⟩), W.alloc (Obj.cells (z8.map v32).toArray 194), ⟨by go_simp; (try rfl), Ext.alloc _ _⟩, fun K hK => ?_⟩
      go_simp
      refine hK _ ?_
      clear hK K
      obtain ⟨v6, hv_⟩ : ∃ v, v = W.alloc (Obj.cells (z8.map v32).toArray 194) := ⟨_, rfl⟩
      obtain ⟨g6, hg_⟩ : ∃ g, g = W.heap.size := ⟨_, rfl⟩
      have hb_ : Below W.heap.size W v6 := by rw [hv_]; exact below_new _ _
      replace c1 := hideP (Row.ext c1.out hW)
      replace c2 := hideP (Row.ext c2.out hW)
      replace d4 := hideP (Row.ext d4.out hW)
      have l6 := hideP (show w.heap.size + 1 < g6 by rw [hg_]; exact c2.out.lt)
      have n46 := hideP (show g4 ≠ g6 by have := d4.out.lt; omega)
      have d6 := hideP (show Row v6 g6 194 (z8.map v32) by rw [hv_, hg_]; exact Row.new W _ _)
      replace c1 := hideP (Row.after c1.out hb_)
      replace c2 := hideP (Row.after c2.out hb_)
      replace d4 := hideP (Row.after d4.out hb_)
      replace cb := hideP (bstep (below_ext cb.out hW) hb_)
      rw [← hv_, ← hg_]
      clear hv_ hg_ hb_ hW
      refine wpM_buildK (by rfl) (fun W hW => ?_)
      refine ⟨.pointer (some ⟨W.heap.size, 0, none⟩), W.alloc (Obj.cells (z64.map v32).toArray 201), ⟨by go_simp; (try rfl), Ext.alloc _ _⟩, fun K hK => ?_⟩
      go_simp
      refine hK _ ?_
      clear hK K
      obtain ⟨v5, hv_⟩ : ∃ v, v = W.alloc (Obj.cells (z64.map v32).toArray 201) := ⟨_, rfl⟩
      obtain ⟨g5, hg_⟩ : ∃ g, g = W.heap.size := ⟨_, rfl⟩
      have hb_ : Below W.heap.size W v5 := by rw [hv_]; exact below_new _ _
      replace c1 := hideP (Row.ext c1.out hW)
      replace c2 := hideP (Row.ext c2.out hW)
      replace d4 := hideP (Row.ext d4.out hW)
      replace d6 := hideP (Row.ext d6.out hW)
      have l5 := hideP (show w.heap.size + 1 < g5 by rw [hg_]; exact c2.out.lt)
      have n45 := hideP (show g4 ≠ g5 by have := d4.out.lt; omega)
      have n56 := hideP (show g5 ≠ g6 by have := d6.out.lt; omega)
      have d5 := hideP (show Row v5 g5 201 (z64.map v32) by rw [hv_, hg_]; exact Row.new W _ _)
      replace c1 := hideP (Row.after c1.out hb_)
      replace c2 := hideP (Row.after c2.out hb_)
      replace d4 := hideP (Row.after d4.out hb_)
      replace d6 := hideP (Row.after d6.out hb_)
      replace cb := hideP (bstep (below_ext cb.out hW) hb_)
      rw [← hv_, ← hg_]
      clear hv_ hg_ hb_ hW
      refine wpM_storeK (by rfl) (fun W hW => ⟨W.setRow g4 S.toArray, ⟨exec_store_row 201 (.tmp 5) (.tmp 15) rfl g4 S.toArray rfl rfl 201 (z64.map v32).toArray (Row.ext d4.out hW) Hhq1.out Hhq2.out Hhq3.out, But.setRow _ _ _ l4.out⟩, fun K hK => ?_⟩)
      go_simp
      refine hK _ ?_
      clear hK K
      replace c1 := hideP (Row.setRowOther (Row.ext c1.out hW) (g' := g4) (by have := l4.out; omega) S.toArray)
      replace c2 := hideP (Row.setRowOther (Row.ext c2.out hW) (g' := g4) (by have := l4.out; omega) S.toArray)
      replace d5 := hideP (Row.setRowOther (Row.ext d5.out hW) (g' := g4) (by have := n45.out; omega) S.toArray)
      replace d6 := hideP (Row.setRowOther (Row.ext d6.out hW) (g' := g4) (by have := n46.out; omega) S.toArray)
      replace d4 := hideP (Row.setRow (Row.ext d4.out hW) S)
      replace cb := hideP (below_setRow' (below_ext cb.out hW) (g := g4) (by have := l4.out; omega) S.toArray)
      clear hW
      refine wpM_storeK (by rfl) (fun W hW => ⟨W.setRow g5 M.toArray, ⟨exec_store_row 201 (.tmp 6) (.tmp 16) rfl g5 M.toArray rfl rfl 201 (z64.map v32).toArray (Row.ext d5.out hW) Hhq4.out Hhq5.out Hhq6.out, But.setRow _ _ _ l5.out⟩, fun K hK => ?_⟩)
      go_simp
      refine hK _ ?_
      clear hK K
      replace c1 := hideP (Row.setRowOther (Row.ext c1.out hW) (g' := g5) (by have := l5.out; omega) M.toArray)
      replace c2 := hideP (Row.setRowOther (Row.ext c2.out hW) (g' := g5) (by have := l5.out; omega) M.toArray)
      replace d4 := hideP (Row.setRowOther (Row.ext d4.out hW) (g' := g5) (by have := n45.out; omega) M.toArray)
      replace d6 := hideP (Row.setRowOther (Row.ext d6.out hW) (g' := g5) (by have := n56.out; omega) M.toArray)
      replace d5 := hideP (Row.setRow (Row.ext d5.out hW) M)
      replace cb := hideP (below_setRow' (below_ext cb.out hW) (g := g5) (by have := l5.out; omega) M.toArray)
      clear hW
      refine wpM_nil (fun W hW => ?_)
      simp only [List.drop_succ_cons, List.drop_zero, List.drop_nil]
      replace c1 := hideP (Row.ext c1.out hW)
      replace c2 := hideP (Row.ext c2.out hW)
      replace d4 := hideP (Row.ext d4.out hW)
      replace d5 := hideP (Row.ext d5.out hW)
      replace d6 := hideP (Row.ext d6.out hW)
      replace cb := hideP (below_ext cb.out hW)
      clear hW
      refine wpList_store_row rfl 194 (.tmp 7) (.tmp 17) rfl g6 Z.toArray rfl rfl 194 (z8.map v32).toArray d6.out Hhq7.out Hhq8.out Hhq9.out ?_
      replace c1 := hideP (Row.setRowOther c1.out (g' := g6) (by have := l6.out; omega) Z.toArray)
      replace c2 := hideP (Row.setRowOther c2.out (g' := g6) (by have := l6.out; omega) Z.toArray)
      replace d4 := hideP (Row.setRowOther d4.out (g' := g6) (by have := n46.out; omega) Z.toArray)
      replace d5 := hideP (Row.setRowOther d5.out (g' := g6) (by have := n56.out; omega) Z.toArray)
      replace d6 := hideP (Row.setRow d6.out Z)
      replace cb := hideP (below_setRow' cb.out (g := g6) (by have := l6.out; omega) Z.toArray)
      go_wp2_with fail
      go_meet
      exact ⟨g4, g5, g6, rfl, rfl, rfl, ⟨d4.out, d5.out, d6.out⟩, ⟨l4.out, l5.out, l6.out, n45.out, n46.out, n56.out⟩, c1.out, c2.out, cb.out⟩
    refine wpM_alt ?_ ?_
    · skip
      refine wpM_buildK (by rfl) (fun W hW => ?_)
      refine ⟨.pointer (some ⟨W.heap.size, 0, none⟩), W.alloc (Obj.cells (z64.map v32).toArray 201), ⟨by go_simp; (try rfl), Ext.alloc _ _⟩, fun K hK => ?_⟩
      go_simp
      refine hK _ ?_
      clear hK K
      obtain ⟨v5, hv_⟩ : ∃ v, v = W.alloc (Obj.cells (z64.map v32).toArray 201) := ⟨_, rfl⟩
      obtain ⟨g5, hg_⟩ : ∃ g, g = W.heap.size := ⟨_, rfl⟩
      have hb_ : Below W.heap.size W v5 := by rw [hv_]; exact below_new _ _
      replace c1 := hideP (Row.ext c1.out hW.drew_left)
      replace c2 := hideP (Row.ext c2.out hW.drew_left)
      have l5 := hideP (show w.heap.size + 1 < g5 by rw [hg_]; exact c2.out.lt)
      have d5 := hideP (show Row v5 g5 201 (z64.map v32) by rw [hv_, hg_]; exact Row.new W _ _)
      replace c1 := hideP (Row.after c1.out hb_)
      replace c2 := hideP (Row.after c2.out hb_)
      replace cb := hideP (bstep (below_ext cb.out hW.drew_left) hb_)
      rw [← hv_, ← hg_]
      clear hv_ hg_ hb_ hW
      refine wpM_alt ?_ ?_
      · skip
        refine wpM_buildK (by rfl) (fun W hW => ?_)
        refine ⟨.pointer (some ⟨W.heap.size, 0, none⟩), W.alloc (Obj.cells (z64.map v32).toArray 201), ⟨by go_simp; (try rfl), Ext.alloc _ _⟩, fun K hK => ?_⟩
        go_simp
        refine hK _ ?_
        clear hK K
        obtain ⟨v4, hv_⟩ : ∃ v, v = W.alloc (Obj.cells (z64.map v32).toArray 201) := ⟨_, rfl⟩
        obtain ⟨g4, hg_⟩ : ∃ g, g = W.heap.size := ⟨_, rfl⟩
        have hb_ : Below W.heap.size W v4 := by rw [hv_]; exact below_new _ _
        replace c1 := hideP (Row.ext c1.out hW)
        replace c2 := hideP (Row.ext c2.out hW)
        replace d5 := hideP (Row.ext d5.out hW)
        have l4 := hideP (show w.heap.size + 1 < g4 by rw [hg_]; exact c2.out.lt)
        have n45 := hideP (show g4 ≠ g5 by have := d5.out.lt; omega)
        have d4 := hideP (show Row v4 g4 201 (z64.map v32) by rw [hv_, hg_]; exact Row.new W _ _)
        replace c1 := hideP (Row.after c1.out hb_)
        replace c2 := hideP (Row.after c2.out hb_)
        replace d5 := hideP (Row.after d5.out hb_)
        replace cb := hideP (bstep (below_ext cb.out hW) hb_)
        rw [← hv_, ← hg_]
        clear hv_ hg_ hb_ hW
        refine wpM_buildK (by rfl) (fun W hW => ?_)
        refine ⟨.pointer (some ⟨W.heap.size, 0, none⟩), W.alloc (Obj.cells (z8.map v32).toArray 194), ⟨by go_simp; (try rfl), Ext.alloc _ _⟩, fun K hK => ?_⟩
        go_simp
        refine hK _ ?_
        clear hK K
        obtain ⟨v6, hv_⟩ : ∃ v, v = W.alloc (Obj.cells (z8.map v32).toArray 194) := ⟨_, rfl⟩
        obtain ⟨g6, hg_⟩ : ∃ g, g = W.heap.size := ⟨_, rfl⟩
        have hb_ : Below W.heap.size W v6 := by rw [hv_]; exact below_new _ _
        replace c1 := hideP (Row.ext c1.out hW)
        replace c2 := hideP (Row.ext c2.out hW)
        replace d5 := hideP (Row.ext d5.out hW)
        replace d4 := hideP (Row.ext d4.out hW)
        have l6 := hideP (show w.heap.size + 1 < g6 by rw [hg_]; exact c2.out.lt)
        have n56 := hideP (show g5 ≠ g6 by have := d5.out.lt; omega)
        have n46 := hideP (show g4 ≠ g6 by have := d4.out.lt; omega)
        have d6 := hideP (show Row v6 g6 194 (z8.map v32) by rw [hv_, hg_]; exact Row.new W _ _)
        replace c1 := hideP (Row.after c1.out hb_)
        replace c2 := hideP (Row.after c2.out hb_)
        replace d5 := hideP (Row.after d5.out hb_)
        replace d4 := hideP (Row.after d4.out hb_)
        replace cb := hideP (bstep (below_ext cb.out hW) hb_)
        rw [← hv_, ← hg_]
        clear hv_ hg_ hb_ hW
        refine wpM_storeK (by rfl) (fun W hW => ⟨W.setRow g4 S.toArray, ⟨exec_store_row 201 (.tmp 5) (.tmp 15) rfl g4 S.toArray rfl rfl 201 (z64.map v32).toArray (Row.ext d4.out hW) Hhq1.out Hhq2.out Hhq3.out, But.setRow _ _ _ l4.out⟩, fun K hK => ?_⟩)
        go_simp
        refine hK _ ?_
        clear hK K
        replace c1 := hideP (Row.setRowOther (Row.ext c1.out hW) (g' := g4) (by have := l4.out; omega) S.toArray)
        replace c2 := hideP (Row.setRowOther (Row.ext c2.out hW) (g' := g4) (by have := l4.out; omega) S.toArray)
        replace d5 := hideP (Row.setRowOther (Row.ext d5.out hW) (g' := g4) (by have := n45.out; omega) S.toArray)
        replace d6 := hideP (Row.setRowOther (Row.ext d6.out hW) (g' := g4) (by have := n46.out; omega) S.toArray)
        replace d4 := hideP (Row.setRow (Row.ext d4.out hW) S)
        replace cb := hideP (below_setRow' (below_ext cb.out hW) (g := g4) (by have := l4.out; omega) S.toArray)
        clear hW
        refine wpM_storeK (by rfl) (fun W hW => ⟨W.setRow g5 M.toArray, ⟨exec_store_row 201 (.tmp 6) (.tmp 16) rfl g5 M.toArray rfl rfl 201 (z64.map v32).toArray (Row.ext d5.out hW) Hhq4.out Hhq5.out Hhq6.out, But.setRow _ _ _ l5.out⟩, fun K hK => ?_⟩)
        go_simp
        refine hK _ ?_
        clear hK K
        replace c1 := hideP (Row.setRowOther (Row.ext c1.out hW) (g' := g5) (by have := l5.out; omega) M.toArray)
        replace c2 := hideP (Row.setRowOther (Row.ext c2.out hW) (g' := g5) (by have := l5.out; omega) M.toArray)
        replace d4 := hideP (Row.setRowOther (Row.ext d4.out hW) (g' := g5) (by have := n45.out; omega) M.toArray)
        replace d6 := hideP (Row.setRowOther (Row.ext d6.out hW) (g' := g5) (by have := n56.out; omega) M.toArray)
        replace d5 := hideP (Row.setRow (Row.ext d5.out hW) M)
        replace cb := hideP (below_setRow' (below_ext cb.out hW) (g := g5) (by have := l5.out; omega) M.toArray)
        clear hW
        refine wpM_nil (fun W hW => ?_)
        simp only [List.drop_succ_cons, List.drop_zero, List.drop_nil]
        replace c1 := hideP (Row.ext c1.out hW)
        replace c2 := hideP (Row.ext c2.out hW)
        replace d4 := hideP (Row.ext d4.out hW)
        replace d5 := hideP (Row.ext d5.out hW)
        replace d6 := hideP (Row.ext d6.out hW)
        replace cb := hideP (below_ext cb.out hW)
        clear hW
        refine wpList_store_row rfl 194 (.tmp 7) (.tmp 17) rfl g6 Z.toArray rfl rfl 194 (z8.map v32).toArray d6.out Hhq7.out Hhq8.out Hhq9.out ?_
        replace c1 := hideP (Row.setRowOther c1.out (g' := g6) (by have := l6.out; omega) Z.toArray)
        replace c2 := hideP (Row.setRowOther c2.out (g' := g6) (by have := l6.out; omega) Z.toArray)
        replace d4 := hideP (Row.setRowOther d4.out (g' := g6) (by have := n46.out; omega) Z.toArray)
        replace d5 := hideP (Row.setRowOther d5.out (g' := g6) (by have := n56.out; omega) Z.toArray)
        replace d6 := hideP (Row.setRow d6.out Z)
        replace cb := hideP (below_setRow' cb.out (g := g6) (by have := l6.out; omega) Z.toArray)
        go_wp2_with fail
        go_meet
        exact ⟨g4, g5, g6, rfl, rfl, rfl, ⟨d4.out, d5.out, d6.out⟩, ⟨l4.out, l5.out, l6.out, n45.out, n46.out, n56.out⟩, c1.out, c2.out, cb.out⟩
      refine wpM_buildK (by rfl) (fun W hW => ?_)
      refine ⟨.pointer (some ⟨W.heap.size, 0, none⟩), W.alloc (Obj.cells (z8.map v32).toArray 194), ⟨by go_simp; (try rfl), Ext.alloc _ _⟩, fun K hK => ?_⟩
      go_simp
      refine hK _ ?_
      clear hK K
      obtain ⟨v6, hv_⟩ : ∃ v, v = W.alloc (Obj.cells (z8.map v32).toArray 194) := ⟨_, rfl⟩
      obtain ⟨g6, hg_⟩ : ∃ g, g = W.heap.size := ⟨_, rfl⟩
      have hb_ : Below W.heap.size W v6 := by rw [hv_]; exact below_new _ _
      replace c1 := hideP (Row.ext c1.out hW)
      replace c2 := hideP (Row.ext c2.out hW)
      replace d5 := hideP (Row.ext d5.out hW)
      have l6 := hideP (show w.heap.size + 1 < g6 by rw [hg_]; exact c2.out.lt)
      have n56 := hideP (show g5 ≠ g6 by have := d5.out.lt; omega)
      have d6 := hideP (show Row v6 g6 194 (z8.map v32) by rw [hv_, hg_]; exact Row.new W _ _)
      replace c1 := hideP (Row.after c1.out hb_)
      replace c2 := hideP (Row.after c2.out hb_)
      replace d5 := hideP (Row.after d5.out hb_)
      replace cb := hideP (bstep (below_ext cb.out hW) hb_)
      rw [← hv_, ← hg_]
      clear hv_ hg_ hb_ hW
      refine wpM_buildK (by rfl) (fun W hW => ?_)
      refine ⟨.pointer (some ⟨W.heap.size, 0, none⟩), W.alloc (Obj.cells (z64.map v32).toArray 201), ⟨by go_simp; (try rfl), Ext.alloc _ _⟩, fun K hK => ?_⟩
      go_simp
      refine hK _ ?_
      clear hK K
      obtain ⟨v4, hv_⟩ : ∃ v, v = W.alloc (Obj.cells (z64.map v32).toArray 201) := ⟨_, rfl⟩
      obtain ⟨g4, hg_⟩ : ∃ g, g = W.heap.size := ⟨_, rfl⟩
      have hb_ : Below W.heap.size W v4 := by rw [hv_]; exact below_new _ _
      replace c1 := hideP (Row.ext c1.out hW)
      replace c2 := hideP (Row.ext c2.out hW)
      replace d5 := hideP (Row.ext d5.out hW)
      replace d6 := hideP (Row.ext d6.out hW)
      have l4 := hideP (show w.heap.size + 1 < g4 by rw [hg_]; exact c2.out.lt)
      have n45 := hideP (show g4 ≠ g5 by have := d5.out.lt; omega)
      have n46 := hideP (show g4 ≠ g6 by have := d6.out.lt; omega)
      have d4 := hideP (show Row v4 g4 201 (z64.map v32) by rw [hv_, hg_]; exact Row.new W _ _)
      replace c1 := hideP (Row.after c1.out hb_)
      replace c2 := hideP (Row.after c2.out hb_)
      replace d5 := hideP (Row.after d5.out hb_)
      replace d6 := hideP (Row.after d6.out hb_)
      replace cb := hideP (bstep (below_ext cb.out hW) hb_)
      rw [← hv_, ← hg_]
      clear hv_ hg_ hb_ hW
      refine wpM_storeK (by rfl) (fun W hW => ⟨W.setRow g4 S.toArray, ⟨exec_store_row 201 (.tmp 5) (.tmp 15) rfl g4 S.toArray rfl rfl 201 (z64.map v32).toArray (Row.ext d4.out hW) Hhq1.out Hhq2.out Hhq3.out, But.setRow _ _ _ l4.out⟩, fun K hK => ?_⟩)
      go_simp
      refine hK _ ?_
      clear hK K
      replace c1 := hideP (Row.setRowOther (Row.ext c1.out hW) (g' := g4) (by have := l4.out; omega) S.toArray)
      replace c2 := hideP (Row.setRowOther (Row.ext c2.out hW) (g' := g4) (by have := l4.out; omega) S.toArray)
      replace d5 := hideP (Row.setRowOther (Row.ext d5.out hW) (g' := g4) (by have := n45.out; omega) S.toArray)
      replace d6 := hideP (Row.setRowOther (Row.ext d6.out hW) (g' := g4) (by have := n46.out; omega) S.toArray)
      replace d4 := hideP (Row.setRow (Row.ext d4.out hW) S)
      replace cb := hideP (below_setRow' (below_ext cb.out hW) (g := g4) (by have := l4.out; omega) S.toArray)
      clear hW
      refine wpM_storeK (by rfl) (fun W hW => ⟨W.setRow g5 M.toArray, ⟨exec_store_row 201 (.tmp 6) (.tmp 16) rfl g5 M.toArray rfl rfl 201 (z64.map v32).toArray (Row.ext d5.out hW) Hhq4.out Hhq5.out Hhq6.out, But.setRow _ _ _ l5.out⟩, fun K hK => ?_⟩)
      go_simp
      refine hK _ ?_
      clear hK K
      replace c1 := hideP (Row.setRowOther (Row.ext c1.out hW) (g' := g5) (by have := l5.out; omega) M.toArray)
      replace c2 := hideP (Row.setRowOther (Row.ext c2.out hW) (g' := g5) (by have := l5.out; omega) M.toArray)
      replace d4 := hideP (Row.setRowOther (Row.ext d4.out hW) (g' := g5) (by have := n45.out; omega) M.toArray)
      replace d6 := hideP (Row.setRowOther (Row.ext d6.out hW) (g' := g5) (by have := n56.out; omega) M.toArray)
      replace d5 := hideP (Row.setRow (Row.ext d5.out hW) M)
      replace cb := hideP (below_setRow' (below_ext cb.out hW) (g := g5) (by have := l5.out; omega) M.toArray)
      clear hW
      refine wpM_nil (fun W hW => ?_)
      simp only [List.drop_succ_cons, List.drop_zero, List.drop_nil]
      replace c1 := hideP (Row.ext c1.out hW)
      replace c2 := hideP (Row.ext c2.out hW)
      replace d4 := hideP (Row.ext d4.out hW)
      replace d5 := hideP (Row.ext d5.out hW)
      replace d6 := hideP (Row.ext d6.out hW)
      replace cb := hideP (below_ext cb.out hW)
      clear hW
      refine wpList_store_row rfl 194 (.tmp 7) (.tmp 17) rfl g6 Z.toArray rfl rfl 194 (z8.map v32).toArray d6.out Hhq7.out Hhq8.out Hhq9.out ?_
      replace c1 := hideP (Row.setRowOther c1.out (g' := g6) (by have := l6.out; omega) Z.toArray)
      replace c2 := hideP (Row.setRowOther c2.out (g' := g6) (by have := l6.out; omega) Z.toArray)
      replace d4 := hideP (Row.setRowOther d4.out (g' := g6) (by have := n46.out; omega) Z.toArray)
      replace d5 := hideP (Row.setRowOther d5.out (g' := g6) (by have := n56.out; omega) Z.toArray)
      replace d6 := hideP (Row.setRow d6.out Z)
      replace cb := hideP (below_setRow' cb.out (g := g6) (by have := l6.out; omega) Z.toArray)
      go_wp2_with fail
      go_meet
      exact ⟨g4, g5, g6, rfl, rfl, rfl, ⟨d4.out, d5.out, d6.out⟩, ⟨l4.out, l5.out, l6.out, n45.out, n46.out, n56.out⟩, c1.out, c2.out, cb.out⟩
    refine wpM_buildK (by rfl) (fun W hW => ?_)
    refine ⟨.pointer (some ⟨W.heap.size, 0, none⟩), W.alloc (Obj.cells (z8.map v32).toArray 194), ⟨by go_simp; (try rfl), Ext.alloc _ _⟩, fun K hK => ?_⟩
    go_simp
    refine hK _ ?_
    clear hK K
    obtain ⟨v6, hv_⟩ : ∃ v, v = W.alloc (Obj.cells (z8.map v32).toArray 194) := ⟨_, rfl⟩
    obtain ⟨g6, hg_⟩ : ∃ g, g = W.heap.size := ⟨_, rfl⟩
    have hb_ : Below W.heap.size W v6 := by rw [hv_]; exact below_new _ _
    replace c1 := hideP (Row.ext c1.out hW.drew_left)
    replace c2 := hideP (Row.ext c2.out hW.drew_left)
    have l6 := hideP (show w.heap.size + 1 < g6 by rw [hg_]; exact c2.out.lt)
    have d6 := hideP (show Row v6 g6 194 (z8.map v32) by rw [hv_, hg_]; exact Row.new W _ _)
    replace c1 := hideP (Row.after c1.out hb_)
    replace c2 := hideP (Row.after c2.out hb_)
    replace cb := hideP (bstep (below_ext cb.out hW.drew_left) hb_)
    rw [← hv_, ← hg_]
    clear hv_ hg_ hb_ hW
    refine wpM_alt ?_ ?_
    · skip
      refine wpM_buildK (by rfl) (fun W hW => ?_)
      refine ⟨.pointer (some ⟨W.heap.size, 0, none⟩), W.alloc (Obj.cells (z64.map v32).toArray 201), ⟨by go_simp; (try rfl), Ext.alloc _ _⟩, fun K hK => ?_⟩
      go_simp
      refine hK _ ?_
      clear hK K
      obtain ⟨v4, hv_⟩ : ∃ v, v = W.alloc (Obj.cells (z64.map v32).toArray 201) := ⟨_, rfl⟩
      obtain ⟨g4, hg_⟩ : ∃ g, g = W.heap.size := ⟨_, rfl⟩
      have hb_ : Below W.heap.size W v4 := by rw [hv_]; exact below_new _ _
      replace c1 := hideP (Row.ext c1.out hW)
      replace c2 := hideP (Row.ext c2.out hW)
      replace d6 := hideP (Row.ext d6.out hW)
      have l4 := hideP (show w.heap.size + 1 < g4 by rw [hg_]; exact c2.out.lt)
      have n46 := hideP (show g4 ≠ g6 by have := d6.out.lt; omega)
      have d4 := hideP (show Row v4 g4 201 (z64.map v32) by rw [hv_, hg_]; exact Row.new W _ _)
      replace c1 := hideP (Row.after c1.out hb_)
      replace c2 := hideP (Row.after c2.out hb_)
      replace d6 := hideP (Row.after d6.out hb_)
      replace cb := hideP (bstep (below_ext cb.out hW) hb_)
      rw [← hv_, ← hg_]
      clear hv_ hg_ hb_ hW
      refine wpM_buildK (by rfl) (fun W hW => ?_)
      refine ⟨.pointer (some ⟨W.heap.size, 0, none⟩), W.alloc (Obj.cells (z64.map v32).toArray 201), ⟨by go_simp; (try rfl), Ext.alloc _ _⟩, fun K hK => ?_⟩
      go_simp
      refine hK _ ?_
      clear hK K
      obtain ⟨v5, hv_⟩ : ∃ v, v = W.alloc (Obj.cells (z64.map v32).toArray 201) := ⟨_, rfl⟩
      obtain ⟨g5, hg_⟩ : ∃ g, g = W.heap.size := ⟨_, rfl⟩
      have hb_ : Below W.heap.size W v5 := by rw [hv_]; exact below_new _ _
      replace c1 := hideP (Row.ext c1.out hW)
      replace c2 := hideP (Row.ext c2.out hW)
      replace d6 := hideP (Row.ext d6.out hW)
      replace d4 := hideP (Row.ext d4.out hW)
      have l5 := hideP (show w.heap.size + 1 < g5 by rw [hg_]; exact c2.out.lt)
      have n56 := hideP (show g5 ≠ g6 by have := d6.out.lt; omega)
      have n45 := hideP (show g4 ≠ g5 by have := d4.out.lt; omega)
      have d5 := hideP (show Row v5 g5 201 (z64.map v32) by rw [hv_, hg_]; exact Row.new W _ _)
      replace c1 := hideP (Row.after c1.out hb_)
      replace c2 := hideP (Row.after c2.out hb_)
      replace d6 := hideP (Row.after d6.out hb_)
      replace d4 := hideP (Row.after d4.out hb_)
      replace cb := hideP (bstep (below_ext cb.out hW) hb_)
      rw [← hv_, ← hg_]
      clear hv_ hg_ hb_ hW
      refine wpM_storeK (by rfl) (fun W hW => ⟨W.setRow g4 S.toArray, ⟨exec_store_row 201 (.tmp 5) (.tmp 15) rfl g4 S.toArray rfl rfl 201 (z64.map v32).toArray (Row.ext d4.out hW) Hhq1.out Hhq2.out Hhq3.out, But.setRow _ _ _ l4.out⟩, fun K hK => ?_⟩)
      go_simp
      refine hK _ ?_
      clear hK K
      replace c1 := hideP (Row.setRowOther (Row.ext c1.out hW) (g' := g4) (by have := l4.out; omega) S.toArray)
      replace c2 := hideP (Row.setRowOther (Row.ext c2.out hW) (g' := g4) (by have := l4.out; omega) S.toArray)
      replace d5 := hideP (Row.setRowOther (Row.ext d5.out hW) (g' := g4) (by have := n45.out; omega) S.toArray)
      replace d6 := hideP (Row.setRowOther (Row.ext d6.out hW) (g' := g4) (by have := n46.out; omega) S.toArray)
      replace d4 := hideP (Row.setRow (Row.ext d4.out hW) S)
      replace cb := hideP (below_setRow' (below_ext cb.out hW) (g := g4) (by have := l4.out; omega) S.toArray)
      clear hW
      refine wpM_storeK (by rfl) (fun W hW => ⟨W.setRow g5 M.toArray, ⟨exec_store_row 201 (.tmp 6) (.tmp 16) rfl g5 M.toArray rfl rfl 201 (z64.map v32).toArray (Row.ext d5.out hW) Hhq4.out Hhq5.out Hhq6.out, But.setRow _ _ _ l5.out⟩, fun K hK => ?_⟩)
      go_simp
      refine hK _ ?_
      clear hK K
      replace c1 := hideP (Row.setRowOther (Row.ext c1.out hW) (g' := g5) (by have := l5.out; omega) M.toArray)
      replace c2 := hideP (Row.setRowOther (Row.ext c2.out hW) (g' := g5) (by have := l5.out; omega) M.toArray)
      replace d4 := hideP (Row.setRowOther (Row.ext d4.out hW) (g' := g5) (by have := n45.out; omega) M.toArray)
      replace d6 := hideP (Row.setRowOther (Row.ext d6.out hW) (g' := g5) (by have := n56.out; omega) M.toArray)
      replace d5 := hideP (Row.setRow (Row.ext d5.out hW) M)
      replace cb := hideP (below_setRow' (below_ext cb.out hW) (g := g5) (by have := l5.out; omega) M.toArray)
      clear hW
      refine wpM_nil (fun W hW => ?_)
      simp only [List.drop_succ_cons, List.drop_zero, List.drop_nil]
      replace c1 := hideP (Row.ext c1.out hW)
      replace c2 := hideP (Row.ext c2.out hW)
      replace d4 := hideP (Row.ext d4.out hW)
      replace d5 := hideP (Row.ext d5.out hW)
      replace d6 := hideP (Row.ext d6.out hW)
      replace cb := hideP (below_ext cb.out hW)
      clear hW
      refine wpList_store_row rfl 194 (.tmp 7) (.tmp 17) rfl g6 Z.toArray rfl rfl 194 (z8.map v32).toArray d6.out Hhq7.out Hhq8.out Hhq9.out ?_
      replace c1 := hideP (Row.setRowOther c1.out (g' := g6) (by have := l6.out; omega) Z.toArray)
      replace c2 := hideP (Row.setRowOther c2.out (g' := g6) (by have := l6.out; omega) Z.toArray)
      replace d4 := hideP (Row.setRowOther d4.out (g' := g6) (by have := n46.out; omega) Z.toArray)
      replace d5 := hideP (Row.setRowOther d5.out (g' := g6) (by have := n56.out; omega) Z.toArray)
      replace d6 := hideP (Row.setRow d6.out Z)
      replace cb := hideP (below_setRow' cb.out (g := g6) (by have := l6.out; omega) Z.toArray)
      go_wp2_with fail
      go_meet
      exact ⟨g4, g5, g6, rfl, rfl, rfl, ⟨d4.out, d5.out, d6.out⟩, ⟨l4.out, l5.out, l6.out, n45.out, n46.out, n56.out⟩, c1.out, c2.out, cb.out⟩
    refine wpM_buildK (by rfl) (fun W hW => ?_)
    refine ⟨.pointer (some ⟨W.heap.size, 0, none⟩), W.alloc (Obj.cells (z64.map v32).toArray 201), ⟨by go_simp; (try rfl), Ext.alloc _ _⟩, fun K hK => ?_⟩
    go_simp
    refine hK _ ?_
    clear hK K
    obtain ⟨v5, hv_⟩ : ∃ v, v = W.alloc (Obj.cells (z64.map v32).toArray 201) := ⟨_, rfl⟩
    obtain ⟨g5, hg_⟩ : ∃ g, g = W.heap.size := ⟨_, rfl⟩
    have hb_ : Below W.heap.size W v5 := by rw [hv_]; exact below_new _ _
    replace c1 := hideP (Row.ext c1.out hW)
    replace c2 := hideP (Row.ext c2.out hW)
    replace d6 := hideP (Row.ext d6.out hW)
    have l5 := hideP (show w.heap.size + 1 < g5 by rw [hg_]; exact c2.out.lt)
    have n56 := hideP (show g5 ≠ g6 by have := d6.out.lt; omega)
    have d5 := hideP (show Row v5 g5 201 (z64.map v32) by rw [hv_, hg_]; exact Row.new W _ _)
    replace c1 := hideP (Row.after c1.out hb_)
    replace c2 := hideP (Row.after c2.out hb_)
    replace d6 := hideP (Row.after d6.out hb_)
    replace cb := hideP (bstep (below_ext cb.out hW) hb_)
    rw [← hv_, ← hg_]
    clear hv_ hg_ hb_ hW
    refine wpM_buildK (by rfl) (fun W hW => ?_)
    refine ⟨.pointer (some ⟨W.heap.size, 0, none⟩), W.alloc (Obj.cells (z64.map v32).toArray 201), ⟨by go_simp; (try rfl), Ext.alloc _ _⟩, fun K hK => ?_⟩
    go_simp
    refine hK _ ?_
    clear hK K
    obtain ⟨v4, hv_⟩ : ∃ v, v = W.alloc (Obj.cells (z64.map v32).toArray 201) := ⟨_, rfl⟩
    obtain ⟨g4, hg_⟩ : ∃ g, g = W.heap.size := ⟨_, rfl⟩
    have hb_ : Below W.heap.size W v4 := by rw [hv_]; exact below_new _ _
    replace c1 := hideP (Row.ext c1.out hW)
    replace c2 := hideP (Row.ext c2.out hW)
    replace d6 := hideP (Row.ext d6.out hW)
    replace d5 := hideP (Row.ext d5.out hW)
    have l4 := hideP (show w.heap.size + 1 < g4 by rw [hg_]; exact c2.out.lt)
    have n46 := hideP (show g4 ≠ g6 by have := d6.out.lt; omega)
    have n45 := hideP (show g4 ≠ g5 by have := d5.out.lt; omega)
    have d4 := hideP (show Row v4 g4 201 (z64.map v32) by rw [hv_, hg_]; exact Row.new W _ _)
    replace c1 := hideP (Row.after c1.out hb_)
    replace c2 := hideP (Row.after c2.out hb_)
    replace d6 := hideP (Row.after d6.out hb_)
    replace d5 := hideP (Row.after d5.out hb_)
    replace cb := hideP (bstep (below_ext cb.out hW) hb_)
    rw [← hv_, ← hg_]
    clear hv_ hg_ hb_ hW
    refine wpM_storeK (by rfl) (fun W hW => ⟨W.setRow g4 S.toArray, ⟨exec_store_row 201 (.tmp 5) (.tmp 15) rfl g4 S.toArray rfl rfl 201 (z64.map v32).toArray (Row.ext d4.out hW) Hhq1.out Hhq2.out Hhq3.out, But.setRow _ _ _ l4.out⟩, fun K hK => ?_⟩)
    go_simp
    refine hK _ ?_
    clear hK K
    replace c1 := hideP (Row.setRowOther (Row.ext c1.out hW) (g' := g4) (by have := l4.out; omega) S.toArray)
    replace c2 := hideP (Row.setRowOther (Row.ext c2.out hW) (g' := g4) (by have := l4.out; omega) S.toArray)
    replace d5 := hideP (Row.setRowOther (Row.ext d5.out hW) (g' := g4) (by have := n45.out; omega) S.toArray)
    replace d6 := hideP (Row.setRowOther (Row.ext d6.out hW) (g' := g4) (by have := n46.out; omega) S.toArray)
    replace d4 := hideP (Row.setRow (Row.ext d4.out hW) S)
    replace cb := hideP (below_setRow' (below_ext cb.out hW) (g := g4) (by have := l4.out; omega) S.toArray)
    clear hW
    refine wpM_storeK (by rfl) (fun W hW => ⟨W.setRow g5 M.toArray, ⟨exec_store_row 201 (.tmp 6) (.tmp 16) rfl g5 M.toArray rfl rfl 201 (z64.map v32).toArray (Row.ext d5.out hW) Hhq4.out Hhq5.out Hhq6.out, But.setRow _ _ _ l5.out⟩, fun K hK => ?_⟩)
    go_simp
    refine hK _ ?_
    clear hK K
    replace c1 := hideP (Row.setRowOther (Row.ext c1.out hW) (g' := g5) (by have := l5.out; omega) M.toArray)
    replace c2 := hideP (Row.setRowOther (Row.ext c2.out hW) (g' := g5) (by have := l5.out; omega) M.toArray)
    replace d4 := hideP (Row.setRowOther (Row.ext d4.out hW) (g' := g5) (by have := n45.out; omega) M.toArray)
    replace d6 := hideP (Row.setRowOther (Row.ext d6.out hW) (g' := g5) (by have := n56.out; omega) M.toArray)
    replace d5 := hideP (Row.setRow (Row.ext d5.out hW) M)
    replace cb := hideP (below_setRow' (below_ext cb.out hW) (g := g5) (by have := l5.out; omega) M.toArray)
    clear hW
    refine wpM_nil (fun W hW => ?_)
    simp only [List.drop_succ_cons, List.drop_zero, List.drop_nil]
    replace c1 := hideP (Row.ext c1.out hW)
    replace c2 := hideP (Row.ext c2.out hW)
    replace d4 := hideP (Row.ext d4.out hW)
    replace d5 := hideP (Row.ext d5.out hW)
    replace d6 := hideP (Row.ext d6.out hW)
    replace cb := hideP (below_ext cb.out hW)
    clear hW
    refine wpList_store_row rfl 194 (.tmp 7) (.tmp 17) rfl g6 Z.toArray rfl rfl 194 (z8.map v32).toArray d6.out Hhq7.out Hhq8.out Hhq9.out ?_
    replace c1 := hideP (Row.setRowOther c1.out (g' := g6) (by have := l6.out; omega) Z.toArray)
    replace c2 := hideP (Row.setRowOther c2.out (g' := g6) (by have := l6.out; omega) Z.toArray)
    replace d4 := hideP (Row.setRowOther d4.out (g' := g6) (by have := n46.out; omega) Z.toArray)
    replace d5 := hideP (Row.setRowOther d5.out (g' := g6) (by have := n56.out; omega) Z.toArray)
    replace d6 := hideP (Row.setRow d6.out Z)
    replace cb := hideP (below_setRow' cb.out (g := g6) (by have := l6.out; omega) Z.toArray)
    go_wp2_with fail
    go_meet
    exact ⟨g4, g5, g6, rfl, rfl, rfl, ⟨d4.out, d5.out, d6.out⟩, ⟨l4.out, l5.out, l6.out, n45.out, n46.out, n56.out⟩, c1.out, c2.out, cb.out⟩
  case rest =>
    obtain ⟨g5, g6, g7, rfl, rfl, rfl, hR, hN, hW⟩ := hcut
    clear c1 c2 cb Hhld Ht1 Ht2 Hhq1 Hhq2 Hhq3 Hhq4 Hhq5 Hhq6
    go_wp2_with fail
    go_loopw [18] (fun v18 wr => ∃ (k : Nat) (v : List UInt32), k ≤ 64 ∧ v18 = .int .i64 k ∧ Hid (v = rnds h b k ∧ v.length = 8 ∧ Row32 wr g7 194 v ∧ Row wr g5 201 S ∧ Row wr g6 201 M ∧ Row wr w.heap.size 194 Z ∧ Row wr (w.heap.size + 1) 194 (z8.map v32) ∧ Below w.heap.size w wr)) (fun v18 _ => 64 - (intOf v18).toNat)
    case atStart =>
      have hr := hR.out.2.2
      rw [HhZ.out] at hr
      exact ⟨0, h, by omega, rfl, rfl, Hhh.out, hr, hR.out.1, hR.out.2.1, hW.out⟩
    case round =>
      clear hR hW
      obtain ⟨k, v, hk, rfl, hV⟩ := hrel
      by_cases hlt : k < 64
      · have t' : decide ((k : Int) < 64) = true := by simp; omega
        have r2 := hideP (fun x => rot_any x (-2) 2 (by omega) (by kernel_rfl))
        have r13 := hideP (fun x => rot_any x (-13) 13 (by omega) (by kernel_rfl))
        have r22 := hideP (fun x => rot_any x (-22) 22 (by omega) (by kernel_rfl))
        have r6 := hideP (fun x => rot_any x (-6) 6 (by omega) (by kernel_rfl))
        have r11 := hideP (fun x => rot_any x (-11) 11 (by omega) (by kernel_rfl))
        have r25 := hideP (fun x => rot_any x (-25) 25 (by omega) (by kernel_rfl))
        have q0 := Row32.cell hV.out.2.2.1 0 (by rw [hV.out.2.1]; omega)
        have q1 := Row32.cell hV.out.2.2.1 1 (by rw [hV.out.2.1]; omega)
        have q2 := Row32.cell hV.out.2.2.1 2 (by rw [hV.out.2.1]; omega)
        have q3 := Row32.cell hV.out.2.2.1 3 (by rw [hV.out.2.1]; omega)
        have q4 := Row32.cell hV.out.2.2.1 4 (by rw [hV.out.2.1]; omega)
        have q5 := Row32.cell hV.out.2.2.1 5 (by rw [hV.out.2.1]; omega)
        have q6 := Row32.cell hV.out.2.2.1 6 (by rw [hV.out.2.1]; omega)
        have q7 := Row32.cell hV.out.2.2.1 7 (by rw [hV.out.2.1]; omega)
        have qw : wr.cell? ⟨g5, k, none⟩ = some (v32 (wrd b k)) := by rw [Row.cell hV.out.2.2.2.1 k, HhS.out]; simp [hlt]
        have qk : wr.cell? ⟨g6, k, none⟩ = some (v32 (kk.getD k 0)) := by rw [Row.cell hV.out.2.2.2.2.1 k, HhM.out]; simp [List.getD, List.getElem?_eq_getElem (show k < kk.length from hlt)]
        unfold v32 at q0 q1 q2 q3 q4 q5 q6 q7 qw qk
        have hE := hideP (show rnd v (kk.getD k 0) (wrd b k) = rnds h b (k + 1) by rw [hV.out.1]; rfl)
        unfold rnd one two at hE
        obtain ⟨y0, e0⟩ : ∃ x, x = v.getD 0 0 := ⟨_, rfl⟩
        obtain ⟨y1, e1⟩ : ∃ x, x = v.getD 1 0 := ⟨_, rfl⟩
        obtain ⟨y2, e2⟩ : ∃ x, x = v.getD 2 0 := ⟨_, rfl⟩
        obtain ⟨y3, e3⟩ : ∃ x, x = v.getD 3 0 := ⟨_, rfl⟩
        obtain ⟨y4, e4⟩ : ∃ x, x = v.getD 4 0 := ⟨_, rfl⟩
        obtain ⟨y5, e5⟩ : ∃ x, x = v.getD 5 0 := ⟨_, rfl⟩
        obtain ⟨y6, e6⟩ : ∃ x, x = v.getD 6 0 := ⟨_, rfl⟩
        obtain ⟨y7, e7⟩ : ∃ x, x = v.getD 7 0 := ⟨_, rfl⟩
        obtain ⟨zk, ek⟩ : ∃ x, x = kk.getD k 0 := ⟨_, rfl⟩
        obtain ⟨zw, ew⟩ : ∃ x, x = wrd b k := ⟨_, rfl⟩
        rw [← e0, ← e1, ← e2, ← e3, ← e4, ← e5, ← e6, ← e7, ← ek, ← ew] at hE
        rw [← e0] at q0
        rw [← e1] at q1
        rw [← e2] at q2
        rw [← e3] at q3
        rw [← e4] at q4
        rw [← e5] at q5
        rw [← e6] at q6
        rw [← e7] at q7
        rw [← ek] at qk
        rw [← ew] at qw
        clear e0 e1 e2 e3 e4 e5 e6 e7 ek ew
        have i8 : (0 : Int) ≤ (k : Int) := by omega
        have i9 : (k : Int) < 64 := by omega
        have rx := n32_xor
        have rd := n32_and
        have ra := n32_add
        have rn := n32_not
        go_wp2_with fail
        refine wp_region_eager 12 [(true, 0), (true, 1), (true, 2), (true, 3), (true, 4), (true, 5), (true, 6), (true, 7), (true, 8), (true, 9), (true, 10), (true, 11)] (by kernel_rfl) (by kernel_rfl) ?_
        simp only [pick, List.map_cons, List.map_nil, nthO_zero, nthO_succ]
        repeat (first
          | (refine wpPlan_skipK (by rfl) (fun K hK => ?_); go_simp; refine hK _ ?_; clear hK K)
          | (refine wpPlan_valK (by rfl) (fun K hK => ?_); apply Exists.intro; refine ⟨fun W hW => ?_, ?_⟩; (focus (have hs0 := hW.cell q4; go_simp; (try rfl); done)); go_simp; refine hK _ ?_; clear hK K)
          | (refine wpPlan_callK (.int .u32 (n32 (rotr y4 6))) 160 #[.int .u32 (n32 y4), .int .i64 (-6)] (by rfl) ?_ (fun W hW => (r6.out y4 W).mono fun e w' h => ⟨h.1, by rw [← h.2]; exact Ext.refl _⟩) (fun K hK => ?_); (focus (intro W; go_simp; done)); go_simp; refine hK _ ?_; clear hK K)
          | (refine wpPlan_callK (.int .u32 (n32 (rotr y4 11))) 160 #[.int .u32 (n32 y4), .int .i64 (-11)] (by rfl) ?_ (fun W hW => (r11.out y4 W).mono fun e w' h => ⟨h.1, by rw [← h.2]; exact Ext.refl _⟩) (fun K hK => ?_); (focus (intro W; go_simp; done)); go_simp; refine hK _ ?_; clear hK K)
          | (refine wpPlan_callK (.int .u32 (n32 (rotr y4 25))) 160 #[.int .u32 (n32 y4), .int .i64 (-25)] (by rfl) ?_ (fun W hW => (r25.out y4 W).mono fun e w' h => ⟨h.1, by rw [← h.2]; exact Ext.refl _⟩) (fun K hK => ?_); (focus (intro W; go_simp; done)); go_simp; refine hK _ ?_; clear hK K))
        refine wpPlan_nil (fun W1 hW0 => ?_)
        simp only [List.drop_succ_cons, List.drop_zero, List.drop_nil]
        replace q0 := hW0.drew_left.cell q0
        replace q1 := hW0.drew_left.cell q1
        replace q2 := hW0.drew_left.cell q2
        replace q3 := hW0.drew_left.cell q3
        replace q4 := hW0.drew_left.cell q4
        replace q5 := hW0.drew_left.cell q5
        replace q6 := hW0.drew_left.cell q6
        replace q7 := hW0.drew_left.cell q7
        replace qw := hW0.drew_left.cell qw
        replace qk := hW0.drew_left.cell qk
        have d7 := hideP (Row.ext hV.out.2.2.1 hW0.drew_left)
        have d5 := hideP (Row.ext hV.out.2.2.2.1 hW0.drew_left)
        have d6 := hideP (Row.ext hV.out.2.2.2.2.1 hW0.drew_left)
        have c1 := hideP (Row.ext hV.out.2.2.2.2.2.1 hW0.drew_left)
        have c2 := hideP (Row.ext hV.out.2.2.2.2.2.2.1 hW0.drew_left)
        have cb := hideP (below_ext hV.out.2.2.2.2.2.2.2 hW0.drew_left)
        have hvl := hideP hV.out.2.1
        clear hV hW0
        go_wp2_with fail
        refine wp_region_eager 26 [(true, 0), (true, 1), (true, 2), (true, 3), (true, 4), (true, 5), (true, 6), (true, 7), (true, 8), (true, 9), (true, 10), (true, 11), (true, 12), (true, 13), (true, 14), (true, 15), (true, 16), (true, 17), (true, 18), (true, 19), (true, 20), (true, 21), (true, 22), (true, 23), (true, 24), (true, 25)] (by kernel_rfl) (by kernel_rfl) ?_
        simp only [pick, List.map_cons, List.map_nil, nthO_zero, nthO_succ]
        repeat (first
          | (refine wpPlan_skipK (by rfl) (fun K hK => ?_); go_simp; refine hK _ ?_; clear hK K)
          | (refine wpPlan_valK (by rfl) (fun K hK => ?_); apply Exists.intro; refine ⟨fun W hW => ?_, ?_⟩; (focus (have hs0 := hW.cell q4; have hs1 := hW.cell q5; have hs2 := hW.cell q6; have hs3 := hW.cell q7; have hs4 := hW.cell qk; have hs5 := hW.cell qw; go_simp; (try rfl); done)); go_simp; refine hK _ ?_; clear hK K))
        refine wpPlan_nil (fun W2 hW0 => ?_)
        simp only [List.drop_succ_cons, List.drop_zero, List.drop_nil]
        replace q0 := hW0.drew_left.cell q0
        replace q1 := hW0.drew_left.cell q1
        replace q2 := hW0.drew_left.cell q2
        replace q3 := hW0.drew_left.cell q3
        replace q4 := hW0.drew_left.cell q4
        replace q5 := hW0.drew_left.cell q5
        replace q6 := hW0.drew_left.cell q6
        replace d7 := hideP (Row.ext d7.out hW0.drew_left)
        replace d5 := hideP (Row.ext d5.out hW0.drew_left)
        replace d6 := hideP (Row.ext d6.out hW0.drew_left)
        replace c1 := hideP (Row.ext c1.out hW0.drew_left)
        replace c2 := hideP (Row.ext c2.out hW0.drew_left)
        replace cb := hideP (below_ext cb.out hW0.drew_left)
        clear hW0 q7 qw qk
        obtain ⟨yo, eo⟩ : ∃ x, x = y7 + (rotr y4 6 ^^^ rotr y4 11 ^^^ rotr y4 25) + (y4 &&& y5 ^^^ ~~~ y4 &&& y6) + zk + zw := ⟨_, rfl⟩
        rw [← eo] at hE ⊢
        clear eo
        go_wp2_with fail
        refine wp_region_eager 12 [(true, 0), (true, 1), (true, 2), (true, 3), (true, 4), (true, 5), (true, 6), (true, 7), (true, 8), (true, 9), (true, 10), (true, 11)] (by kernel_rfl) (by kernel_rfl) ?_
        simp only [pick, List.map_cons, List.map_nil, nthO_zero, nthO_succ]
        repeat (first
          | (refine wpPlan_skipK (by rfl) (fun K hK => ?_); go_simp; refine hK _ ?_; clear hK K)
          | (refine wpPlan_valK (by rfl) (fun K hK => ?_); apply Exists.intro; refine ⟨fun W hW => ?_, ?_⟩; (focus (have hs0 := hW.cell q0; go_simp; (try rfl); done)); go_simp; refine hK _ ?_; clear hK K)
          | (refine wpPlan_callK (.int .u32 (n32 (rotr y0 2))) 160 #[.int .u32 (n32 y0), .int .i64 (-2)] (by rfl) ?_ (fun W hW => (r2.out y0 W).mono fun e w' h => ⟨h.1, by rw [← h.2]; exact Ext.refl _⟩) (fun K hK => ?_); (focus (intro W; go_simp; done)); go_simp; refine hK _ ?_; clear hK K)
          | (refine wpPlan_callK (.int .u32 (n32 (rotr y0 13))) 160 #[.int .u32 (n32 y0), .int .i64 (-13)] (by rfl) ?_ (fun W hW => (r13.out y0 W).mono fun e w' h => ⟨h.1, by rw [← h.2]; exact Ext.refl _⟩) (fun K hK => ?_); (focus (intro W; go_simp; done)); go_simp; refine hK _ ?_; clear hK K)
          | (refine wpPlan_callK (.int .u32 (n32 (rotr y0 22))) 160 #[.int .u32 (n32 y0), .int .i64 (-22)] (by rfl) ?_ (fun W hW => (r22.out y0 W).mono fun e w' h => ⟨h.1, by rw [← h.2]; exact Ext.refl _⟩) (fun K hK => ?_); (focus (intro W; go_simp; done)); go_simp; refine hK _ ?_; clear hK K))
        refine wpPlan_nil (fun W3 hW0 => ?_)
        simp only [List.drop_succ_cons, List.drop_zero, List.drop_nil]
        replace q0 := hW0.drew_left.cell q0
        replace q1 := hW0.drew_left.cell q1
        replace q2 := hW0.drew_left.cell q2
        replace q3 := hW0.drew_left.cell q3
        replace q4 := hW0.drew_left.cell q4
        replace q5 := hW0.drew_left.cell q5
        replace q6 := hW0.drew_left.cell q6
        replace d7 := hideP (Row.ext d7.out hW0.drew_left)
        replace d5 := hideP (Row.ext d5.out hW0.drew_left)
        replace d6 := hideP (Row.ext d6.out hW0.drew_left)
        replace c1 := hideP (Row.ext c1.out hW0.drew_left)
        replace c2 := hideP (Row.ext c2.out hW0.drew_left)
        replace cb := hideP (below_ext cb.out hW0.drew_left)
        clear hW0
        obtain ⟨Y, hY⟩ : ∃ Y, Y = rnds h b (k + 1) := ⟨_, rfl⟩
        rw [← hY] at hE
        have hYl := hideP (show Y.length = 8 by rw [← hE.out]; rfl)
        have hYs := hideP (show (Tryz.prog.info? 194).map (·.size) = some (Y.map v32).toArray.size by rw [size_w8]; simp [hYl.out])
        have hYo := hideP (show (v.map v32).toArray.size = (Y.map v32).toArray.size by simp [hYl.out, hvl.out])
        have HhY := hideP hY; clear hY
        go_wp2_with (refine wpList_store_row rfl 194 (.tmp 7) (.tmp 106) rfl g7 (Y.map v32).toArray rfl (by rw [← hE.out]; rfl) 194 (v.map v32).toArray d7.out hYs.out hYo.out (all_v32 Y) ?_)
        go_roundw
        case rel =>
          have hn := hN.out
          refine ⟨k + 1, Y, by omega, by go_num, HhY.out, hYl.out, Row.setRow d7.out _, Row.setRowOther d5.out (by omega) _, Row.setRowOther d6.out (by omega) _, Row.setRowOther c1.out (by omega) _, Row.setRowOther c2.out (by omega) _, below_setRow' cb.out (by omega) _⟩
        case measure => simp [intOf]; omega
      · have t' : decide ((k : Int) < 64) = false := by simp; omega
        have hkk : k = 64 := by omega
        have hv : v = rnds h b 64 := by rw [hV.out.1, hkk]
        have d7 := hideP hV.out.2.2.1
        have d5 := hideP hV.out.2.2.2.1
        have d6 := hideP hV.out.2.2.2.2.1
        have c1 := hideP hV.out.2.2.2.2.2.1
        have c2 := hideP hV.out.2.2.2.2.2.2.1
        have cb := hideP hV.out.2.2.2.2.2.2.2
        have hvl := hideP hV.out.2.1
        have Hhv := hideP hv; clear hv
        clear hV hkk hlt hk
        go_wp2_with fail
        go_loopw [108] (fun v108 wr => ∃ (j : Nat) (u : List UInt32), j ≤ 8 ∧ v108 = .int .i64 j ∧ Hid (u.length = 8 ∧ (∀ i, u.getD i 0 = if i < j then v.getD i 0 + h.getD i 0 else v.getD i 0) ∧ Row32 wr g7 194 u ∧ Row wr w.heap.size 194 Z ∧ Row wr (w.heap.size + 1) 194 (z8.map v32) ∧ Below w.heap.size w wr)) (fun v108 _ => 8 - (intOf v108).toNat)
        case atStart => exact ⟨0, v, by omega, rfl, hvl.out, fun i => by simp, d7.out, c1.out, c2.out, cb.out⟩
        case round =>
          clear d7 d5 d6 c1 c2 cb
          obtain ⟨j, u, hj, rfl, hV⟩ := hrel
          by_cases hlt : j < 8
          · have t'' : decide ((j : Int) < 8) = true := by simp; omega
            have q1 := Row32.cell hV.out.2.2.1 j (by rw [hV.out.1]; omega)
            have q2 : wr.cell? ⟨w.heap.size, j, none⟩ = some (v32 (h.getD j 0)) := by rw [Row.cell hV.out.2.2.2.1 j, HhZ.out]; simp [List.getD, List.getElem?_eq_getElem (show j < h.length by rw [Hhh.out]; exact hlt)]
            unfold v32 at q1 q2
            obtain ⟨x1, e1⟩ : ∃ x, x = u.getD j 0 := ⟨_, rfl⟩
            obtain ⟨x2, e2⟩ : ∃ x, x = h.getD j 0 := ⟨_, rfl⟩
            rw [← e1] at q1
            rw [← e2] at q2
            have i8 : (0 : Int) ≤ (j : Int) := by omega
            have i9 : (j : Int) < 8 := by omega
            have ra := n32_add
            have He1 := hideP e1; have He2 := hideP e2; clear e1 e2
            go_wp2_with fail
            refine wp_region_eager 8 [(true, 0), (true, 1), (true, 2), (true, 3), (true, 4), (true, 5), (true, 6), (true, 7)] (by kernel_rfl) (by kernel_rfl) ?_
            simp only [pick, List.map_cons, List.map_nil, nthO_zero, nthO_succ]
            repeat (first
              | (refine wpPlan_skipK (by rfl) (fun K hK => ?_); go_simp; refine hK _ ?_; clear hK K)
              | (refine wpPlan_valK (by rfl) (fun K hK => ?_); apply Exists.intro; refine ⟨fun W hW => ?_, ?_⟩; (focus (have hs0 := hW.cell q1; have hs1 := hW.cell q2; go_simp; (try rfl); done)); go_simp; refine hK _ ?_; clear hK K))
            refine wpPlan_nil (fun W1 hW0 => ?_)
            simp only [List.drop_succ_cons, List.drop_zero, List.drop_nil]
            have d7 := Row.ext hV.out.2.2.1 hW0.drew_left
            have c1 := hideP (Row.ext hV.out.2.2.2.1 hW0.drew_left)
            have c2 := hideP (Row.ext hV.out.2.2.2.2.1 hW0.drew_left)
            have cb := hideP (below_ext hV.out.2.2.2.2.2 hW0.drew_left)
            have hs1 := Row32.cell d7 j (by rw [hV.out.1]; omega)
            have hs2 := Row.fz d7 j
            have D7 := hideP (Row32.set d7 j (x1 + x2))
            have hn := hN.out
            replace c1 := hideP (Row.setOther c1.out (a := ⟨g7, j, none⟩) (by simp; omega) (v32 (x1 + x2)))
            replace c2 := hideP (Row.setOther c2.out (a := ⟨g7, j, none⟩) (by simp; omega) (v32 (x1 + x2)))
            replace cb := hideP (cb.out.setCell (p := ⟨g7, j, none⟩) (by simp; omega) (v32 (x1 + x2)))
            have hul := hideP hV.out.1
            have hui := hideP hV.out.2.1
            clear d7 hV hW0 q1 q2 ra hn
            go_wp2_with fail
            clear hs1 hs2
            go_roundw
            case rel =>
              refine ⟨j + 1, u.set j (x1 + x2), by omega, by go_num, by rw [List.length_set]; exact hul.out, fun i => ?_, D7.out, c1.out, c2.out, cb.out⟩
              unfold List.getD
              rw [List.getElem?_set]
              by_cases e : j = i
              · subst e
                rw [if_pos rfl, if_pos (by rw [hul.out]; exact hlt), if_pos (by omega)]
                have := hui.out j
                rw [if_neg (by omega)] at this
                simp only [Option.getD_some]
                rw [He1.out, He2.out, this]; rfl
              · rw [if_neg e]
                have := hui.out i
                unfold List.getD at this
                rw [this]
                by_cases e2 : i < j
                · rw [if_pos e2, if_pos (by omega)]
                · rw [if_neg e2, if_neg (by omega)]
            case measure => simp [intOf]; omega
          · have t'' : decide ((j : Int) < 8) = false := by simp; omega
            have hjj : j = 8 := by omega
            have hres : u = turnS h b := by
              refine List.ext_getElem? fun i => ?_
              unfold turnS
              rcases Nat.lt_or_ge i 8 with hi | hi
              · have := hV.out.2.1 i
                rw [if_pos (by omega), Hhv.out] at this
                unfold List.getD at this
                rw [List.getElem?_eq_getElem (by rw [hV.out.1]; exact hi)] at this ⊢
                simp [hi]; simpa [List.getD] using this
              · rw [List.getElem?_eq_none (by rw [hV.out.1]; exact hi)]; simp [hi]
            have d7 := hideP hV.out.2.2.1
            have c2 := hideP hV.out.2.2.2.2.1
            have cb := hideP hV.out.2.2.2.2.2
            have hul := hideP hV.out.1
            have hn := hideP hN.out.2.2.1
            have Hhres := hideP hres; clear hres
            clear hV hjj hlt hj
            obtain ⟨Y, hY⟩ : ∃ Y, Y = u.map v32 := ⟨_, rfl⟩
            have D7 := hideP (show Row wr g7 194 Y by rw [hY]; exact d7.out)
            have hYl := hideP (show Y.length = 8 by rw [hY]; simp [hul.out])
            have hYs := hideP (show (Tryz.prog.info? 194).map (·.size) = some Y.toArray.size by rw [size_w8]; simp [hYl.out])
            have hYo := hideP (show (z8.map v32).toArray.size = Y.toArray.size by simp [hYl.out]; rfl)
            have hYa := hideP (show Y.toArray.all (·.oneCell') = true by rw [hY]; exact all_v32 u)
            have HhY := hideP hY; clear hY
            go_wp2_with (first
              | (refine wpList_load_row rfl 194 (.tmp 7) rfl g7 rfl 194 Y.toArray (0, 0) _ D7.out Tryz.underlying194 rfl hYs.out ?_)
              | (refine wpList_store_row rfl 194 (.tmp 4) (.tmp 120) rfl (w.heap.size + 1) Y.toArray rfl rfl 194 (z8.map v32).toArray c2.out hYs.out hYo.out hYa.out ?_))
            refine ret_row rfl rfl (Row.setRow c2.out Y) Tryz.underlying194 (by rw [size_w8, hYl.out]) rfl ⟨by rw [HhY.out, Hhres.out], ?_⟩
            exact below_setRow' cb.out (by omega) _
end Go.Proofs.YtedokpgkjcnoiaaGreat
