/- Contract of block.ReadHead. -/
import Derived.Deep.MidRow
import Derived.Test.YtiicdnbhphgieaaK34
set_option linter.unusedVariables false
set_option linter.unusedSimpArgs false
namespace Go.Proofs.Ytiicdnbhphgieaa
open Go.RowKit
theorem fold_head32 (a0 a1 a2 a3 a4 a5 a6 a7 a8 a9 a10 a11 a12 a13 a14 a15 a16 a17 a18 a19 a20 a21 a22 a23 a24 a25 a26 a27 a28 a29 a30 a31 : Nat) : List.foldl (fun cs (x : Value × Nat) => Array.setIfInBounds cs x.2 x.1) Try.zeroCells48 ([a0, a1, a2, a3, a4, a5, a6, a7, a8, a9, a10, a11, a12, a13, a14, a15, a16, a17, a18, a19, a20, a21, a22, a23, a24, a25, a26, a27, a28, a29, a30, a31].map b8).zipIdx = (headC ⟨[a0, a1, a2, a3, a4, a5, a6, a7, a8, a9, a10, a11, a12, a13, a14, a15, a16, a17, a18, a19, a20, a21, a22, a23, a24, a25, a26, a27, a28, a29, a30, a31], 0, List.replicate 32 0, List.replicate 32 0⟩).toArray := by kernel_rfl
theorem fold_head (p : List Nat) (hp : p.length = 32) : List.foldl (fun cs (x : Value × Nat) => Array.setIfInBounds cs x.2 x.1) Try.zeroCells48 (p.map b8).zipIdx = (headC ⟨p, 0, List.replicate 32 0, List.replicate 32 0⟩).toArray := by
  match p, hp with
  | [a0, a1, a2, a3, a4, a5, a6, a7, a8, a9, a10, a11, a12, a13, a14, a15, a16, a17, a18, a19, a20, a21, a22, a23, a24, a25, a26, a27, a28, a29, a30, a31], _ => exact fold_head32 a0 a1 a2 a3 a4 a5 a6 a7 a8 a9 a10 a11 a12 a13 a14 a15 a16 a17 a18 a19 a20 a21 a22 a23 a24 a25 a26 a27 a28 a29 a30 a31
theorem headC_lit : (headC headZ).toArray = Try.zeroCells48 := rfl
/-- what ReadHead answers -/
def HeadGot (w : World) (g : Option HeadD) (e : Ending) (w' : World) : Prop :=
  Below w.heap.size w w' ∧ ((g = none ∧ e = .returned (.tuple #[.agg (headC headZ).toArray, .int .i64 21])) ∨ ∃ h, g = some h ∧ e = .returned (.tuple #[.agg (headC h).toArray, .int .i64 0]))
theorem all_one {cs : List Value} (h : ∀ v ∈ cs, v.oneCell' = true) : cs.toArray.all (·.oneCell') = true := Array.all_eq_true_iff_forall_mem.2 (fun v hv => h v (by simpa using hv))
theorem headC_one (h : HeadD) : (headC h).toArray.all (·.oneCell') = true := all_one fun v hv => by
  simp only [headC, List.mem_append, List.mem_cons, List.mem_map] at hv
  rcases hv with ⟨_, _, rfl⟩ | rfl | ⟨_, _, rfl⟩ | ⟨_, _, rfl⟩ <;> rfl
theorem there_row {w : World} {g : Nat} {T : TypeId} {cs : List Value} (r : Row w g T cs) (o n : Nat) (h : o + n ≤ cs.length) : w.there g o n := fun j hj => by
  refine ⟨?_, Row.fz r (o + j)⟩
  rw [Row.cell r (o + j), List.getElem?_eq_getElem (by omega)]; rfl
theorem row_setOps {w : World} {g : Nat} {T : TypeId} {p o t : List Nat} {n : Int} (r : Row w g T (headC ⟨p, n, o, t⟩)) (x : List Nat) (hp : p.length = 32) (ho : o.length = x.length) : Row (w.setCells g 33 (x.map b8)) g T (headC ⟨p, n, x, t⟩) := by
  have := Row.setCells (x.map b8) 33 r
  have e : headC ⟨p, n, o, t⟩ = (p.map b8 ++ [.int .i64 n]) ++ o.map b8 ++ t.map b8 := by simp [headC]
  rw [e, show (33 : Nat) = (p.map b8 ++ [Value.int .i64 n]).length by simp [hp], setL_mid _ _ _ _ (by simp [ho])] at this
  rw [show headC ⟨p, n, x, t⟩ = (p.map b8 ++ [.int .i64 n]) ++ x.map b8 ++ t.map b8 by simp [headC], show (33 : Nat) = (p.map b8 ++ [Value.int .i64 n]).length by simp [hp]]
  exact this
theorem row_setTabs {w : World} {g : Nat} {T : TypeId} {p o t : List Nat} {n : Int} (r : Row w g T (headC ⟨p, n, o, t⟩)) (x : List Nat) (hp : p.length = 32) (ho : o.length = 32) (ht : t.length = x.length) : Row (w.setCells g 65 (x.map b8)) g T (headC ⟨p, n, o, x⟩) := by
  have := Row.setCells (x.map b8) 65 r
  have e : headC ⟨p, n, o, t⟩ = (p.map b8 ++ ([.int .i64 n] ++ o.map b8)) ++ t.map b8 ++ [] := by simp [headC]
  rw [e, show (65 : Nat) = (p.map b8 ++ ([Value.int .i64 n] ++ o.map b8)).length by simp [hp, ho], setL_mid _ _ _ _ (by simp [ht])] at this
  rw [show headC ⟨p, n, o, x⟩ = (p.map b8 ++ ([.int .i64 n] ++ o.map b8)) ++ x.map b8 ++ [] by simp [headC], show (65 : Nat) = (p.map b8 ++ ([Value.int .i64 n] ++ o.map b8)).length by simp [hp, ho]]
  exact this
theorem row_setNum {w : World} {g : Nat} {T : TypeId} {p o t : List Nat} {n : Int} (r : Row w g T (headC ⟨p, n, o, t⟩)) (x : Int) (hp : p.length = 32) : Row (w.setCell ⟨g, 32, none⟩ (.int .i64 x)) g T (headC ⟨p, x, o, t⟩) := by
  have := Row.set r 32 (.int .i64 x)
  rw [show headC ⟨p, n, o, t⟩ = p.map b8 ++ (.int .i64 n :: (o.map b8 ++ t.map b8)) from rfl, List.set_append_right _ _ (by simp [hp])] at this
  simpa [headC, hp] using this
theorem rDig_len (l : List Nat) (e : Int) : (rDig l e).length = 32 := by
  unfold rDig
  rcases hq : rTake 32 l e with ⟨_ | t, m⟩
  · rfl
  · unfold rTake at hq
    split at hq
    · cases hq
    · split at hq
      · cases hq
      · injection hq with hq _; injection hq with hq; subst hq; simp; omega
theorem head_numL {w : World} {g : Nat} {T : TypeId} {h : HeadD} (k : h.prev.length = 32) (r : Row w g T (headC h)) : w.cell? ⟨g, 32, none⟩ = some (.int .i64 h.num) := by
  rw [Row.cell r]; unfold headC; rw [List.getElem?_append_right (by simp [k])]; simp [k]
set_option maxRecDepth 100000 in
set_option maxHeartbeats 4000000 in
theorem breadhead_any (A : Option Addr) (b : List Nat) (n c : Nat) (w : World) (hnn : n = b.length) (hA : Arr w w.heap.size A n (u8s b)) (hI : IsB b) (hn : n ≤ 100000000) :
    Calls Try.prog 37 #[.slice A n c] w (HeadGot w (rHead b)) := by
  obtain ⟨RS, hRS⟩ : ∃ RS, RS = rHead b := ⟨_, rfl⟩
  rw [← hRS]
  obtain ⟨v, hv⟩ : ∃ v, v = w.alloc (.cells (headC headZ).toArray 48) := ⟨_, rfl⟩
  obtain ⟨z, hz⟩ : ∃ z, z = w.heap.size := ⟨_, rfl⟩
  have Z0 := hideP (show Row v z 48 (headC headZ) by rw [hv, hz]; exact Row.new w _ _)
  have B0 := hideP (show Below w.heap.size w v by rw [hv]; exact below_new w _)
  have hN := hideP (rnew_any A b c v (by rw [← hnn]; exact hA.after B0.out) hI (by omega))
  rw [← hnn] at hN
  have Hv := hideP hv
  have Hz := hideP hz
  rw [headC_lit] at Hv
  -- what is read
  have hD1 := fun g W (h : Rd W g b 0) => rdig_any g b 0 W h
  unfold rHead at hRS
  obtain ⟨p, hp⟩ : ∃ p, p = rDig b 0 := ⟨_, rfl⟩
  have lp := hideP (rDig_len b 0)
  obtain ⟨⟨o1, l1, e1⟩, q1⟩ : ∃ q, q = rTake 32 b 0 := ⟨_, rfl⟩
  rw [← hp, ← q1] at hD1 hRS
  rw [← hp] at lp
  dsimp only at hD1 hRS
  have hD2 := fun g W (h : Rd W g l1 e1) => rnum_any g l1 e1 W h
  obtain ⟨m, hm⟩ : ∃ m, m = rNum l1 e1 := ⟨_, rfl⟩
  obtain ⟨⟨o2, l2, e2⟩, q2⟩ : ∃ q, q = rTake 8 l1 e1 := ⟨_, rfl⟩
  rw [← hm, ← q2] at hD2 hRS
  dsimp only at hD2 hRS
  have hD3 := fun g W (h : Rd W g l2 e2) => rdig_any g l2 e2 W h
  obtain ⟨o, ho⟩ : ∃ p, p = rDig l2 e2 := ⟨_, rfl⟩
  have lo := hideP (rDig_len l2 e2)
  obtain ⟨⟨o3, l3, e3⟩, q3⟩ : ∃ q, q = rTake 32 l2 e2 := ⟨_, rfl⟩
  rw [← ho, ← q3] at hD3 hRS
  rw [← ho] at lo
  dsimp only at hD3 hRS
  have hD4 := fun g W (h : Rd W g l3 e3) => rdig_any g l3 e3 W h
  obtain ⟨t, ht⟩ : ∃ p, p = rDig l3 e3 := ⟨_, rfl⟩
  have lt := hideP (rDig_len l3 e3)
  obtain ⟨⟨o4, l4, e4⟩, q4⟩ : ∃ q, q = rTake 32 l3 e3 := ⟨_, rfl⟩
  rw [← ht, ← q4] at hD4 hRS
  rw [← ht] at lt
  dsimp only at hD4 hRS
  have hD5 := fun g W (h : Rd W g l4 e4) => rend_any g l4 e4 W h
  obtain ⟨ee, hee⟩ : ∃ ee, ee = rEnd l4 e4 := ⟨_, rfl⟩
  rw [← hee] at hD5 hRS
  have HRS := hideP hRS
  have s1 := hideP (size_d32 lp.out)
  have s2 := hideP (size_d32 lo.out)
  have s3 := hideP (size_d32 lt.out)
  unfold dg at hD1 hD3 hD4
  have HhD1 := hideP hD1; have HhD2 := hideP hD2; have HhD3 := hideP hD3; have HhD4 := hideP hD4; have HhD5 := hideP hD5; clear hD1 hD2 hD3 hD4 hD5
  clear hv hz hp hm ho ht hee q1 q2 q3 q4 hRS hnn hA hI hn
  go_enter Try.func37, Try.ntmps37
  go_upto_region 1 with fail
  rw [← Hz.out, ← Hv.out]
  go_upto_region 2 with (go_at_call 64; refine hN.out.mono ?_; rintro e1_ w1 ⟨g, rfl, hg_, b1_, s1_⟩; have B1 := hideP (bstep B0.out b1_); have R1 := hideP s1_; have hgz := hideP (show z < g from Nat.lt_of_lt_of_le (Row.lt Z0.out) hg_); have Z1 := hideP (Row.after Z0.out b1_); clear b1_ s1_ hg_)
  have hwz := hideP (show w.heap.size ≤ z by rw [Hz.out]; exact Nat.le_refl _)
  have hgb := hideP (show ∀ W W', Rd W g b 0 → But (fun k => k = g) W W' → Below (z + 1) W W' from fun W W' h k => ⟨k.os, k.tape, k.output, k.size, fun j hj => k.block j (by have := h.lt; have := hgz.out; omega) (by have := hgz.out; omega)⟩)
  have hF := fold_head p lp.out
  obtain ⟨C0, hC0⟩ : ∃ C, C = headC ⟨p, 0, List.replicate 32 0, List.replicate 32 0⟩ := ⟨_, rfl⟩
  have l32 := lp.out
  have h97 : C0.length = 97 := by rw [hC0]; simp [headC, lp.out]
  have hs := hideP (size_h97 h97)
  have ho := hideP (show C0.toArray.all (·.oneCell') = true by rw [hC0]; exact headC_one _)
  have hs2 := hideP (show (headC headZ).toArray.size = C0.toArray.size by rw [List.size_toArray, List.size_toArray, h97]; rfl)
  rw [← hC0] at hF
  have HC0 := hideP hC0
  clear hC0
  go_upto_region 3 with (first
    | (go_at_call 90; refine (HhD1.out g _ R1.out).mono ?_; rintro e_ w2 ⟨rfl, b_, s_⟩; have R2 := hideP s_; have Z2 := hideP (row_but b_ Z1.out (by have := hgz.out; omega)); have B2 := hideP (B1.out.trans (R1.out.butBelow b_ (by have := hgz.out; have := hwz.out; omega))); clear b_ s_)
    | (refine wpList_store_row rfl 48 (.tmp 5) (.tmp 11) rfl w2.heap.size C0.toArray rfl rfl 48 (headC headZ).toArray (Row.new w2 48 (headC headZ)) hs.out hs2.out ho.out ?_))
  obtain ⟨x, hx⟩ : ∃ x, x = w2.heap.size := ⟨_, rfl⟩
  obtain ⟨v2, hv2⟩ : ∃ v, v = (w2.alloc (.cells Try.zeroCells48 48)).setRow x C0.toArray := ⟨_, rfl⟩
  rw [← hx, ← hv2]
  have hb2 : Below w2.heap.size w2 v2 := by rw [hv2, hx]; exact below_setRow' (below_new w2 _) (Nat.le_refl _) _
  have X2 := hideP (show Row v2 x 48 (headC ⟨p, 0, List.replicate 32 0, List.replicate 32 0⟩) by rw [hv2, hx, ← HC0.out]; exact Row.setRow (Row.new w2 48 (headC headZ)) C0)
  replace Z2 := hideP (Row.after Z2.out hb2)
  replace B2 := hideP (bstep B2.out hb2)
  have hxg := hideP (show g < x by rw [hx]; exact R2.out.lt)
  replace R2 := hideP (R2.out.after hb2)
  have hwx := hideP (show w.heap.size ≤ x by have := hxg.out; have := hgz.out; have := hwz.out; omega)
  have hzx := hideP (show z ≠ x by have := hxg.out; have := hgz.out; omega)
  have hgw := hideP (show w.heap.size ≤ g by have := hgz.out; have := hwz.out; omega)
  clear hv2 hb2 hF l32 h97 hs hs2 ho HC0 R1 Z1 B1 hx
  go_upto_region 4 with (go_at_call 91; refine (HhD2.out g _ R2.out).mono ?_; rintro e_ w3 ⟨rfl, b_, s_⟩; have R3 := hideP s_; have Z3 := hideP (row_but b_ Z2.out (by have := hgz.out; omega)); have X3 := hideP (row_but b_ X2.out (by have := hxg.out; omega)); have B3 := hideP (B2.out.trans (R2.out.butBelow b_ hgw.out)); clear b_ s_)
  go_upto_region 5 with (first
    | (go_at_call 90; refine (HhD3.out g _ R3.out).mono ?_; rintro e_ w4 ⟨rfl, b_, s_⟩; have R4 := hideP s_; have Z4 := hideP (row_but b_ Z3.out (by have := hgz.out; omega)); have X4 := hideP (row_but b_ X3.out (by have := hxg.out; omega)); have B4 := hideP (B3.out.trans (R3.out.butBelow b_ hgw.out)); clear b_ s_)
    | (refine wpList_store_mid rfl 41 (.tmp 16) (.tmp 15) rfl x 33 (o.map b8).toArray rfl rfl (there_row X4.out 33 _ (by simp [headC, lp.out, lo.out])) (by rw [size_dig]; simp [lo.out]) (all_b8 o) ?_))
  obtain ⟨v4, hv4⟩ : ∃ v, v = w4.setCells x 33 (o.map b8) := ⟨_, rfl⟩
  rw [← hv4]
  have hb4 : Below x w4 v4 := by rw [hv4]; exact below_setCells (Nat.le_refl _) _ _ (Below.refl _ _)
  replace X4 := hideP (show Row v4 x 48 (headC ⟨p, 0, o, List.replicate 32 0⟩) by rw [hv4]; exact row_setOps X4.out o lp.out (by simp [lo.out]))
  replace Z4 := hideP (show Row v4 z 48 (headC headZ) from by rw [hv4]; exact (setCells_other x hzx.out _ _ _).trans Z4.out)
  replace B4 := hideP (B4.out.trans (hb4.mono hwx.out))
  replace R4 := hideP (R4.out.below hb4 hxg.out)
  clear hv4 hb4 R2 Z2 X2 B2 R3 Z3 X3 B3
  go_upto_region 6 with (first
    | (go_at_call 90; refine (HhD4.out g _ R4.out).mono ?_; rintro e_ w5 ⟨rfl, b_, s_⟩; have R5 := hideP s_; have Z5 := hideP (row_but b_ Z4.out (by have := hgz.out; omega)); have X5 := hideP (row_but b_ X4.out (by have := hxg.out; omega)); have B5 := hideP (B4.out.trans (R4.out.butBelow b_ hgw.out)); clear b_ s_)
    | (refine wpList_store_mid rfl 41 (.tmp 19) (.tmp 18) rfl x 65 (t.map b8).toArray rfl rfl (there_row X5.out 65 _ (by simp [headC, lp.out, lo.out, lt.out])) (by rw [size_dig]; simp [lt.out]) (all_b8 t) ?_))
  obtain ⟨v5, hv5⟩ : ∃ v, v = w5.setCells x 65 (t.map b8) := ⟨_, rfl⟩
  rw [← hv5]
  have hb5 : Below x w5 v5 := by rw [hv5]; exact below_setCells (Nat.le_refl _) _ _ (Below.refl _ _)
  replace X5 := hideP (show Row v5 x 48 (headC ⟨p, 0, o, t⟩) by rw [hv5]; exact row_setTabs X5.out t lp.out lo.out (by simp [lt.out]))
  replace Z5 := hideP (show Row v5 z 48 (headC headZ) from by rw [hv5]; exact (setCells_other x hzx.out _ _ _).trans Z5.out)
  replace B5 := hideP (B5.out.trans (hb5.mono hwx.out))
  replace R5 := hideP (R5.out.below hb5 hxg.out)
  clear hv5 hb5 R4 Z4 X4 B4
  have bad : (¬ (ee = 0 ∧ 0 ≤ m ∧ m ≤ 1099511627776)) → RS = none := fun h => by rw [HRS.out, if_neg h]
  have Hbad := hideP bad
  have hsz := hideP (size_h97 (show (headC headZ).length = 97 from rfl))
  clear bad
  have hz1 := hideP (headC_one headZ)
  by_cases c1 : ee = 0
  · subst c1
    by_cases c2 : 0 ≤ m
    · have c2' : decide (m < 0) = false := by simpa using c2
      by_cases c3 : m ≤ 1099511627776
      · have c3' : decide (1099511627776 < m) = false := by simpa using c3
        have hG := hideP (show RS = some ⟨p, m, o, t⟩ by rw [HRS.out, if_pos ⟨rfl, c2, c3⟩])
        have hsM := hideP (size_h97 (show (headC ⟨p, m, o, t⟩).length = 97 by simp [headC, lp.out, lo.out, lt.out]))
        have hoM := hideP (show (headC headZ).toArray.size = (headC ⟨p, m, o, t⟩).toArray.size by simp [headC, headZ, lp.out, lo.out, lt.out])
        go_upto_region 8 with (go_at_call 68; refine (HhD5.out g _ R5.out).mono ?_; rintro e_ w6 ⟨rfl, b_, s_⟩; have Z6 := hideP (row_but b_ Z5.out (by have := hgz.out; omega)); have X6 := hideP (row_but b_ X5.out (by have := hxg.out; omega)); have B6 := hideP (B5.out.trans (R5.out.butBelow b_ hgw.out)); clear b_ s_)
        have k32 := head_numL (h := ⟨p, 0, o, t⟩) lp.out X6.out
        have f32 := X6.out.fz 32
        go_upto_region 9 with fail
        obtain ⟨v7, hv7⟩ : ∃ v, v = w6.setCell ⟨x, 32, none⟩ (.int .i64 m) := ⟨_, rfl⟩
        rw [← hv7]
        have X7 := hideP (show Row v7 x 48 (headC ⟨p, m, o, t⟩) by rw [hv7]; exact row_setNum X6.out m lp.out)
        have Z7 := hideP (show Row v7 z 48 (headC headZ) by rw [hv7]; exact Row.setOther Z6.out hzx.out _)
        have B7 := hideP (show Below w.heap.size w v7 by rw [hv7]; exact B6.out.setCell hwx.out _)
        clear hv7 k32 f32
        go_wp2_with (first
          | (refine wpList_load_row rfl 48 (.tmp 5) rfl x rfl 48 (headC ⟨p, m, o, t⟩).toArray (0, 0) _ X7.out Try.underlying48 rfl hsM.out ?_)
          | (refine wpList_store_row rfl 48 (.tmp 2) (.tmp 34) rfl z (headC ⟨p, m, o, t⟩).toArray rfl rfl 48 (headC headZ).toArray Z7.out hsM.out hoM.out (headC_one _) ?_))
        refine ret_rowt rfl rfl rfl (Row.setRow Z7.out (headC ⟨p, m, o, t⟩)) Try.underlying48 hsM.out rfl ⟨?_, .inr ⟨_, hG.out, rfl⟩⟩
        exact below_setRow' B7.out hwz.out _
      · have c3' : decide (1099511627776 < m) = true := by simp; omega
        have hG := hideP (Hbad.out fun h => c3 h.2.2)
        go_wp2_with (first
          | (go_at_call 68; refine (HhD5.out g _ R5.out).mono ?_; rintro e_ w6 ⟨rfl, b_, s_⟩; have Z6 := hideP (row_but b_ Z5.out (by have := hgz.out; omega)); have B6 := hideP (B5.out.trans (R5.out.butBelow b_ hgw.out)); clear b_ s_)
          | (refine wpList_store_row rfl 48 (.tmp 2) (.tmp 31) rfl z (headC headZ).toArray rfl rfl 48 (headC headZ).toArray Z6.out hsz.out rfl hz1.out ?_))
        refine ret_rowt rfl rfl rfl (Row.setRow Z6.out (headC headZ)) Try.underlying48 hsz.out rfl ⟨?_, .inl ⟨hG.out, rfl⟩⟩
        exact below_setRow' B6.out hwz.out _
    · have c2' : decide (m < 0) = true := by simp; omega
      have hG := hideP (Hbad.out fun h => c2 h.2.1)
      go_wp2_with (first
        | (go_at_call 68; refine (HhD5.out g _ R5.out).mono ?_; rintro e_ w6 ⟨rfl, b_, s_⟩; have Z6 := hideP (row_but b_ Z5.out (by have := hgz.out; omega)); have B6 := hideP (B5.out.trans (R5.out.butBelow b_ hgw.out)); clear b_ s_)
        | (refine wpList_store_row rfl 48 (.tmp 2) (.tmp 31) rfl z (headC headZ).toArray rfl rfl 48 (headC headZ).toArray Z6.out hsz.out rfl hz1.out ?_))
      refine ret_rowt rfl rfl rfl (Row.setRow Z6.out (headC headZ)) Try.underlying48 hsz.out rfl ⟨?_, .inl ⟨hG.out, rfl⟩⟩
      exact below_setRow' B6.out hwz.out _
  · have c1' : ((ee : Int) != 0) = true := by simpa using c1
    have hG := hideP (Hbad.out fun h => c1 h.1)
    go_wp2_with (first
      | (go_at_call 68; refine (HhD5.out g _ R5.out).mono ?_; rintro e_ w6 ⟨rfl, b_, s_⟩; have Z6 := hideP (row_but b_ Z5.out (by have := hgz.out; omega)); have B6 := hideP (B5.out.trans (R5.out.butBelow b_ hgw.out)); clear b_ s_)
      | (refine wpList_store_row rfl 48 (.tmp 2) (.tmp 31) rfl z (headC headZ).toArray rfl rfl 48 (headC headZ).toArray Z6.out hsz.out rfl hz1.out ?_))
    refine ret_rowt rfl rfl rfl (Row.setRow Z6.out (headC headZ)) Try.underlying48 hsz.out rfl ⟨?_, .inl ⟨hG.out, rfl⟩⟩
    exact below_setRow' B6.out hwz.out _
end Go.Proofs.Ytiicdnbhphgieaa
