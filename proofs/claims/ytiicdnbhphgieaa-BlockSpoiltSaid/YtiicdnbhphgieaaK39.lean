/- Contract of block.ReadBlock. -/
import Derived.Test.YtiicdnbhphgieaaK38
set_option linter.unusedVariables false
set_option linter.unusedSimpArgs false
namespace Go.Proofs.Ytiicdnbhphgieaa
open Go.RowKit
def rBlock (b : List Nat) : Option (HeadD × List OpD) :=
  let x := rText 1048576 b 0
  let y := rText 1048576 x.2.1 x.2.2
  if rEnd y.2.1 y.2.2 = 0 then
    match rHead x.1, readP y.1 with
    | some h, some l => if tagD 79 y.1 = h.ops then some (h, l) else none
    | _, _ => none
  else none
/-- what ReadBlock answers -/
def BlkGot (w : World) (g : Option (HeadD × List OpD)) (e : Ending) (w' : World) : Prop :=
  Below w.heap.size w w' ∧ ((g = none ∧ e = .returned (.tuple #[.agg (headC headZ).toArray, .slice none 0 0, .int .i64 21])) ∨
    ∃ h l R d ps n, g = some (h, l) ∧ n = l.length ∧ e = .returned (.tuple #[.agg (headC h).toArray, .slice R n d, .int .i64 0]) ∧ OpsH w' w.heap.size R l ps)
theorem rHead_ok {b : List Nat} (hb : IsB b) {h : HeadD} (e : rHead b = some h) : HeadOk h := (rHead_inv hb e).2.1
theorem isB_rText (most : Nat) (l : List Nat) (e : Int) (h : IsB l) : IsB (rText most l e).1 := by
  unfold rText
  dsimp only
  have h2 := (count_suf most l e).isB h
  unfold rTake
  split
  · intro i; simp
  · split
    · intro i; simp
    · exact isB_take h2 _
theorem OwnB.but {S : Nat → Prop} {w W : World} {base c : Nat} {A : Option Addr} {l : List Nat} (h : OwnB w base A c l) (b : But S w W) (hS : ∀ k, base ≤ k → ¬ S k) : OwnB W base A c l := by
  refine ⟨h.1, h.2.imp id ?_⟩
  rintro ⟨g, cap, cur, hv, hg, hh, r⟩
  exact ⟨g, cap, cur, hv, hg, (b.block g (Array.getElem?_eq_some_iff.1 hh).1 (hS g hg)).trans hh, r⟩
theorem reads_weak {w : World} {f : FuncId} {args : Array Value} {R : Option (List OpD)} (h : Calls Try.prog f args w (ReadsGot w R)) : Calls Try.prog f args w fun e w' => ∃ R m d g, e = .returned (.tuple #[.slice R m d, .int .i64 g]) ∧ Below w.heap.size w w' := by
  refine h.mono ?_
  rintro e w' ⟨b, (⟨_, rfl⟩ | ⟨m, R, d, ps, n, _, _, rfl, _⟩)⟩
  · exact ⟨_, _, _, _, rfl, b⟩
  · exact ⟨_, _, _, _, rfl, b⟩
set_option maxRecDepth 100000 in
set_option maxHeartbeats 4000000 in
theorem breadblock_any (A : Option Addr) (b : List Nat) (n c : Nat) (w : World) (hnn : n = b.length) (hA : Arr w w.heap.size A n (u8s b)) (hI : IsB b) (hn : n ≤ 100000000) :
    Calls Try.prog 28 #[.slice A n c] w (BlkGot w (rBlock b)) := by
  obtain ⟨RS, hRS⟩ : ∃ RS, RS = rBlock b := ⟨_, rfl⟩
  rw [← hRS]
  obtain ⟨v, hv⟩ : ∃ v, v = w.alloc (.cells (headC headZ).toArray 48) := ⟨_, rfl⟩
  obtain ⟨z, hz⟩ : ∃ z, z = w.heap.size := ⟨_, rfl⟩
  have Z0 := hideP (show Row v z 48 (headC headZ) by rw [hv, hz]; exact Row.new w _ _)
  have B0 := hideP (show Below w.heap.size w v by rw [hv]; exact below_new w _)
  have hN := hideP (rnew_any A b c v (by rw [← hnn]; exact hA.after B0.out) hI (by omega))
  rw [← hnn] at hN
  have Hv := hideP hv
  have Hz := hideP hz
  rw [headC_lit] at Hv
  have hwz := hideP (show w.heap.size ≤ z by rw [Hz.out]; exact Nat.le_refl _)
  have hsz := hideP (size_h97 (show (headC headZ).length = 97 from rfl))
  have hz1 := hideP (headC_one headZ)
  -- what is read
  have hT1 := fun g W (h : Rd W g b 0) => rtext_any g b 1048576 0 W h
  unfold rBlock at hRS
  have lx := hideP (rText_len 1048576 b 0)
  have sx := (text_suf 1048576 b 0).isB hI
  have ix := isB_rText 1048576 b 0 hI
  obtain ⟨⟨x, l1, e1⟩, q1⟩ : ∃ q, q = rText 1048576 b 0 := ⟨_, rfl⟩
  rw [← q1] at hT1 hRS lx sx ix
  dsimp only at hT1 hRS lx sx ix
  have hT2 := fun g W (h : Rd W g l1 e1) => rtext_any g l1 1048576 e1 W h
  have ly := hideP (rText_len 1048576 l1 e1)
  have iy := isB_rText 1048576 l1 e1 sx
  obtain ⟨⟨y, l2, e2⟩, q2⟩ : ∃ q, q = rText 1048576 l1 e1 := ⟨_, rfl⟩
  rw [← q2] at hT2 hRS ly iy
  dsimp only at hT2 hRS ly iy
  have hT3 := fun g W (h : Rd W g l2 e2) => rend_any g l2 e2 W h
  obtain ⟨ee, hee⟩ : ∃ ee, ee = rEnd l2 e2 := ⟨_, rfl⟩
  rw [← hee] at hT3 hRS
  have HRS := hideP hRS
  have HhT1 := hideP hT1; have HhT2 := hideP hT2; have HhT3 := hideP hT3; have Hix := hideP ix; have Hiy := hideP iy; clear hT1 hT2 hT3 ix iy
  clear hv hz hee q1 q2 hRS hnn hA hI hn sx
  go_enter Try.func28, Try.ntmps28
  go_upto_region 1 with fail
  rw [← Hz.out, ← Hv.out]
  go_upto_region 2 with (go_at_call 64; refine hN.out.mono ?_; rintro e1_ w1 ⟨g, rfl, hg_, b1_, s1_⟩; have B1 := hideP (bstep B0.out b1_); have R1 := hideP s1_; have hgz := hideP (show z < g from Nat.lt_of_lt_of_le (Row.lt Z0.out) hg_); have Z1 := hideP (Row.after Z0.out b1_); clear b1_ s1_ hg_)
  have hg1 := hideP R1.out.lt
  have hgw := hideP (show w.heap.size ≤ g by have := hgz.out; have := hwz.out; omega)
  go_upto_region 3 with (first
    | (go_at_call 82; refine (HhT1.out g _ R1.out).mono ?_; rintro e_ w2 ⟨X2, d2, rfl, o_, b_, s_⟩; have R2 := hideP s_; have O2 := hideP o_; have Z2 := hideP (row_but b_ Z1.out (by have := hgz.out; omega)); have B2 := hideP (B1.out.trans (R1.out.butBelow b_ hgw.out)); clear b_ s_ o_ R1 Z1)
    | (go_at_call 82; refine (HhT2.out g _ R2.out).mono ?_; rintro e_ w3 ⟨X3, d3, rfl, o_, b_, s_⟩; have R3 := hideP s_; have O3 := hideP o_; have Z3 := hideP (row_but b_ Z2.out (by have := hgz.out; omega)); have B3 := hideP (B2.out.trans (R2.out.butBelow b_ hgw.out)); have O2b := hideP (O2.out.but b_ fun k hk e => by have := hg1.out; omega); clear b_ s_ o_))
  by_cases c1 : ee = 0
  · subst c1
    go_upto_region 5 with (go_at_call 68; refine (HhT3.out g _ R3.out).mono ?_; rintro e_ w4 ⟨rfl, b_, s_⟩; have Z4 := hideP (row_but b_ Z3.out (by have := hgz.out; omega)); have B4 := hideP (B3.out.trans (R3.out.butBelow b_ hgw.out)); have P2 := hideP (O2b.out.but b_ fun k hk e => by have := hg1.out; omega); have P3 := hideP (O3.out.but b_ fun k hk e => by have := R2.out.lt; omega); clear b_ s_)
    have hH := hideP (breadhead_any X2 x x.length d2 w4 rfl P2.out.arr Hix.out (by have := lx.out; omega))
    have hO := hideP (fun W (hW : Below w4.heap.size w4 W) => breadops_any X3 y y.length d3 W rfl (P3.out.arr.after hW) Hiy.out (by have := ly.out; omega))
    have hHI := hideP (fun h => rHead_ok (h := h) Hix.out)
    have hSum := hideP (fun W (hW : Below w4.heap.size w4 W) => bopssum_any X3 y y.length d3 W rfl (P3.out.arr.after hW) Hiy.out (by have := ly.out; omega))
    have HR2 := hideP (show RS = match rHead x, readP y with | some h, some l => if tagD 79 y = h.ops then some (h, l) else none | _, _ => none by rw [HRS.out, if_pos trivial])
    obtain ⟨rh, hrh⟩ : ∃ q, q = rHead x := ⟨_, rfl⟩
    obtain ⟨ro, hro⟩ : ∃ q, q = readP y := ⟨_, rfl⟩
    rw [← hrh] at hH HR2 hHI
    rw [← hro] at hO HR2
    have hz4 := hideP (Row.lt Z4.out)
    clear hrh hro HRS R3 R2 O2b O2 O3 Z3 Z2 B3 B2 B1 HhT1 HhT2 HhT3 B0 Z0 Hv hN
    rcases rh with _ | h
    · have hG := hideP (show RS = none by rw [HR2.out])
      have hO2 := hideP (fun W hW => reads_weak (hO.out W hW))
      clear HR2 hO hSum hHI
      go_upto_region 6 with (first
        | (refine wpList_store_row rfl 48 (.tmp 8) (.tmp 25) rfl w5.heap.size (headC headZ).toArray rfl rfl 48 (headC headZ).toArray (Row.new w5 48 (headC headZ)) (size_h97 rfl) (rfl) (headC_one _) ?_)
        | (go_at_call 37; refine hH.out.mono ?_; rintro e_ w5 ⟨b5_, (⟨_, rfl⟩ | ⟨_, hc_, _⟩)⟩; rotate_left; (focus (exact absurd hc_ (by simp))); have Z5 := hideP (Row.after Z4.out b5_); have B5 := hideP (bstep B4.out b5_); have b5 := hideP b5_; clear b5_))
      obtain ⟨u, hu⟩ : ∃ u, u = w5.heap.size := ⟨_, rfl⟩
      obtain ⟨v6, hv6⟩ : ∃ v, v = (w5.alloc (.cells Try.zeroCells48 48)).setRow u (headC headZ).toArray := ⟨_, rfl⟩
      rw [← hu, ← hv6]
      have hb6 : Below w5.heap.size w5 v6 := by rw [hv6, hu]; exact below_setRow' (below_new w5 _) (Nat.le_refl _) _
      have Y6 := hideP (show Row v6 u 48 (headC headZ) by rw [hv6, hu]; exact Row.setRow (Row.new w5 48 (headC headZ)) (headC headZ))
      have Z6 := hideP (Row.after Z5.out hb6)
      have B6 := hideP (bstep B5.out hb6)
      have N6 := hideP (bstep b5.out hb6)
      clear hv6 hb6 hu
      go_upto_region 7 with (go_at_call 20; refine (hO2.out _ N6.out).mono ?_; rintro e_ w7 ⟨R7, m7, d7, f7, rfl, b7_⟩; have Z7 := hideP (Row.after Z6.out b7_); have B7 := hideP (bstep B6.out b7_); clear b7_)
      refine wp_region_eager 13 [(true, 0), (true, 1), (true, 2), (true, 3), (true, 4), (true, 5), (true, 6), (true, 7), (true, 8), (true, 9), (true, 10), (true, 11), (true, 12)] (by kernel_rfl) (by kernel_rfl) ?_
      simp only [pick, List.map_cons, List.map_nil, nthO_zero, nthO_succ]
      repeat (first
        | (refine wpPlan_skipK (by rfl) (fun K hK => ?_); go_simp; refine hK _ ?_; clear hK K)
        | (refine wpPlan_valK (by rfl) (fun K hK => ?_); apply Exists.intro; refine ⟨fun W hW => ?_, ?_⟩; (focus (go_simp; (try rfl); done)); go_simp; refine hK _ ?_; clear hK K))
      refine wpPlan_nil (fun w8 hW0 => ?_)
      simp only [List.drop_succ_cons, List.drop_zero, List.drop_nil]
      have Z8 := hideP (Row.ext Z7.out hW0.drew_left)
      have B8 := hideP (below_ext B7.out hW0.drew_left)
      clear hW0
      go_wp2_with (refine wpList_store_row rfl 48 (.tmp 2) (.tmp 45) rfl z (headC headZ).toArray rfl rfl 48 (headC headZ).toArray Z8.out hsz.out rfl hz1.out ?_)
      refine ret_rowt2 rfl rfl rfl rfl (Row.setRow Z8.out (headC headZ)) Try.underlying48 hsz.out rfl ⟨below_setRow' B8.out hwz.out _, .inl ⟨hG.out, rfl⟩⟩
    · have kk := hHI.out h rfl
      have sH := hideP (size_h97 kk.cells)
      have sO := hideP (show (headC headZ).toArray.size = (headC h).toArray.size by rw [List.size_toArray, List.size_toArray, kk.cells]; rfl)
      have KK := hideP kk
      clear hHI kk
      go_upto_region 6 with (first
        | (refine wpList_store_row rfl 48 (.tmp 8) (.tmp 25) rfl w5.heap.size (headC h).toArray rfl rfl 48 (headC headZ).toArray (Row.new w5 48 (headC headZ)) (sH.out) (sO.out) (headC_one _) ?_)
        | (go_at_call 37; refine hH.out.mono ?_; rintro e_ w5 ⟨b5_, (⟨hc_, _⟩ | ⟨_, hc_, rfl⟩)⟩; (focus (exact absurd hc_ (by simp))); injection hc_ with hc_; subst hc_; have Z5 := hideP (Row.after Z4.out b5_); have B5 := hideP (bstep B4.out b5_); have b5 := hideP b5_; clear b5_))
      obtain ⟨u, hu⟩ : ∃ u, u = w5.heap.size := ⟨_, rfl⟩
      obtain ⟨v6, hv6⟩ : ∃ v, v = (w5.alloc (.cells Try.zeroCells48 48)).setRow u (headC h).toArray := ⟨_, rfl⟩
      rw [← hu, ← hv6]
      have hb6 : Below w5.heap.size w5 v6 := by rw [hv6, hu]; exact below_setRow' (below_new w5 _) (Nat.le_refl _) _
      have Y6 := hideP (show Row v6 u 48 (headC h) by rw [hv6, hu]; exact Row.setRow (Row.new w5 48 (headC headZ)) (headC h))
      have Z6 := hideP (Row.after Z5.out hb6)
      have B6 := hideP (bstep B5.out hb6)
      have N6 := hideP (bstep b5.out hb6)
      clear hv6 hb6 hu
      rcases ro with _ | m
      · have hG := hideP (show RS = none by rw [HR2.out])
        clear HR2 hSum
        go_upto_region 7 with (go_at_call 20; refine (hO.out _ N6.out).mono ?_; rintro e_ w7 ⟨b7_, (⟨_, rfl⟩ | ⟨_, _, _, _, _, hc_, _⟩)⟩; rotate_left; (focus (exact absurd hc_ (by simp))); have Z7 := hideP (Row.after Z6.out b7_); have B7 := hideP (bstep B6.out b7_); clear b7_)
        refine wp_region_eager 13 [(true, 0), (true, 1), (true, 2), (true, 3), (true, 4), (true, 5), (true, 6), (true, 7), (true, 8), (true, 9), (true, 10), (true, 11), (true, 12)] (by kernel_rfl) (by kernel_rfl) ?_
        simp only [pick, List.map_cons, List.map_nil, nthO_zero, nthO_succ]
        repeat (first
          | (refine wpPlan_skipK (by rfl) (fun K hK => ?_); go_simp; refine hK _ ?_; clear hK K)
          | (refine wpPlan_valK (by rfl) (fun K hK => ?_); apply Exists.intro; refine ⟨fun W hW => ?_, ?_⟩; (focus (go_simp; (try rfl); done)); go_simp; refine hK _ ?_; clear hK K))
        refine wpPlan_nil (fun w8 hW0 => ?_)
        simp only [List.drop_succ_cons, List.drop_zero, List.drop_nil]
        have Z8 := hideP (Row.ext Z7.out hW0.drew_left)
        have B8 := hideP (below_ext B7.out hW0.drew_left)
        clear hW0
        go_wp2_with (refine wpList_store_row rfl 48 (.tmp 2) (.tmp 45) rfl z (headC headZ).toArray rfl rfl 48 (headC headZ).toArray Z8.out hsz.out rfl hz1.out ?_)
        refine ret_rowt2 rfl rfl rfl rfl (Row.setRow Z8.out (headC headZ)) Try.underlying48 hsz.out rfl ⟨below_setRow' B8.out hwz.out _, .inl ⟨hG.out, rfl⟩⟩
      · go_upto_region 7 with (go_at_call 20; refine (hO.out _ N6.out).mono ?_; rintro e_ w7 ⟨b7_, (⟨hc_, _⟩ | ⟨_, R7, d7, ps, k7, hc_, hk_, rfl, ol_⟩)⟩; (focus (exact absurd hc_ (by simp))); injection hc_ with hc_; subst hc_; have Z7 := hideP (Row.after Z6.out b7_); have B7 := hideP (bstep B6.out b7_); have Y7 := hideP (Row.after Y6.out b7_); have L7 := hideP (ol_.mono (Nat.le_trans hz4.out N6.out.size)); have hk7 := hideP hk_; have N7 := hideP (bstep N6.out b7_); clear b7_ ol_ hk_)
        have hn1 := run_neq_dge (tagD 79 y) h.ops (by simp [tagD, dig]) KK.out.o (isB_tagD _ _) KK.out.oB
        have p7 := hideP (head_ops KK.out Y7.out)
        have ls := hideP (size_d32 KK.out.o)
        have hS7 := hideP (fun W (hW : Ext w7 W) => hSum.out W (N7.out.trans ((hW.below).mono N7.out.size)))
        obtain ⟨T, hT⟩ : ∃ T, T = tagD 79 y := ⟨_, rfl⟩
        obtain ⟨O, hO2⟩ : ∃ T, T = h.ops := ⟨_, rfl⟩
        obtain ⟨C, hC⟩ : ∃ T, T = headC h := ⟨_, rfl⟩
        rw [← hT, ← hO2] at hn1 HR2
        rw [← hT] at hS7
        rw [← hO2] at p7 ls
        rw [← hC] at Y7 sH sO
        have hC1 := hideP (show C.toArray.all (·.oneCell') = true by rw [hC]; exact headC_one h)
        have HC := hideP hC
        clear hC hT hO2 hSum
        rcases Decidable.em (T = O) with c3 | c3
        · have hG := hideP (show RS = some (h, m) by rw [HR2.out, if_pos c3])
          rw [show (!decide (T = O)) = false by simp [c3]] at hn1
          clear HR2
          subst c3
          refine wp_region_eager 13 [(true, 0), (true, 1), (true, 2), (true, 3), (true, 4), (true, 5), (true, 6), (true, 7), (true, 8), (true, 9), (true, 10), (true, 11), (true, 12)] (by kernel_rfl) (by kernel_rfl) ?_
          simp only [pick, List.map_cons, List.map_nil, nthO_zero, nthO_succ]
          repeat (first
            | (refine wpPlan_skipK (by rfl) (fun K hK => ?_); go_simp; refine hK _ ?_; clear hK K)
            | (refine wpPlan_valK (by rfl) (fun K hK => ?_); refine ⟨.agg (T.map b8).toArray, fun W hW => exec_load_mid 41 (.tmp 41) rfl u 33 rfl (T.map b8) _ (fun j v hv => hW.drew_left.cell (p7.out j v hv)) Try.underlying41 rfl ls.out, ?_⟩; go_simp; refine hK _ ?_; clear hK K)
            | (refine wpPlan_valK (by rfl) (fun K hK => ?_); apply Exists.intro; refine ⟨fun W hW => ?_, ?_⟩; (focus (go_simp; (try rfl); done)); go_simp; refine hK _ ?_; clear hK K)
            | (refine wpPlan_callK (.agg (T.map b8).toArray) 23 #[.slice X3 y.length d3] (by rfl) ?_ (fun W hW => (hS7.out W hW.drew_left).mono fun e w' h => ⟨h.1, Ext.of_below h.2⟩) (fun K hK => ?_); (focus (intro W; go_simp; done)); go_simp; refine hK _ ?_; clear hK K))
          refine wpPlan_nil (fun w8 hW0 => ?_)
          simp only [List.drop_succ_cons, List.drop_zero, List.drop_nil]
          have Z8 := hideP (Row.ext Z7.out hW0.drew_left)
          have Y8 := hideP (Row.ext Y7.out hW0.drew_left)
          have B8 := hideP (below_ext B7.out hW0.drew_left)
          have L8 := hideP (L7.out.but (But.of_ext (S := fun _ => False) hW0.drew_left) fun _ h => h.elim)
          clear hW0 hn1 hS7 p7
          go_wp2_with (first
            | (refine wpList_load_row rfl 48 (.tmp 8) rfl u rfl 48 C.toArray (0, 0) _ Y8.out Try.underlying48 rfl sH.out ?_)
            | (refine wpList_store_row rfl 48 (.tmp 2) (.tmp 46) rfl z C.toArray rfl rfl 48 (headC headZ).toArray Z8.out sH.out sO.out hC1.out ?_))
          rw [HC.out]
          refine ret_rowt2 rfl rfl rfl rfl (Row.setRow Z8.out (headC h)) Try.underlying48 (by rw [← HC.out]; exact sH.out) rfl ⟨below_setRow' B8.out hwz.out _, .inr ⟨h, m, R7, d7, ps, k7, hG.out, hk7.out, rfl, (L8.out.but (But.setRow (S := fun k => k = z) _ z _ rfl) fun k hk => by rw [hk]; exact Nat.lt_succ_self z).mono (Nat.le_trans hwz.out (Nat.le_succ z))⟩⟩
        · have hG := hideP (show RS = none by rw [HR2.out, if_neg c3])
          rw [show (!decide (T = O)) = true by simp [c3]] at hn1
          clear HR2 c3
          refine wp_region_eager 13 [(true, 0), (true, 1), (true, 2), (true, 3), (true, 4), (true, 5), (true, 6), (true, 7), (true, 8), (true, 9), (true, 10), (true, 11), (true, 12)] (by kernel_rfl) (by kernel_rfl) ?_
          simp only [pick, List.map_cons, List.map_nil, nthO_zero, nthO_succ]
          repeat (first
            | (refine wpPlan_skipK (by rfl) (fun K hK => ?_); go_simp; refine hK _ ?_; clear hK K)
            | (refine wpPlan_valK (by rfl) (fun K hK => ?_); refine ⟨.agg (O.map b8).toArray, fun W hW => exec_load_mid 41 (.tmp 41) rfl u 33 rfl (O.map b8) _ (fun j v hv => hW.drew_left.cell (p7.out j v hv)) Try.underlying41 rfl ls.out, ?_⟩; go_simp; refine hK _ ?_; clear hK K)
            | (refine wpPlan_valK (by rfl) (fun K hK => ?_); apply Exists.intro; refine ⟨fun W hW => ?_, ?_⟩; (focus (go_simp; (try rfl); done)); go_simp; refine hK _ ?_; clear hK K)
            | (refine wpPlan_callK (.agg (T.map b8).toArray) 23 #[.slice X3 y.length d3] (by rfl) ?_ (fun W hW => (hS7.out W hW.drew_left).mono fun e w' h => ⟨h.1, Ext.of_below h.2⟩) (fun K hK => ?_); (focus (intro W; go_simp; done)); go_simp; refine hK _ ?_; clear hK K))
          refine wpPlan_nil (fun w8 hW0 => ?_)
          simp only [List.drop_succ_cons, List.drop_zero, List.drop_nil]
          have Z8 := hideP (Row.ext Z7.out hW0.drew_left)
          have B8 := hideP (below_ext B7.out hW0.drew_left)
          clear hW0 hn1
          go_wp2_with (refine wpList_store_row rfl 48 (.tmp 2) (.tmp 45) rfl z (headC headZ).toArray rfl rfl 48 (headC headZ).toArray Z8.out hsz.out rfl hz1.out ?_)
          refine ret_rowt2 rfl rfl rfl rfl (Row.setRow Z8.out (headC headZ)) Try.underlying48 hsz.out rfl ⟨below_setRow' B8.out hwz.out _, .inl ⟨hG.out, rfl⟩⟩
  · have c1' : ((ee : Int) != 0) = true := by simpa using c1
    have hG := hideP (show RS = none by rw [HRS.out, if_neg c1])
    go_upto_region 4 with (go_at_call 68; refine (HhT3.out g _ R3.out).mono ?_; rintro e_ w4 ⟨rfl, b_, s_⟩; have Z4 := hideP (row_but b_ Z3.out (by have := hgz.out; omega)); have B4 := hideP (B3.out.trans (R3.out.butBelow b_ hgw.out)); clear b_ s_)
    go_wp2_with (refine wpList_store_row rfl 48 (.tmp 2) (.tmp 21) rfl z (headC headZ).toArray rfl rfl 48 (headC headZ).toArray Z4.out hsz.out rfl hz1.out ?_)
    refine ret_rowt2 rfl rfl rfl rfl (Row.setRow Z4.out (headC headZ)) Try.underlying48 hsz.out rfl ⟨below_setRow' B4.out hwz.out _, .inl ⟨hG.out, rfl⟩⟩
end Go.Proofs.Ytiicdnbhphgieaa
