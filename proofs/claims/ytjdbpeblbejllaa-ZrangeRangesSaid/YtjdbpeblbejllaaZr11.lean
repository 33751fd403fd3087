/- Contract of indentureref04's Cut. -/
import Derived.Test.YtjdbpeblbejllaaDuo
import Derived.Test.YtjdbpeblbejllaaRef04b
import Derived.Deep.DeepCutAuto
set_option linter.unusedVariables false
set_option linter.unusedSimpArgs false
namespace Go.Proofs.Ytjdbpeblbejllaa
open Go.RowKit
set_option maxRecDepth 100000 in
set_option maxHeartbeats 4000000 in
theorem rcut_in (L H L' H' : Option Addr) (lo hi lo' hi' : List Int) (n dl sh dl' sh' : Nat) (w : World) (hL : Arr w w.heap.size L n (i64s lo)) (hH : Arr w w.heap.size H n (i64s hi))
    (hL' : Arr w w.heap.size L' n (i64s lo')) (hH' : Arr w w.heap.size H' n (i64s hi')) (e1 : lo.length = n) (e2 : hi.length = n) (e3 : lo'.length = n) (e4 : hi'.length = n) (hr : rightB lo hi n = true) (hr' : rightB lo' hi' n = true)
    (hp : IsI lo) (hq : IsI hi) (hp' : IsI lo') (hq' : IsI hi') :
    Calls Try.prog 58 #[.agg #[.slice L n dl, .slice H n sh], .agg #[.slice L' n dl', .slice H' n sh']] w fun e w' => CutTold w w' e (cOk lo hi lo' hi' n) (cLo lo lo' n) (cHi hi hi' n) := by
  obtain ⟨i0, hi0, hz0, hz1, hz2⟩ := info_parts info_i64
  have hf := rightB_len hr
  have t1 := fun W h h' => rright_any L H lo hi dl sh n W h h'
  have t2 := fun W h h' => rright_any L' H' lo' hi' dl' sh' n W h h'
  rw [hr, e1, e2] at t1
  rw [hr', e3, e4] at t2
  have h1 : 1 ≤ n := by omega
  have h8 : n ≤ 8 := by omega
  clear hf hr hr'
  have HhL := hideP hL; have HhH := hideP hH; have HhL' := hideP hL'; have HhH' := hideP hH'; have Ht1 := hideP t1; have Ht2 := hideP t2; have He1 := hideP e1; have He2 := hideP e2; have He3 := hideP e3; have He4 := hideP e4; have Hhp := hideP hp; have Hhq := hideP hq; have Hhp' := hideP hp'; have Hhq' := hideP hq'; clear hL hH hL' hH' t1 t2 e1 e2 e3 e4 hp hq hp' hq'
  go_enter Try.func58, Try.ntmps58
  go_upto_region 1 with fail
  obtain ⟨w1, hw1⟩ : ∃ w1, w1 = ((w.alloc (Obj.cells #[.slice L n dl, .slice H n sh] 58)).alloc (Obj.cells #[.slice L' n dl', .slice H' n sh'] 58)).alloc (Obj.cells #[.slice none 0 0, .slice none 0 0] 58) := ⟨_, rfl⟩
  have c1 := hideP (show Two w1 w.heap.size 58 (.slice L n dl) (.slice H n sh) by rw [hw1]; exact ((Two.new _ _ _ _).alloc _).alloc _)
  have c2 := hideP (show Two w1 (w.heap.size + 1) 58 (.slice L' n dl') (.slice H' n sh') by rw [hw1]; exact (Two.new' _ _ _ _ _ (by simp)).alloc _)
  have c3 := hideP (show Two w1 (w.heap.size + 1 + 1) 58 (.slice none 0 0) (.slice none 0 0) by rw [hw1]; exact Two.new' _ _ _ _ _ (by simp))
  have cb := hideP (show Below w.heap.size w w1 by rw [hw1]; exact ((below_new _ _).alloc (by simp) _).alloc (by simp; omega) _)
  rw [← hw1]
  clear hw1
  have kc10 := c1.out.c0; have kc11 := c1.out.c1
  have kc20 := c2.out.c0; have kc21 := c2.out.c1
  go_wp2_with fail
  refine (Ht1.out w1 (HhL.out.after cb.out) (HhH.out.after cb.out)).mono ?_
  rintro e w2 ⟨rfl, hb⟩
  clear kc10 kc11 kc20 kc21
  replace c1 := hideP (c1.out.after hb)
  replace c2 := hideP (c2.out.after hb)
  replace c3 := hideP (c3.out.after hb)
  replace cb := hideP (bstep cb.out hb)
  clear hb
  have kc10 := c1.out.c0; have kc11 := c1.out.c1
  have kc20 := c2.out.c0; have kc21 := c2.out.c1
  go_wp2_with fail
  refine (Ht2.out w2 (HhL'.out.after cb.out) (HhH'.out.after cb.out)).mono ?_
  rintro e w3 ⟨rfl, hb⟩
  clear kc10 kc11 kc20 kc21
  replace c1 := hideP (c1.out.after hb)
  replace c2 := hideP (c2.out.after hb)
  replace c3 := hideP (c3.out.after hb)
  replace cb := hideP (bstep cb.out hb)
  clear hb
  have lt3 := hideP c3.out.lt
  go_upto_region 4 with fail
  obtain ⟨w4, hw4⟩ : ∃ w4, w4 = w3.alloc (Obj.cells #[.slice none 0 0, .slice none 0 0] 58) := ⟨_, rfl⟩
  obtain ⟨g6, hg6⟩ : ∃ g, g = w3.heap.size := ⟨_, rfl⟩
  have hb4 : Below w3.heap.size w3 w4 := by rw [hw4]; exact below_new _ _
  have c4 := hideP (show Duo w4 (g6 + 1) g6 (cLo lo lo' 0) (cHi hi hi' 0) by rw [hw4, hg6]; exact Duo.nil (Two.new _ _ _ _) (by omega))
  have s4 := hideP (show g6 + 1 ≤ w4.heap.size by rw [hw4, hg6]; simp)
  have l6 := hideP (show w.heap.size + 1 + 1 < g6 by rw [hg6]; exact lt3.out)
  rw [← hw4, ← hg6]
  clear hw4 hg6 lt3
  replace c1 := hideP (c1.out.after hb4)
  replace c2 := hideP (c2.out.after hb4)
  replace c3 := hideP (c3.out.after hb4)
  replace cb := hideP (bstep cb.out hb4)
  clear hb4
  go_wp2
  go_loopw [7] (fun v7 wr => ∃ k : Nat, k ≤ n ∧ v7 = .int .i64 k ∧ Hid (Duo wr (g6 + 1) g6 (cLo lo lo' k) (cHi hi hi' k) ∧ g6 + 1 ≤ wr.heap.size ∧ cOk lo hi lo' hi' k = true ∧ Two wr w.heap.size 58 (.slice L n dl) (.slice H n sh) ∧ Two wr (w.heap.size + 1) 58 (.slice L' n dl') (.slice H' n sh') ∧ Two wr (w.heap.size + 1 + 1) 58 (.slice none 0 0) (.slice none 0 0) ∧ Below w.heap.size w wr)) (fun v _ => n - (intOf v).toNat)
  case atStart => exact ⟨0, Nat.zero_le _, rfl, ⟨c4.out, s4.out, rfl, c1.out, c2.out, c3.out, cb.out⟩⟩
  case round =>
    obtain ⟨k, hkn, rfl, hI⟩ := hrel
    clear c1 c2 c3 c4 cb s4
    have cD := hideP hI.out.1
    have s4 := hideP hI.out.2.1
    have hok := hideP hI.out.2.2.1
    have c1 := hideP hI.out.2.2.2.1
    have c2 := hideP hI.out.2.2.2.2.1
    have c3 := hideP hI.out.2.2.2.2.2.1
    have cb := hideP hI.out.2.2.2.2.2.2
    clear hI
    have kc10 := c1.out.c0; have kc11 := c1.out.c1
    have kc20 := c2.out.c0; have kc21 := c2.out.c1
    by_cases hlt : k < n
    · obtain ⟨x, hx⟩ : ∃ x, x = lo.getD k 0 := ⟨_, rfl⟩
      obtain ⟨y, hy⟩ : ∃ x, x = hi.getD k 0 := ⟨_, rfl⟩
      obtain ⟨x', hx'⟩ : ∃ x, x = lo'.getD k 0 := ⟨_, rfl⟩
      obtain ⟨y', hy'⟩ : ∃ x, x = hi'.getD k 0 := ⟨_, rfl⟩
      obtain ⟨ab, af, hAe, hAb, hAc⟩ := HhL.out.after cb.out (by omega)
      obtain ⟨bb, bf, hBe, hBb, hBc⟩ := HhH.out.after cb.out (by omega)
      obtain ⟨db, df, hDe, hDb, hDc⟩ := HhL'.out.after cb.out (by omega)
      obtain ⟨eb, ef, hEe, hEb, hEc⟩ := HhH'.out.after cb.out (by omega)
      have m1 : wr.cell? ⟨ab, af + k, none⟩ = some (.int .i64 x) := by rw [hAc k hlt, hx]; rfl
      have m2 : wr.cell? ⟨bb, bf + k, none⟩ = some (.int .i64 y) := by rw [hBc k hlt, hy]; rfl
      have m3 : wr.cell? ⟨db, df + k, none⟩ = some (.int .i64 x') := by rw [hDc k hlt, hx']; rfl
      have m4 : wr.cell? ⟨eb, ef + k, none⟩ = some (.int .i64 y') := by rw [hEc k hlt, hy']; rfl
      have hst := hideP (show cLo lo lo' (k + 1) = cLo lo lo' k ++ [mx x x'] by rw [cLo_succ, hx, hx'])
      have hst' := hideP (show cHi hi hi' (k + 1) = cHi hi hi' k ++ [mn y y'] by rw [cHi_succ, hy, hy'])
      have hso := hideP (show cOk lo hi lo' hi' (k + 1) = (cOk lo hi lo' hi' k && decide (mx x x' ≤ mn y y')) by unfold cOk; rw [range_all_succ, hx, hx', hy, hy'])
      have hfl := hideP (fun h : decide (mx x x' ≤ mn y y') = false => (show cOk lo hi lo' hi' n = false from range_all_false _ n k hlt (by rw [← hx, ← hx', ← hy, ← hy']; exact h)))
      have sL := hideP hAe; have sH := hideP hBe; have sL' := hideP hDe; have sH' := hideP hEe
      subst hAe hBe hDe hEe
      clear hAc hBc hDc hEc hx hy hx' hy' hAb hBb hDb hEb sL sH sL' sH'
      go_upto_region 7 with fail
      refine wp_region_eager 12 [(true, 0), (true, 1), (true, 2), (true, 3), (true, 4), (true, 5), (true, 6), (true, 7), (true, 8), (true, 9), (true, 10), (true, 11)] (by kernel_rfl) (by kernel_rfl) ?_
      simp only [pick, List.map_cons, List.map_nil, nthO_zero, nthO_succ]
      repeat (first
        | (refine wpPlan_skipK (by rfl) (fun K hK => ?_); go_simp; refine hK _ ?_; clear hK K)
        | (refine wpPlan_valK (by rfl) (fun K hK => ?_); apply Exists.intro; refine ⟨fun W hW => ?_, ?_⟩; (focus (have hs0 := hW.cell kc10; have hs1 := hW.cell kc11; have hs2 := hW.cell m1; have hs3 := hW.cell m2; go_simp; (try rfl); done)); go_simp; refine hK _ ?_; clear hK K))
      refine wpPlan_nil (fun W7 hW0 => ?_)
      simp only [List.drop_succ_cons, List.drop_zero, List.drop_nil]
      have x7 := hideP hW0.drew_left
      have n1 := x7.out.cell m3
      have n2 := x7.out.cell m4
      clear kc10 kc11 kc20 kc21
      replace c1 := hideP (c1.out.ext x7.out)
      replace c2 := hideP (c2.out.ext x7.out)
      replace c3 := hideP (c3.out.ext x7.out)
      replace cD := hideP (cD.out.ext x7.out)
      replace cb := hideP (below_ext cb.out x7.out)
      replace s4 := hideP (Nat.le_trans s4.out x7.out.size)
      clear m1 m2 m3 m4 hW0 x7
      have kc20 := c2.out.c0; have kc21 := c2.out.c1
      go_upto_if 48 with fail
      go_cut [8] (fun v8 wx => v8 = .int .i64 (mx x x') ∧ wx = W7)
      case first =>
        by_cases ht : x < x'
        · have hv := hideP (show mx x x' = x' from if_pos ht)
          go_wp2_with fail
          go_meet
          exact ⟨by rw [hv.out], rfl⟩
        · have hv := hideP (show mx x x' = x from if_neg ht)
          go_wp2_with fail
          go_meet
          exact ⟨by rw [hv.out], rfl⟩
      case rest =>
        obtain ⟨rfl, rfl⟩ := hcut
        go_upto_if 60 with fail
        go_cut [9] (fun v9 wx => v9 = .int .i64 (mn y y') ∧ wx = wc)
        case first =>
          by_cases ht : y' < y
          · have hv := hideP (show mn y y' = y' from if_pos ht)
            go_wp2_with fail
            go_meet
            exact ⟨by rw [hv.out], rfl⟩
          · have hv := hideP (show mn y y' = y from if_neg ht)
            go_wp2_with fail
            go_meet
            exact ⟨by rw [hv.out], rfl⟩
        case rest =>
          obtain ⟨rfl, rfl⟩ := hcut
          obtain ⟨W9, rfl⟩ : ∃ W, W = wc := ⟨_, rfl⟩
          clear kc20 kc21
          obtain ⟨a, ha⟩ : ∃ a, a = mx x x' := ⟨_, rfl⟩
          obtain ⟨b, hb⟩ : ∃ b, b = mn y y' := ⟨_, rfl⟩
          rw [← ha] at hst hso hfl ⊢
          rw [← hb] at hst' hso hfl ⊢
          clear n1 n2 ha hb x y x' y'
          by_cases hgt : b < a
          · have hno := hideP (hfl.out (by simp; omega))
            clear hfl hso hst hst'
            have z0 := c3.out.fz 0
            have z1 := c3.out.fz 1
            have kc30 := c3.out.c0; have kc31 := c3.out.c1
            go_wp2
            have hc3 := c3.out.set2 (.slice none 0 0) (.slice none 0 0)
            refine ret_boxW rfl rfl rfl hc3 rfl ?_
            have := cb.out.size
            refine ⟨(cb.out.setCell (p := ⟨w.heap.size + 1 + 1, 0, none⟩) (by simp; omega) _).setCell (p := ⟨w.heap.size + 1 + 1, 1, none⟩) (by simp; omega) _, ?_⟩
            rw [hno.out]
            rfl
          · have hle : a ≤ b := by omega
            have hok2 := hideP (show cOk lo hi lo' hi' (k + 1) = true by rw [hso.out, hok.out]; simp [hle])
            clear hso hfl hok
            obtain ⟨R, s, R', s', hDD⟩ := cD.out
            have hD := hideP hDD
            have t4 := hideP hD.out.1
            have o4 := hideP hD.out.2.1
            have p4 := hideP hD.out.2.2.1
            have cl := cLo_len lo lo' k
            have ch := cHi_len hi hi' k
            rw [cl] at t4
            rw [ch] at t4
            have HCL := hideP cl
            have HCH := hideP ch
            clear cD hDD cl ch
            have z0 := t4.out.fz 0
            have kt40 := t4.out.c0; have kt41 := t4.out.c1
            have r4 : W9.ownsRow (g6 + 1) 2 1 (.slice R k s) k ((cLo lo lo' k).map (Value.int .i64)) := by have := o4.out; unfold Own at this; rw [HCL.out] at this; exact this
            have hr4 := hideP r4
            clear r4
            go_upto_region 15 with (at_builtin; refine wpList_append_cells _ rfl (.tmp 71) (.tmp 73) 56 rfl (g6 + 1) 2 i0 _ 1 8 Try.underlying56 hi0 hz0 hz1 hz2 rfl (by decide) (.slice R k s) k _ rfl hr4.out #[.int .i64 a] 1 rfl rfl (by simp [Value.oneCell']) (by omega) (by unfold maxLen; omega) (by omega) s4.out ?_; intro g3 c3' w3' hown3 hg3 hat3; have A1 := hideP hown3; have A2 := hideP hg3; have A3 := hideP hat3; clear hown3 hg3 hat3; have E3 := hideP (below_own hr4.out A2.out (Nat.le_refl _) s4.out); have ec := (t4.out.below E3.out (by omega)).c0; have z3 := (t4.out.below E3.out (by omega)).fz 0)
            have D5 := hideP (hD.out.push0 s4.out HCL.out.symm A1.out A2.out A3.out)
            rw [← hst.out] at D5
            clear kt40 kt41 z0 ec z3
            have b5 := hideP (show Below g6 W9 (w3'.setCell ⟨g6, 0, none⟩ (.slice (some ⟨g3, 0, none⟩) (k + 1) c3')) from (E3.out.mono (Nat.le_succ _)).setCell (p := ⟨g6, 0, none⟩) (Nat.le_refl _) _)
            obtain ⟨W5, hW5⟩ : ∃ W, W = w3'.setCell ⟨g6, 0, none⟩ (.slice (some ⟨g3, 0, none⟩) (k + 1) c3') := ⟨_, rfl⟩
            rw [← hW5] at D5 b5 ⊢
            clear hW5 hD t4 o4 p4 HCL HCH hr4 A1 A2 A3 E3
            replace c1 := hideP (c1.out.below b5.out (by have := l6.out; omega))
            replace c2 := hideP (c2.out.below b5.out (by have := l6.out; omega))
            replace c3 := hideP (c3.out.below b5.out (by have := l6.out; omega))
            replace cb := hideP (cb.out.trans (b5.out.mono (by have := l6.out; omega)))
            replace s4 := hideP (Nat.le_trans s4.out b5.out.size)
            clear b5
            obtain ⟨R, s, R', s', hDD⟩ := D5.out
            have hD := hideP hDD
            have t4 := hideP hD.out.1
            have p4 := hideP hD.out.2.2.1
            have cl := cLo_len lo lo' (k + 1)
            have ch := cHi_len hi hi' k
            rw [cl] at t4
            rw [ch] at t4
            have HCL := hideP cl
            have HCH := hideP ch
            clear hDD cl ch D5
            have z0 := t4.out.fz 1
            have kt40 := t4.out.c0; have kt41 := t4.out.c1
            have hr4 := hideP (show W5.ownsRow (g6 + 1) 2 1 (.slice R' k s') k ((cHi hi hi' k).map (Value.int .i64)) by have := p4.out; unfold Own at this; rw [HCH.out] at this; exact this)
            go_wp2_with (at_builtin; refine wpList_append_cells _ rfl (.tmp 77) (.tmp 79) 56 rfl (g6 + 1) 2 i0 _ 1 8 Try.underlying56 hi0 hz0 hz1 hz2 rfl (by decide) (.slice R' k s') k _ rfl hr4.out #[.int .i64 b] 1 rfl rfl (by simp [Value.oneCell']) (by omega) (by unfold maxLen; omega) (by omega) s4.out ?_; intro g3 c3' w3' hown3 hg3 hat3; have A1 := hideP hown3; have A2 := hideP hg3; have A3 := hideP hat3; clear hown3 hg3 hat3; have E3 := hideP (below_own hr4.out A2.out (Nat.le_refl _) s4.out); have ec := (t4.out.below E3.out (by omega)).c1; have z3 := (t4.out.below E3.out (by omega)).fz 1)
            have D5 := hideP (hD.out.push1 s4.out HCH.out.symm A1.out A2.out A3.out)
            rw [← hst'.out] at D5
            clear kt40 kt41 z0 ec z3
            have b5 := hideP (show Below g6 W5 (w3'.setCell ⟨g6, 1, none⟩ (.slice (some ⟨g3, 0, none⟩) (k + 1) c3')) from (E3.out.mono (Nat.le_succ _)).setCell (p := ⟨g6, 1, none⟩) (Nat.le_refl _) _)
            go_roundw
            case rel =>
              exact ⟨k + 1, by omega, by go_num, ⟨D5.out, Nat.le_trans s4.out b5.out.size, hok2.out, c1.out.below b5.out (by have := l6.out; omega), c2.out.below b5.out (by have := l6.out; omega), c3.out.below b5.out (by have := l6.out; omega), cb.out.trans (b5.out.mono (by have := l6.out; omega))⟩⟩
            case measure => simp [intOf]; omega
    · obtain rfl : k = n := by omega
      obtain ⟨R, s, R', s', hDD⟩ := cD.out
      have hD := hideP hDD
      have t4 := hideP hD.out.1
      have z0 := c3.out.fz 0
      have z1 := c3.out.fz 1
      clear hDD
      have kt40 := t4.out.c0; have kt41 := t4.out.c1
      go_upto_region 16 with fail
      go_wp2_with (refine wpList_store_pair rfl 58 (.tmp 4) (.tmp 82) rfl (w.heap.size + 1 + 1) _ _ 58 _ _ rfl rfl c3.out size_box' rfl rfl ?_)
      refine ret_boxW rfl rfl rfl (c3.out.set2 _ _) rfl ?_
      have hcs := cb.out.size
      have hl6 := l6.out
      refine ⟨(cb.out.setCell (p := ⟨w.heap.size + 1 + 1, 0, none⟩) (by simp; omega) _).setCell (p := ⟨w.heap.size + 1 + 1, 1, none⟩) (by simp; omega) _, ?_⟩
      rw [hok.out]
      exact ⟨R, s, R', s', rfl, (own_setCell (own_setCell hD.out.2.1 (by simp; omega) _) (by simp; omega) _).mono (by omega), (own_setCell (own_setCell hD.out.2.2.1 (by simp; omega) _) (by simp; omega) _).mono (by omega)⟩
end Go.Proofs.Ytjdbpeblbejllaa
