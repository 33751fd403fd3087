/- The walk of DistBox. -/
import Derived.Test.YtnekbmndphbaoaaLaw03
import Derived.Test.YtnekbmndphbaoaaDistLaw
set_option linter.unusedVariables false
set_option linter.unusedSimpArgs false
namespace Go.Proofs.Ytnekbmndphbaoaa
open Go.RowKit
theorem info_i64' : (Try.prog.info? 2).map (fun i => (i.zero, i.size, i.bytes)) = some (some (.int .i64 0), 1, 8) := by kernel_rfl
theorem clamps_succ (q lo hi : List Int) (k : Nat) : clamps q lo hi (k + 1) = clamps q lo hi k ++ [clamp (q.getD k 0) (lo.getD k 0) (hi.getD k 0)] := by simp [clamps, List.range_succ]
theorem row_i64s (l : List Int) (w : World) (base : Nat) (R : Option Addr) (s : Nat) (h : w.ownsRow base 2 1 (.slice R l.length s) l.length (l.map (Value.int .i64))) : Arr w w.heap.size R l.length (i64s l) :=
  Arr.of_own h fun i hi => by unfold i64s; simp [List.getD, List.getElem?_map, List.getElem?_eq_getElem hi]
set_option maxRecDepth 100000 in
set_option maxHeartbeats 8000000 in
theorem walk_DistBox (A0 : Option Addr) (p : List Int) (c0 : Nat) (A1 : Option Addr) (q : List Int) (c1 : Nat) (L : Option Addr) (lo : List Int) (d : Nat) (H : Option Addr) (hi : List Int) (s : Nat) (w : World)
    (a0 : Arr w w.heap.size A0 p.length (i64s p)) (i0 : IsI p) (n0 : p.length ≤ 17592186043904) (a1 : Arr w w.heap.size A1 q.length (i64s q)) (i1 : IsI q) (n1 : q.length ≤ 17592186043904) (aL : Arr w w.heap.size L lo.length (i64s lo)) (iL : IsI lo) (aH : Arr w w.heap.size H hi.length (i64s hi)) (iH : IsI hi) :
    Calls Try.prog 7 #[.slice A0 p.length c0, .slice A1 q.length c1, .agg #[.slice L lo.length d, .slice H hi.length s]] w fun e w' => e = .returned (.bool true) ∧ Below w.heap.size w w' := by
  by_cases h : (isPt p.length && decide (lo.length = p.length) && decide (hi.length = p.length)) = true
  case neg =>
    have h : (isPt p.length && decide (lo.length = p.length) && decide (hi.length = p.length)) = false := by simpa using h
    have tB := fun W => toBox_no A0 L H p.length lo.length hi.length c0 d s W h
    have e0 : dv 0 = .agg #[.int .u64 0, .int .u64 0] := rfl
    rw [e0] at tB
    clear e0 h
    have HtB := hideP tB; clear tB
    go_enter Try.func7, Try.ntmps7
    go_wp2_with fail
    have bw : Below w.heap.size w (w.alloc (Obj.cells #[.slice L lo.length d, .slice H hi.length s] 25)) := below_new _ _
    have k5 := Two.new w 25 (.slice L lo.length d) (.slice H hi.length s)
    refine (alive03 _).mono ?_
    rintro e w1 ⟨rfl, hb⟩
    replace k5 := hideP (k5.after hb)
    replace bw := hideP (bstep bw hb)
    clear hb
    have kk50 := k5.out.c0; have kk51 := k5.out.c1
    go_wp2_with fail
    refine (HtB.out w1).mono ?_
    rintro e w2 ⟨rfl, hb⟩
    clear kk50 kk51
    replace bw := hideP (bstep bw.out hb)
    clear hb
    go_wp2
    go_ret
    exact ⟨rfl, bw.out.alloc bw.out.size _⟩
  obtain ⟨n, hn⟩ : ∃ n, n = p.length := ⟨_, rfl⟩
  obtain ⟨⟨⟨h1, h8⟩, hl⟩, hh⟩ : ((1 ≤ n ∧ n ≤ 8) ∧ lo.length = n) ∧ hi.length = n := by unfold isPt at h; rw [hn]; simpa using h
  rw [hl] at aL ⊢
  rw [hh] at aH ⊢
  rw [← hn] at a0 ⊢
  clear h hl hh hn n0 n1
  have tB := fun W h h' h'' => toBox_in A0 L H p lo hi n c0 d s W h h' h'' i0 iL iH h1 h8
  by_cases hq : q.length = n
  case neg =>
    unfold dv dvp at tB
    obtain ⟨h0, e1⟩ : ∃ h, h = dbox p lo hi n / 18446744073709551616 := ⟨_, rfl⟩
    obtain ⟨l0, e2⟩ : ∃ l, l = dbox p lo hi n % 18446744073709551616 := ⟨_, rfl⟩
    rw [← e1, ← e2] at tB
    have t : ((q.length : Int) != n) = true := by simp; omega
    clear e1 e2 hq
    have HtB := hideP tB; have Ha0 := hideP a0; have HaL := hideP aL; have HaH := hideP aH; clear tB a0 aL aH
    go_enter Try.func7, Try.ntmps7
    go_wp2_with fail
    have bw : Below w.heap.size w (w.alloc (Obj.cells #[.slice L n d, .slice H n s] 25)) := below_new _ _
    have k5 := Two.new w 25 (.slice L n d) (.slice H n s)
    refine (alive03 _).mono ?_
    rintro e w1 ⟨rfl, hb⟩
    replace k5 := hideP (k5.after hb)
    replace bw := hideP (bstep bw hb)
    clear hb
    have kk50 := k5.out.c0; have kk51 := k5.out.c1
    go_wp2_with fail
    refine (HtB.out w1 (Ha0.out.after bw.out) (HaL.out.after bw.out) (HaH.out.after bw.out)).mono ?_
    rintro e w2 ⟨rfl, hb⟩
    clear kk50 kk51
    replace bw := hideP (bstep bw.out hb)
    clear hb
    go_wp2
    go_ret
    exact ⟨rfl, bw.out.alloc bw.out.size _⟩
  rw [hq] at a1 ⊢
  clear hq
  obtain ⟨D, hD⟩ : ∃ D, D = dbox p lo hi n := ⟨_, rfl⟩
  have hDl := dbox_lt p lo hi n i0 iL iH h8
  rw [← hD] at tB hDl
  unfold dv dvp at tB
  obtain ⟨h0, e1⟩ : ∃ h, h = D / 18446744073709551616 := ⟨_, rfl⟩
  obtain ⟨l0, e2⟩ : ∃ l, l = D % 18446744073709551616 := ⟨_, rfl⟩
  rw [← e1, ← e2] at tB
  obtain ⟨j0, hi0, hz0, hz1, hz2⟩ := info_parts info_i64'
  have HtB := hideP tB; have Ha0 := hideP a0; have Ha1 := hideP a1; have HaL := hideP aL; have HaH := hideP aH; have Hi0 := hideP i0; have Hi1 := hideP i1; have HiL := hideP iL; have HiH := hideP iH; have HhD := hideP hD; have He1 := hideP e1; have He2 := hideP e2; have HhDl := hideP hDl; clear tB a0 a1 aL aH i0 i1 iL iH hD e1 e2 hDl
  go_enter Try.func7, Try.ntmps7
  go_wp2_with fail
  have bw := hideP (Below.refl w.heap.size w)
  obtain ⟨v0, hv_⟩ : ∃ v, v = w.alloc (Obj.cells #[.slice L n d, .slice H n s] 25) := ⟨_, rfl⟩
  obtain ⟨g5, hg_⟩ : ∃ g, g = w.heap.size := ⟨_, rfl⟩
  have hb_ : Below w.heap.size w v0 := by rw [hv_]; exact below_new _ _
  have k5 := hideP (show Two v0 g5 25 (.slice L n d) (.slice H n s) by rw [hv_, hg_]; exact Two.new _ _ _ _)
  have Gk5 := hideP (show w.heap.size ≤ g5 from Nat.le_of_eq hg_.symm)
  replace bw := hideP (bstep bw.out hb_)
  rw [← hv_, ← hg_]
  clear hv_ hg_ hb_
  refine (alive03 v0).mono ?_
  rintro e w1 ⟨rfl, hb⟩
  replace k5 := hideP (k5.out.after hb)
  replace bw := hideP (bstep bw.out hb)
  clear hb
  have kk50 := k5.out.c0; have kk51 := k5.out.c1
  go_wp2_with fail
  refine (HtB.out w1 (Ha0.out.after bw.out) (HaL.out.after bw.out) (HaH.out.after bw.out)).mono ?_
  rintro e w2 ⟨rfl, hb⟩
  clear kk50 kk51
  replace k5 := hideP (k5.out.after hb)
  replace bw := hideP (bstep bw.out hb)
  clear hb
  go_wp2_with fail
  obtain ⟨v2, hv_⟩ : ∃ v, v = w2.alloc (Obj.cells #[.int .u64 h0, .int .u64 l0] 29) := ⟨_, rfl⟩
  obtain ⟨g7, hg_⟩ : ∃ g, g = w2.heap.size := ⟨_, rfl⟩
  have hb_ : Below w2.heap.size w2 v2 := by rw [hv_]; exact below_new _ _
  have x7 := hideP (show Two v2 g7 29 (.int .u64 h0) (.int .u64 l0) by rw [hv_, hg_]; exact Two.new _ _ _ _)
  have Gx7 := hideP (show w2.heap.size ≤ g7 from Nat.le_of_eq hg_.symm)
  have Lk5x7 := hideP (Nat.lt_of_lt_of_eq k5.out.lt hg_.symm)
  replace k5 := hideP (k5.out.after hb_)
  replace bw := hideP (bstep bw.out hb_)
  rw [← hv_, ← hg_]
  clear hv_ hg_ hb_
  have B7 := hideP (show w.heap.size ≤ g7 + 1 by have := Gk5.out; have h1 := Lk5x7.out; omega)
  have hown0 : v2.ownsRow (g7 + 1) 2 1 (.slice none 0 0) 0 [] := World.ownsRow_nil _ _ _ _
  go_loopw [9, 10, 11] (fun v9 v10 v11 wr => ∃ (k s1 s2 : Nat) (R1 R2 : Option Addr), k ≤ n ∧ v11 = .int .i64 k ∧ v9 = .slice R1 k s1 ∧ v10 = .slice R2 k s2 ∧
    Hid ((∀ i, i < k → lo.getD i 0 ≤ hi.getD i 0) ∧ wr.ownsRow (g7 + 1) 2 1 (.slice R1 k s1) k ((clamps q lo hi k).map (Value.int .i64)) ∧ wr.ownsRow (g7 + 1) 2 1 (.slice R2 k s2) k ((clamps p lo hi k).map (Value.int .i64)) ∧ Sep (.slice R1 k s1) (.slice R2 k s2) ∧
      Two wr g5 25 (.slice L n d) (.slice H n s) ∧ Two wr g7 29 (.int .u64 h0) (.int .u64 l0) ∧ Below w.heap.size w wr)) (fun _ _ v11 _ => n - (intOf v11).toNat)
  case atStart => exact ⟨0, 0, 0, none, none, by omega, rfl, rfl, rfl, fun i hi => (by omega), hown0, hown0, .inl rfl, k5.out, x7.out, bw.out⟩
  case round =>
    obtain ⟨k, s1, s2, R1, R2, hk, rfl, rfl, rfl, hW⟩ := hrel
    clear k5 x7 bw hown0
    by_cases hlt : k < n
    · have t' : decide ((k : Int) < n) = true := by simp; omega
      obtain ⟨b, off, rfl, hb, hc⟩ := (HaL.out.below hW.out.2.2.2.2.2.2) (by omega)
      obtain ⟨b', off', rfl, hb', hc'⟩ := (HaH.out.below hW.out.2.2.2.2.2.2) (by omega)
      obtain ⟨b1, off1, rfl, hb1, hc1⟩ := (Ha0.out.below hW.out.2.2.2.2.2.2) (by omega)
      obtain ⟨b2, off2, rfl, hb2, hc2⟩ := (Ha1.out.below hW.out.2.2.2.2.2.2) (by omega)
      have k1 := hc k hlt
      have k2 := hc' k hlt
      have k3 := hc1 k hlt
      have k4 := hc2 k hlt
      unfold i64s at k1 k2 k3 k4
      obtain ⟨x, ex⟩ : ∃ x, x = lo.getD k 0 := ⟨_, rfl⟩
      obtain ⟨y, ey⟩ : ∃ y, y = hi.getD k 0 := ⟨_, rfl⟩
      obtain ⟨u, eu⟩ : ∃ y, y = p.getD k 0 := ⟨_, rfl⟩
      obtain ⟨v, ev⟩ : ∃ y, y = q.getD k 0 := ⟨_, rfl⟩
      rw [← ex] at k1
      rw [← ey] at k2
      rw [← eu] at k3
      rw [← ev] at k4
      have kx50 := hW.out.2.2.2.2.1.c0
      have kx51 := hW.out.2.2.2.2.1.c1
      have Hex := hideP ex; have Hey := hideP ey; have Heu := hideP eu; have Hev := hideP ev; clear ex ey eu ev
      have Hhb := hideP hb; have Hhb' := hideP hb'; have Hhb1 := hideP hb1; have Hhb2 := hideP hb2; clear hb hb' hb1 hb2
      clear hc hc' hc1 hc2
      by_cases hyx : y < x
      · have t2 : decide (y < x) = true := by simp [hyx]
        go_wp2
        refine wp_region_eager 11 [(true, 0), (true, 1), (true, 2), (true, 3), (true, 4), (true, 5), (true, 6), (true, 7), (true, 8), (true, 9), (true, 10)] (by kernel_rfl) (by kernel_rfl) ?_
        simp only [pick, List.map_cons, List.map_nil, nthO_zero, nthO_succ]
        repeat (first
          | (refine wpPlan_skipK (by rfl) (fun K hK => ?_); go_simp; refine hK _ ?_; clear hK K)
          | (refine wpPlan_valK (by rfl) (fun K hK => ?_); apply Exists.intro; refine ⟨fun W hW => ?_, ?_⟩; (focus (have hs0 := hW.cell k1; have hs1 := hW.cell k2; have hs2 := hW.cell kx50; have hs3 := hW.cell kx51; go_simp; (try rfl); done)); go_simp; refine hK _ ?_; clear hK K))
        refine wpPlan_nil (fun W hW0 => ?_)
        simp only [List.drop_succ_cons, List.drop_zero, List.drop_nil]
        have hX := hW0.drew_left
        have bw := hideP (below_ext hW.out.2.2.2.2.2.2 hX)
        clear hW hW0 hX k1 k2 k3 k4 kx50 kx51
        go_wp2
        go_ret
        exact ⟨rfl, bw.out⟩
      have t2 : decide (y < x) = false := by simp; omega
      go_wp2
      refine wp_region_eager 11 [(true, 0), (true, 1), (true, 2), (true, 3), (true, 4), (true, 5), (true, 6), (true, 7), (true, 8), (true, 9), (true, 10)] (by kernel_rfl) (by kernel_rfl) ?_
      simp only [pick, List.map_cons, List.map_nil, nthO_zero, nthO_succ]
      repeat (first
        | (refine wpPlan_skipK (by rfl) (fun K hK => ?_); go_simp; refine hK _ ?_; clear hK K)
        | (refine wpPlan_valK (by rfl) (fun K hK => ?_); apply Exists.intro; refine ⟨fun W hW => ?_, ?_⟩; (focus (have hs0 := hW.cell k1; have hs1 := hW.cell k2; have hs2 := hW.cell kx50; have hs3 := hW.cell kx51; go_simp; (try rfl); done)); go_simp; refine hK _ ?_; clear hK K))
      refine wpPlan_nil (fun W1 hW0 => ?_)
      simp only [List.drop_succ_cons, List.drop_zero, List.drop_nil]
      have hX := hW0.drew_left
      have le := hideP (show ∀ i, i < k + 1 → lo.getD i 0 ≤ hi.getD i 0 from fun i hi' => by
        rcases Nat.lt_or_ge i k with h | h
        · exact hW.out.1 i h
        · obtain rfl : i = k := by omega
          rw [← Hex.out, ← Hey.out]; omega)
      have o1 := hideP (ownsRow_ext hW.out.2.1 hX)
      have o2 := hideP (ownsRow_ext hW.out.2.2.1 hX)
      have sp := hideP hW.out.2.2.2.1
      have x5 := hideP (hW.out.2.2.2.2.1.ext hX)
      have x7 := hideP (hW.out.2.2.2.2.2.1.ext hX)
      have bw := hideP (below_ext hW.out.2.2.2.2.2.2 hX)
      replace k1 := hX.cell k1
      replace k2 := hX.cell k2
      replace k3 := hX.cell k3
      replace k4 := hX.cell k4
      replace kx50 := hX.cell kx50
      replace kx51 := hX.cell kx51
      clear hW hW0 hX hyx
      obtain ⟨z, hz⟩ : ∃ z, z = clamp v x y := ⟨_, rfl⟩
      obtain ⟨z', hz'⟩ : ∃ z, z = clamp u x y := ⟨_, rfl⟩
      obtain ⟨m, hm⟩ : ∃ m, m = if v < x then x else v := ⟨_, rfl⟩
      obtain ⟨m', hm'⟩ : ∃ m, m = if u < x then x else u := ⟨_, rfl⟩
      have tz : (if y < m then y else m) = z := by rw [hz, hm]; rfl
      have tz' : (if y < m' then y else m') = z' := by rw [hz', hm']; rfl
      have tm := hm.symm
      have tm' := hm'.symm
      clear hm hm'
      have Hhz := hideP hz; have Hhz' := hideP hz'; clear hz hz'
      go_wp2
      refine wp_region_eager 18 [(true, 0), (true, 1), (true, 2), (true, 3), (true, 4), (true, 5), (true, 6), (true, 7), (true, 8), (true, 9), (true, 10), (true, 11), (true, 12), (true, 13), (true, 14), (true, 15), (true, 16), (false, 17)] (by kernel_rfl) (by kernel_rfl) ?_
      simp only [pick, List.map_cons, List.map_nil, nthO_zero, nthO_succ]
      repeat (first
        | (refine wpPlan_skipK (by rfl) (fun K hK => ?_); go_simp; refine hK _ ?_; clear hK K)
        | (refine wpPlan_valK (by rfl) (fun K hK => ?_); apply Exists.intro; refine ⟨fun W hW => ?_, ?_⟩; (focus (have hs0 := hW.cell k1; have hs1 := hW.cell k2; have hs2 := hW.cell k4; have hs3 := hW.cell kx50; have hs4 := hW.cell kx51; go_simp; (try rfl); done)); go_simp; refine hK _ ?_; clear hK K))
      refine wpPlan_buildK (by rfl) (fun W hW2_ => ?_)
      refine ⟨.slice (some ⟨W.heap.size, 0, none⟩) 1 1, W.alloc (.cells #[.int .i64 z] 2), ⟨by go_simp, Ext.alloc _ _⟩, fun K hK => ?_⟩
      go_simp
      refine hK _ ?_
      clear hK K
      refine wpPlan_nil (fun W2 hW3_ => ?_)
      simp only [List.drop_succ_cons, List.drop_zero, List.drop_nil]
      have hX : Ext W1 W2 := (hW2_.drew_left.trans (Ext.alloc _ _)).trans hW3_
      have AX : Arr W2 W2.heap.size (some ⟨W.heap.size, 0, none⟩) 1 (fun _ => .int .i64 z) := by
        refine Arr.ext (w := W.alloc (.cells #[.int .i64 z] 2)) (fun _ => ⟨W.heap.size, 0, rfl, by simp, fun i hi => ?_⟩) hW3_
        obtain rfl : i = 0 := by omega
        exact (One.new W _ _).c0
      clear hW2_ hW3_
      have hb1 : g7 + 1 ≤ W2.heap.size := by have := x7.out.lt; have := hX.size; omega
      replace o1 := hideP (ownsRow_ext o1.out hX)
      replace o2 := hideP (ownsRow_ext o2.out hX)
      replace x5 := hideP (x5.out.ext hX)
      replace x7 := hideP (x7.out.ext hX)
      replace bw := hideP (below_ext bw.out hX)
      replace k1 := hX.cell k1
      replace k2 := hX.cell k2
      replace k3 := hX.cell k3
      replace kx50 := hX.cell kx50
      replace kx51 := hX.cell kx51
      have HB1 := hideP hb1
      clear hX hb1 k4
      have hown := o1.out
      go_wp2_with (at_builtin; refine wpList_append_arr W2 rfl (.tmp 50) (.tmp 67) 23 rfl (g7 + 1) 2 j0 _ 8 Try.underlying23 hi0 hz0 hz1 hz2 rfl (.slice R1 k s1) k _ rfl hown W2.heap.size (some ⟨W.heap.size, 0, none⟩) 1 1 (fun _ => .int .i64 z) rfl AX (fun _ => rfl) (by unfold maxLen; omega) (by omega) HB1.out ?_; intro A3 c3 w3 hown3 hg3 hat3)
      have le1 := below_own hown hg3 (Nat.le_refl _) HB1.out
      have hL5 := Lk5x7.out
      have hB7 := B7.out
      replace k1 := cell_below le1 (Nat.lt_of_lt_of_le Hhb.out hB7) k1
      replace k2 := cell_below le1 (Nat.lt_of_lt_of_le Hhb'.out hB7) k2
      replace k3 := cell_below le1 (Nat.lt_of_lt_of_le Hhb1.out hB7) k3
      replace kx50 := cell_below le1 (Nat.lt_succ_of_lt hL5) kx50
      replace kx51 := cell_below le1 (Nat.lt_succ_of_lt hL5) kx51
      replace x5 := hideP (x5.out.below le1 (Nat.lt_succ_of_lt hL5))
      replace x7 := hideP (x7.out.below le1 (Nat.lt_succ_self _))
      replace bw := hideP (bw.out.trans (le1.mono hB7))
      have sp1 := hideP (sp.out.symm.after o2.out hat3)
      replace o2 := hideP (o2.out.kept hg3 sp.out.symm)
      have o3 := hideP hown3
      replace HB1 := hideP (Nat.le_trans HB1.out le1.size)
      clear hL5 hB7 le1 hg3 hat3 hown3 hown sp o1 AX
      go_wp2
      refine wp_region_eager 18 [(true, 0), (true, 1), (true, 2), (true, 3), (true, 4), (true, 5), (true, 6), (true, 7), (true, 8), (true, 9), (true, 10), (true, 11), (true, 12), (true, 13), (true, 14), (true, 15), (true, 16), (false, 17)] (by kernel_rfl) (by kernel_rfl) ?_
      simp only [pick, List.map_cons, List.map_nil, nthO_zero, nthO_succ]
      repeat (first
        | (refine wpPlan_skipK (by rfl) (fun K hK => ?_); go_simp; refine hK _ ?_; clear hK K)
        | (refine wpPlan_valK (by rfl) (fun K hK => ?_); apply Exists.intro; refine ⟨fun W hW => ?_, ?_⟩; (focus (have hs0 := hW.cell k1; have hs1 := hW.cell k2; have hs2 := hW.cell k3; have hs3 := hW.cell kx50; have hs4 := hW.cell kx51; go_simp; (try rfl); done)); go_simp; refine hK _ ?_; clear hK K))
      refine wpPlan_buildK (by rfl) (fun W hW2_ => ?_)
      refine ⟨.slice (some ⟨W.heap.size, 0, none⟩) 1 1, W.alloc (.cells #[.int .i64 z'] 2), ⟨by go_simp, Ext.alloc _ _⟩, fun K hK => ?_⟩
      go_simp
      refine hK _ ?_
      clear hK K
      refine wpPlan_nil (fun W2 hW3_ => ?_)
      simp only [List.drop_succ_cons, List.drop_zero, List.drop_nil]
      have hX : Ext w3 W2 := (hW2_.drew_left.trans (Ext.alloc _ _)).trans hW3_
      have AX : Arr W2 W2.heap.size (some ⟨W.heap.size, 0, none⟩) 1 (fun _ => .int .i64 z') := by
        refine Arr.ext (w := W.alloc (.cells #[.int .i64 z'] 2)) (fun _ => ⟨W.heap.size, 0, rfl, by simp, fun i hi => ?_⟩) hW3_
        obtain rfl : i = 0 := by omega
        exact (One.new W _ _).c0
      clear hW2_ hW3_
      have hb1 : g7 + 1 ≤ W2.heap.size := Nat.le_trans HB1.out hX.size
      replace o3 := hideP (ownsRow_ext o3.out hX)
      replace o2 := hideP (ownsRow_ext o2.out hX)
      replace x5 := hideP (x5.out.ext hX)
      replace x7 := hideP (x7.out.ext hX)
      replace bw := hideP (below_ext bw.out hX)
      replace HB1 := hideP hb1
      clear hX hb1 k1 k2 k3 kx50 kx51
      have hown := o2.out
      go_wp2_with (at_builtin; refine wpList_append_arr W2 rfl (.tmp 69) (.tmp 86) 23 rfl (g7 + 1) 2 j0 _ 8 Try.underlying23 hi0 hz0 hz1 hz2 rfl (.slice R2 k s2) k _ rfl hown W2.heap.size (some ⟨W.heap.size, 0, none⟩) 1 1 (fun _ => .int .i64 z') rfl AX (fun _ => rfl) (by unfold maxLen; omega) (by omega) HB1.out ?_; intro A4 c4 w4 hown4 hg4 hat4)
      go_roundw
      case rel =>
        have le1 := below_own hown hg4 (Nat.le_refl _) HB1.out
        have hL5 := Lk5x7.out
        refine ⟨k + 1, c3, c4, A3, A4, by omega, by go_num, rfl, rfl, le.out, ?_, ?_, ?_, ?_, ?_, ?_⟩
        · have : (clamps q lo hi (k + 1)).map (Value.int .i64) = (clamps q lo hi k).map (Value.int .i64) ++ (List.range 1).map (fun _ => Value.int .i64 z) := by
            rw [clamps_succ, ← Hev.out, ← Hex.out, ← Hey.out, ← Hhz.out]; simp
          rw [this]
          exact o3.out.kept hg4 sp1.out.symm
        · have : (clamps p lo hi (k + 1)).map (Value.int .i64) = (clamps p lo hi k).map (Value.int .i64) ++ (List.range 1).map (fun _ => Value.int .i64 z') := by
            rw [clamps_succ, ← Heu.out, ← Hex.out, ← Hey.out, ← Hhz'.out]; simp
          rw [this]
          exact hown4
        · exact sp1.out.symm.after o3.out hat4
        · exact x5.out.below le1 (Nat.lt_succ_of_lt hL5)
        · exact x7.out.below le1 (Nat.lt_succ_self _)
        · exact bw.out.trans (le1.mono B7.out)
      case measure => simp [intOf]; omega
    · have t' : decide ((k : Int) < n) = false := by simp; omega
      obtain rfl : k = n := by omega
      clear hk hlt
      have hle := hW.out.1
      have aI : Arr wr wr.heap.size R1 k (i64s (clamps q lo hi k)) := by
        have := row_i64s (clamps q lo hi k) wr (g7 + 1) R1 s1 (by rw [clamps_len]; exact hW.out.2.1)
        rwa [clamps_len] at this
      have aN : Arr wr wr.heap.size R2 k (i64s (clamps p lo hi k)) := by
        have := row_i64s (clamps p lo hi k) wr (g7 + 1) R2 s2 (by rw [clamps_len]; exact hW.out.2.2.1)
        rwa [clamps_len] at this
      have x7 := hideP hW.out.2.2.2.2.2.1
      have bw := hideP hW.out.2.2.2.2.2.2
      clear hW
      have tX := fun W h h' => between_in A0 R1 p (clamps q lo hi k) k c0 s1 W h h' Hi0.out (clamps_I q lo hi k Hi1.out HiL.out HiH.out) h1 h8
      have tY := fun W h h' => between_in A0 R2 p (clamps p lo hi k) k c0 s2 W h h' Hi0.out (clamps_I p lo hi k Hi0.out HiL.out HiH.out) h1 h8
      have hEl := dpt_lt p (clamps q lo hi k) k Hi0.out (clamps_I q lo hi k Hi1.out HiL.out HiH.out) h8
      have hDE := dbox_le p q lo hi k hle
      rw [← dbox_eq p lo hi k hle, ← HhD.out] at tY
      rw [← HhD.out] at hDE
      obtain ⟨E, hE⟩ : ∃ E, E = dpt p (clamps q lo hi k) k := ⟨_, rfl⟩
      rw [← hE] at tX hEl hDE
      have tZ := fun W => dist_cmp D E W (Nat.lt_trans HhDl.out (by decide)) (Nat.lt_trans hEl (by decide))
      obtain ⟨z, hz⟩ : ∃ z : Int, z = if D < E then -1 else if E < D then 1 else 0 := ⟨_, rfl⟩
      have tz0 : decide (z ≤ 0) = true := by
        rw [hz, if_neg (Nat.not_lt.2 hDE)]; split <;> rfl
      rw [← hz] at tZ
      unfold dv dvp at tX tY tZ
      rw [← He1.out, ← He2.out] at tY tZ
      obtain ⟨h3, e3⟩ : ∃ h, h = E / 18446744073709551616 := ⟨_, rfl⟩
      obtain ⟨l3, e4⟩ : ∃ l, l = E % 18446744073709551616 := ⟨_, rfl⟩
      rw [← e3, ← e4] at tX tZ
      clear e3 e4 hz hE hEl hDE hle
      have HtX := hideP tX; have HtY := hideP tY; have HtZ := hideP tZ; have HaI := hideP aI; have HaN := hideP aN; clear tX tY tZ aI aN
      go_wp2_with fail
      refine (HtX.out wr (Ha0.out.after bw.out) HaI.out).mono ?_
      rintro e w5 ⟨rfl, hb⟩
      replace x7 := hideP (x7.out.after hb)
      replace HaN := hideP (HaN.out.after hb)
      replace bw := hideP (bstep bw.out hb)
      clear hb
      go_wp2_with fail
      obtain ⟨v5, hv_⟩ : ∃ v, v = w5.alloc (Obj.cells #[.int .u64 h3, .int .u64 l3] 29) := ⟨_, rfl⟩
      obtain ⟨g12, hg_⟩ : ∃ g, g = w5.heap.size := ⟨_, rfl⟩
      have hb_ : Below w5.heap.size w5 v5 := by rw [hv_]; exact below_new _ _
      have x12 := hideP (show Two v5 g12 29 (.int .u64 h3) (.int .u64 l3) by rw [hv_, hg_]; exact Two.new _ _ _ _)
      have Gx12 := hideP (show w5.heap.size ≤ g12 from Nat.le_of_eq hg_.symm)
      replace x7 := hideP (x7.out.after hb_)
      replace HaN := hideP (HaN.out.after hb_)
      replace bw := hideP (bstep bw.out hb_)
      rw [← hv_, ← hg_]
      clear hv_ hg_ hb_
      refine (HtY.out v5 (Ha0.out.after bw.out) HaN.out).mono ?_
      rintro e w6 ⟨rfl, hb⟩
      replace x7 := hideP (x7.out.after hb)
      replace x12 := hideP (x12.out.after hb)
      replace bw := hideP (bstep bw.out hb)
      clear hb
      clear HaN
      replace x7 := hideP (x7.out.alloc (Obj.cells #[.int .u64 h0, .int .u64 l0] 29))
      replace x12 := hideP (x12.out.alloc (Obj.cells #[.int .u64 h0, .int .u64 l0] 29))
      replace bw := hideP (bw.out.alloc bw.out.size (Obj.cells #[.int .u64 h0, .int .u64 l0] 29))
      have x14 := hideP (Two.new w6 29 (.int .u64 h0) (.int .u64 l0))
      have kx70 := x7.out.c0; have kx71 := x7.out.c1
      have kx120 := x12.out.c0; have kx121 := x12.out.c1
      go_wp2_with fail
      refine (HtZ.out _).mono ?_
      rintro e w7 ⟨rfl, hb⟩
      clear kx70 kx71 kx120 kx121
      replace x7 := hideP (x7.out.after hb)
      replace x12 := hideP (x12.out.after hb)
      replace x14 := hideP (x14.out.after hb)
      replace bw := hideP (bstep bw.out hb)
      clear hb
      have kx70 := x7.out.c0; have kx71 := x7.out.c1
      have kx140 := x14.out.c0; have kx141 := x14.out.c1
      go_wp2
      go_ret
      exact ⟨rfl, bw.out⟩
end Go.Proofs.Ytnekbmndphbaoaa
