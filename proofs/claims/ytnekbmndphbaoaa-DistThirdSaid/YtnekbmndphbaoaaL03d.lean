/- The walk of DistThird. -/
import Derived.Test.YtnekbmndphbaoaaLaw03
import Derived.Test.YtnekbmndphbaoaaDistLaw
set_option linter.unusedVariables false
set_option linter.unusedSimpArgs false
namespace Go.Proofs.Ytnekbmndphbaoaa
open Go.RowKit
set_option maxRecDepth 100000 in
set_option maxHeartbeats 8000000 in
theorem walk_DistThird (A0 : Option Addr) (p : List Int) (c0 : Nat) (A1 : Option Addr) (q : List Int) (c1 : Nat) (A2 : Option Addr) (r : List Int) (c2 : Nat) (w : World)
    (a0 : Arr w w.heap.size A0 p.length (i64s p)) (i0 : IsI p) (n0 : p.length ≤ 17592186043904) (a1 : Arr w w.heap.size A1 q.length (i64s q)) (i1 : IsI q) (n1 : q.length ≤ 17592186043904) (a2 : Arr w w.heap.size A2 r.length (i64s r)) (i2 : IsI r) (n2 : r.length ≤ 17592186043904) :
    Calls Try.prog 6 #[.slice A0 p.length c0, .slice A1 q.length c1, .slice A2 r.length c2] w fun e w' => e = .returned (.bool true) ∧ Below w.heap.size w w' := by
  by_cases h : (isPt p.length && decide (q.length = p.length)) = true
  case neg =>
    have h : (isPt p.length && decide (q.length = p.length)) = false := by simpa using h
    have tB := fun W => between_no A0 A1 p.length q.length c0 c1 W h
    have e0 : dv 0 = .agg #[.int .u64 0, .int .u64 0] := rfl
    rw [e0] at tB
    clear e0 h
    have HtB := hideP tB; clear tB
    go_enter Try.func6, Try.ntmps6
    go_wp2_with fail
    refine (alive03 w).mono ?_
    rintro e w1 ⟨rfl, hb1⟩
    have bw := hideP hb1
    clear hb1
    go_wp2_with fail
    refine (HtB.out w1).mono ?_
    rintro e w2 ⟨rfl, hb⟩
    replace bw := hideP (bstep bw.out hb)
    clear hb
    go_wp2
    go_ret
    exact ⟨rfl, bw.out.alloc bw.out.size _⟩
  obtain ⟨n, hn⟩ : ∃ n, n = p.length := ⟨_, rfl⟩
  obtain ⟨⟨h1, h8⟩, hq⟩ : (1 ≤ n ∧ n ≤ 8) ∧ q.length = n := by unfold isPt at h; rw [hn]; simpa using h
  rw [hq] at a1 ⊢
  rw [← hn] at a0 ⊢
  clear h hq hn n0 n1 n2
  have tB := fun W h h' => between_in A0 A1 p q n c0 c1 W h h' i0 i1 h1 h8
  by_cases hr : r.length = n
  case neg =>
    unfold dv dvp at tB
    obtain ⟨h0, e1⟩ : ∃ h, h = dpt p q n / 18446744073709551616 := ⟨_, rfl⟩
    obtain ⟨l0, e2⟩ : ∃ l, l = dpt p q n % 18446744073709551616 := ⟨_, rfl⟩
    rw [← e1, ← e2] at tB
    have t : ((r.length : Int) != n) = true := by simp; omega
    clear e1 e2 hr
    have HtB := hideP tB; have Ha0 := hideP a0; have Ha1 := hideP a1; clear tB a0 a1
    go_enter Try.func6, Try.ntmps6
    go_wp2_with fail
    refine (alive03 w).mono ?_
    rintro e w1 ⟨rfl, hb1⟩
    have bw := hideP hb1
    clear hb1
    go_wp2_with fail
    refine (HtB.out w1 (Ha0.out.after bw.out) (Ha1.out.after bw.out)).mono ?_
    rintro e w2 ⟨rfl, hb⟩
    replace bw := hideP (bstep bw.out hb)
    clear hb
    go_wp2
    go_ret
    exact ⟨rfl, bw.out.alloc bw.out.size _⟩
  rw [hr] at a2 ⊢
  have tB2 := fun W h h' => between_in A1 A0 q p n c1 c0 W h h' i1 i0 h1 h8
  have tC := fun W h h' => between_in A0 A2 p r n c0 c2 W h h' i0 i2 h1 h8
  have tD := fun W h h' => between_in A2 A1 r q n c2 c1 W h h' i2 i1 h1 h8
  have hCl := dpt_lt p r n i0 i2 h8
  have hDl := dpt_lt r q n i2 i1 h8
  have hAl := dpt_lt p q n i0 i1 h8
  have htri := dpt_tri p q r n
  have hzero := dpt_zero p q n
  rw [← dpt_comm p q n] at tB2
  obtain ⟨D, hD⟩ : ∃ D, D = dpt p q n := ⟨_, rfl⟩
  obtain ⟨C1, hC1⟩ : ∃ D, D = dpt p r n := ⟨_, rfl⟩
  obtain ⟨C2, hC2⟩ : ∃ D, D = dpt r q n := ⟨_, rfl⟩
  rw [← hD] at tB tB2 htri hzero hAl
  rw [← hC1] at tC htri hCl
  rw [← hC2] at tD htri hDl
  have tX := fun W => dist_add C1 (C2 % 18446744073709551616) W (Nat.lt_trans hCl (by decide)) (Nat.mod_lt _ (by decide))
  obtain ⟨th1, th2, th3⟩ := third C1 C2 hCl hDl
  rw [th1] at tX
  obtain ⟨S, hS⟩ : ∃ S, S = C1 + C2 % 18446744073709551616 := ⟨_, rfl⟩
  rw [← hS] at tX th2 th3
  have hS2 : S < 340282366920938463463374607431768211456 := Nat.lt_of_le_of_lt (show S ≤ 147573952589676412928 + 18446744073709551616 by rw [hS]; exact Nat.add_le_add (Nat.le_of_lt hCl) (Nat.le_of_lt (Nat.mod_lt _ (by decide)))) (by decide)
  have tY := fun W => dist_add S 0 W hS2 (by decide)
  rw [Nat.add_zero, Nat.mod_eq_of_lt hS2] at tY
  have hT : C1 + C2 < 340282366920938463463374607431768211456 := Nat.lt_trans (Nat.add_lt_add hCl hDl) (by decide)
  have tZ := fun W => dist_cmp D (C1 + C2) W (Nat.lt_trans hAl (by decide)) hT
  obtain ⟨z, hz⟩ : ∃ z : Int, z = if D < C1 + C2 then -1 else if C1 + C2 < D then 1 else 0 := ⟨_, rfl⟩
  have hz0 : decide (z ≤ 0) = true := by
    rw [hz, if_neg (Nat.not_lt.2 htri)]; split <;> rfl
  rw [← hz] at tZ
  unfold dv dvp at tB tB2 tC tD tX tY tZ
  have hs1 : S % 18446744073709551616 = (C1 + C2) % 18446744073709551616 := th3
  rw [hs1] at tX tY
  obtain ⟨h, e1⟩ : ∃ h, h = D / 18446744073709551616 := ⟨_, rfl⟩
  obtain ⟨l, e2⟩ : ∃ h, h = D % 18446744073709551616 := ⟨_, rfl⟩
  have hZ : (h = 0 ∧ l = 0) ↔ eqTo p q n = true := by
    rw [← hzero, e1, e2]
    constructor
    · intro hh; exact (by have := Nat.div_add_mod D 18446744073709551616; rw [hh.1, hh.2] at this; simpa using this.symm)
    · intro hh; rw [hh]; exact ⟨rfl, rfl⟩
  rw [← e1, ← e2] at tB tB2 tZ
  clear e1 e2
  obtain ⟨hh1, e1⟩ : ∃ h, h = C1 / 18446744073709551616 := ⟨_, rfl⟩
  obtain ⟨ll1, e2⟩ : ∃ h, h = C1 % 18446744073709551616 := ⟨_, rfl⟩
  rw [← e1, ← e2] at tC tX
  clear e1 e2
  obtain ⟨hh2, e1⟩ : ∃ h, h = C2 / 18446744073709551616 := ⟨_, rfl⟩
  obtain ⟨ll2, e2⟩ : ∃ h, h = C2 % 18446744073709551616 := ⟨_, rfl⟩
  rw [← e1] at th2
  rw [← e1, ← e2] at tD
  rw [← e2] at tX
  clear e1 e2
  obtain ⟨hs, e1⟩ : ∃ h, h = S / 18446744073709551616 := ⟨_, rfl⟩
  obtain ⟨ls, e2⟩ : ∃ h, h = (C1 + C2) % 18446744073709551616 := ⟨_, rfl⟩
  obtain ⟨hc, e3⟩ : ∃ h, h = (C1 + C2) / 18446744073709551616 := ⟨_, rfl⟩
  rw [← e1, ← e2] at tX tY
  rw [← e2, ← e3] at tZ
  rw [← e1, ← e3] at th2
  have t : ((r.length : Int) != n) = false := by simp; omega
  clear hCl hDl hAl htri hzero hD hC1 hC2 hS hS2 hT hz th1 th3 hs1 e1 e2 e3 i0 i1 i2 h1 hr
  have HtB := hideP tB; have HtB2 := hideP tB2; have HtC := hideP tC; have HtD := hideP tD; have HtX := hideP tX; have HtY := hideP tY; have HtZ := hideP tZ; have Hth2 := hideP th2; have HhZ := hideP hZ; have Ha0 := hideP a0; have Ha1 := hideP a1; have Ha2 := hideP a2; clear tB tB2 tC tD tX tY tZ th2 hZ a0 a1 a2
  go_enter Try.func6, Try.ntmps6
  go_wp2_with fail
  refine (alive03 w).mono ?_
  rintro e w1 ⟨rfl, hb1⟩
  have bw := hideP hb1
  clear hb1
  go_wp2_with fail
  refine (HtB.out w1 (Ha0.out.after bw.out) (Ha1.out.after bw.out)).mono ?_
  rintro e w2 ⟨rfl, hb⟩
  replace bw := hideP (bstep bw.out hb)
  clear hb
  go_wp2_with fail
  obtain ⟨v2, hv_⟩ : ∃ v, v = w2.alloc (Obj.cells #[.int .u64 h, .int .u64 l] 29) := ⟨_, rfl⟩
  obtain ⟨g2, hg_⟩ : ∃ g, g = w2.heap.size := ⟨_, rfl⟩
  have hb_ : Below w2.heap.size w2 v2 := by rw [hv_]; exact below_new _ _
  have x2 := hideP (show Two v2 g2 29 (.int .u64 h) (.int .u64 l) by rw [hv_, hg_]; exact Two.new _ _ _ _)
  replace bw := hideP (bstep bw.out hb_)
  rw [← hv_, ← hg_]
  clear hv_ hg_ hb_
  refine (HtB2.out v2 (Ha1.out.after bw.out) (Ha0.out.after bw.out)).mono ?_
  rintro e w3 ⟨rfl, hb⟩
  replace x2 := hideP (x2.out.after hb)
  replace bw := hideP (bstep bw.out hb)
  clear hb
  go_wp2_with fail
  obtain ⟨v3, hv_⟩ : ∃ v, v = w3.alloc (Obj.cells #[.int .u64 h, .int .u64 l] 29) := ⟨_, rfl⟩
  obtain ⟨g3, hg_⟩ : ∃ g, g = w3.heap.size := ⟨_, rfl⟩
  have hb_ : Below w3.heap.size w3 v3 := by rw [hv_]; exact below_new _ _
  have x3 := hideP (show Two v3 g3 29 (.int .u64 h) (.int .u64 l) by rw [hv_, hg_]; exact Two.new _ _ _ _)
  replace x2 := hideP (x2.out.after hb_)
  replace bw := hideP (bstep bw.out hb_)
  rw [← hv_, ← hg_]
  clear hv_ hg_ hb_
  refine (HtC.out v3 (Ha0.out.after bw.out) (Ha2.out.after bw.out)).mono ?_
  rintro e w4 ⟨rfl, hb⟩
  replace x2 := hideP (x2.out.after hb)
  replace x3 := hideP (x3.out.after hb)
  replace bw := hideP (bstep bw.out hb)
  clear hb
  go_wp2_with fail
  obtain ⟨v4, hv_⟩ : ∃ v, v = w4.alloc (Obj.cells #[.int .u64 hh1, .int .u64 ll1] 29) := ⟨_, rfl⟩
  obtain ⟨g4, hg_⟩ : ∃ g, g = w4.heap.size := ⟨_, rfl⟩
  have hb_ : Below w4.heap.size w4 v4 := by rw [hv_]; exact below_new _ _
  have x4 := hideP (show Two v4 g4 29 (.int .u64 hh1) (.int .u64 ll1) by rw [hv_, hg_]; exact Two.new _ _ _ _)
  replace x2 := hideP (x2.out.after hb_)
  replace x3 := hideP (x3.out.after hb_)
  replace bw := hideP (bstep bw.out hb_)
  rw [← hv_, ← hg_]
  clear hv_ hg_ hb_
  refine (HtD.out v4 (Ha2.out.after bw.out) (Ha1.out.after bw.out)).mono ?_
  rintro e w5 ⟨rfl, hb⟩
  replace x2 := hideP (x2.out.after hb)
  replace x3 := hideP (x3.out.after hb)
  replace x4 := hideP (x4.out.after hb)
  replace bw := hideP (bstep bw.out hb)
  clear hb
  go_wp2_with fail
  obtain ⟨v5, hv_⟩ : ∃ v, v = w5.alloc (Obj.cells #[.int .u64 hh2, .int .u64 ll2] 29) := ⟨_, rfl⟩
  obtain ⟨g5, hg_⟩ : ∃ g, g = w5.heap.size := ⟨_, rfl⟩
  have hb_ : Below w5.heap.size w5 v5 := by rw [hv_]; exact below_new _ _
  have x5 := hideP (show Two v5 g5 29 (.int .u64 hh2) (.int .u64 ll2) by rw [hv_, hg_]; exact Two.new _ _ _ _)
  replace x2 := hideP (x2.out.after hb_)
  replace x3 := hideP (x3.out.after hb_)
  replace x4 := hideP (x4.out.after hb_)
  replace bw := hideP (bstep bw.out hb_)
  rw [← hv_, ← hg_]
  clear hv_ hg_ hb_
  go_loopw [15, 16] (fun v15 v16 wr => ∃ k : Nat, k ≤ n ∧ v16 = .int .i64 k ∧ v15 = .bool (eqTo p q k) ∧
    Hid (Two wr g2 29 (.int .u64 h) (.int .u64 l) ∧ Two wr g3 29 (.int .u64 h) (.int .u64 l) ∧ Two wr g4 29 (.int .u64 hh1) (.int .u64 ll1) ∧ Two wr g5 29 (.int .u64 hh2) (.int .u64 ll2) ∧ Below w.heap.size w wr)) (fun _ v16 _ => n - (intOf v16).toNat)
  case atStart => exact ⟨0, by omega, rfl, rfl, x2.out, x3.out, x4.out, x5.out, bw.out⟩
  case round =>
    obtain ⟨k, hk, rfl, rfl, hW⟩ := hrel
    clear x2 x3 x4 x5 bw
    by_cases hlt : k < n
    · have t' : decide ((k : Int) < n) = true := by simp; omega
      obtain ⟨b, off, rfl, hb, hc⟩ := (Ha0.out.below hW.out.2.2.2.2) (by omega)
      obtain ⟨b', off', rfl, hb', hc'⟩ := (Ha1.out.below hW.out.2.2.2.2) (by omega)
      have k1 := hc k hlt
      have k2 := hc' k hlt
      unfold i64s at k1 k2
      have hst := eqTo_succ p q k
      obtain ⟨x, ex⟩ : ∃ x, x = p.getD k 0 := ⟨_, rfl⟩
      obtain ⟨y, ey⟩ : ∃ y, y = q.getD k 0 := ⟨_, rfl⟩
      obtain ⟨s, hs⟩ : ∃ s, s = eqTo p q k := ⟨_, rfl⟩
      obtain ⟨s', hs'⟩ : ∃ s, s = eqTo p q (k + 1) := ⟨_, rfl⟩
      rw [← ex] at k1 hst
      rw [← ey] at k2 hst
      rw [← hs, ← hs'] at hst
      rw [← hs]
      have HS := hideP hs'
      have HST := hideP hst
      clear ex ey hs hc hc' hs' hst hb hb'
      cases s
      · go_wp2
        refine wp_region_eager 13 [(true, 0), (true, 1), (true, 2), (true, 3), (true, 4), (true, 5), (true, 6), (true, 7), (true, 8), (true, 9), (true, 10), (true, 11), (true, 12)] (by kernel_rfl) (by kernel_rfl) ?_
        simp only [pick, List.map_cons, List.map_nil, nthO_zero, nthO_succ]
        repeat (first
          | (refine wpPlan_skipK (by rfl) (fun K hK => ?_); go_simp; refine hK _ ?_; clear hK K)
          | (refine wpPlan_valK (by rfl) (fun K hK => ?_); apply Exists.intro; refine ⟨fun W hW => ?_, ?_⟩; (focus (have hs0 := hW.cell k1; have hs1 := hW.cell k2; go_simp; (try rfl); done)); go_simp; refine hK _ ?_; clear hK K))
        refine wpPlan_nil (fun W hW0 => ?_)
        simp only [List.drop_succ_cons, List.drop_zero, List.drop_nil]
        have hX := hW0.drew_left
        have f2 := hideP (hW.out.1.ext hX)
        have f3 := hideP (hW.out.2.1.ext hX)
        have f4 := hideP (hW.out.2.2.1.ext hX)
        have f5 := hideP (hW.out.2.2.2.1.ext hX)
        have fb := hideP (below_ext hW.out.2.2.2.2 hX)
        clear hW hW0 hX k1 k2
        go_wp2
        go_roundw
        case rel => exact ⟨k + 1, by omega, by go_num, by rw [← HS.out, HST.out]; rfl, f2.out, f3.out, f4.out, f5.out, fb.out⟩
        case measure => simp [intOf]; omega
      · obtain ⟨b, hb⟩ : ∃ b : Bool, b = (x == y) := ⟨_, rfl⟩
        have tb : (x == y) = b := hb.symm
        have HB := hideP hb
        clear hb
        go_wp2
        refine wp_region_eager 13 [(true, 0), (true, 1), (true, 2), (true, 3), (true, 4), (true, 5), (true, 6), (true, 7), (true, 8), (true, 9), (true, 10), (true, 11), (true, 12)] (by kernel_rfl) (by kernel_rfl) ?_
        simp only [pick, List.map_cons, List.map_nil, nthO_zero, nthO_succ]
        repeat (first
          | (refine wpPlan_skipK (by rfl) (fun K hK => ?_); go_simp; refine hK _ ?_; clear hK K)
          | (refine wpPlan_valK (by rfl) (fun K hK => ?_); apply Exists.intro; refine ⟨fun W hW => ?_, ?_⟩; (focus (have hs0 := hW.cell k1; have hs1 := hW.cell k2; go_simp; (try rfl); done)); go_simp; refine hK _ ?_; clear hK K))
        refine wpPlan_nil (fun W hW0 => ?_)
        simp only [List.drop_succ_cons, List.drop_zero, List.drop_nil]
        have hX := hW0.drew_left
        have f2 := hideP (hW.out.1.ext hX)
        have f3 := hideP (hW.out.2.1.ext hX)
        have f4 := hideP (hW.out.2.2.1.ext hX)
        have f5 := hideP (hW.out.2.2.2.1.ext hX)
        have fb := hideP (below_ext hW.out.2.2.2.2 hX)
        clear hW hW0 hX k1 k2
        go_wp2
        go_roundw
        case rel => exact ⟨k + 1, by omega, by go_num, by rw [← HS.out, HST.out]; try rw [HB.out]; try rfl, f2.out, f3.out, f4.out, f5.out, fb.out⟩
        case measure => simp [intOf]; omega
    · have t' : decide ((k : Int) < n) = false := by simp; omega
      have e : k = n := by omega
      rw [e]
      clear e hk hlt
      have x2 := hideP hW.out.1
      have x3 := hideP hW.out.2.1
      have x4 := hideP hW.out.2.2.1
      have x5 := hideP hW.out.2.2.2.1
      have bw := hideP hW.out.2.2.2.2
      clear hW
      have kx40 := x4.out.c0; have kx41 := x4.out.c1
      have kx50 := x5.out.c0; have kx51 := x5.out.c1
      go_wp2_with fail
      refine (HtX.out wr).mono ?_
      rintro e w6 ⟨rfl, hb⟩
      replace x2 := hideP (x2.out.after hb)
      replace x3 := hideP (x3.out.after hb)
      replace x4 := hideP (x4.out.after hb)
      replace x5 := hideP (x5.out.after hb)
      replace bw := hideP (bstep bw.out hb)
      clear hb
      clear kx40 kx41 kx50 kx51
      go_wp2_with fail
      refine (HtY.out w6).mono ?_
      rintro e w7 ⟨rfl, hb⟩
      replace x2 := hideP (x2.out.after hb)
      replace x3 := hideP (x3.out.after hb)
      replace x4 := hideP (x4.out.after hb)
      replace x5 := hideP (x5.out.after hb)
      replace bw := hideP (bstep bw.out hb)
      clear hb
      obtain ⟨s, hs_⟩ : ∃ s, s = eqTo p q n := ⟨_, rfl⟩
      rw [← hs_] at HhZ ⊢
      clear hs_
      have th := Hth2.out
      have y5 := x5.out.alloc (Obj.cells #[.int .u64 hs, .int .u64 ls] 29)
      have n7 := Two.new w7 29 (.int .u64 hs) (.int .u64 ls)
      have q0 := y5.c0
      have f0 := n7.fz 0
      have q1 := n7.c0
      clear y5 n7
      obtain ⟨v8, hv8⟩ : ∃ v, v = w7.alloc (Obj.cells #[.int .u64 hc, .int .u64 ls] 29) := ⟨_, rfl⟩
      have bv8 : Below w7.heap.size w7 v8 := by rw [hv8]; exact below_new _ _
      have x17 : Two v8 w7.heap.size 29 (.int .u64 hc) (.int .u64 ls) := by rw [hv8]; exact Two.new _ _ _ _
      replace x2 := hideP (x2.out.after bv8)
      replace x3 := hideP (x3.out.after bv8)
      replace bw := hideP (bstep bw.out bv8)
      clear bv8
      rw [hv8] at x2 x3 x17 bw
      clear hv8
      have kx20 := x2.out.c0; have kx21 := x2.out.c1
      have kx30 := x3.out.c0; have kx31 := x3.out.c1
      have kx170 := x17.c0
      have kx171 := x17.c1
      clear x17
      cases s
      · have hz : ¬ (h = 0 ∧ l = 0) := fun hh => by have := HhZ.out.1 hh; cases this
        by_cases h0 : h = 0
        · subst h0
          have hl : ¬ l = 0 := fun h => hz ⟨rfl, h⟩
          clear hz
          go_wp2_with fail
          refine (HtZ.out _).mono ?_
          rintro e w9 ⟨rfl, hb⟩
          replace bw := hideP (bstep bw.out hb)
          clear hb
          clear kx20 kx21 kx30 kx31 kx170 kx171
          go_wp2
          go_ret
          exact ⟨rfl, bw.out⟩
        · clear hz
          go_wp2_with fail
          refine (HtZ.out _).mono ?_
          rintro e w9 ⟨rfl, hb⟩
          replace bw := hideP (bstep bw.out hb)
          clear hb
          clear kx20 kx21 kx30 kx31 kx170 kx171
          go_wp2
          go_ret
          exact ⟨rfl, bw.out⟩
      · obtain ⟨rfl, rfl⟩ := HhZ.out.2 rfl
        go_wp2_with fail
        refine (HtZ.out _).mono ?_
        rintro e w9 ⟨rfl, hb⟩
        replace bw := hideP (bstep bw.out hb)
        clear hb
        clear kx20 kx21 kx30 kx31 kx170 kx171
        go_wp2
        go_ret
        exact ⟨rfl, bw.out⟩
end Go.Proofs.Ytnekbmndphbaoaa
