/- The walk of DistSums. -/
import Derived.Test.YtnekbmndphbaoaaLaw03
set_option linter.unusedVariables false
set_option linter.unusedSimpArgs false
namespace Go.Proofs.Ytnekbmndphbaoaa
open Go.RowKit
set_option maxRecDepth 100000 in
set_option maxHeartbeats 8000000 in
theorem walk_DistSums (a b c : Int) (A : Option Addr) (l : List Nat) (cp : Nat) (D E : Nat) (w : World) (ba : I64 a) (bb : I64 b) (bc : I64 c)
    (aA : Arr w w.heap.size A l.length (u64s l)) (hl : ∀ i, l.getD i 0 < 18446744073709551616) (hn : l.length ≤ 17592186043904) (hD : D < 340282366920938463463374607431768211456) (hE : E < 340282366920938463463374607431768211456) :
    Calls Try.prog 5 #[.int .i64 a, .int .i64 b, .int .i64 c, .slice A l.length cp, dv D, dv E] w fun e w' => e = .returned (.bool true) ∧ Below w.heap.size w w' := by
  obtain ⟨S, hS⟩ : ∃ S, S = l.sum % 340282366920938463463374607431768211456 := ⟨_, rfl⟩
  obtain ⟨x, hx⟩ : ∃ x, x = apart a b := ⟨_, rfl⟩
  obtain ⟨y, hy⟩ : ∃ y, y = gap a b c := ⟨_, rfl⟩
  have tA1 := fun W => apart_any a b W ba bb
  have tA2 := fun W => rapart_any a b W ba bb
  have tG1 := fun W => gap_any a b c W ba bb bc
  have tG2 := fun W => rgap_any a b c W ba bb bc
  have tS1 := fun W h => dist_sum A l cp W h hl hn
  have tS2 := fun W h => rsum_any A l cp W h hl hn
  rw [← hS] at tS1 tS2
  rw [← hx] at tA1 tA2
  rw [← hy] at tG1 tG2
  have tL1 := fun W => rless_any D E W hD hE
  have tL2 := fun W => rless_any E D W hE hD
  have tC := fun W => dist_cmp D E W hD hE
  have hpq : ∃ (p q : Bool) (r : Int), p = decide (D < E) ∧ q = decide (E < D) ∧ r = (if D < E then -1 else if E < D then 1 else 0) ∧ ((p = true ∧ q = false ∧ r = -1) ∨ (p = false ∧ q = true ∧ r = 1) ∨ (p = false ∧ q = false ∧ r = 0)) := by
    refine ⟨_, _, _, rfl, rfl, rfl, ?_⟩
    rcases Nat.lt_trichotomy D E with h | h | h
    · left; simp [h, Nat.le_of_lt h]
    · right; right; simp [h]
    · right; left; simp [h, Nat.lt_asymm h, Nat.le_of_lt h]
  obtain ⟨p, q, r, hp, hq, hr, hpq⟩ := hpq
  rw [← hp] at tL1
  rw [← hq] at tL2
  rw [← hr] at tC
  unfold dv dvp at tS1 tS2 tL1 tL2 tC ⊢
  obtain ⟨h1, e1⟩ : ∃ h, h = D / 18446744073709551616 := ⟨_, rfl⟩
  obtain ⟨l1, e2⟩ : ∃ l, l = D % 18446744073709551616 := ⟨_, rfl⟩
  obtain ⟨h2, e3⟩ : ∃ h, h = E / 18446744073709551616 := ⟨_, rfl⟩
  obtain ⟨l2, e4⟩ : ∃ l, l = E % 18446744073709551616 := ⟨_, rfl⟩
  rw [← e1, ← e2, ← e3, ← e4] at tL1 tL2 tC ⊢
  clear e1 e2 e3 e4 hp hq hr hx hy hD hE ba bb bc
  have HaA := hideP aA; have Hhl := hideP hl; have HtA1 := hideP tA1; have HtA2 := hideP tA2; have HtG1 := hideP tG1; have HtG2 := hideP tG2; have HtS1 := hideP tS1; have HtS2 := hideP tS2; have HtL1 := hideP tL1; have HtL2 := hideP tL2; have HtC := hideP tC; have HhS := hideP hS; clear aA hl tA1 tA2 tG1 tG2 tS1 tS2 tL1 tL2 tC hS
  by_cases hbig : 1000 < l.length
  · have t0 : decide ((1000 : Int) < l.length) = true := by simp; omega
    go_enter Try.func5, Try.ntmps5
    go_wp2_with fail
    have bw : Below w.heap.size w ((w.alloc (Obj.cells #[.int .u64 h1, .int .u64 l1] 29)).alloc (Obj.cells #[.int .u64 h2, .int .u64 l2] 29)) := (below_new _ _).alloc (by simp) _
    refine (alive03 _).mono ?_
    rintro e w1 ⟨rfl, hb1⟩
    have bw1 := hideP (bw.trans (hb1.mono bw.size))
    clear bw hb1
    go_wp2
    go_ret
    exact ⟨rfl, bw1.out⟩
  have t0 : decide ((1000 : Int) < l.length) = false := by simp; omega
  rcases hpq with ⟨rfl, rfl, rfl⟩ | ⟨rfl, rfl, rfl⟩ | ⟨rfl, rfl, rfl⟩
  all_goals
    go_enter Try.func5, Try.ntmps5
    go_wp2_with fail
    obtain ⟨w0, hw0⟩ : ∃ w0, w0 = (w.alloc (Obj.cells #[.int .u64 h1, .int .u64 l1] 29)).alloc (Obj.cells #[.int .u64 h2, .int .u64 l2] 29) := ⟨_, rfl⟩
    have td : Two w0 w.heap.size 29 (.int .u64 h1) (.int .u64 l1) := by rw [hw0]; exact (Two.new _ _ _ _).alloc _
    have te : Two w0 (w.heap.size + 1) 29 (.int .u64 h2) (.int .u64 l2) := by rw [hw0]; exact Two.new' _ _ _ _ _ (by simp)
    have bw : Below w.heap.size w w0 := by rw [hw0]; exact (below_new _ _).alloc (by simp) _
    rw [← hw0]
    clear hw0
    refine (alive03 w0).mono ?_
    rintro e w1 ⟨rfl, hb1⟩
    have td1 := hideP (td.after hb1); have te1 := hideP (te.after hb1); have bw1 := hideP (bw.trans (hb1.mono bw.size))
    clear td te bw hb1
    have k0 := td1.out.c0
    have k1 := td1.out.c1
    have k2 := te1.out.c0
    have k3 := te1.out.c1
    go_wp2_with fail
    refine (HtL1.out w1).mono ?_
    rintro e w2 ⟨rfl, hb⟩
    have td2 := hideP (td1.out.after hb); have te2 := hideP (te1.out.after hb); have bw2 := hideP (bw1.out.trans (hb.mono bw1.out.size))
    clear td1 te1 bw1 hb k0 k1 k2 k3 w0 w1
    have k0 := td2.out.c0
    have k1 := td2.out.c1
    have k2 := te2.out.c0
    have k3 := te2.out.c1
    go_wp2_with fail
    refine (HtL2.out w2).mono ?_
    rintro e w3 ⟨rfl, hb⟩
    have td3 := hideP (td2.out.after hb); have te3 := hideP (te2.out.after hb); have bw3 := hideP (bw2.out.trans (hb.mono bw2.out.size))
    clear td2 te2 bw2 hb k0 k1 k2 k3 w2
    go_wp2_with fail
    refine (HtS1.out w3 (HaA.out.after bw3.out)).mono ?_
    rintro e w4 ⟨rfl, hb⟩
    obtain ⟨h3, e1⟩ : ∃ h, h = S / 18446744073709551616 := ⟨_, rfl⟩
    obtain ⟨l3, e2⟩ : ∃ l, l = S % 18446744073709551616 := ⟨_, rfl⟩
    rw [← e1, ← e2] at HtS2 ⊢
    have H3 := hideP e1; have L3 := hideP e2
    clear e1 e2
    have td4 := hideP (td3.out.after hb); have te4 := hideP (te3.out.after hb); have bw4 := hideP (bw3.out.trans (hb.mono bw3.out.size))
    clear td3 te3 bw3 hb w3
    go_wp2_with fail
    obtain ⟨w5, hw5⟩ : ∃ v, v = (w4.alloc (Obj.cells #[.int .u64 h3, .int .u64 l3] 29)).alloc (Obj.cells #[.int .u64 0, .int .u64 0] 29) := ⟨_, rfl⟩
    obtain ⟨g, hg⟩ : ∃ g, g = w4.heap.size := ⟨_, rfl⟩
    have b5 : Below w4.heap.size w4 w5 := by rw [hw5]; exact (below_new _ _).alloc (by simp) _
    have ts5 : Two w5 g 29 (.int .u64 h3) (.int .u64 l3) := by rw [hw5, hg]; exact (Two.new _ _ _ _).alloc _
    have tz5 : Two w5 (g + 1) 29 (.int .u64 (0 : Nat)) (.int .u64 (0 : Nat)) := by rw [hw5, hg]; exact Two.new' _ _ _ _ _ (by simp)
    have td5 := td4.out.after b5; have te5 := te4.out.after b5; have bw5 := bw4.out.trans (b5.mono bw4.out.size)
    have gg : w.heap.size + 1 < g := by rw [hg]; exact te4.out.lt
    rw [← hw5, ← hg]
    have GG := hideP gg
    clear hw5 hg gg td4 te4 bw4 b5
    go_loopw [16] (fun v16 wr => ∃ k D : Nat, k ≤ l.length ∧ v16 = .int .i64 k ∧ Hid (D = (l.take k).sum % 340282366920938463463374607431768211456) ∧
      Hid (Two wr g 29 (.int .u64 h3) (.int .u64 l3) ∧ Two wr (g + 1) 29 (.int .u64 (D / 18446744073709551616 : Nat)) (.int .u64 (D % 18446744073709551616 : Nat)) ∧ Two wr w.heap.size 29 (.int .u64 h1) (.int .u64 l1) ∧ Two wr (w.heap.size + 1) 29 (.int .u64 h2) (.int .u64 l2) ∧ Below w.heap.size w wr)) (fun v16 _ => l.length - (intOf v16).toNat)
    case atStart => exact ⟨0, 0, by omega, rfl, rfl, ts5, tz5, td5, te5, bw5⟩
    case round =>
      obtain ⟨k, D, hk, rfl, hD, hW⟩ := hrel
      clear ts5 tz5 td5 te5 bw5
      by_cases hlt : k < l.length
      · have t : decide ((k : Int) < l.length) = true := by simp; omega
        obtain ⟨b, off, rfl, hb, hc⟩ := (HaA.out.below hW.out.2.2.2.2) (by omega)
        have k1 := hc k hlt
        unfold u64s at k1
        have hx := Hhl.out k
        obtain ⟨x, ex⟩ : ∃ x, x = l.getD k 0 := ⟨_, rfl⟩
        rw [← ex] at k1 hx
        have ta := fun W => dist_add D x W (by have := hD.out; omega) hx
        obtain ⟨D', hD'⟩ : ∃ D', D' = (D + x) % 340282366920938463463374607431768211456 := ⟨_, rfl⟩
        rw [← hD'] at ta
        unfold dv dvp at ta
        have hs : D' = (l.take (k + 1)).sum % 340282366920938463463374607431768211456 := by
          rw [hD', hD.out, List.take_add_one, List.sum_append, List.getElem?_eq_getElem hlt, ex]
          simp [List.getD, List.getElem?_eq_getElem hlt, Nat.add_mod]
        have Hhs := hideP hs; have Hta := hideP ta; clear hs ta
        have q0 := hW.out.2.1.c0
        have q1 := hW.out.2.1.c1
        clear hc hx hD' ex
        go_wp2
        refine wp_region_eager 6 [(true, 0), (true, 1), (true, 2), (true, 3), (true, 4), (true, 5)] (by kernel_rfl) (by kernel_rfl) ?_
        simp only [pick, List.map_cons, List.map_nil, nthO_zero, nthO_succ]
        repeat (first
          | (refine wpPlan_skipK (by rfl) (fun K hK => ?_); go_simp; refine hK _ ?_; clear hK K)
          | (refine wpPlan_valK (by rfl) (fun K hK => ?_); apply Exists.intro; refine ⟨fun W hW => ?_, ?_⟩; (focus (have hs0 := hW.cell k1; have hs1 := hW.cell q0; have hs2 := hW.cell q1; go_simp; (try rfl); done)); go_simp; refine hK _ ?_; clear hK K)
          | (refine wpPlan_callK (.agg #[.int .u64 (D' / 18446744073709551616 : Nat), .int .u64 (D' % 18446744073709551616 : Nat)]) 22 #[.agg #[.int .u64 (D / 18446744073709551616 : Nat), .int .u64 (D % 18446744073709551616 : Nat)], .int .u64 x] (by rfl) ?_ (fun W hW => (Hta.out W).mono fun e w' h => ⟨h.1, Ext.of_below h.2⟩) (fun K hK => ?_); (focus (intro W; go_simp; done)); go_simp; refine hK _ ?_; clear hK K))
        refine wpPlan_nil (fun W hW0 => ?_)
        simp only [List.drop_succ_cons, List.drop_zero, List.drop_nil]
        have hX := hW0.drew_left
        have r0 := hideP (hW.out.1.ext hX)
        have r1 := hideP (hW.out.2.1.ext hX)
        have r2 := hideP (hW.out.2.2.1.ext hX)
        have r3 := hideP (hW.out.2.2.2.1.ext hX)
        have rb := hideP (below_ext hW.out.2.2.2.2 hX)
        have f0 := r1.out.fz 0
        have f1 := r1.out.fz 1
        have p0 := r1.out.c0
        have p1 := r1.out.c1
        clear hW hW0 hX q0 q1 k1
        go_wp2
        go_roundw
        case rel =>
          have hgg := GG.out
          refine ⟨k + 1, D', by omega, by go_num, Hhs.out, ?_, ?_, ?_, ?_, ?_⟩
          · exact (r0.out.setOther (by simp) _).setOther (by simp) _
          · exact r1.out.set2 _ _
          · exact (r2.out.setOther (by simp; omega) _).setOther (by simp; omega) _
          · exact (r3.out.setOther (by simp; omega) _).setOther (by simp; omega) _
          · exact (rb.out.setCell (p := ⟨g + 1, 0, none⟩) (by simp; omega) _).setCell (p := ⟨g + 1, 1, none⟩) (by simp; omega) _
        case measure => simp [intOf]; omega
      · have t : decide ((k : Int) < l.length) = false := by simp; omega
        have e : k = l.length := by omega
        have hDS : D = S := by have := hD.out; rw [e, List.take_length] at this; rw [this, HhS.out]
        rw [hDS, ← H3.out, ← L3.out] at hW
        have HW := hideP hW.out
        clear hDS hD e hW
        have q0 := HW.out.1.c0
        have q1 := HW.out.1.c1
        have q2 := HW.out.2.1.c0
        have q3 := HW.out.2.1.c1
        have q4 := HW.out.2.2.1.c0
        have q5 := HW.out.2.2.1.c1
        have q6 := HW.out.2.2.2.1.c0
        have q7 := HW.out.2.2.2.1.c1
        go_wp2
        refine wp_region_eager 37 [(true, 0), (true, 1), (true, 2), (true, 3), (true, 4), (true, 5), (true, 6), (true, 7), (true, 8), (true, 9), (true, 10), (true, 11), (true, 12), (true, 13), (true, 14), (true, 15), (true, 16), (true, 17), (true, 18), (true, 19), (true, 20), (true, 21), (true, 22), (true, 23), (true, 24), (true, 25), (true, 26), (true, 27), (true, 28), (true, 29), (true, 30), (true, 31), (true, 32), (true, 33), (true, 34), (true, 35), (true, 36)] (by kernel_rfl) (by kernel_rfl) ?_
        simp only [pick, List.map_cons, List.map_nil, nthO_zero, nthO_succ]
        repeat (first
          | (refine wpPlan_skipK (by rfl) (fun K hK => ?_); go_simp; refine hK _ ?_; clear hK K)
          | (refine wpPlan_valK (by rfl) (fun K hK => ?_); apply Exists.intro; refine ⟨fun W hW => ?_, ?_⟩; (focus (have hs0 := hW.cell q0; have hs1 := hW.cell q1; have hs2 := hW.cell q2; have hs3 := hW.cell q3; have hs4 := hW.cell q4; have hs5 := hW.cell q5; have hs6 := hW.cell q6; have hs7 := hW.cell q7; go_simp; (try rfl); done)); go_simp; refine hK _ ?_; clear hK K)
          | (refine wpPlan_callK (.int .u64 x) 23 #[.int .i64 a, .int .i64 b] (by rfl) ?_ (fun W hW => (HtA1.out W).mono fun e w' h => ⟨h.1, by rw [← h.2]; exact Ext.refl _⟩) (fun K hK => ?_); (focus (intro W; go_simp; done)); go_simp; refine hK _ ?_; clear hK K)
          | (refine wpPlan_callK (.int .u64 x) 24 #[.int .i64 a, .int .i64 b] (by rfl) ?_ (fun W hW => (HtA2.out W).mono fun e w' h => ⟨h.1, by rw [← h.2]; exact Ext.refl _⟩) (fun K hK => ?_); (focus (intro W; go_simp; done)); go_simp; refine hK _ ?_; clear hK K)
          | (refine wpPlan_callK (.int .u64 y) 25 #[.int .i64 a, .int .i64 b, .int .i64 c] (by rfl) ?_ (fun W hW => (HtG1.out W).mono fun e w' h => ⟨h.1, by rw [← h.2]; exact Ext.refl _⟩) (fun K hK => ?_); (focus (intro W; go_simp; done)); go_simp; refine hK _ ?_; clear hK K)
          | (refine wpPlan_callK (.int .u64 y) 26 #[.int .i64 a, .int .i64 b, .int .i64 c] (by rfl) ?_ (fun W hW => (HtG2.out W).mono fun e w' h => ⟨h.1, by rw [← h.2]; exact Ext.refl _⟩) (fun K hK => ?_); (focus (intro W; go_simp; done)); go_simp; refine hK _ ?_; clear hK K)
          | (refine wpPlan_callK (.agg #[.int .u64 h3, .int .u64 l3]) 27 #[.slice A l.length cp] (by rfl) ?_ (fun W hW => (HtS2.out W (HaA.out.after (below_ext HW.out.2.2.2.2 hW.drew_left))).mono fun e w' h => ⟨h.1, Ext.of_below h.2⟩) (fun K hK => ?_); (focus (intro W; go_simp; done)); go_simp; refine hK _ ?_; clear hK K)
          | (refine wpPlan_callK _ 28 #[.agg #[.int .u64 h1, .int .u64 l1], .agg #[.int .u64 h2, .int .u64 l2]] (by rfl) ?_ (fun W hW => (HtC.out W).mono fun e w' h => ⟨h.1, Ext.of_below h.2⟩) (fun K hK => ?_); (focus (intro W; go_simp; done)); go_simp; refine hK _ ?_; clear hK K))
        refine wpPlan_nil (fun W hW0 => ?_)
        simp only [List.drop_succ_cons, List.drop_zero, List.drop_nil]
        have hX : Below w.heap.size w W := below_ext HW.out.2.2.2.2 hW0.drew_left
        have HX := hideP hX
        clear hX hW0 q0 q1 q2 q3 q4 q5 q6 q7
        go_wp2
        go_ret
        exact ⟨rfl, HX.out⟩
end Go.Proofs.Ytnekbmndphbaoaa
