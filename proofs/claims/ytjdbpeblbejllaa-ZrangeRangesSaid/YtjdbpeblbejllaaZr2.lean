/- Contracts of zrange's lower and unlike. -/
import Derived.Test.YtjdbpeblbejllaaZr1
import Derived.Test.YtjdbpeblbejllaaStep
import Derived.Deep.DeepCutAuto
set_option linter.unusedVariables false
set_option linter.unusedSimpArgs false
namespace Go.Proofs.Ytjdbpeblbejllaa
open Go.RowKit
set_option maxRecDepth 100000 in
theorem lower_any (z : Int) (s : Nat) (w : World) (h1 : -9223372036854775808 ≤ z) (h2 : z ≤ 9223372036854775807) (hs : s ≤ 63) :
    Calls Try.prog 56 #[.int .i64 z, .int .i64 (s : Int)] w fun e w' => e = .returned (.int .i64 (toI (loN (pl z) s))) ∧ Ext w w' := by
  obtain ⟨x, hx⟩ : ∃ x, x = pl z := ⟨_, rfl⟩
  have hxl : x < 18446744073709551616 := by rw [hx]; exact pl_lt z h2
  have c1 := fun W => zplain_any z W h1 h2
  rw [← hx] at c1 ⊢
  clear hx
  obtain ⟨P, hP⟩ : ∃ P, P = 2 ^ (s + 1) - 1 := ⟨_, rfl⟩
  obtain ⟨Q, hQ⟩ : ∃ Q, Q = 2 ^ s := ⟨_, rfl⟩
  have hPl : P < 18446744073709551616 := by
    rw [hP]; have := Nat.pow_le_pow_right (n := 2) (by omega) (show s + 1 ≤ 64 by omega); rw [pow64] at this; omega
  have hQl : Q < 18446744073709551616 := by
    rw [hQ]; have := Nat.pow_lt_pow_right (a := 2) (by omega) (show s < 64 by omega); rw [pow64] at this; omega
  have c2 := fun W => ones_any ((s : Int) + 1) W (by omega) (by omega)
  rw [show ((s : Int) + 1).toNat = s + 1 by omega, ← hP] at c2
  have e0 : IntKind.u64.wrap ((2 : Int) ^ s) = (Q : Int) := by
    rw [pow_int, ← hQ]; simp only [IntKind.wrap, IntKind.signed, IntKind.bits]; simp; omega
  obtain ⟨Y, hY⟩ : ∃ Y, Y = x &&& (18446744073709551615 - P) := ⟨_, rfl⟩
  have hYl : Y < 18446744073709551616 := by rw [hY]; exact Nat.lt_of_le_of_lt Nat.and_le_left hxl
  have e1 : bits .andNot .u64 (x : Int) (P : Int) = (Y : Int) := by rw [hY]; exact u64_andNot_nat x P hxl hPl
  obtain ⟨U, hU⟩ : ∃ U, U = loN x s := ⟨_, rfl⟩
  have e2 : bits .or .u64 (Y : Int) (Q : Int) = (U : Int) := by
    rw [u64_or_nat Y Q hYl hQl, hY, hP, hQ, hU, lower_nat x s hxl hs]
  have hUl : U < 18446744073709551616 := by rw [hU]; exact loN_lt x s hxl hs
  have c4 := fun W => signed_any U W hUl
  rw [← hU]
  have e3 : IntKind.i64.wrap ((s : Int) + 1) = (s : Int) + 1 := IntWalk.i64_in _ (by omega)
  clear hU hY hP hQ hYl hPl hQl hUl hxl
  have Hc1 := hideP c1; have Hc2 := hideP c2; have Hc4 := hideP c4; clear c1 c2 c4
  go_enter Try.func56, Try.ntmps56
  go_upto_region 1 with fail
  refine wp_region_eager 11 [(true, 0), (true, 1), (true, 2), (true, 3), (true, 4), (true, 5), (true, 6), (true, 7), (true, 8), (true, 9), (true, 10)] (by kernel_rfl) (by kernel_rfl) ?_
  simp only [pick, List.map_cons, List.map_nil, nthO_zero, nthO_succ]
  repeat (first
    | (refine wpPlan_skipK (by rfl) (fun K hK => ?_); go_simp; refine hK _ ?_; clear hK K)
    | (refine wpPlan_valK (by rfl) (fun K hK => ?_); apply Exists.intro; refine ⟨fun W hW => ?_, ?_⟩; (focus (go_simp; (try rfl); done)); go_simp; refine hK _ ?_; clear hK K)
    | (refine wpPlan_callK (.int .u64 (x : Int)) 62 #[.int .i64 z] (by rfl) ?_ (fun W hW => (Hc1.out W).mono fun e w2 h => ⟨h.1, h.2 ▸ Ext.refl _⟩) (fun K hK => ?_); (focus (intro W; go_simp; done)); go_simp; refine hK _ ?_; clear hK K)
    | (refine wpPlan_callK (.int .u64 (P : Int)) 63 #[.int .i64 ((s : Int) + 1)] (by rfl) ?_ (fun W hW => (Hc2.out W).mono fun e w2 h => ⟨h.1, h.2 ▸ Ext.refl _⟩) (fun K hK => ?_); (focus (intro W; go_simp; done)); go_simp; refine hK _ ?_; clear hK K)
    | (refine wpPlan_callK (.int .i64 (toI U)) 86 #[.int .u64 (U : Int)] (by rfl) ?_ (fun W hW => (Hc4.out W).mono fun e w2 h => ⟨h.1, h.2 ▸ Ext.refl _⟩) (fun K hK => ?_); (focus (intro W; go_simp; done)); go_simp; refine hK _ ?_; clear hK K))
  refine wpPlan_nil (fun W hW0 => ?_)
  simp only [List.drop_succ_cons, List.drop_zero, List.drop_nil]
  have x3 := hideP hW0.drew_left
  clear e0 e1 e2 e3 hW0
  go_wp2
  go_ret
  exact ⟨rfl, x3.out⟩
/-- the side and the bit at which two corners are first unlike, as the program reckons it -/
def uStep (lo hi : List Int) (s : Nat × Int) (i : Nat) : Nat × Int := if s.2 < (Lib.bitLen (X lo hi i) : Int) - 1 then (i, (Lib.bitLen (X lo hi i) : Int) - 1) else s
def uSt (lo hi : List Int) : Nat → Nat × Int
  | 0 => (0, -1)
  | k + 1 => uStep lo hi (uSt lo hi k) k
theorem bitLen_le (x : Nat) (hx : x < 2 ^ 64) : Lib.bitLen x ≤ 64 := by
  rcases Nat.eq_zero_or_pos x with h | h
  · subst h; decide
  · obtain ⟨m, hm⟩ := top_of x h hx
    rw [bitLen_top hm]; omega
theorem uSt_bd (lo hi : List Int) (hp : IsI lo) (hq : IsI hi) : ∀ k, (uSt lo hi k).1 ≤ k ∧ -1 ≤ (uSt lo hi k).2 ∧ (uSt lo hi k).2 ≤ 63
  | 0 => by simp [uSt]
  | k + 1 => by
    have ih := uSt_bd lo hi hp hq k
    have hb := bitLen_le (X lo hi k) (X_lt lo hi hp hq k)
    show (uStep lo hi (uSt lo hi k) k).1 ≤ k + 1 ∧ -1 ≤ (uStep lo hi (uSt lo hi k) k).2 ∧ (uStep lo hi (uSt lo hi k) k).2 ≤ 63
    unfold uStep
    split
    · exact ⟨by show k ≤ k + 1; omega, by show -1 ≤ (Lib.bitLen (X lo hi k) : Int) - 1; omega, by show (Lib.bitLen (X lo hi k) : Int) - 1 ≤ 63; omega⟩
    · exact ⟨by omega, ih.2⟩
set_option maxRecDepth 100000 in
set_option maxHeartbeats 1000000 in
theorem unlike_any (L H : Option Addr) (lo hi : List Int) (dl sh : Nat) (w : World) (hL : Arr w w.heap.size L lo.length (i64s lo)) (hH : Arr w w.heap.size H hi.length (i64s hi)) (hl : hi.length = lo.length) (hp : IsI lo) (hq : IsI hi) (hn : lo.length ≤ 8) :
    Calls Try.prog 53 #[.agg #[.slice L lo.length dl, .slice H hi.length sh]] w fun e w' => e = .returned (.tuple #[.int .i64 (uSt lo hi lo.length).1, .int .i64 (uSt lo hi lo.length).2, .bool (decide (0 ≤ (uSt lo hi lo.length).2))]) ∧ Ext w w' := by
  rw [hl] at hH ⊢
  obtain ⟨n, hn'⟩ : ∃ n, n = lo.length := ⟨_, rfl⟩
  rw [← hn'] at hn hL hH ⊢
  have hnl := hideP hn'
  clear hn' hl
  have HhL := hideP hL; have HhH := hideP hH; have Hhp := hideP hp; have Hhq := hideP hq; clear hL hH hp hq
  go_enter Try.func53, Try.ntmps53
  go_upto_region 1 with fail
  obtain ⟨w1, hw1⟩ : ∃ w1, w1 = w.alloc (Obj.cells #[.slice L n dl, .slice H n sh] 58) := ⟨_, rfl⟩
  obtain ⟨g, hg⟩ : ∃ g, g = w.heap.size := ⟨_, rfl⟩
  have B1 := hideP (show Two w1 g 58 (.slice L n dl) (.slice H n sh) by rw [hw1, hg]; exact Two.new _ _ _ _)
  have x1 := hideP (show Ext w w1 by rw [hw1]; exact Ext.alloc _ _)
  rw [← hw1, ← hg]
  clear hw1 hg
  have k0 := B1.out.c0
  go_wp2
  clear k0
  go_loopw [5, 6, 12] (fun v5 v6 v12 wr => ∃ k : Nat, k ≤ n ∧ v12 = .int .i64 k ∧ v5 = .int .i64 (uSt lo hi k).1 ∧ v6 = .int .i64 (uSt lo hi k).2 ∧ Hid (Ext w1 wr)) (fun _ _ v _ => n - (intOf v).toNat)
  case atStart => exact ⟨0, Nat.zero_le _, rfl, rfl, rfl, hideP (Ext.refl _)⟩
  case round =>
    obtain ⟨k, hkn, rfl, rfl, rfl, hx⟩ := hrel
    have hbd := uSt_bd lo hi Hhp.out Hhq.out k
    obtain ⟨sd, hsd⟩ : ∃ s, s = (uSt lo hi k).1 := ⟨_, rfl⟩
    obtain ⟨bt, hbt⟩ : ∃ s, s = (uSt lo hi k).2 := ⟨_, rfl⟩
    rw [← hsd, ← hbt] at hbd ⊢
    have B2 := hideP (B1.out.ext hx.out)
    by_cases hlt : k < n
    · obtain ⟨a, ha⟩ : ∃ a, a = lo.getD k 0 := ⟨_, rfl⟩
      obtain ⟨b, hb⟩ : ∃ b, b = hi.getD k 0 := ⟨_, rfl⟩
      have ha1 := Hhp.out k
      have hb1 := Hhq.out k
      rw [← ha] at ha1
      rw [← hb] at hb1
      obtain ⟨lb, lf, hLe, hLb, hLc⟩ := HhL.out (by omega)
      obtain ⟨hb', hf, hHe, hHb, hHc⟩ := HhH.out (by omega)
      have y1 := hideP ((x1.out.trans hx.out))
      have ca : wr.cell? ⟨lb, lf + k, none⟩ = some (.int .i64 a) := by rw [ha]; exact y1.out.cell (hLc k hlt)
      have cb : wr.cell? ⟨hb', hf + k, none⟩ = some (.int .i64 b) := by rw [hb]; exact y1.out.cell (hHc k hlt)
      subst hLe hHe
      obtain ⟨x, hx'⟩ : ∃ x, x = X lo hi k := ⟨_, rfl⟩
      have hxl : x < 18446744073709551616 := by rw [hx']; exact X_lt lo hi Hhp.out Hhq.out k
      have ex : bits .xor .u64 (pl a : Int) (pl b : Int) = (x : Int) := by
        rw [hx', ha, hb]
        exact u64_xor_nat _ _ (pl_lt _ (Hhp.out k).2) (pl_lt _ (Hhq.out k).2)
      obtain ⟨m, hm⟩ : ∃ m, m = Lib.bitLen x := ⟨_, rfl⟩
      have hm64 : m ≤ 64 := by rw [hm]; exact bitLen_le x (by rw [pow64]; exact hxl)
      have c3 := hideP (fun W => len64_any x W hxl)
      rw [← hm] at c3
      have c1 := hideP (fun W => zplain_any a W ha1.1 ha1.2)
      have c2 := hideP (fun W => zplain_any b W hb1.1 hb1.2)
      have ew : IntKind.i64.wrap ((m : Int) - 1) = (m : Int) - 1 := IntWalk.i64_in _ (by omega)
      have hst := hideP (show uSt lo hi (k + 1) = if bt < (m : Int) - 1 then (k, (m : Int) - 1) else (sd, bt) by
        show uStep lo hi (uSt lo hi k) k = _
        unfold uStep
        rw [← hx', ← hm, ← hbt]
        split
        · rfl
        · rw [hsd, hbt])
      obtain ⟨pa, hpa⟩ : ∃ p, p = pl a := ⟨_, rfl⟩
      obtain ⟨pb, hpb⟩ : ∃ p, p = pl b := ⟨_, rfl⟩
      rw [← hpa] at c1 ex
      rw [← hpb] at c2 ex
      clear ha hb ha1 hb1 hLb hLc hHb hHc hx' hxl hm hsd hbt hpa hpb
      have q0 := B2.out.c0
      have q1 := B2.out.c1
      go_upto_region 5 with fail
      refine wp_region_eager 16 [(true, 0), (true, 1), (true, 2), (true, 3), (true, 4), (true, 5), (true, 6), (true, 7), (true, 8), (true, 9), (true, 10), (true, 11), (true, 12), (true, 13), (true, 14), (true, 15)] (by kernel_rfl) (by kernel_rfl) ?_
      simp only [pick, List.map_cons, List.map_nil, nthO_zero, nthO_succ]
      repeat (first
        | (refine wpPlan_skipK (by rfl) (fun K hK => ?_); go_simp; refine hK _ ?_; clear hK K)
        | (refine wpPlan_valK (by rfl) (fun K hK => ?_); apply Exists.intro; refine ⟨fun W hW => ?_, ?_⟩; (focus (have hs0 := hW.cell q0; have hs1 := hW.cell q1; have hs2 := hW.cell ca; have hs3 := hW.cell cb; go_simp; (try rfl); done)); go_simp; refine hK _ ?_; clear hK K)
        | (refine wpPlan_callK (.int .u64 (pa : Int)) 62 #[.int .i64 a] (by rfl) ?_ (fun W hW => (c1.out W).mono fun e w2 h => ⟨h.1, h.2 ▸ Ext.refl _⟩) (fun K hK => ?_); (focus (intro W; go_simp; done)); go_simp; refine hK _ ?_; clear hK K)
        | (refine wpPlan_callK (.int .u64 (pb : Int)) 62 #[.int .i64 b] (by rfl) ?_ (fun W hW => (c2.out W).mono fun e w2 h => ⟨h.1, h.2 ▸ Ext.refl _⟩) (fun K hK => ?_); (focus (intro W; go_simp; done)); go_simp; refine hK _ ?_; clear hK K)
        | (refine wpPlan_callK (.int .i64 (m : Int)) 85 #[.int .u64 (x : Int)] (by rfl) ?_ (fun W hW => (c3.out W).mono fun e w2 h => ⟨h.1, h.2 ▸ Ext.refl _⟩) (fun K hK => ?_); (focus (intro W; go_simp; done)); go_simp; refine hK _ ?_; clear hK K))
      refine wpPlan_nil (fun W hW0 => ?_)
      simp only [List.drop_succ_cons, List.drop_zero, List.drop_nil]
      have x3 := hideP (hx.out.trans hW0.drew_left)
      clear ex ew hW0 ca cb q0 q1
      by_cases hgt : bt < (m : Int) - 1
      · have hst2 := hideP (show uSt lo hi (k + 1) = (k, (m : Int) - 1) by rw [hst.out, if_pos hgt])
        go_wp2
        go_roundw
        case rel => exact ⟨k + 1, by omega, by go_num, by rw [hst2.out], by rw [hst2.out], x3⟩
        case measure => simp [intOf]; omega
      · have hst2 := hideP (show uSt lo hi (k + 1) = (sd, bt) by rw [hst.out, if_neg hgt])
        have hgt2 : (m : Int) - 1 ≤ bt := by omega
        go_wp2
        go_roundw
        case rel => exact ⟨k + 1, by omega, by go_num, by rw [hst2.out], by rw [hst2.out], x3⟩
        case measure => simp [intOf]; omega
    · obtain rfl : k = n := by omega
      have hs1 := hideP hsd
      have hs2 := hideP hbt
      clear hsd hbt
      by_cases h0 : 0 ≤ bt
      · go_wp2
        refine bodyPost_ret (v := .tuple #[.int .i64 sd, .int .i64 bt, .bool true]) (by simp [results, Try.results53, go_sem]) rfl ⟨?_, x1.out.trans hx.out⟩
        rw [← hs1.out, ← hs2.out]
        simp [h0]
      · go_wp2
        refine bodyPost_ret (v := .tuple #[.int .i64 sd, .int .i64 bt, .bool false]) (by simp [results, Try.results53, go_sem]) rfl ⟨?_, x1.out.trans hx.out⟩
        rw [← hs1.out, ← hs2.out]
        simp [h0]
end Go.Proofs.Ytjdbpeblbejllaa
