/- The reference's reader: Row. -/
import Derived.Test.YtiicdnbhphgieaaK46
set_option linter.unusedVariables false
set_option linter.unusedSimpArgs false
namespace Go.Proofs.Ytiicdnbhphgieaa
open Go.RowKit
theorem nums_stop (k : Nat) (l : List Nat) (e : Int) (h : (rNums k l e).2.2 ≠ 0) : ∀ j, (rNums (k + j) l e).2 = (rNums k l e).2
  | 0 => rfl
  | j + 1 => by
    have ih := nums_stop k l e h j
    show (rTake 8 (rNums (k + j) l e).2.1 (rNums (k + j) l e).2.2).2 = _
    rw [ih, take_stuck _ _ _ h]
/-- behind k numbers -/
def QTo (w : World) (g : Nat) (L : List Nat) (E : Int) (wr : World) (A : Option Addr) (c m k : Nat) : Prop :=
  ∃ R : List Int, m = R.length ∧ OwnI wr w.heap.size A c R ∧ But (fun b => b = g) w wr ∧ Qd wr g (rNums k L E).2.1 (rNums k L E).2.2 ∧ ((rNums k L E).2.2 = 0 → R = (rNums k L E).1)
set_option maxRecDepth 100000 in
set_option maxHeartbeats 2000000 in
theorem qrow_any (g : Nat) (l : List Nat) (most : Nat) (e : Int) (w : World) (hS : Qd w g l e) :
    Calls Try.prog 80 #[.pointer (some ⟨g, 0, none⟩), .int .i64 (most : Nat)] w fun e' w' => ∃ R d, e' = .returned (.slice R (rRow most l e).1.length d) ∧ OwnI w' w.heap.size R d (rRow most l e).1 ∧ But (fun b => b = g) w w' ∧ Qd w' g (rRow most l e).2.1 (rRow most l e).2.2 := by
  have hT := qbyte_any g l e w hS
  have hnb := rByte_lt l e hS.isB
  have hg := hS.lt
  have hX := hideP (fun k (h : w.heap.size ≤ k) => (by omega : ¬ (k = g)))
  obtain ⟨n, hn⟩ : ∃ n, n = rByte l e := ⟨_, rfl⟩
  obtain ⟨E, hE⟩ : ∃ E, E = rRowE most l e := ⟨_, rfl⟩
  obtain ⟨L, hL⟩ : ∃ L, L = (rTake 1 l e).2.1 := ⟨_, rfl⟩
  obtain ⟨f, hf⟩ : ∃ f, f = (rTake 1 l e).2.2 := ⟨_, rfl⟩
  have hE' : E = if most < n ∧ f = 0 then 10 else f := by rw [hE, hn, hf]; rfl
  have hR : rRow most l e = (if (rNums n L E).2.2 = 0 then (rNums n L E).1 else [], (rNums n L E).2) := by unfold rRow; rw [← hn, ← hL, ← hE]
  obtain ⟨RS, hRS⟩ : ∃ RS, RS = rRow most l e := ⟨_, rfl⟩
  rw [← hRS]
  have HRS := hideP (hRS.trans hR)
  rw [← hn, ← hL, ← hf] at hT
  rw [← hn] at hnb
  clear hn hE hL hf hRS hR
  have HhT := hideP hT; have HhS := hideP hS; have HhE' := hideP hE'; clear hT hS hE'
  go_enter Try.func80, Try.ntmps80
  go_upto_region 2 with (go_at_call 78; refine HhT.out.mono ?_; rintro e2 w1 ⟨rfl, b1, s1⟩; have S1 := hideP s1; have B1 := hideP b1; clear s1 b1)
  have k1 := S1.out.ecell
  have f1 := S1.out.fz 1
  by_cases hf : f = 0
  · by_cases hm : most < n
    · subst hf
      have hm' : decide ((most : Int) < (n : Int)) = true := by simp; omega
      have HE := hideP (show E = 10 by rw [HhE'.out, if_pos ⟨hm, rfl⟩])
      go_upto_region 4 with fail
      obtain ⟨W, hW⟩ : ∃ W, W = w1.setCell ⟨g, 1, none⟩ (.int .i64 10) := ⟨_, rfl⟩
      have SE := hideP (show Qd W g L E by rw [hW, HE.out]; exact S1.out.setE 10)
      have BE := hideP (show But (fun b => b = g) w W by rw [hW]; exact B1.out.trans (But.set w1 ⟨g, 1, none⟩ _ rfl))
      rw [← hW]
      clear hW k1 f1 S1 B1 HhT HhE'
      go_wp2_with fail
      go_loopw [6, 7] (fun v6 v7 wr => ∃ (k m : Nat) (A : Option Addr) (c : Nat), k ≤ n ∧ v7 = .int .i64 (k : Nat) ∧ v6 = .slice A m c ∧ m ≤ k ∧ Hid (QTo w g L E wr A c m k)) (fun _ v7 _ => n - (intOf v7).toNat)
      case atStart => exact ⟨0, 0, none, 0, by omega, rfl, rfl, by omega, [], rfl, OwnI.nil _ _, BE.out, SE.out, fun _ => rfl⟩
      case round =>
        obtain ⟨k, m, A, c, hk, rfl, rfl, hmk, hV⟩ := hrel
        obtain ⟨R, hm_, hO_, hB_, hQ_, hR_⟩ := hV.out
        have hM := hideP hm_; have hO := hideP hO_; have hB := hideP hB_; have hQ := hideP hQ_; have hRR := hideP hR_
        clear hV hm_ hO_ hB_ hQ_ hR_
        have hst := hideP (show rNums (k + 1) L E = (if (rTake 8 (rNums k L E).2.1 (rNums k L E).2.2).2.2 = 0 then (rNums k L E).1 ++ [rNum (rNums k L E).2.1 (rNums k L E).2.2] else (rNums k L E).1, (rTake 8 (rNums k L E).2.1 (rNums k L E).2.2).2) from rfl)
        have hstop := hideP (nums_stop k L E)
        obtain ⟨⟨rs, l1, e1⟩, hq⟩ : ∃ q, q = rNums k L E := ⟨_, rfl⟩
        rw [← hq] at hst hQ hRR hstop
        dsimp only at hst hQ hRR hstop
        have HQ := hideP hq
        clear hq
        have k1 := hQ.out.ecell
        by_cases hz : e1 = 0
        · subst hz
          by_cases hlt : k < n
          · have i2 : (k : Int) < (n : Int) := by omega
            have hN := qnum_any g l1 0 wr hQ.out
            obtain ⟨x, hx⟩ : ∃ x, x = rNum l1 0 := ⟨_, rfl⟩
            obtain ⟨⟨o, l2, e2⟩, ho⟩ : ∃ q, q = rTake 8 l1 0 := ⟨_, rfl⟩
            rw [← hx, ← ho] at hst hN
            clear hx ho
            dsimp only at hst hN
            have HN := hideP hN
            clear hN
            go_wp2_with (first
              | (go_at_call 126; refine HN.out.mono ?_; rintro e3 w3 ⟨rfl, b3, s3⟩; have S3 := hideP s3; have B3 := hideP (hB.out.trans b3); have O3 := hideP (hO.out.but b3 hX.out); clear b3 s3 k1)
              | (at_builtin; refine wpList_appI rfl (.tmp 36) (.tmp 39) rfl w.heap.size A c m R hM.out rfl O3.out x rfl (by omega) B3.out.size ?_; intro A4 c4 w4 o4 b4; have O4 := hideP o4; have B4 := hideP b4; clear o4 b4))
            go_roundw
            case rel =>
              refine ⟨k + 1, m + 1, A4, c4, by omega, by go_num, rfl, by omega, R ++ [x], by rw [List.length_append, ← hM.out]; rfl, O4.out, B3.out.then_below B4.out, by rw [hst.out]; exact S3.out.below B4.out hg, fun h => ?_⟩
              rw [hst.out] at h ⊢
              dsimp only at h ⊢
              rw [if_pos h, hRR.out trivial]
            case measure => simp [intOf]; omega
          · obtain rfl : k = n := by omega
            have i2 : ¬ ((k : Int) < (k : Int)) := by omega
            go_wp2_with fail
            go_ret
            rw [HRS.out, ← HQ.out]
            have hRe := hRR.out trivial
            exact ⟨A, c, by rw [if_pos rfl, ← hRe, ← hM.out]; rfl, by rw [if_pos rfl, ← hRe]; exact hO.out, hB.out, hQ.out⟩
        · have hz' : ((e1 : Int) == 0) = false := by simpa using hz
          have hz2 : ((e1 : Int) != 0) = true := by simpa using hz
          have hfin := hideP (show RS = ([], l1, e1) by
            have h2 := hstop.out hz (n - k)
            rw [show k + (n - k) = n by omega] at h2
            rw [HRS.out, h2]
            dsimp only
            rw [if_neg hz])
          by_cases hlt : k < n
          · have i2 : (k : Int) < (n : Int) := by omega
            go_wp2_with fail
            go_ret
            rw [hfin.out]
            exact ⟨none, 0, rfl, OwnI.nil _ _, hB.out, hQ.out⟩
          · have i2 : ¬ ((k : Int) < (n : Int)) := by omega
            go_wp2_with fail
            go_ret
            rw [hfin.out]
            exact ⟨none, 0, rfl, OwnI.nil _ _, hB.out, hQ.out⟩
    · subst hf
      have hm' : decide ((most : Int) < (n : Int)) = false := by simp; omega
      have HE := hideP (show E = 0 by rw [HhE'.out, if_neg (fun h => hm h.1)])
      go_upto_region 4 with fail
      have SE := hideP (show Qd w1 g L E by rw [HE.out]; exact S1.out)
      have BE := hideP B1.out
      clear k1 f1 S1 B1 HhT HhE'
      go_wp2_with fail
      go_loopw [6, 7] (fun v6 v7 wr => ∃ (k m : Nat) (A : Option Addr) (c : Nat), k ≤ n ∧ v7 = .int .i64 (k : Nat) ∧ v6 = .slice A m c ∧ m ≤ k ∧ Hid (QTo w g L E wr A c m k)) (fun _ v7 _ => n - (intOf v7).toNat)
      case atStart => exact ⟨0, 0, none, 0, by omega, rfl, rfl, by omega, [], rfl, OwnI.nil _ _, BE.out, SE.out, fun _ => rfl⟩
      case round =>
        obtain ⟨k, m, A, c, hk, rfl, rfl, hmk, hV⟩ := hrel
        obtain ⟨R, hm_, hO_, hB_, hQ_, hR_⟩ := hV.out
        have hM := hideP hm_; have hO := hideP hO_; have hB := hideP hB_; have hQ := hideP hQ_; have hRR := hideP hR_
        clear hV hm_ hO_ hB_ hQ_ hR_
        have hst := hideP (show rNums (k + 1) L E = (if (rTake 8 (rNums k L E).2.1 (rNums k L E).2.2).2.2 = 0 then (rNums k L E).1 ++ [rNum (rNums k L E).2.1 (rNums k L E).2.2] else (rNums k L E).1, (rTake 8 (rNums k L E).2.1 (rNums k L E).2.2).2) from rfl)
        have hstop := hideP (nums_stop k L E)
        obtain ⟨⟨rs, l1, e1⟩, hq⟩ : ∃ q, q = rNums k L E := ⟨_, rfl⟩
        rw [← hq] at hst hQ hRR hstop
        dsimp only at hst hQ hRR hstop
        have HQ := hideP hq
        clear hq
        have k1 := hQ.out.ecell
        by_cases hz : e1 = 0
        · subst hz
          by_cases hlt : k < n
          · have i2 : (k : Int) < (n : Int) := by omega
            have hN := qnum_any g l1 0 wr hQ.out
            obtain ⟨x, hx⟩ : ∃ x, x = rNum l1 0 := ⟨_, rfl⟩
            obtain ⟨⟨o, l2, e2⟩, ho⟩ : ∃ q, q = rTake 8 l1 0 := ⟨_, rfl⟩
            rw [← hx, ← ho] at hst hN
            clear hx ho
            dsimp only at hst hN
            have HN := hideP hN
            clear hN
            go_wp2_with (first
              | (go_at_call 126; refine HN.out.mono ?_; rintro e3 w3 ⟨rfl, b3, s3⟩; have S3 := hideP s3; have B3 := hideP (hB.out.trans b3); have O3 := hideP (hO.out.but b3 hX.out); clear b3 s3 k1)
              | (at_builtin; refine wpList_appI rfl (.tmp 36) (.tmp 39) rfl w.heap.size A c m R hM.out rfl O3.out x rfl (by omega) B3.out.size ?_; intro A4 c4 w4 o4 b4; have O4 := hideP o4; have B4 := hideP b4; clear o4 b4))
            go_roundw
            case rel =>
              refine ⟨k + 1, m + 1, A4, c4, by omega, by go_num, rfl, by omega, R ++ [x], by rw [List.length_append, ← hM.out]; rfl, O4.out, B3.out.then_below B4.out, by rw [hst.out]; exact S3.out.below B4.out hg, fun h => ?_⟩
              rw [hst.out] at h ⊢
              dsimp only at h ⊢
              rw [if_pos h, hRR.out trivial]
            case measure => simp [intOf]; omega
          · obtain rfl : k = n := by omega
            have i2 : ¬ ((k : Int) < (k : Int)) := by omega
            go_wp2_with fail
            go_ret
            rw [HRS.out, ← HQ.out]
            have hRe := hRR.out trivial
            exact ⟨A, c, by rw [if_pos rfl, ← hRe, ← hM.out]; rfl, by rw [if_pos rfl, ← hRe]; exact hO.out, hB.out, hQ.out⟩
        · have hz' : ((e1 : Int) == 0) = false := by simpa using hz
          have hz2 : ((e1 : Int) != 0) = true := by simpa using hz
          have hfin := hideP (show RS = ([], l1, e1) by
            have h2 := hstop.out hz (n - k)
            rw [show k + (n - k) = n by omega] at h2
            rw [HRS.out, h2]
            dsimp only
            rw [if_neg hz])
          by_cases hlt : k < n
          · have i2 : (k : Int) < (n : Int) := by omega
            go_wp2_with fail
            go_ret
            rw [hfin.out]
            exact ⟨none, 0, rfl, OwnI.nil _ _, hB.out, hQ.out⟩
          · have i2 : ¬ ((k : Int) < (n : Int)) := by omega
            go_wp2_with fail
            go_ret
            rw [hfin.out]
            exact ⟨none, 0, rfl, OwnI.nil _ _, hB.out, hQ.out⟩
  · have hf' : ((f : Int) == 0) = false := by simpa using hf
    have HE := hideP (show E = f by rw [HhE'.out, if_neg (fun h => hf h.2)])
    go_upto_region 4 with fail
    have SE := hideP (show Qd w1 g L E by rw [HE.out]; exact S1.out)
    have BE := hideP B1.out
    clear k1 f1 S1 B1 HhT HhE' hf'
    go_wp2_with fail
    go_loopw [6, 7] (fun v6 v7 wr => ∃ (k m : Nat) (A : Option Addr) (c : Nat), k ≤ n ∧ v7 = .int .i64 (k : Nat) ∧ v6 = .slice A m c ∧ m ≤ k ∧ Hid (QTo w g L E wr A c m k)) (fun _ v7 _ => n - (intOf v7).toNat)
    case atStart => exact ⟨0, 0, none, 0, by omega, rfl, rfl, by omega, [], rfl, OwnI.nil _ _, BE.out, SE.out, fun _ => rfl⟩
    case round =>
      obtain ⟨k, m, A, c, hk, rfl, rfl, hmk, hV⟩ := hrel
      obtain ⟨R, hm_, hO_, hB_, hQ_, hR_⟩ := hV.out
      have hM := hideP hm_; have hO := hideP hO_; have hB := hideP hB_; have hQ := hideP hQ_; have hRR := hideP hR_
      clear hV hm_ hO_ hB_ hQ_ hR_
      have hst := hideP (show rNums (k + 1) L E = (if (rTake 8 (rNums k L E).2.1 (rNums k L E).2.2).2.2 = 0 then (rNums k L E).1 ++ [rNum (rNums k L E).2.1 (rNums k L E).2.2] else (rNums k L E).1, (rTake 8 (rNums k L E).2.1 (rNums k L E).2.2).2) from rfl)
      have hstop := hideP (nums_stop k L E)
      obtain ⟨⟨rs, l1, e1⟩, hq⟩ : ∃ q, q = rNums k L E := ⟨_, rfl⟩
      rw [← hq] at hst hQ hRR hstop
      dsimp only at hst hQ hRR hstop
      have HQ := hideP hq
      clear hq
      have k1 := hQ.out.ecell
      by_cases hz : e1 = 0
      · subst hz
        by_cases hlt : k < n
        · have i2 : (k : Int) < (n : Int) := by omega
          have hN := qnum_any g l1 0 wr hQ.out
          obtain ⟨x, hx⟩ : ∃ x, x = rNum l1 0 := ⟨_, rfl⟩
          obtain ⟨⟨o, l2, e2⟩, ho⟩ : ∃ q, q = rTake 8 l1 0 := ⟨_, rfl⟩
          rw [← hx, ← ho] at hst hN
          clear hx ho
          dsimp only at hst hN
          have HN := hideP hN
          clear hN
          go_wp2_with (first
            | (go_at_call 126; refine HN.out.mono ?_; rintro e3 w3 ⟨rfl, b3, s3⟩; have S3 := hideP s3; have B3 := hideP (hB.out.trans b3); have O3 := hideP (hO.out.but b3 hX.out); clear b3 s3 k1)
            | (at_builtin; refine wpList_appI rfl (.tmp 36) (.tmp 39) rfl w.heap.size A c m R hM.out rfl O3.out x rfl (by omega) B3.out.size ?_; intro A4 c4 w4 o4 b4; have O4 := hideP o4; have B4 := hideP b4; clear o4 b4))
          go_roundw
          case rel =>
            refine ⟨k + 1, m + 1, A4, c4, by omega, by go_num, rfl, by omega, R ++ [x], by rw [List.length_append, ← hM.out]; rfl, O4.out, B3.out.then_below B4.out, by rw [hst.out]; exact S3.out.below B4.out hg, fun h => ?_⟩
            rw [hst.out] at h ⊢
            dsimp only at h ⊢
            rw [if_pos h, hRR.out trivial]
          case measure => simp [intOf]; omega
        · obtain rfl : k = n := by omega
          have i2 : ¬ ((k : Int) < (k : Int)) := by omega
          go_wp2_with fail
          go_ret
          rw [HRS.out, ← HQ.out]
          have hRe := hRR.out trivial
          exact ⟨A, c, by rw [if_pos rfl, ← hRe, ← hM.out]; rfl, by rw [if_pos rfl, ← hRe]; exact hO.out, hB.out, hQ.out⟩
      · have hz' : ((e1 : Int) == 0) = false := by simpa using hz
        have hz2 : ((e1 : Int) != 0) = true := by simpa using hz
        have hfin := hideP (show RS = ([], l1, e1) by
          have h2 := hstop.out hz (n - k)
          rw [show k + (n - k) = n by omega] at h2
          rw [HRS.out, h2]
          dsimp only
          rw [if_neg hz])
        by_cases hlt : k < n
        · have i2 : (k : Int) < (n : Int) := by omega
          go_wp2_with fail
          go_ret
          rw [hfin.out]
          exact ⟨none, 0, rfl, OwnI.nil _ _, hB.out, hQ.out⟩
        · have i2 : ¬ ((k : Int) < (n : Int)) := by omega
          go_wp2_with fail
          go_ret
          rw [hfin.out]
          exact ⟨none, 0, rfl, OwnI.nil _ _, hB.out, hQ.out⟩
end Go.Proofs.Ytiicdnbhphgieaa
