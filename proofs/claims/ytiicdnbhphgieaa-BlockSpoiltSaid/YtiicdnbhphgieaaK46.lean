/- The reference's reader: Count, Num, Text. -/
import Derived.Test.YtiicdnbhphgieaaK45
set_option linter.unusedVariables false
set_option linter.unusedSimpArgs false
namespace Go.Proofs.Ytiicdnbhphgieaa
open Go.RowKit
set_option maxRecDepth 100000 in
set_option maxHeartbeats 1000000 in
theorem qcount_any (g : Nat) (l : List Nat) (most : Nat) (e : Int) (w : World) (hS : Qd w g l e) :
    Calls Try.prog 77 #[.pointer (some ⟨g, 0, none⟩), .int .i64 (most : Nat)] w fun e' w' => e' = .returned (.int .i64 ((rCount most l e).1 : Nat)) ∧ But (fun b => b = g) w w' ∧ Qd w' g (rCount most l e).2.1 (rCount most l e).2.2 := by
  have hT := qtake_any g l 3 e w hS
  unfold rCount
  rcases hq : rTake 3 l e with ⟨_ | t, l', e1⟩ <;> rw [hq] at hT
  · have HT := hideP hT
    clear hT hS hq
    go_enter Try.func77, Try.ntmps77
    go_wp2_with (go_at_call 125; refine HT.out.mono ?_; rintro e2 w1 ⟨b1, s1, rfl⟩; have S1 := hideP s1; have B1 := hideP b1; clear b1 s1)
    go_ret
    exact ⟨rfl, B1.out, S1.out⟩
  · have HT := hideP hT
    obtain rfl := rTake_some hq
    clear hT hS hq
    dsimp only
    obtain ⟨x, hx⟩ : ∃ x, x = t.getD 0 0 := ⟨_, rfl⟩
    obtain ⟨y, hy⟩ : ∃ y, y = t.getD 1 0 := ⟨_, rfl⟩
    obtain ⟨z, hz⟩ : ∃ z, z = t.getD 2 0 := ⟨_, rfl⟩
    have Hx := hideP hx
    have Hy := hideP hy
    have Hz := hideP hz
    rw [← hx, ← hy, ← hz]
    clear hx hy hz
    obtain ⟨RS, hRS⟩ : ∃ RS : Nat × List Nat × Int, RS = if most < x * 65536 + y * 256 + z ∨ 1048576 < x * 65536 + y * 256 + z then (0, l', 10) else (x * 65536 + y * 256 + z, l', 0) := ⟨_, rfl⟩
    rw [← hRS]
    have HRS := hideP hRS
    clear hRS
    go_enter Try.func77, Try.ntmps77
    go_upto_region 4 with (go_at_call 125; refine HT.out.mono ?_; rintro e2 w1 ⟨b1, s1, hl1, hI1, A, c, rfl, hc1, hX⟩; have S1 := hideP s1; have B1 := hideP b1; clear s1 b1; obtain ⟨b, off, rfl, hB, hcc⟩ := hX (by decide); have c0 := hcc 0 (by decide); rw [Nat.add_zero] at c0; have c1 := hcc 1 (by decide); have c2 := hcc 2 (by decide); unfold u8s at c0 c1 c2; rw [← Hx.out] at c0; rw [← Hy.out] at c1; rw [← Hz.out] at c2; have X1 := hI1 0; have Y1 := hI1 1; have Z1 := hI1 2; rw [← Hx.out] at X1; rw [← Hy.out] at Y1; rw [← Hz.out] at Z1; clear hX hcc hl1 hI1)
    obtain ⟨N, hN⟩ : ∃ N, N = x * 65536 + y * 256 + z := ⟨_, rfl⟩
    have nb : N < 16777216 := by omega
    have w1' : IntKind.i64.wrap (65536 * (x : Int)) = (x : Int) * 65536 := by rw [Int.mul_comm]; exact IntWalk.i64_in _ (by omega)
    have w2' : IntKind.i64.wrap (256 * (y : Int)) = (y : Int) * 256 := by rw [Int.mul_comm]; exact IntWalk.i64_in _ (by omega)
    have w3' : IntKind.i64.wrap ((x : Int) * 65536 + (y : Int) * 256) = (x : Int) * 65536 + (y : Int) * 256 := IntWalk.i64_in _ (by omega)
    have w4' : IntKind.i64.wrap ((x : Int) * 65536 + (y : Int) * 256 + (z : Int)) = (N : Int) := by rw [IntWalk.i64_in _ (by omega)]; omega
    rw [← hN] at HRS
    clear hN
    go_quiet (fail)
    clear c0 c1 c2 X1 Y1 Z1 w1' w2' w3' w4'
    have S2 := hideP (show Qd (w1.drewN nq) g l' 0 from S1.out)
    have B2 := hideP (show But (fun b => b = g) w (w1.drewN nq) from ⟨B1.out.size, B1.out.block, B1.out.os, B1.out.tape, B1.out.output⟩)
    generalize w1.drewN nq = W at S2 B2 ⊢
    clear S1 B1 HT
    have k1 := S2.out.ecell
    have f1 := S2.out.fz 1
    by_cases hm : most < N
    · have hm' : (most : Int) < (N : Int) := by omega
      have HE := hideP (HRS.out.trans (if_pos (Or.inl hm)))
      clear HRS
      go_wp2_with fail
      go_ret
      rw [HE.out]
      exact ⟨rfl, B2.out.trans (But.set W ⟨g, 1, none⟩ _ rfl), S2.out.setE 10⟩
    · have hm' : decide ((most : Int) < (N : Int)) = false := by simp; omega
      by_cases hc : 1048576 < N
      · have HE := hideP (HRS.out.trans (if_pos (Or.inr hc)))
        have hc' : (1048576 : Int) < (N : Int) := by omega
        clear HRS
        go_wp2_with fail
        go_ret
        rw [HE.out]
        exact ⟨rfl, B2.out.trans (But.set W ⟨g, 1, none⟩ _ rfl), S2.out.setE 10⟩
      · have HE := hideP (HRS.out.trans (if_neg (by omega)))
        have hc' : decide ((1048576 : Int) < (N : Int)) = false := by simp; omega
        clear HRS
        go_wp2_with fail
        go_ret
        rw [HE.out]
        exact ⟨rfl, B2.out, S2.out⟩
theorem sub_downw (U : Nat) (h : U < 18446744073709551616) : IntKind.i64.wrap (IntKind.u64.wrap ((U : Int) - 9223372036854775808)) = (U : Int) - 9223372036854775808 := by
  rw [IntKind.wrap_u64, IntKind.wrap_i64]
  omega
set_option maxRecDepth 100000 in
set_option maxHeartbeats 1000000 in
theorem qnum_any (g : Nat) (l : List Nat) (e : Int) (w : World) (hS : Qd w g l e) :
    Calls Try.prog 126 #[.pointer (some ⟨g, 0, none⟩)] w fun e' w' => e' = .returned (.int .i64 (rNum l e)) ∧ But (fun b => b = g) w w' ∧ Qd w' g (rTake 8 l e).2.1 (rTake 8 l e).2.2 := by
  have hT := qtake_any g l 8 e w hS
  unfold rNum
  rcases hq : rTake 8 l e with ⟨_ | t, l', e1⟩ <;> rw [hq] at hT
  · have HT := hideP hT
    clear hT hS hq
    go_enter Try.func126, Try.ntmps126
    go_wp2_with (go_at_call 125; refine HT.out.mono ?_; rintro e2 w1 ⟨b1, s1, rfl⟩; have S1 := hideP s1; have B1 := hideP b1; clear b1 s1)
    go_ret
    exact ⟨rfl, B1.out, S1.out⟩
  · have HT := hideP hT
    clear hT hS hq
    dsimp only
    go_enter Try.func126, Try.ntmps126
    go_wp2_with (go_at_call 125; refine HT.out.mono ?_; rintro e2 w1 ⟨b1, s1, hl1, hI1, A, c, rfl, hc1, hX⟩; have S1 := hideP s1; have B1 := hideP b1; have HL := hideP hl1; have HI := hideP hI1; obtain ⟨b, off, rfl, hB, hcc⟩ := hX (by decide); have HCC := hideP hcc; clear s1 b1 hl1 hI1 hX hcc)
    go_loopw [4, 5] (fun v4 v5 wr => ∃ (k : Nat), k ≤ 8 ∧ v5 = .int .i64 (k : Nat) ∧ v4 = .int .u64 (beN (t.take k) : Nat) ∧ Hid (wr = w1)) (fun _ v5 _ => 8 - (intOf v5).toNat)
    case atStart => exact ⟨0, by omega, rfl, rfl, rfl⟩
    case round =>
      obtain ⟨k, hk, rfl, rfl, hV⟩ := hrel
      by_cases hlt : k < 8
      · have i1 : (k : Int) < 8 := by omega
        have m2 : IntKind.i64.wrap ((k : Int) + 1) = (k : Int) + 1 := IntWalk.i64_in _ (by omega)
        have c0 := HCC.out k hlt
        rw [← hV.out] at c0
        unfold u8s at c0
        have hs := hideP (beN_succ t k (by rw [HL.out]; exact hlt))
        have hx := HI.out k
        have hu : beN (t.take k) < 72057594037927936 := by
          have := beN_lt t HI.out k (by rw [HL.out]; exact hk)
          have h2 : (256 : Nat) ^ k ≤ 256 ^ 7 := Nat.pow_le_pow_right (by decide) (by omega)
          have h3 : (256 : Nat) ^ 7 = 72057594037927936 := by decide
          omega
        obtain ⟨x, hx'⟩ : ∃ x, x = t.getD k 0 := ⟨_, rfl⟩
        obtain ⟨u, hu'⟩ : ∃ u, u = beN (t.take k) := ⟨_, rfl⟩
        rw [← hx'] at c0 hx hs
        rw [← hu'] at hu hs ⊢
        have m3 : IntKind.u64.wrap (256 * (u : Int)) = 256 * (u : Int) := by rw [IntKind.wrap_u64]; omega
        obtain ⟨v, hv⟩ : ∃ v, v = u * 256 + x := ⟨_, rfl⟩
        have m4 : IntKind.u64.wrap (256 * (u : Int) + (x : Int)) = (v : Int) := by rw [IntKind.wrap_u64]; omega
        rw [← hv] at hs
        clear hx' hu' hv
        go_wp2_with fail
        go_roundw
        case rel => exact ⟨k + 1, by omega, by rw [show ((k + 1 : Nat) : Int) = (k : Int) + 1 by omega], by rw [hs.out], hV.out⟩
        case measure => simp [intOf]; omega
      · obtain rfl : k = 8 := by omega
        have hu : beN (t.take 8) < 18446744073709551616 := by
          have := beN_lt t HI.out 8 (by rw [HL.out]; exact Nat.le_refl _)
          have h3 : (256 : Nat) ^ 8 = 18446744073709551616 := by decide
          omega
        have ht := hideP (show t.take 8 = t from List.take_of_length_le (by rw [HL.out]; exact Nat.le_refl _))
        rw [ht.out] at hu ⊢
        obtain ⟨u, hu'⟩ : ∃ u, u = beN t := ⟨_, rfl⟩
        rw [← hu'] at hu ⊢
        have Hu := hideP hu'
        clear hu'
        have o1 := sub_downw u hu
        go_wp2_with fail
        go_ret
        have e1 := hV.out
        subst e1
        exact ⟨by rw [← Hu.out]; rfl, B1.out, S1.out⟩
theorem OwnB.butQ {S : Nat → Prop} {w W : World} {base c : Nat} {A : Option Addr} {l : List Nat} (h : OwnB w base A c l) (b : But S w W) (hS : ∀ k, base ≤ k → ¬ S k) : OwnB W base A c l := by
  refine ⟨h.1, h.2.imp id ?_⟩
  rintro ⟨g, cap, cur, hv, hg, hh, r⟩
  exact ⟨g, cap, cur, hv, hg, (b.block g (Array.getElem?_eq_some_iff.1 hh).1 (hS g hg)).trans hh, r⟩
theorem But.then_newQ {S : Nat → Prop} {w w1 w2 : World} {B : Nat} (b : But S w w1) (h : Below B w1 w2) (hB : w.heap.size ≤ B) : But S w w2 :=
  ⟨Nat.le_trans b.size h.size, fun k hk hn => (h.block k (Nat.lt_of_lt_of_le hk hB)).trans (b.block k hk hn), h.os.trans b.os, h.tape.trans b.tape, h.output.trans b.output⟩
set_option maxRecDepth 100000 in
set_option maxHeartbeats 1000000 in
theorem qtext_any (g : Nat) (l : List Nat) (most : Nat) (e : Int) (w : World) (hS : Qd w g l e) :
    Calls Try.prog 79 #[.pointer (some ⟨g, 0, none⟩), .int .i64 (most : Nat)] w fun e' w' => ∃ R d, e' = .returned (.slice R (rText most l e).1.length d) ∧ OwnB w' w.heap.size R d (rText most l e).1 ∧ But (fun b => b = g) w w' ∧ Qd w' g (rText most l e).2.1 (rText most l e).2.2 := by
  have hC := qcount_any g l most e w hS
  have hle := (rCount_le most l e).1
  unfold rText
  dsimp only
  obtain ⟨⟨n, l1, e1⟩, hq⟩ : ∃ q, q = rCount most l e := ⟨_, rfl⟩
  rw [← hq] at hC hle ⊢
  dsimp only at hC hle ⊢
  have hT := fun W (hW : Qd W g l1 e1) => qtake_any g l1 n e1 W hW
  have hg := hideP hS.lt
  rcases hr : rTake n l1 e1 with ⟨_ | t, l2, e2⟩
  all_goals
    rw [hr] at hT
    dsimp only at hT ⊢
    have HC := hideP hC
    have HT := hideP hT
    clear hT hC hS hq hr
  · simp only [Option.getD_none]
    go_enter Try.func79, Try.ntmps79
    go_upto_region 2 with (go_at_call 77; refine HC.out.mono ?_; rintro e3 w1 ⟨rfl, b_, s_⟩; have S1 := hideP s_; have B1 := hideP b_; clear s_ b_)
    have S2 := hideP (S1.out.after (below_new w1 (.cells #[] 5)))
    have O2 := hideP (OwnB.lit0 w1)
    have z1 := hideP (show g < w1.heap.size from S1.out.lt)
    have B2 := hideP (B1.out.trans (But.of_below (S := fun b => b = g) (below_new w1 (.cells #[] 5))))
    go_wp2_with (first
      | (go_at_call 125; refine (HT.out _ S2.out).mono ?_; rintro e3 w3 ⟨b_, s_, rfl⟩; have S3 := hideP s_; have B3 := hideP (B2.out.trans b_); have O3 := hideP (O2.out.butQ b_ fun k hk e => by have := z1.out; omega); have z3 := hideP (show w1.heap.size ≤ w3.heap.size from Nat.le_trans (by simp) b_.size); clear b_ s_)
      | (at_builtin; refine wpList_appn rfl (.tmp 9) (.tmp 12) rfl w1.heap.size _ 0 0 [] rfl rfl O3.out 0 none 0 0 [] rfl rfl (fun h => absurd h (by decide)) (by decide) z3.out ?_; intro A4 c4 w4 o_ b_; have O4 := hideP o_; have b4 := hideP b_; clear o_ b_))
    go_ret
    exact ⟨A4, c4, rfl, OwnB.monoR O4.out B1.out.size, B3.out.then_newQ b4.out B1.out.size, S3.out.below b4.out z1.out⟩
  · simp only [Option.getD_some]
    obtain ⟨T, hTT⟩ : ∃ T, T = t.length := ⟨_, rfl⟩
    rw [← hTT]
    have HTT := hideP hTT
    clear hTT
    go_enter Try.func79, Try.ntmps79
    go_upto_region 2 with (go_at_call 77; refine HC.out.mono ?_; rintro e3 w1 ⟨rfl, b_, s_⟩; have S1 := hideP s_; have B1 := hideP b_; clear s_ b_)
    have S2 := hideP (S1.out.after (below_new w1 (.cells #[] 5)))
    have O2 := hideP (OwnB.lit0 w1)
    have z1 := hideP (show g < w1.heap.size from S1.out.lt)
    have B2 := hideP (B1.out.trans (But.of_below (S := fun b => b = g) (below_new w1 (.cells #[] 5))))
    go_wp2_with (first
      | (go_at_call 125; refine (HT.out _ S2.out).mono ?_; rintro e3 w3 ⟨b_, s_, hl_, hI_, A, c, rfl, hc_, hX_⟩; have S3 := hideP s_; have B3 := hideP (B2.out.trans b_); have O3 := hideP (O2.out.butQ b_ fun k hk e => by have := z1.out; omega); have X3 := hideP hX_; have hl3 := hideP hl_; have z3 := hideP (show w1.heap.size ≤ w3.heap.size from Nat.le_trans (by simp) b_.size); clear b_ s_ hX_ hl_ hI_ hc_)
      | (at_builtin; refine wpList_appn rfl (.tmp 9) (.tmp 12) rfl w1.heap.size _ 0 0 [] rfl rfl O3.out g A n c t hl3.out.symm rfl X3.out.arr (by omega) z3.out ?_; intro A4 c4 w4 o_ b_; have O4 := hideP o_; have b4 := hideP b_; clear o_ b_))
    go_ret
    rw [HTT.out, hl3.out]
    exact ⟨A4, c4, rfl, OwnB.monoR O4.out B1.out.size, B3.out.then_newQ b4.out B1.out.size, S3.out.below b4.out z1.out⟩
end Go.Proofs.Ytiicdnbhphgieaa
