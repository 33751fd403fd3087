/- Contract of zrange's Block. -/
import Derived.Test.YtjdbpeblbejllaaZr5
set_option linter.unusedVariables false
set_option linter.unusedSimpArgs false
namespace Go.Proofs.Ytjdbpeblbejllaa
open Go.RowKit
/-- how many low bits of side i are asked -/
def askN (sd bt i : Nat) : Nat := if sd ≤ i then bt + 1 else bt
def wholeB (lo hi : List Int) (sd bt i : Nat) : Bool := decide (pl (lo.getD i 0) % 2 ^ askN sd bt i = 0) && decide (pl (hi.getD i 0) % 2 ^ askN sd bt i = 2 ^ askN sd bt i - 1)
set_option maxRecDepth 100000 in
set_option maxHeartbeats 1000000 in
theorem whole_any (gb gs g : Nat) (lb lf hb hf : Nat) (lo hi : List Int) (n dl sh i sd bt : Nat) (w : World) (h1 : One w gb 3 (.int .i64 (bt : Int))) (h2 : One w gs 3 (.int .i64 (sd : Int))) (h3 : Two w g 58 (.slice (some ⟨lb, lf, none⟩) n dl) (.slice (some ⟨hb, hf, none⟩) n sh))
    (hL : w.cell? ⟨lb, lf + i, none⟩ = some (.int .i64 (lo.getD i 0))) (hH : w.cell? ⟨hb, hf + i, none⟩ = some (.int .i64 (hi.getD i 0))) (hp : IsI lo) (hq : IsI hi) (hi' : i < n) (hn : n ≤ 8) (hsd : sd < n) (hbt : bt ≤ 63) :
    Calls Try.prog 61 #[.int .i64 (i : Int), .pointer (some ⟨gb, 0, none⟩), .pointer (some ⟨gs, 0, none⟩), .pointer (some ⟨g, 0, none⟩)] w fun e w' => e = .returned (.bool (wholeB lo hi sd bt i)) ∧ w = w' := by
  obtain ⟨a, ha⟩ : ∃ a, a = lo.getD i 0 := ⟨_, rfl⟩
  obtain ⟨b, hb'⟩ : ∃ a, a = hi.getD i 0 := ⟨_, rfl⟩
  have ha1 := hp i
  have hb1 := hq i
  obtain ⟨N, hN⟩ : ∃ N, N = askN sd bt i := ⟨_, rfl⟩
  unfold wholeB
  rw [← ha] at hL ha1 ⊢
  rw [← hb'] at hH hb1 ⊢
  rw [← hN]
  have hN64 : N ≤ 64 := by rw [hN]; unfold askN; split <;> omega
  have c1 := hideP (zplain_any a w ha1.1 ha1.2)
  have c2 := hideP (zplain_any b w hb1.1 hb1.2)
  have c3 := ones_any (N : Int) w (by omega) (by omega)
  obtain ⟨M, hM⟩ : ∃ M, M = 2 ^ N - 1 := ⟨_, rfl⟩
  have hpow : 2 ^ N ≤ 18446744073709551616 := by rw [← pow64]; exact Nat.pow_le_pow_right (by omega) hN64
  have hMl : M < 18446744073709551616 := by omega
  rw [show ((N : Int)).toNat = N by omega, ← hM] at c3
  have c3' := hideP c3
  obtain ⟨x, hx⟩ : ∃ x, x = pl a := ⟨_, rfl⟩
  obtain ⟨y, hy⟩ : ∃ x, x = pl b := ⟨_, rfl⟩
  have hxl : x < 18446744073709551616 := by rw [hx]; exact pl_lt a ha1.2
  have hyl : y < 18446744073709551616 := by rw [hy]; exact pl_lt b hb1.2
  obtain ⟨u, hu⟩ : ∃ u, u = x % 2 ^ N := ⟨_, rfl⟩
  obtain ⟨v, hv⟩ : ∃ u, u = y % 2 ^ N := ⟨_, rfl⟩
  rw [← hx] at c1 ⊢
  rw [← hy] at c2 ⊢
  have e1 : bits .and .u64 (x : Int) (M : Int) = (u : Int) := by rw [u64_and_nat x M hxl hMl, hM, hu, Nat.and_two_pow_sub_one_eq_mod]
  have e2 : bits .and .u64 (y : Int) (M : Int) = (v : Int) := by rw [u64_and_nat y M hyl hMl, hM, hv, Nat.and_two_pow_sub_one_eq_mod]
  rw [← hu, ← hv, ← hM]
  have k1 := h1.c0
  have k2 := h2.c0
  have k3 := h3.c0
  have k4 := h3.c1
  have hNN := hideP (show (sd ≤ i → N = bt + 1) ∧ (¬ sd ≤ i → N = bt) from ⟨fun h => by rw [hN]; unfold askN; rw [if_pos h], fun h => by rw [hN]; unfold askN; rw [if_neg h]⟩)
  clear ha hb' hp hq ha1 hb1 hN hM hx hy hu hv h1 h2 h3 c3 hpow hMl hxl hyl hN64
  by_cases hs : sd ≤ i
  · obtain rfl := hNN.out.1 hs
    have c3 := hideP (show Calls Try.prog 63 #[.int .i64 ((bt : Int) + 1)] w (fun e w' => e = .returned (.int .u64 (M : Int)) ∧ w = w') by have := c3'.out; rwa [show (((bt + 1 : Nat)) : Int) = (bt : Int) + 1 by omega] at this)
    clear c3' hNN
    by_cases h0 : u = 0
    · have h0' : ((u : Int) == 0) = true := by simp [h0]
      by_cases h1 : v = M
      · have h1' : ((v : Int) == (M : Int)) = true := by simp [h1]
        have hres := hideP (show (decide (u = 0) && decide (v = M)) = true by simp [h0, h1])
        clear h0 h1
        rw [hres.out]
        go_enter Try.func61, Try.ntmps61
        go_wp2_with fail
        refine c1.out.mono ?_; rintro e w' ⟨rfl, rfl⟩
        go_wp2_with fail
        refine c3.out.mono ?_; rintro e w' ⟨rfl, rfl⟩
        go_wp2_with fail
        refine c2.out.mono ?_; rintro e w' ⟨rfl, rfl⟩
        go_wp2_with fail
        refine c3.out.mono ?_; rintro e w' ⟨rfl, rfl⟩
        go_wp2_with fail
        refine c3.out.mono ?_; rintro e w' ⟨rfl, rfl⟩
        go_wp2
        go_ret
        exact ⟨rfl, rfl⟩
      · have h1' : ((v : Int) == (M : Int)) = false := by simp; omega
        have hres := hideP (show (decide (u = 0) && decide (v = M)) = false by simp [h1])
        clear h0 h1
        rw [hres.out]
        go_enter Try.func61, Try.ntmps61
        go_wp2_with fail
        refine c1.out.mono ?_; rintro e w' ⟨rfl, rfl⟩
        go_wp2_with fail
        refine c3.out.mono ?_; rintro e w' ⟨rfl, rfl⟩
        go_wp2_with fail
        refine c2.out.mono ?_; rintro e w' ⟨rfl, rfl⟩
        go_wp2_with fail
        refine c3.out.mono ?_; rintro e w' ⟨rfl, rfl⟩
        go_wp2_with fail
        refine c3.out.mono ?_; rintro e w' ⟨rfl, rfl⟩
        go_wp2
        go_ret
        exact ⟨rfl, rfl⟩
    · have h0' : ((u : Int) == 0) = false := by simp; omega
      have hres := hideP (show (decide (u = 0) && decide (v = M)) = false by simp [h0])
      clear h0
      rw [hres.out]
      go_enter Try.func61, Try.ntmps61
      go_wp2_with fail
      refine c1.out.mono ?_; rintro e w' ⟨rfl, rfl⟩
      go_wp2_with fail
      refine c3.out.mono ?_; rintro e w' ⟨rfl, rfl⟩
      go_wp2
      go_ret
      exact ⟨rfl, rfl⟩
  · obtain rfl := hNN.out.2 hs
    have c3 := hideP (show Calls Try.prog 63 #[.int .i64 (N : Int)] w (fun e w' => e = .returned (.int .u64 (M : Int)) ∧ w = w') from c3'.out)
    clear c3' hNN
    have hs' : i < sd := by omega
    by_cases h0 : u = 0
    · have h0' : ((u : Int) == 0) = true := by simp [h0]
      by_cases h1 : v = M
      · have h1' : ((v : Int) == (M : Int)) = true := by simp [h1]
        have hres := hideP (show (decide (u = 0) && decide (v = M)) = true by simp [h0, h1])
        clear h0 h1
        rw [hres.out]
        go_enter Try.func61, Try.ntmps61
        go_wp2_with fail
        refine c1.out.mono ?_; rintro e w' ⟨rfl, rfl⟩
        go_wp2_with fail
        refine c3.out.mono ?_; rintro e w' ⟨rfl, rfl⟩
        go_wp2_with fail
        refine c2.out.mono ?_; rintro e w' ⟨rfl, rfl⟩
        go_wp2_with fail
        refine c3.out.mono ?_; rintro e w' ⟨rfl, rfl⟩
        go_wp2_with fail
        refine c3.out.mono ?_; rintro e w' ⟨rfl, rfl⟩
        go_wp2
        go_ret
        exact ⟨rfl, rfl⟩
      · have h1' : ((v : Int) == (M : Int)) = false := by simp; omega
        have hres := hideP (show (decide (u = 0) && decide (v = M)) = false by simp [h1])
        clear h0 h1
        rw [hres.out]
        go_enter Try.func61, Try.ntmps61
        go_wp2_with fail
        refine c1.out.mono ?_; rintro e w' ⟨rfl, rfl⟩
        go_wp2_with fail
        refine c3.out.mono ?_; rintro e w' ⟨rfl, rfl⟩
        go_wp2_with fail
        refine c2.out.mono ?_; rintro e w' ⟨rfl, rfl⟩
        go_wp2_with fail
        refine c3.out.mono ?_; rintro e w' ⟨rfl, rfl⟩
        go_wp2_with fail
        refine c3.out.mono ?_; rintro e w' ⟨rfl, rfl⟩
        go_wp2
        go_ret
        exact ⟨rfl, rfl⟩
    · have h0' : ((u : Int) == 0) = false := by simp; omega
      have hres := hideP (show (decide (u = 0) && decide (v = M)) = false by simp [h0])
      clear h0
      rw [hres.out]
      go_enter Try.func61, Try.ntmps61
      go_wp2_with fail
      refine c1.out.mono ?_; rintro e w' ⟨rfl, rfl⟩
      go_wp2_with fail
      refine c3.out.mono ?_; rintro e w' ⟨rfl, rfl⟩
      go_wp2
      go_ret
      exact ⟨rfl, rfl⟩
end Go.Proofs.Ytjdbpeblbejllaa
