/- Contracts of package box: all, Right. -/
import Derived.Test.YtjdbpeblbejllaaDist2
import Derived.Test.YtjdbpeblbejllaaFork
import Derived.Test.YtjdbpeblbejllaaStep
set_option linter.unusedVariables false
set_option linter.unusedSimpArgs false
namespace Go.Proofs.Ytjdbpeblbejllaa
open Go.RowKit

theorem range_all_succ (f : Nat → Bool) (k : Nat) : (List.range (k + 1)).all f = ((List.range k).all f && f k) := by simp [List.range_succ]
theorem range_all_false (f : Nat → Bool) (n k : Nat) (hk : k < n) (h : f k = false) : (List.range n).all f = false := by
  rw [List.all_eq_false]
  exact ⟨k, by simpa using hk, by simp [h]⟩

theorem all_any (n : Nat) (fv : Value) (fn : Nat) (caps : Array Value) (hfv : fv = .func (.func fn) #[] caps) (f : Nat → Bool) (w : World) (hn : n ≤ 1000000)
    (henter : ∀ args W, (callFunc fn args).run Try.prog W = .ok (.enter fn args) W)
    (hside : ∀ (i : Nat) (W : World), i < n → Below w.heap.size w W → Calls Try.prog fn (#[.int .i64 i] ++ caps) W fun e W' => e = .returned (.bool (f i)) ∧ ∃ nq, W.drewN nq = W') :
    Calls Try.prog 83 #[.int .i64 n, fv] w fun e w' => e = .returned (.bool ((List.range n).all f)) ∧ Below w.heap.size w w' := by
  subst hfv
  have HS := hideP hside
  clear hside
  go_enter Try.func83, Try.ntmps83
  go_wp2
  go_loopw [7] (fun v7 wr => ∃ k : Nat, k ≤ n ∧ v7 = .int .i64 k ∧ Hid ((List.range k).all f = true ∧ Below w.heap.size w wr)) (fun v7 _ => n - (intOf v7).toNat)
  case atStart => exact ⟨0, by omega, rfl, rfl, Below.refl _ _⟩
  case round =>
    obtain ⟨k, hk, rfl, hW⟩ := hrel
    by_cases hlt : k < n
    · have t : decide ((k : Int) < n) = true := by simp; omega
      go_wp2_with fail
      refine (HS.out k wr hlt hW.out.2).mono ?_
      rintro e w1 ⟨rfl, nq, hw1⟩
      have hbel : Below w.heap.size w w1 := by rw [← hw1]; exact below_drewN hW.out.2 _
      clear hw1
      obtain ⟨b, hb⟩ : ∃ b, b = f k := ⟨_, rfl⟩
      rw [← hb]
      have HB := hideP hb; have BL := hideP hbel
      clear hb hbel
      cases b
      · have hf := hideP (range_all_false f n k hlt HB.out.symm)
        go_wp2
        go_ret
        exact ⟨by rw [hf.out]; rfl, BL.out⟩
      · have hf := hideP (show (List.range (k + 1)).all f = true by rw [range_all_succ, hW.out.1, ← HB.out]; rfl)
        clear hW
        go_wp2
        go_roundw
        case rel => exact ⟨k + 1, by omega, by go_num, hf.out, BL.out⟩
        case measure => simp [intOf]; omega
    · have t : decide ((k : Int) < n) = false := by simp; omega
      have hf := hideP (show (List.range n).all f = true by rw [show n = k by omega]; exact hW.out.1)
      go_wp2
      go_ret
      exact ⟨by rw [hf.out]; rfl, hW.out.2⟩

/-- on each side the lesser number is not greater -/
def leAll (lo hi : List Int) (n : Nat) : Bool := (List.range n).all fun i => decide (lo.getD i 0 ≤ hi.getD i 0)
def rightB (lo hi : List Int) (d : Int) : Bool := decide (1 ≤ d) && decide (d ≤ 8) && decide ((lo.length : Int) = d) && decide ((hi.length : Int) = d) && leAll lo hi lo.length
theorem rightB_len {lo hi : List Int} {d : Int} (h : rightB lo hi d = true) : 1 ≤ d ∧ d ≤ 8 ∧ (lo.length : Int) = d ∧ (hi.length : Int) = d ∧ leAll lo hi lo.length = true := by
  unfold rightB at h
  simpa [and_assoc] using h

theorem right1 (i : Nat) (g : Nat) (L H : Option Addr) (lo hi : List Int) (n m d s : Nat) (w : World) (h1 : w.cell? ⟨g, 0, none⟩ = some (.slice L n d)) (h2 : w.cell? ⟨g, 1, none⟩ = some (.slice H m s))
    (hL : Arr w w.heap.size L n (i64s lo)) (hH : Arr w w.heap.size H m (i64s hi)) (hi0 : i < n) (hi' : i < m) :
    Calls Try.prog 84 (#[.int .i64 i] ++ #[.pointer (some ⟨g, 0, none⟩)]) w fun e w' => e = .returned (.bool (decide (lo.getD i 0 ≤ hi.getD i 0))) ∧ ∃ nq, w.drewN nq = w' := by
  obtain ⟨b, off, rfl, hb, hc⟩ := hL (by omega)
  obtain ⟨b', off', rfl, hb', hc'⟩ := hH (by omega)
  have k1 := hc i hi0
  have k2 := hc' i hi'
  unfold i64s at k1 k2
  obtain ⟨x, ex⟩ : ∃ x, x = lo.getD i 0 := ⟨_, rfl⟩
  obtain ⟨y, ey⟩ : ∃ y, y = hi.getD i 0 := ⟨_, rfl⟩
  rw [← ex] at k1 ⊢
  rw [← ey] at k2 ⊢
  have i0 : (0 : Int) ≤ (i : Int) := by omega
  have i1 : (i : Int) < (n : Int) := by omega
  have i2 : (i : Int) < (m : Int) := by omega
  clear hc hc' hL hH ex ey
  go_enter Try.func84, Try.ntmps84
  go_wp2
  go_quiet (fail)
  go_wp2
  go_ret
  exact ⟨rfl, ⟨_, rfl⟩⟩

set_option maxHeartbeats 1000000 in
theorem right_any (L H : Option Addr) (lo hi : List Int) (dl sh : Nat) (d : Int) (w : World) (hL : Arr w w.heap.size L lo.length (i64s lo)) (hH : Arr w w.heap.size H hi.length (i64s hi)) :
    Calls Try.prog 52 #[.agg #[.slice L lo.length dl, .slice H hi.length sh], .int .i64 d] w fun e w' => e = .returned (.bool (rightB lo hi d)) ∧ Below w.heap.size w w' := by
  have HL := hideP hL; have HH := hideP hH
  clear hL hH
  by_cases h1 : 1 ≤ d
  case neg =>
    have hr := hideP (show rightB lo hi d = false by simp [rightB, h1])
    have t : decide (d < 1) = true := by simp; omega
    go_enter Try.func52, Try.ntmps52
    go_wp2
    go_ret
    exact ⟨by rw [hr.out]; rfl, below_new _ _⟩
  have t1 : decide (d < 1) = false := by simp; omega
  by_cases h2 : d ≤ 8
  case neg =>
    have hr := hideP (show rightB lo hi d = false by simp [rightB, h2])
    have t : decide (8 < d) = true := by simp; omega
    go_enter Try.func52, Try.ntmps52
    go_wp2
    go_ret
    exact ⟨by rw [hr.out]; rfl, below_new _ _⟩
  have t2 : decide (8 < d) = false := by simp; omega
  by_cases h3 : (lo.length : Int) = d
  case neg =>
    have hr := hideP (show rightB lo hi d = false by simp [rightB, h3])
    have t : ((lo.length : Int) != d) = true := by simp [h3]
    clear h3
    go_enter Try.func52, Try.ntmps52
    go_wp2
    go_ret
    exact ⟨by rw [hr.out]; rfl, below_new _ _⟩
  have t3 : ((lo.length : Int) != d) = false := by simp [h3]
  by_cases h4 : (hi.length : Int) = d
  case neg =>
    have hr := hideP (show rightB lo hi d = false by simp [rightB, h4])
    have t : ((hi.length : Int) != d) = true := by simp [h4]
    clear h3 h4
    go_enter Try.func52, Try.ntmps52
    go_wp2
    go_ret
    exact ⟨by rw [hr.out]; rfl, below_new _ _⟩
  have t4 : ((hi.length : Int) != d) = false := by simp [h4]
  obtain ⟨n, hn⟩ : ∃ n, n = lo.length := ⟨_, rfl⟩
  have hm : hi.length = n := by omega
  obtain rfl : d = n := by omega
  have hr := hideP (show rightB lo hi n = leAll lo hi n by unfold rightB; simp only [decide_true, Bool.true_and, hn ▸ h1, h2, ← hn, hm, decide_eq_true h1])
  have h8 : n ≤ 8 := by omega
  rw [hm] at HH t4 ⊢
  rw [← hn] at HL t3 ⊢
  clear h1 h2 h3 h4 hn hm
  go_enter Try.func52, Try.ntmps52
  go_wp2_with fail
  obtain ⟨w1, hw1⟩ : ∃ w1, w1 = w.alloc (Obj.cells #[.slice L n dl, .slice H n sh] 58) := ⟨_, rfl⟩
  have c1 := hideP (show Two w1 w.heap.size 58 (.slice L n dl) (.slice H n sh) by rw [hw1]; exact Two.new _ _ _ _)
  have cb := hideP (show Below w.heap.size w w1 by rw [hw1]; exact below_new _ _)
  rw [← hw1]
  clear hw1
  refine (all_any n _ 84 #[.pointer (some ⟨w.heap.size, 0, none⟩)] rfl (fun i => decide (lo.getD i 0 ≤ hi.getD i 0)) w1 (by omega) (run_enter Try.func84 rfl rfl) (fun i W hi hW => ?_)).mono ?_
  · exact right1 i _ L H _ _ n n dl sh W (c1.out.after hW).c0 (c1.out.after hW).c1 ((HL.out.after cb.out).after hW) ((HH.out.after cb.out).after hW) hi hi
  rintro e w2 ⟨rfl, hb⟩
  replace cb := hideP (bstep cb.out hb)
  clear hb
  go_wp2
  go_ret
  exact ⟨by rw [hr.out]; rfl, cb.out⟩
end Go.Proofs.Ytjdbpeblbejllaa
