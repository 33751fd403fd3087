/- The reference's reader: state, Take, Byte, Count, Num. The reference's reader: Count, Num, Text. The reference's reader: Row. Contracts of codec.Reader's Truth, and of Row with any bound, the reference's too. -/
import Derived.Deep.DeepCutAuto
import Derived.Test.YtgcbodpjidoanaaQ18
import Derived.Test.YtgcbodpjidoanaaQ19
set_option linter.unusedVariables false
set_option linter.unusedSimpArgs false
namespace Go.Proofs.Ytgcbodpjidoanaa
open Go.RowKit
/-- a reader of the reference's: what is left, its error -/
def Qd (w : World) (g : Nat) (l : List Nat) (e : Int) : Prop := ∃ A c, Two w g 150 (.slice A l.length c) (.int .i64 e) ∧ ArrL w g A l.length l ∧ IsB l ∧ l.length ≤ c
section
variable {w w' W : World} {g n : Nat} {A : Option Addr} {l : List Nat} {e : Int}
theorem Qd.lt (h : Qd w g l e) : g < w.heap.size := by obtain ⟨A, c, h1, _⟩ := h; exact h1.lt
theorem Qd.isB (h : Qd w g l e) : IsB l := by obtain ⟨A, c, _, _, h, _⟩ := h; exact h
theorem Qd.after (h : Qd w g l e) (hW : Below w.heap.size w w') : Qd w' g l e := by obtain ⟨A, c, h1, h2, h3, h4⟩ := h; exact ⟨A, c, h1.after hW, h2.below hW (Nat.le_of_lt h1.lt), h3, h4⟩
theorem Qd.below {B : Nat} (h : Qd w g l e) (hW : Below B w w') (hB : g < B) : Qd w' g l e := by obtain ⟨A, c, h1, h2, h3, h4⟩ := h; exact ⟨A, c, h1.below hW hB, h2.below hW (Nat.le_of_lt hB), h3, h4⟩
theorem Qd.ext (h : Qd w g l e) (hW : Ext w w') : Qd w' g l e := h.after hW.below
theorem Qd.fz (h : Qd w g l e) (i : Nat) : w.frozen? ⟨g, i, none⟩ = false := by obtain ⟨A, c, h1, _⟩ := h; exact h1.fz i
theorem Qd.butBelow {B : Nat} (h : Qd w g l e) (b : But (fun k => k = g) w W) (hB : B ≤ g) : Below B w W :=
  ⟨b.os, b.tape, b.output, b.size, fun k hk => b.block k (by have := h.lt; omega) (by omega)⟩
end
/-- what Take answers -/
def QTook (w' : World) (g k : Nat) (e' : Ending) : Option (List Nat) → Prop
  | none => e' = .returned (.slice none 0 0)
  | some t => t.length = k ∧ IsB t ∧ ∃ A c, e' = .returned (.slice A k c) ∧ k ≤ c ∧ ArrL w' g A k t
end Go.Proofs.Ytgcbodpjidoanaa
namespace Go.Proofs.Ytgcbodpjidoanaa
open Go.RowKit
end Go.Proofs.Ytgcbodpjidoanaa
namespace Go.Proofs.Ytgcbodpjidoanaa
open Go.RowKit
/-- behind k numbers -/
def QTo (w : World) (g : Nat) (L : List Nat) (E : Int) (wr : World) (A : Option Addr) (c m k : Nat) : Prop :=
  ∃ R : List Int, m = R.length ∧ OwnI wr w.heap.size A c R ∧ But (fun b => b = g) w wr ∧ Qd wr g (rNums k L E).2.1 (rNums k L E).2.2 ∧ ((rNums k L E).2.2 = 0 → R = (rNums k L E).1)
end Go.Proofs.Ytgcbodpjidoanaa
namespace Go.Proofs.Ytgcbodpjidoanaa
open Go.RowKit
def rRowI (m : Int) (l : List Nat) (e : Int) : List Int × List Nat × Int :=
  let s := rNums (rByte l e) (rTake 1 l e).2.1 (if m < (rByte l e : Int) ∧ (rTake 1 l e).2.2 = 0 then 10 else (rTake 1 l e).2.2)
  (if s.2.2 = 0 then s.1 else [], s.2)
theorem rRowI_nat (k : Nat) (l : List Nat) (e : Int) : rRowI (k : Int) l e = rRow k l e := by
  unfold rRowI rRow rRowE
  simp only [Int.ofNat_lt]
/-- a truth that is read -/
def rTruthE (l : List Nat) (e : Int) : Int := if 1 < rByte l e ∧ (rTake 1 l e).2.2 = 0 then 21 else (rTake 1 l e).2.2
def rTruth (l : List Nat) (e : Int) : Bool × List Nat × Int := (decide (rByte l e = 1), (rTake 1 l e).2.1, rTruthE l e)
theorem rByte_err {l : List Nat} {e : Int} (h : (rTake 1 l e).2.2 ≠ 0) : rByte l e = 0 := by
  by_cases h1 : e = 0
  · by_cases h2 : l.length < 1
    · unfold rByte rTake; simp [h1, h2]
    · exfalso; apply h; unfold rTake; rw [if_neg (by simp [h1]), if_neg h2]
  · unfold rByte rTake; simp [h1]
set_option maxRecDepth 100000 in
set_option maxHeartbeats 1000000 in
theorem rtruth_any (g : Nat) (l : List Nat) (e : Int) (w : World) (hS : Rd w g l e) :
    Calls Try.prog 87 #[.pointer (some ⟨g, 0, none⟩)] w fun e' w' => e' = .returned (.bool (rTruth l e).1) ∧ But (fun b => b = g) w w' ∧ Rd w' g (rTruth l e).2.1 (rTruth l e).2.2 := by
  have hT := rbyte_any g l e w hS
  have hF := hideP (fun W L f (h : Rd W g L f) => fail_any g L 21 f W h)
  have hz := hideP (fun h => rByte_err (l := l) (e := e) h)
  unfold rTruth rTruthE
  dsimp only
  obtain ⟨n, hn⟩ : ∃ n, n = rByte l e := ⟨_, rfl⟩
  obtain ⟨L, hL⟩ : ∃ L, L = (rTake 1 l e).2.1 := ⟨_, rfl⟩
  obtain ⟨f, hf⟩ : ∃ f, f = (rTake 1 l e).2.2 := ⟨_, rfl⟩
  rw [← hn, ← hL, ← hf] at hT ⊢
  rw [← hn, ← hf] at hz
  obtain ⟨EE, hEE⟩ : ∃ E, E = if 1 < n ∧ f = 0 then (21 : Int) else f := ⟨_, rfl⟩
  rw [← hEE]
  clear hn hL hf
  have HhT := hideP hT; have HhS := hideP hS; clear hT hS
  go_enter Try.func87, Try.ntmps87
  by_cases h1 : 1 < n
  · have i1 : (1 : Int) < (n : Int) := by omega
    have i2 : ((n : Int) == 1) = false := by simp; omega
    have Hr := hideP (show decide (n = 1) = false by simp; omega)
    have HE := hideP (show EE = if f = 0 then 21 else f by rw [hEE]; simp [h1])
    clear h1 hEE
    go_wp2_with (first
      | (go_at_call 86; refine HhT.out.mono ?_; rintro e2 w1 ⟨rfl, b1, s1⟩; have S1 := hideP s1; have B1 := hideP b1; clear s1 b1)
      | (go_at_call 161; refine (hF.out _ L f S1.out).mono ?_; rintro e2 w2 ⟨rfl, b2, s2⟩; have SE := hideP s2; have BE := hideP (B1.out.trans b2); clear s2 b2))
    go_ret
    exact ⟨by rw [Hr.out]; rfl, BE.out, by rw [HE.out]; exact SE.out⟩
  · have i1 : ¬ (1 : Int) < (n : Int) := by omega
    have HE := hideP (show EE = f by rw [hEE]; simp [h1])
    have Hr := hideP (show ((n : Int) == 1) = decide (n = 1) by rw [Bool.eq_iff_iff]; simp; omega)
    clear h1 hEE
    go_wp2_with (go_at_call 86; refine HhT.out.mono ?_; rintro e2 w1 ⟨rfl, b1, s1⟩; have S1 := hideP s1; have B1 := hideP b1; clear s1 b1)
    go_ret
    exact ⟨by rw [← Hr.out]; rfl, B1.out, by rw [HE.out]; exact S1.out⟩
set_option maxRecDepth 100000 in
set_option maxHeartbeats 1000000 in
theorem rrowI_any (g : Nat) (l : List Nat) (most : Int) (e : Int) (w : World) (hS : Rd w g l e) :
    Calls Try.prog 88 #[.pointer (some ⟨g, 0, none⟩), .int .i64 most] w fun e' w' => ∃ R d, e' = .returned (.slice R (rRowI most l e).1.length d) ∧ OwnI w' w.heap.size R d (rRowI most l e).1 ∧ But (fun b => b = g) w w' ∧ Rd w' g (rRowI most l e).2.1 (rRowI most l e).2.2 := by
  have hT := rbyte_any g l e w hS
  have hnb := rByte_lt l e hS.isB
  have hg := hS.lt
  have hX := hideP (fun k (h : w.heap.size ≤ k) => (by omega : ¬ (k = g)))
  obtain ⟨n, hn⟩ : ∃ n, n = rByte l e := ⟨_, rfl⟩
  obtain ⟨E, hE⟩ : ∃ E, E = if most < (rByte l e : Int) ∧ (rTake 1 l e).2.2 = 0 then 10 else (rTake 1 l e).2.2 := ⟨_, rfl⟩
  obtain ⟨L, hL⟩ : ∃ L, L = (rTake 1 l e).2.1 := ⟨_, rfl⟩
  obtain ⟨f, hf⟩ : ∃ f, f = (rTake 1 l e).2.2 := ⟨_, rfl⟩
  have hE' : E = if most < (n : Int) ∧ f = 0 then 10 else f := by rw [hE, hn, hf]
  have hR : rRowI most l e = (if (rNums n L E).2.2 = 0 then (rNums n L E).1 else [], (rNums n L E).2) := by rw [hn, hL, hE]; rfl
  obtain ⟨RS, hRS⟩ : ∃ RS, RS = rRowI most l e := ⟨_, rfl⟩
  rw [← hRS]
  have HRS := hideP (hRS.trans hR)
  rw [← hn, ← hL, ← hf] at hT
  rw [← hn] at hnb
  clear hn hE hL hf hRS hR
  have HhT := hideP hT; have HhS := hideP hS; have HhE' := hideP hE'; clear hT hS hE'
  have i0 : (n : Int) < 256 := by omega
  go_enter Try.func88, Try.ntmps88
  go_upto_region 2 with (go_at_call 86; refine HhT.out.mono ?_; rintro e2 w1 ⟨rfl, b1, s1⟩; have S1 := hideP s1; have B1 := hideP b1; clear s1 b1)
  by_cases hm : most < (n : Int)
  · have i1 : most < (n : Int) := hm
    have HE := hideP (show E = if f = 0 then 10 else f by rw [HhE'.out]; simp [hm])
    go_upto_region 4 with (go_at_call 161; refine (fail_any g L 10 f _ S1.out).mono ?_; rintro e2 w2 ⟨rfl, b2, s2⟩; rw [← HE.out] at s2; have SE := hideP s2; have BE := hideP (B1.out.trans b2); clear s2 b2)
    obtain ⟨W, hW⟩ : ∃ W, W = w2 := ⟨_, rfl⟩
    rw [← hW] at SE BE ⊢
    clear hW
    go_wp2_with fail
    go_loopw [6, 7, 17] (fun v6 _ v17 wr => ∃ (k m : Nat) (A : Option Addr) (c : Nat), k ≤ n ∧ v17 = .int .i64 (k : Nat) ∧ v6 = .slice A m c ∧ m ≤ k ∧ Hid (m = (rNums k L E).1.length ∧ OwnI wr w.heap.size A c (rNums k L E).1 ∧ But (fun b => b = g) w wr ∧ Rd wr g (rNums k L E).2.1 (rNums k L E).2.2)) (fun _ _ v17 _ => n - (intOf v17).toNat)
    case atStart => exact ⟨0, 0, none, 0, by omega, rfl, rfl, by omega, rfl, OwnI.nil _ _, BE.out, SE.out⟩
    case round =>
      obtain ⟨k, m, A, c, hk, rfl, rfl, hmk, hV⟩ := hrel
      by_cases hlt : k < n
      · have i2 : (k : Int) < (n : Int) := by omega
        have m2 : IntKind.i64.wrap ((k : Int) + 1) = (k : Int) + 1 := IntWalk.i64_in _ (by omega)
        have hst := hideP (show rNums (k + 1) L E = (if (rTake 8 (rNums k L E).2.1 (rNums k L E).2.2).2.2 = 0 then (rNums k L E).1 ++ [rNum (rNums k L E).2.1 (rNums k L E).2.2] else (rNums k L E).1, (rTake 8 (rNums k L E).2.1 (rNums k L E).2.2).2) from rfl)
        obtain ⟨⟨rs, l1, e1⟩, hq⟩ : ∃ q, q = rNums k L E := ⟨_, rfl⟩
        rw [← hq] at hV hst
        clear hq
        dsimp only at hV hst
        have hN := rnum_any g l1 e1 wr hV.out.2.2.2
        obtain ⟨x, hx⟩ : ∃ x, x = rNum l1 e1 := ⟨_, rfl⟩
        obtain ⟨⟨o, l2, e2⟩, ho⟩ : ∃ q, q = rTake 8 l1 e1 := ⟨_, rfl⟩
        rw [← hx, ← ho] at hst hN
        clear hx ho
        dsimp only at hst hN
        have HN := hideP hN
        clear hN
        by_cases hz : e2 = 0
        · subst hz
          rw [if_pos rfl] at hst
          go_wp2_with (first
            | (go_at_call 162; refine HN.out.mono ?_; rintro e3 w3 ⟨rfl, b3, s3⟩; have S3 := hideP s3; have B3 := hideP (hV.out.2.2.1.trans b3); have O3 := hideP (hV.out.2.1.but b3 hX.out); clear b3; obtain ⟨A1, d1, hT1, _⟩ := s3; have c1 := hT1.c1; clear hT1)
            | (at_builtin; refine wpList_appI rfl (.tmp 26) (.tmp 28) rfl w.heap.size A c m rs hV.out.1 rfl O3.out x rfl (by omega) B3.out.size ?_; intro A4 c4 w4 o4 b4; have O4 := hideP o4; have B4 := hideP b4; clear o4 b4))
          go_roundw
          case rel => exact ⟨k + 1, m + 1, A4, c4, by omega, by rw [show ((k + 1 : Nat) : Int) = (k : Int) + 1 by omega], rfl, by omega, by rw [hst.out, List.length_append, ← hV.out.1]; rfl, by rw [hst.out]; exact O4.out, B3.out.then_below B4.out, by rw [hst.out]; exact S3.out.below B4.out hg⟩
          case measure => simp [intOf]; omega
        · rw [if_neg hz] at hst
          go_wp2_with (go_at_call 162; refine HN.out.mono ?_; rintro e3 w3 ⟨rfl, b3, s3⟩; have S3 := hideP s3; have B3 := hideP (hV.out.2.2.1.trans b3); have O3 := hideP (hV.out.2.1.but b3 hX.out); clear b3; obtain ⟨A1, d1, hT1, _⟩ := s3; have c1 := hT1.c1; clear hT1)
          go_roundw
          case rel => exact ⟨k + 1, m, A, c, by omega, by rw [show ((k + 1 : Nat) : Int) = (k : Int) + 1 by omega], rfl, by omega, by rw [hst.out]; exact hV.out.1, by rw [hst.out]; exact O3.out, B3.out, by rw [hst.out]; exact S3.out⟩
          case measure => simp [intOf]; omega
      · have hkn : k = n := by omega
        subst hkn
        obtain ⟨⟨rs, l1, e1⟩, hq⟩ : ∃ q, q = rNums k L E := ⟨_, rfl⟩
        rw [← hq] at hV
        have HQ := hideP hq
        clear hq
        dsimp only at hV
        obtain ⟨A1, d1, hT1, _⟩ := hV.out.2.2.2
        have c1 := hT1.c1
        clear hT1
        by_cases hz : e1 = 0
        · subst hz
          go_wp2_with fail
          go_ret
          rw [HRS.out, ← HQ.out]
          exact ⟨A, c, by rw [hV.out.1]; rfl, hV.out.2.1, hV.out.2.2.1, hV.out.2.2.2⟩
        · go_wp2_with fail
          go_ret
          rw [HRS.out, ← HQ.out]
          rw [show ((if (rs, l1, e1).2.2 = 0 then (rs, l1, e1).1 else [], (rs, l1, e1).2) : List Int × List Nat × Int) = ([], l1, e1) from by dsimp only; rw [if_neg hz]]
          exact ⟨none, 0, rfl, OwnI.nil _ _, hV.out.2.2.1, hV.out.2.2.2⟩
  · have i1 : (n : Int) ≤ most := by omega
    have HE := hideP (show E = f by rw [HhE'.out]; simp [hm])
    go_upto_region 4 with fail
    have SE := hideP (show Rd w1 g L E by rw [HE.out]; exact S1.out)
    have BE := hideP B1.out
    obtain ⟨W, hW⟩ : ∃ W, W = w1 := ⟨_, rfl⟩
    rw [← hW] at SE BE ⊢
    clear hW
    go_wp2_with fail
    go_loopw [6, 7, 17] (fun v6 _ v17 wr => ∃ (k m : Nat) (A : Option Addr) (c : Nat), k ≤ n ∧ v17 = .int .i64 (k : Nat) ∧ v6 = .slice A m c ∧ m ≤ k ∧ Hid (m = (rNums k L E).1.length ∧ OwnI wr w.heap.size A c (rNums k L E).1 ∧ But (fun b => b = g) w wr ∧ Rd wr g (rNums k L E).2.1 (rNums k L E).2.2)) (fun _ _ v17 _ => n - (intOf v17).toNat)
    case atStart => exact ⟨0, 0, none, 0, by omega, rfl, rfl, by omega, rfl, OwnI.nil _ _, BE.out, SE.out⟩
    case round =>
      obtain ⟨k, m, A, c, hk, rfl, rfl, hmk, hV⟩ := hrel
      by_cases hlt : k < n
      · have i2 : (k : Int) < (n : Int) := by omega
        have m2 : IntKind.i64.wrap ((k : Int) + 1) = (k : Int) + 1 := IntWalk.i64_in _ (by omega)
        have hst := hideP (show rNums (k + 1) L E = (if (rTake 8 (rNums k L E).2.1 (rNums k L E).2.2).2.2 = 0 then (rNums k L E).1 ++ [rNum (rNums k L E).2.1 (rNums k L E).2.2] else (rNums k L E).1, (rTake 8 (rNums k L E).2.1 (rNums k L E).2.2).2) from rfl)
        obtain ⟨⟨rs, l1, e1⟩, hq⟩ : ∃ q, q = rNums k L E := ⟨_, rfl⟩
        rw [← hq] at hV hst
        clear hq
        dsimp only at hV hst
        have hN := rnum_any g l1 e1 wr hV.out.2.2.2
        obtain ⟨x, hx⟩ : ∃ x, x = rNum l1 e1 := ⟨_, rfl⟩
        obtain ⟨⟨o, l2, e2⟩, ho⟩ : ∃ q, q = rTake 8 l1 e1 := ⟨_, rfl⟩
        rw [← hx, ← ho] at hst hN
        clear hx ho
        dsimp only at hst hN
        have HN := hideP hN
        clear hN
        by_cases hz : e2 = 0
        · subst hz
          rw [if_pos rfl] at hst
          go_wp2_with (first
            | (go_at_call 162; refine HN.out.mono ?_; rintro e3 w3 ⟨rfl, b3, s3⟩; have S3 := hideP s3; have B3 := hideP (hV.out.2.2.1.trans b3); have O3 := hideP (hV.out.2.1.but b3 hX.out); clear b3; obtain ⟨A1, d1, hT1, _⟩ := s3; have c1 := hT1.c1; clear hT1)
            | (at_builtin; refine wpList_appI rfl (.tmp 26) (.tmp 28) rfl w.heap.size A c m rs hV.out.1 rfl O3.out x rfl (by omega) B3.out.size ?_; intro A4 c4 w4 o4 b4; have O4 := hideP o4; have B4 := hideP b4; clear o4 b4))
          go_roundw
          case rel => exact ⟨k + 1, m + 1, A4, c4, by omega, by rw [show ((k + 1 : Nat) : Int) = (k : Int) + 1 by omega], rfl, by omega, by rw [hst.out, List.length_append, ← hV.out.1]; rfl, by rw [hst.out]; exact O4.out, B3.out.then_below B4.out, by rw [hst.out]; exact S3.out.below B4.out hg⟩
          case measure => simp [intOf]; omega
        · rw [if_neg hz] at hst
          go_wp2_with (go_at_call 162; refine HN.out.mono ?_; rintro e3 w3 ⟨rfl, b3, s3⟩; have S3 := hideP s3; have B3 := hideP (hV.out.2.2.1.trans b3); have O3 := hideP (hV.out.2.1.but b3 hX.out); clear b3; obtain ⟨A1, d1, hT1, _⟩ := s3; have c1 := hT1.c1; clear hT1)
          go_roundw
          case rel => exact ⟨k + 1, m, A, c, by omega, by rw [show ((k + 1 : Nat) : Int) = (k : Int) + 1 by omega], rfl, by omega, by rw [hst.out]; exact hV.out.1, by rw [hst.out]; exact O3.out, B3.out, by rw [hst.out]; exact S3.out⟩
          case measure => simp [intOf]; omega
      · have hkn : k = n := by omega
        subst hkn
        obtain ⟨⟨rs, l1, e1⟩, hq⟩ : ∃ q, q = rNums k L E := ⟨_, rfl⟩
        rw [← hq] at hV
        have HQ := hideP hq
        clear hq
        dsimp only at hV
        obtain ⟨A1, d1, hT1, _⟩ := hV.out.2.2.2
        have c1 := hT1.c1
        clear hT1
        by_cases hz : e1 = 0
        · subst hz
          go_wp2_with fail
          go_ret
          rw [HRS.out, ← HQ.out]
          exact ⟨A, c, by rw [hV.out.1]; rfl, hV.out.2.1, hV.out.2.2.1, hV.out.2.2.2⟩
        · go_wp2_with fail
          go_ret
          rw [HRS.out, ← HQ.out]
          rw [show ((if (rs, l1, e1).2.2 = 0 then (rs, l1, e1).1 else [], (rs, l1, e1).2) : List Int × List Nat × Int) = ([], l1, e1) from by dsimp only; rw [if_neg hz]]
          exact ⟨none, 0, rfl, OwnI.nil _ _, hV.out.2.2.1, hV.out.2.2.2⟩
end Go.Proofs.Ytgcbodpjidoanaa
