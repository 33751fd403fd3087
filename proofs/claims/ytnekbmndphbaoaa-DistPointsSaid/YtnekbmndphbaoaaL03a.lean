/- The walk of DistPoints. -/
import Derived.Test.YtnekbmndphbaoaaLaw03
set_option linter.unusedVariables false
set_option linter.unusedSimpArgs false
namespace Go.Proofs.Ytnekbmndphbaoaa
open Go.RowKit

/-- both contracts on Between, by one distance and one bool -/
theorem between_both (A B : Option Addr) (p q : List Int) (c d : Nat) (hp : IsI p) (hq : IsI q) : ∃ (h l : Nat) (er : Int) (b : Bool), ((er = 0 ∧ b = true) ∨ (er = 1 ∧ b = false)) ∧
    (∀ w, Arr w w.heap.size A p.length (i64s p) → Arr w w.heap.size B q.length (i64s q) → Calls Try.prog 14 #[.slice A p.length c, .slice B q.length d] w fun e w' => e = .returned (.tuple #[.agg #[.int .u64 h, .int .u64 l], .int .i64 er]) ∧ Below w.heap.size w w') ∧
    (∀ w, Arr w w.heap.size A p.length (i64s p) → Arr w w.heap.size B q.length (i64s q) → Calls Try.prog 15 #[.slice A p.length c, .slice B q.length d] w fun e w' => e = .returned (.tuple #[.agg #[.int .u64 h, .int .u64 l], .bool b]) ∧ Below w.heap.size w w') := by
  by_cases h : (isPt p.length && decide (q.length = p.length)) = true
  · obtain ⟨h1, h2⟩ : (1 ≤ p.length ∧ p.length ≤ 8) ∧ q.length = p.length := by unfold isPt at h; simpa using h
    refine ⟨dpt p q p.length / 18446744073709551616, dpt p q p.length % 18446744073709551616, 0, true, .inl ⟨rfl, rfl⟩, fun w hA hB => ?_, fun w hA hB => ?_⟩
    · rw [h2] at hB ⊢; exact between_in A B p q p.length c d w hA hB hp hq h1.1 h1.2
    · rw [h2] at hB ⊢; exact rbetween_in A B p q p.length c d w hA hB hp hq h1.1 h1.2
  · have h : (isPt p.length && decide (q.length = p.length)) = false := by simpa using h
    exact ⟨0 / 18446744073709551616, 0 % 18446744073709551616, 1, false, .inr ⟨rfl, rfl⟩, fun w hA hB => between_no A B p.length q.length c d w h, fun w hA hB => rbetween_no A B p.length q.length c d w h⟩
theorem toBox_both (A L H : Option Addr) (p lo hi : List Int) (c d s : Nat) (hp : IsI p) (hl : IsI lo) (hh : IsI hi) : ∃ (h l : Nat) (er : Int) (b : Bool), ((er = 0 ∧ b = true) ∨ (er = 1 ∧ b = false)) ∧
    (∀ w, Arr w w.heap.size A p.length (i64s p) → Arr w w.heap.size L lo.length (i64s lo) → Arr w w.heap.size H hi.length (i64s hi) → Calls Try.prog 16 #[.slice A p.length c, .agg #[.slice L lo.length d, .slice H hi.length s]] w fun e w' => e = .returned (.tuple #[.agg #[.int .u64 h, .int .u64 l], .int .i64 er]) ∧ Below w.heap.size w w') ∧
    (∀ w, Arr w w.heap.size A p.length (i64s p) → Arr w w.heap.size L lo.length (i64s lo) → Arr w w.heap.size H hi.length (i64s hi) → Calls Try.prog 17 #[.slice A p.length c, .agg #[.slice L lo.length d, .slice H hi.length s]] w fun e w' => e = .returned (.tuple #[.agg #[.int .u64 h, .int .u64 l], .bool b]) ∧ Below w.heap.size w w') := by
  by_cases h : (isPt p.length && decide (lo.length = p.length) && decide (hi.length = p.length)) = true
  · obtain ⟨⟨h1, h2⟩, h3⟩ : ((1 ≤ p.length ∧ p.length ≤ 8) ∧ lo.length = p.length) ∧ hi.length = p.length := by unfold isPt at h; simpa using h
    refine ⟨dbox p lo hi p.length / 18446744073709551616, dbox p lo hi p.length % 18446744073709551616, 0, true, .inl ⟨rfl, rfl⟩, fun w hA hB hC => ?_, fun w hA hB hC => ?_⟩
    · rw [h2] at hB ⊢; rw [h3] at hC ⊢; exact toBox_in A L H p lo hi p.length c d s w hA hB hC hp hl hh h1.1 h1.2
    · rw [h2] at hB ⊢; rw [h3] at hC ⊢; exact rtoBox_in A L H p lo hi p.length c d s w hA hB hC hp hl hh h1.1 h1.2
  · have h : (isPt p.length && decide (lo.length = p.length) && decide (hi.length = p.length)) = false := by simpa using h
    exact ⟨0 / 18446744073709551616, 0 % 18446744073709551616, 1, false, .inr ⟨rfl, rfl⟩, fun w hA hB hC => toBox_no A L H p.length lo.length hi.length c d s w h, fun w hA hB hC => rtoBox_no A L H p.length lo.length hi.length c d s w h⟩
set_option maxRecDepth 100000 in
set_option maxHeartbeats 4000000 in
theorem walk_DistPoints (A0 : Option Addr) (z0 : List Int) (c0 : Nat) (A1 : Option Addr) (z1 : List Int) (c1 : Nat) (L : Option Addr) (lo : List Int) (d : Nat) (H : Option Addr) (hi : List Int) (s : Nat) (w : World)
    (a0 : Arr w w.heap.size A0 z0.length (i64s z0)) (i0 : IsI z0) (n0 : z0.length ≤ 17592186043904) (a1 : Arr w w.heap.size A1 z1.length (i64s z1)) (i1 : IsI z1) (n1 : z1.length ≤ 17592186043904) (aL : Arr w w.heap.size L lo.length (i64s lo)) (iL : IsI lo) (aH : Arr w w.heap.size H hi.length (i64s hi)) (iH : IsI hi) :
    Calls Try.prog 3 #[.slice A0 z0.length c0, .slice A1 z1.length c1, .agg #[.slice L lo.length d, .slice H hi.length s]] w fun e w' => e = .returned (.bool true) ∧ Below w.heap.size w w' := by
  obtain ⟨h, l, er, b, hE1, hB1, hB2⟩ := between_both A0 A1 z0 z1 c0 c1 i0 i1
  obtain ⟨h', l', er', b', hE2, hT1, hT2⟩ := toBox_both A0 L H z0 lo hi c0 d s i0 iL iH
  have HE1 := hideP hE1; have HE2 := hideP hE2
  clear hE1 hE2
  have HB1 := hideP hB1; have HB2 := hideP hB2; have HT1 := hideP hT1; have HT2 := hideP hT2
  have HA0 := hideP a0; have HA1 := hideP a1; have HL := hideP aL; have HH := hideP aH
  clear hB1 hB2 hT1 hT2 a0 a1 aL aH i0 i1 iL iH
  go_enter Try.func3, Try.ntmps3
  go_wp2_with fail
  obtain ⟨w0, hw0⟩ : ∃ w0, w0 = w.alloc (Obj.cells #[.slice L lo.length d, .slice H hi.length s] 25) := ⟨_, rfl⟩
  have tb : Two w0 w.heap.size 25 (.slice L lo.length d) (.slice H hi.length s) := by rw [hw0]; exact Two.new _ _ _ _
  have bb : Below w.heap.size w w0 := by rw [hw0]; exact below_new _ _
  rw [← hw0]
  clear hw0
  refine (alive03 w0).mono ?_
  rintro e w1 ⟨rfl, hb1⟩
  have tb1 := hideP (tb.after hb1); have bb1 := hideP (bb.trans (hb1.mono bb.size))
  clear tb bb hb1
  go_wp2_with fail
  refine (HB1.out w1 (HA0.out.after bb1.out) (HA1.out.after bb1.out)).mono ?_
  rintro e w2 ⟨rfl, hb2⟩
  have hb2' := hb2.trans ((below_new w2 (.cells #[.int .u64 h, .int .u64 l] 29)).mono hb2.size)
  have tb2 := hideP (tb1.out.after hb2'); have bb2 := hideP (bb1.out.trans (hb2'.mono bb1.out.size))
  have x2 := hideP (Two.new w2 29 (.int .u64 h) (.int .u64 l))
  clear tb1 bb1 hb2 hb2'
  go_wp2_with fail
  obtain ⟨v2, hv2⟩ : ∃ v, v = w2.alloc (.cells #[.int .u64 h, .int .u64 l] 29) := ⟨_, rfl⟩
  rw [← hv2] at tb2 bb2 x2 ⊢
  obtain ⟨g2, hg2⟩ : ∃ g, g = w2.heap.size := ⟨_, rfl⟩
  rw [← hg2] at x2 ⊢
  clear hv2 hg2 
  refine (HB2.out v2 (HA0.out.after bb2.out) (HA1.out.after bb2.out)).mono ?_
  rintro e w3 ⟨rfl, hb3⟩
  have hb3' := hb3.trans ((below_new w3 (.cells #[.int .u64 h, .int .u64 l] 29)).mono hb3.size)
  have tb3 := hideP (tb2.out.after hb3'); have bb3 := hideP (bb2.out.trans (hb3'.mono bb2.out.size))
  have x3 := hideP (x2.out.after hb3')
  have y3 := hideP (Two.new w3 29 (.int .u64 h) (.int .u64 l))
  clear tb2 bb2 hb3 hb3' x2 w2
  have k0 := tb3.out.c0
  have k1 := tb3.out.c1
  go_wp2_with fail
  obtain ⟨v3, hv3⟩ : ∃ v, v = w3.alloc (.cells #[.int .u64 h, .int .u64 l] 29) := ⟨_, rfl⟩
  rw [← hv3] at tb3 bb3 x3 y3 ⊢
  obtain ⟨g3, hg3⟩ : ∃ g, g = w3.heap.size := ⟨_, rfl⟩
  rw [← hg3] at y3 ⊢
  clear hv3 hg3 k0 k1
  refine (HT1.out v3 (HA0.out.after bb3.out) (HL.out.after bb3.out) (HH.out.after bb3.out)).mono ?_
  rintro e w4 ⟨rfl, hb4⟩
  have hb4' := hb4.trans ((below_new w4 (.cells #[.int .u64 h', .int .u64 l'] 29)).mono hb4.size)
  have tb4 := hideP (tb3.out.after hb4'); have bb4 := hideP (bb3.out.trans (hb4'.mono bb3.out.size))
  have x4 := hideP (x3.out.after hb4'); have y4 := hideP (y3.out.after hb4')
  have z4 := hideP (Two.new w4 29 (.int .u64 h') (.int .u64 l'))
  clear tb3 bb3 hb4 hb4' x3 y3
  have k0 := tb4.out.c0
  have k1 := tb4.out.c1
  go_wp2_with fail
  obtain ⟨v4, hv4⟩ : ∃ v, v = w4.alloc (.cells #[.int .u64 h', .int .u64 l'] 29) := ⟨_, rfl⟩
  rw [← hv4] at tb4 bb4 x4 y4 z4 ⊢
  obtain ⟨g4, hg4⟩ : ∃ g, g = w4.heap.size := ⟨_, rfl⟩
  rw [← hg4] at z4 ⊢
  clear hv4 hg4 k0 k1
  refine (HT2.out v4 (HA0.out.after bb4.out) (HL.out.after bb4.out) (HH.out.after bb4.out)).mono ?_
  rintro e w5 ⟨rfl, hb5⟩
  have hb5' := hb5.trans ((below_new w5 (.cells #[.int .u64 h', .int .u64 l'] 29)).mono hb5.size)
  have bb5 := hideP (bb4.out.trans (hb5'.mono bb4.out.size))
  have x5 := x4.out.after hb5'
  have y5 := y4.out.after hb5'
  have z5 := z4.out.after hb5'
  have p0 := x5.c0
  have p1 := x5.c1
  have q0 := y5.c0
  have q1 := y5.c1
  have r0 := z5.c0
  have r1 := z5.c1
  clear tb4 bb4 hb5 hb5' x4 y4 z4 x5 y5 z5
  rcases HE1.out with ⟨rfl, rfl⟩ | ⟨rfl, rfl⟩ <;> rcases HE2.out with ⟨rfl, rfl⟩ | ⟨rfl, rfl⟩
  all_goals go_wp2
  all_goals go_ret
  all_goals exact ⟨rfl, bb5.out⟩
end Go.Proofs.Ytnekbmndphbaoaa
