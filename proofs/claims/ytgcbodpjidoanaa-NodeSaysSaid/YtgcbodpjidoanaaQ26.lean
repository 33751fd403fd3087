/- Contracts of node.Empty, KidRight and of the reference's. -/
import Derived.Test.YtgcbodpjidoanaaQ25
set_option linter.unusedVariables false
set_option linter.unusedSimpArgs false
namespace Go.Proofs.Ytgcbodpjidoanaa
open Go.RowKit
def kidZ : KidD := ⟨List.replicate 32 0, [], [], 0, 0, []⟩
def kidPZ : KidP := ⟨none, 0, none, 0, none, 0⟩
theorem kidC_lit : (kidC kidZ kidPZ).toArray = #[.int .u8 0, .int .u8 0, .int .u8 0, .int .u8 0, .int .u8 0, .int .u8 0, .int .u8 0, .int .u8 0, .int .u8 0, .int .u8 0, .int .u8 0, .int .u8 0, .int .u8 0, .int .u8 0, .int .u8 0, .int .u8 0, .int .u8 0, .int .u8 0, .int .u8 0, .int .u8 0, .int .u8 0, .int .u8 0, .int .u8 0, .int .u8 0, .int .u8 0, .int .u8 0, .int .u8 0, .int .u8 0, .int .u8 0, .int .u8 0, .int .u8 0, .int .u8 0, .slice none 0 0, .slice none 0 0, .int .i64 0, .int .i64 0, .slice none 0 0] := rfl
theorem kidZ_ok : KidOk kidZ := ⟨rfl, fun i => by unfold kidZ; simp only [List.getD, List.getElem?_replicate]; split <;> decide, fun i => by simp [kidZ], fun i => by simp [kidZ], fun i => by simp [kidZ], by decide, by decide, by decide, by decide, by decide⟩
theorem kidZ_mem (w : World) (B : Nat) : KidMem w B kidZ kidPZ := ⟨Arr.none_, Arr.none_, Arr.none_⟩
set_option maxRecDepth 100000 in
set_option maxHeartbeats 2000000 in
theorem nempty_any (k : KidD) (p : KidP) (w : World) (hk : KidOk k) (hm : KidMem w w.heap.size k p) :
    Calls Try.prog 24 #[.agg (kidC k p).toArray] w fun e w' => e = .returned (.bool (decide (k = kidZ))) ∧ Below w.heap.size w w' := by
  have hT := hideP (fun W (hW : Below w.heap.size w W) => nsame_any k kidZ p kidPZ W hk kidZ_ok (hm.after hW) (kidZ_mem _ _))
  have hs := hideP (size_k37 (hk.cells p))
  obtain ⟨E, hE⟩ : ∃ E, E = decide (k = kidZ) := ⟨_, rfl⟩
  obtain ⟨C, hC⟩ : ∃ C, C = kidC k p := ⟨_, rfl⟩
  rw [← hE, ← hC, kidC_lit] at hT
  rw [← hC] at hs ⊢
  rw [← hE]
  have r0 := hideP (Row.new w 43 C)
  have hb := hideP (below_new w (.cells C.toArray 43))
  clear hE hC hm hk
  go_enter Try.func24, Try.ntmps24
  go_wp2_with (first
    | (refine wpList_load_row rfl 43 (.tmp 1) rfl w.heap.size rfl 43 C.toArray (0, 0) _ r0.out Try.underlying43 rfl hs.out ?_)
    | (go_at_call 22; refine (hT.out _ hb.out).mono ?_; rintro e w1 ⟨rfl, b_⟩; have B1 := hideP (bstep hb.out b_); clear b_))
  go_ret
  exact ⟨rfl, B1.out⟩
set_option maxRecDepth 100000 in
set_option maxHeartbeats 2000000 in
theorem rnempty_any (k : KidD) (p : KidP) (w : World) (hk : KidOk k) (hm : KidMem w w.heap.size k p) :
    Calls Try.prog 25 #[.agg (kidC k p).toArray] w fun e w' => e = .returned (.bool (decide (k = kidZ))) ∧ Below w.heap.size w w' := by
  have hT := hideP (fun W (hW : Below w.heap.size w W) => rnsame_any k kidZ p kidPZ W hk kidZ_ok (hm.after hW) (kidZ_mem _ _))
  have hs := hideP (size_k37 (hk.cells p))
  obtain ⟨E, hE⟩ : ∃ E, E = decide (k = kidZ) := ⟨_, rfl⟩
  obtain ⟨C, hC⟩ : ∃ C, C = kidC k p := ⟨_, rfl⟩
  rw [← hE, ← hC, kidC_lit] at hT
  rw [← hC] at hs ⊢
  rw [← hE]
  have r0 := hideP (Row.new w 43 C)
  have hb := hideP (below_new w (.cells C.toArray 43))
  clear hE hC hm hk
  go_enter Try.func25, Try.ntmps25
  go_wp2_with (first
    | (refine wpList_load_row rfl 43 (.tmp 1) rfl w.heap.size rfl 43 C.toArray (0, 0) _ r0.out Try.underlying43 rfl hs.out ?_)
    | (go_at_call 23; refine (hT.out _ hb.out).mono ?_; rintro e w1 ⟨rfl, b_⟩; have B1 := hideP (bstep hb.out b_); clear b_))
  go_ret
  exact ⟨rfl, B1.out⟩
/-- may a kid be? -/
def kidR (k : KidD) (d : Int) : Bool := decide (k = kidZ) || (decide (1 ≤ k.size) && (decide (k.size ≤ 1048576) && (decide (0 ≤ k.live) && (decide (k.live ≤ k.size) && (if k.live = 0 then decide (k.lo.length = 0) && decide (k.hi.length = 0) else rightB k.lo k.hi d)))))
set_option maxRecDepth 100000 in
set_option maxHeartbeats 2000000 in
theorem nkidright_any (k : KidD) (p : KidP) (d : Int) (w : World) (hk : KidOk k) (hm : KidMem w w.heap.size k p) :
    Calls Try.prog 20 #[.agg (kidC k p).toArray, .int .i64 d] w fun e w' => e = .returned (.bool (kidR k d)) ∧ Below w.heap.size w w' := by
  have hT := hideP (fun W (hW : Below w.heap.size w W) => nempty_any k p W hk (hm.after hW))
  have hBx := hideP (fun W (hW : Below w.heap.size w W) => right_any p.lA p.hA k.lo k.hi p.lc p.hc d W (hm.after hW).lo (hm.after hW).hi)
  have hs := hideP (size_k37 (hk.cells p))
  have hbl := hideP (And.intro hk.lo hk.hi)
  obtain ⟨E, hE⟩ : ∃ E, E = decide (k = kidZ) := ⟨_, rfl⟩
  have hR := hideP (show kidR k d = (E || (decide (1 ≤ k.size) && (decide (k.size ≤ 1048576) && (decide (0 ≤ k.live) && (decide (k.live ≤ k.size) && (if k.live = 0 then decide (k.lo.length = 0) && decide (k.hi.length = 0) else rightB k.lo k.hi d)))))) by rw [hE]; rfl)
  obtain ⟨v, hv⟩ : ∃ v, v = w.alloc (.cells (kidC k p).toArray 43) := ⟨_, rfl⟩
  obtain ⟨g, hg⟩ : ∃ g, g = w.heap.size := ⟨_, rfl⟩
  have X := hideP (show Row v g 43 (kidC k p) by rw [hv, hg]; exact Row.new w 43 (kidC k p))
  have B := hideP (show Below w.heap.size w v by rw [hv]; exact below_new _ _)
  have x0 := hideP (fun W (hW : Ext v W) => show W.cell? ⟨g, 32, none⟩ = some (.slice p.lA k.lo.length p.lc) from kid_at hk (Row.range (Row.ext X.out hW)) 0 rfl)
  have x1 := hideP (fun W (hW : Ext v W) => show W.cell? ⟨g, 33, none⟩ = some (.slice p.hA k.hi.length p.hc) from kid_at hk (Row.range (Row.ext X.out hW)) 1 rfl)
  have x2 := hideP (fun W (hW : Ext v W) => show W.cell? ⟨g, 34, none⟩ = some (.int .i64 k.live) from kid_at hk (Row.range (Row.ext X.out hW)) 2 rfl)
  have x3 := hideP (fun W (hW : Ext v W) => show W.cell? ⟨g, 35, none⟩ = some (.int .i64 k.size) from kid_at hk (Row.range (Row.ext X.out hW)) 3 rfl)
  obtain ⟨C, hC⟩ : ∃ C, C = kidC k p := ⟨_, rfl⟩
  obtain ⟨RB, hRB⟩ : ∃ C, C = rightB k.lo k.hi d := ⟨_, rfl⟩
  obtain ⟨live, q1⟩ : ∃ z, z = k.live := ⟨_, rfl⟩
  obtain ⟨sz, q2⟩ : ∃ z, z = k.size := ⟨_, rfl⟩
  obtain ⟨nl, q3⟩ : ∃ z, z = k.lo.length := ⟨_, rfl⟩
  obtain ⟨nh, q4⟩ : ∃ z, z = k.hi.length := ⟨_, rfl⟩
  obtain ⟨RS, q5⟩ : ∃ z, z = kidR k d := ⟨_, rfl⟩
  rw [← hC] at hv hT hs X ⊢
  rw [← hE] at hT
  rw [← hRB] at hBx hR
  rw [← q1, ← q2, ← q3, ← q4, ← q5] at hR
  rw [← q3, ← q4] at hBx
  rw [← q3, ← q4] at hbl
  rw [← q3] at x0; rw [← q4] at x1; rw [← q1] at x2; rw [← q2] at x3
  rw [← q5]
  have Hv := hideP hv
  clear hE hC hRB q1 q2 q3 q4 q5 hv hm hk
  go_enter Try.func20, Try.ntmps20
  go_upto_region 1 with fail
  rw [← Hv.out, ← hg]
  clear hg Hv
  rcases E with _ | _
  · go_upto_region 3 with (first
      | (refine wpList_load_row rfl 43 (.tmp 2) rfl g rfl 43 C.toArray (0, 0) _ X.out Try.underlying43 rfl hs.out ?_)
      | (go_at_call 24; refine (hT.out _ B.out).mono ?_; rintro e w1 ⟨rfl, b_⟩; have B1 := hideP (bstep B.out b_); have k0 := x0.out w1 (Ext.of_below b_); have k1 := x1.out w1 (Ext.of_below b_); have k2 := x2.out w1 (Ext.of_below b_); have k3 := x3.out w1 (Ext.of_below b_); clear b_))
    by_cases h1 : 1 ≤ sz
    case neg =>
      have e1 : decide (sz < 1) = true := by simp; omega
      have hr := hideP (show RS = false by rw [hR.out]; simp [h1])
      clear h1
      go_wp2_with fail
      go_ret
      exact ⟨by rw [hr.out]; rfl, B1.out⟩
    have e1 : decide (sz < 1) = false := by simp; omega
    by_cases h2 : sz ≤ 1048576
    case neg =>
      have e2 : decide (1048576 < sz) = true := by simp; omega
      have hr := hideP (show RS = false by rw [hR.out]; simp [h2])
      clear h1 h2
      go_wp2_with fail
      go_ret
      exact ⟨by rw [hr.out]; rfl, B1.out⟩
    have e2 : decide (1048576 < sz) = false := by simp; omega
    by_cases h3 : 0 ≤ live
    case neg =>
      have e3 : decide (live < 0) = true := by simp; omega
      have hr := hideP (show RS = false by rw [hR.out]; simp [h3])
      clear h1 h2 h3
      go_wp2_with fail
      go_ret
      exact ⟨by rw [hr.out]; rfl, B1.out⟩
    have e3 : decide (live < 0) = false := by simp; omega
    by_cases h4 : live ≤ sz
    case neg =>
      have e4 : decide (sz < live) = true := by simp; omega
      have hr := hideP (show RS = false by rw [hR.out]; simp [h4])
      clear h1 h2 h3 h4
      go_wp2_with fail
      go_ret
      exact ⟨by rw [hr.out]; rfl, B1.out⟩
    have e4 : decide (sz < live) = false := by simp; omega
    by_cases h5 : live = 0
    · have hr := hideP (show RS = (decide (nl = 0) && decide (nh = 0)) by rw [hR.out]; simp [h1, h2, h3, h4, h5]; (try (intros; omega)))
      have e5 : (live == 0) = true := by simp [h5]
      clear h1 h2 h3 h4 h5
      by_cases h6 : nl = 0
      · have e6 : ((nl : Int) == 0) = true := by simp [h6]
        by_cases h7 : nh = 0
        · have e7 : ((nh : Int) == 0) = true := by simp [h7]
          have hr2 := hideP (show RS = true by rw [hr.out]; simp [h6, h7])
          skip
          clear h6 h7
          go_wp2_with fail
          go_ret
          exact ⟨by rw [hr2.out]; rfl, B1.out⟩
        · have e7 : ((nh : Int) == 0) = false := by simp [h7]
          have hr2 := hideP (show RS = false by rw [hr.out]; simp [h7])
          skip
          clear h6 h7
          go_wp2_with fail
          go_ret
          exact ⟨by rw [hr2.out]; rfl, B1.out⟩
      · have e6 : ((nl : Int) == 0) = false := by simp [h6]
        have hr2 := hideP (show RS = false by rw [hr.out]; simp [h6])
        skip
        clear h6
        go_wp2_with fail
        go_ret
        exact ⟨by rw [hr2.out]; rfl, B1.out⟩
    · have hr := hideP (show RS = RB by rw [hR.out]; simp [h1, h2, h3, h4, h5])
      have e5 : (live == 0) = false := by simp [h5]
      clear h1 h2 h3 h4 h5
      go_wp2_with (go_at_call 102; refine (hBx.out w1 B1.out).mono ?_; rintro e w2 ⟨rfl, b_⟩; have B2 := hideP (bstep B1.out b_); clear b_)
      go_ret
      exact ⟨by rw [hr.out]; rfl, B2.out⟩
  · have hr := hideP (show RS = true by rw [hR.out]; rfl)
    go_wp2_with (first
      | (refine wpList_load_row rfl 43 (.tmp 2) rfl g rfl 43 C.toArray (0, 0) _ X.out Try.underlying43 rfl hs.out ?_)
      | (go_at_call 24; refine (hT.out _ B.out).mono ?_; rintro e w1 ⟨rfl, b_⟩; have B1 := hideP (bstep B.out b_); clear b_))
    go_ret
    exact ⟨by rw [hr.out]; rfl, B1.out⟩
theorem sum_zero {a b : Nat} (h : a ≤ 1000000 ∧ b ≤ 1000000) (ha : a = 0) (hb : b = 0) : (wrap64 ((a : Int) + (b : Int)) == 0) = true := by
  rw [IntWalk.wrap64_in _ (by omega)]; simp; omega
theorem sum_some {a b : Nat} (h : a ≤ 1000000 ∧ b ≤ 1000000) (hab : ¬ a = 0 ∨ ¬ b = 0) : (wrap64 ((a : Int) + (b : Int)) == 0) = false := by
  rw [IntWalk.wrap64_in _ (by omega)]; simp; omega
set_option maxRecDepth 100000 in
set_option maxHeartbeats 2000000 in
theorem rnkidright_any (k : KidD) (p : KidP) (d : Int) (w : World) (hk : KidOk k) (hm : KidMem w w.heap.size k p) :
    Calls Try.prog 21 #[.agg (kidC k p).toArray, .int .i64 d] w fun e w' => e = .returned (.bool (kidR k d)) ∧ Below w.heap.size w w' := by
  have hT := hideP (fun W (hW : Below w.heap.size w W) => rnempty_any k p W hk (hm.after hW))
  have hBx := hideP (fun W (hW : Below w.heap.size w W) => rbright_any p.lA p.hA k.lo k.hi p.lc p.hc d W (hm.after hW).lo (hm.after hW).hi)
  have hs := hideP (size_k37 (hk.cells p))
  have hbl := hideP (And.intro hk.lo hk.hi)
  obtain ⟨E, hE⟩ : ∃ E, E = decide (k = kidZ) := ⟨_, rfl⟩
  have hR := hideP (show kidR k d = (E || (decide (1 ≤ k.size) && (decide (k.size ≤ 1048576) && (decide (0 ≤ k.live) && (decide (k.live ≤ k.size) && (if k.live = 0 then decide (k.lo.length = 0) && decide (k.hi.length = 0) else rightB k.lo k.hi d)))))) by rw [hE]; rfl)
  obtain ⟨v, hv⟩ : ∃ v, v = w.alloc (.cells (kidC k p).toArray 43) := ⟨_, rfl⟩
  obtain ⟨g, hg⟩ : ∃ g, g = w.heap.size := ⟨_, rfl⟩
  have X := hideP (show Row v g 43 (kidC k p) by rw [hv, hg]; exact Row.new w 43 (kidC k p))
  have B := hideP (show Below w.heap.size w v by rw [hv]; exact below_new _ _)
  have x0 := hideP (fun W (hW : Ext v W) => show W.cell? ⟨g, 32, none⟩ = some (.slice p.lA k.lo.length p.lc) from kid_at hk (Row.range (Row.ext X.out hW)) 0 rfl)
  have x1 := hideP (fun W (hW : Ext v W) => show W.cell? ⟨g, 33, none⟩ = some (.slice p.hA k.hi.length p.hc) from kid_at hk (Row.range (Row.ext X.out hW)) 1 rfl)
  have x2 := hideP (fun W (hW : Ext v W) => show W.cell? ⟨g, 34, none⟩ = some (.int .i64 k.live) from kid_at hk (Row.range (Row.ext X.out hW)) 2 rfl)
  have x3 := hideP (fun W (hW : Ext v W) => show W.cell? ⟨g, 35, none⟩ = some (.int .i64 k.size) from kid_at hk (Row.range (Row.ext X.out hW)) 3 rfl)
  obtain ⟨C, hC⟩ : ∃ C, C = kidC k p := ⟨_, rfl⟩
  obtain ⟨RB, hRB⟩ : ∃ C, C = rightB k.lo k.hi d := ⟨_, rfl⟩
  obtain ⟨live, q1⟩ : ∃ z, z = k.live := ⟨_, rfl⟩
  obtain ⟨sz, q2⟩ : ∃ z, z = k.size := ⟨_, rfl⟩
  obtain ⟨nl, q3⟩ : ∃ z, z = k.lo.length := ⟨_, rfl⟩
  obtain ⟨nh, q4⟩ : ∃ z, z = k.hi.length := ⟨_, rfl⟩
  obtain ⟨RS, q5⟩ : ∃ z, z = kidR k d := ⟨_, rfl⟩
  rw [← hC] at hv hT hs X ⊢
  rw [← hE] at hT
  rw [← hRB] at hBx hR
  rw [← q1, ← q2, ← q3, ← q4, ← q5] at hR
  rw [← q3, ← q4] at hBx
  rw [← q3, ← q4] at hbl
  rw [← q3] at x0; rw [← q4] at x1; rw [← q1] at x2; rw [← q2] at x3
  rw [← q5]
  have Hv := hideP hv
  clear hE hC hRB q1 q2 q3 q4 q5 hv hm hk
  go_enter Try.func21, Try.ntmps21
  go_upto_region 1 with fail
  rw [← Hv.out, ← hg]
  clear hg Hv
  rcases E with _ | _
  · go_upto_region 3 with (first
      | (refine wpList_load_row rfl 43 (.tmp 2) rfl g rfl 43 C.toArray (0, 0) _ X.out Try.underlying43 rfl hs.out ?_)
      | (go_at_call 25; refine (hT.out _ B.out).mono ?_; rintro e w1 ⟨rfl, b_⟩; have B1 := hideP (bstep B.out b_); have k0 := x0.out w1 (Ext.of_below b_); have k1 := x1.out w1 (Ext.of_below b_); have k2 := x2.out w1 (Ext.of_below b_); have k3 := x3.out w1 (Ext.of_below b_); clear b_))
    by_cases h1 : 1 ≤ sz
    case neg =>
      have e1 : decide (sz < 1) = true := by simp; omega
      have hr := hideP (show RS = false by rw [hR.out]; simp [h1])
      clear h1
      go_wp2_with fail
      go_ret
      exact ⟨by rw [hr.out]; rfl, B1.out⟩
    have e1 : decide (sz < 1) = false := by simp; omega
    by_cases h2 : sz ≤ 1048576
    case neg =>
      have e2 : decide (1048576 < sz) = true := by simp; omega
      have hr := hideP (show RS = false by rw [hR.out]; simp [h2])
      clear h1 h2
      go_wp2_with fail
      go_ret
      exact ⟨by rw [hr.out]; rfl, B1.out⟩
    have e2 : decide (1048576 < sz) = false := by simp; omega
    by_cases h3 : 0 ≤ live
    case neg =>
      have e3 : decide (live < 0) = true := by simp; omega
      have hr := hideP (show RS = false by rw [hR.out]; simp [h3])
      clear h1 h2 h3
      go_wp2_with fail
      go_ret
      exact ⟨by rw [hr.out]; rfl, B1.out⟩
    have e3 : decide (live < 0) = false := by simp; omega
    by_cases h4 : live ≤ sz
    case neg =>
      have e4 : decide (sz < live) = true := by simp; omega
      have hr := hideP (show RS = false by rw [hR.out]; simp [h4])
      clear h1 h2 h3 h4
      go_wp2_with fail
      go_ret
      exact ⟨by rw [hr.out]; rfl, B1.out⟩
    have e4 : decide (sz < live) = false := by simp; omega
    by_cases h5 : live = 0
    · have hr := hideP (show RS = (decide (nl = 0) && decide (nh = 0)) by rw [hR.out]; simp [h1, h2, h3, h4, h5]; (try (intros; omega)))
      have e5 : (live == 0) = true := by simp [h5]
      clear h1 h2 h3 h4 h5
      by_cases h6 : nl = 0
      · have e6 : ((nl : Int) == 0) = true := by simp [h6]
        by_cases h7 : nh = 0
        · have e7 : ((nh : Int) == 0) = true := by simp [h7]
          have hr2 := hideP (show RS = true by rw [hr.out]; simp [h6, h7])
          have hsm := sum_zero hbl.out h6 h7
          clear h6 h7
          go_wp2_with fail
          go_ret
          exact ⟨by rw [hr2.out]; rfl, B1.out⟩
        · have e7 : ((nh : Int) == 0) = false := by simp [h7]
          have hr2 := hideP (show RS = false by rw [hr.out]; simp [h7])
          have hsm := sum_some hbl.out (by omega)
          clear h6 h7
          go_wp2_with fail
          go_ret
          exact ⟨by rw [hr2.out]; rfl, B1.out⟩
      · have e6 : ((nl : Int) == 0) = false := by simp [h6]
        have hr2 := hideP (show RS = false by rw [hr.out]; simp [h6])
        have hsm := sum_some hbl.out (by omega)
        clear h6
        go_wp2_with fail
        go_ret
        exact ⟨by rw [hr2.out]; rfl, B1.out⟩
    · have hr := hideP (show RS = RB by rw [hR.out]; simp [h1, h2, h3, h4, h5])
      have e5 : (live == 0) = false := by simp [h5]
      clear h1 h2 h3 h4 h5
      go_wp2_with (go_at_call 59; refine (hBx.out w1 B1.out).mono ?_; rintro e w2 ⟨rfl, b_⟩; have B2 := hideP (bstep B1.out b_); clear b_)
      go_ret
      exact ⟨by rw [hr.out]; rfl, B2.out⟩
  · have hr := hideP (show RS = true by rw [hR.out]; rfl)
    go_wp2_with (first
      | (refine wpList_load_row rfl 43 (.tmp 2) rfl g rfl 43 C.toArray (0, 0) _ X.out Try.underlying43 rfl hs.out ?_)
      | (go_at_call 25; refine (hT.out _ B.out).mono ?_; rintro e w1 ⟨rfl, b_⟩; have B1 := hideP (bstep B.out b_); clear b_))
    go_ret
    exact ⟨by rw [hr.out]; rfl, B1.out⟩
end Go.Proofs.Ytgcbodpjidoanaa
