/- Which row is ahead of another one: contracts of box.Ahead and of the document's Ahead. -/
import Derived.Test.YtnekbmndphbaoaaKey3
set_option linter.unusedVariables false
set_option linter.unusedSimpArgs false
namespace Go.Proofs.Ytnekbmndphbaoaa
open Go.RowKit
/-- is row p ahead of row q? -/
def aheadO (K col : Int) (at_ p q : List Int) : Bool :=
  ordB K col at_.length p.length && ordB K col at_.length q.length && decide (p.length = q.length) && aheadB (keyN K col at_ p) (keyN K col at_ q) (p.getD 0 0) (q.getD 0 0)
/-- a row's key, 0 if there is none -/
def keyD (K col : Int) (at_ p : List Int) : Nat := if ordB K col at_.length p.length = true then keyN K col at_ p else 0
theorem keyD_lt (K col : Int) (at_ p : List Int) (hp : IsI p) (ha : IsI at_) : keyD K col at_ p < 340282366920938463463374607431768211456 := by
  unfold keyD
  split
  · rename_i h
    have := (ordB_of h).2.1
    exact Nat.lt_trans (keyN_lt K col at_ p hp ha (by omega)) (by decide)
  · decide
theorem ordB_len {K col : Int} {m n : Nat} (h : ordB K col m n = true) : 1 ≤ n := by have := (ordB_of h).1; omega

theorem key_any (K col : Int) (A : Option Addr) (at_ : List Int) (ca : Nat) (ha : IsI at_) (Q : Option Addr) (p : List Int) (c : Nat) (hp : IsI p) (hn : p.length ≤ 17592186043904) (hc : p.length ≤ c) :
    ∃ er : Int, ((er = 0 ∧ ordB K col at_.length p.length = true) ∨ (er = 1 ∧ ordB K col at_.length p.length = false)) ∧ ∀ w, Arr w w.heap.size A at_.length (i64s at_) → Arr w w.heap.size Q p.length (i64s p) →
      Calls Try.prog 30 #[.agg #[.int .u8 K, .int .i64 col, .slice A at_.length ca], .slice Q p.length c] w fun e w' => e = .returned (.tuple #[dv (keyD K col at_ p), .int .i64 er]) ∧ Below w.heap.size w w' := by
  by_cases h : ordB K col at_.length p.length = true
  · refine ⟨0, .inl ⟨rfl, h⟩, fun w hA hQ => ?_⟩
    have := key_in K col A Q at_ p ca c w hA hQ hp ha hc h
    unfold keyD
    rw [if_pos h]
    exact this
  · have h' : ordB K col at_.length p.length = false := by simpa using h
    refine ⟨1, .inr ⟨rfl, h'⟩, fun w hA hQ => ?_⟩
    have := key_no K col A Q at_ p ca c w hn h'
    unfold keyD
    rw [if_neg h]
    exact this
set_option maxRecDepth 100000 in
set_option maxHeartbeats 4000000 in
theorem aheadO_any (K col : Int) (A P Q : Option Addr) (at_ p q : List Int) (ca c d : Nat) (w : World) (hA : Arr w w.heap.size A at_.length (i64s at_)) (hP : Arr w w.heap.size P p.length (i64s p)) (hQ : Arr w w.heap.size Q q.length (i64s q))
    (ha : IsI at_) (hp : IsI p) (hq : IsI q) (hn : p.length ≤ 17592186043904) (hm : q.length ≤ 17592186043904) (hc : p.length ≤ c) (hd : q.length ≤ d) :
    Calls Try.prog 34 #[.agg #[.int .u8 K, .int .i64 col, .slice A at_.length ca], .slice P p.length c, .slice Q q.length d] w fun e w' => e = .returned (.bool (aheadO K col at_ p q)) ∧ Below w.heap.size w w' := by
  obtain ⟨e1, hE1, t1⟩ := key_any K col A at_ ca ha P p c hp hn hc
  obtain ⟨e2, hE2, t2⟩ := key_any K col A at_ ca ha Q q d hq hm hd
  have t3 := fun W => ahead_any (keyD K col at_ p) (keyD K col at_ q) (p.getD 0 0) (q.getD 0 0) W (keyD_lt K col at_ p hp ha) (keyD_lt K col at_ q hq ha)
  obtain ⟨z, hz⟩ : ∃ z, z = aheadB (keyD K col at_ p) (keyD K col at_ q) (p.getD 0 0) (q.getD 0 0) := ⟨_, rfl⟩
  rw [← hz] at t3
  obtain ⟨r, hr⟩ : ∃ r, r = aheadO K col at_ p q := ⟨_, rfl⟩
  rw [← hr]
  have hcase : (e1 = 1 ∧ r = false) ∨ (e1 = 0 ∧ e2 = 1 ∧ r = false) ∨ (e1 = 0 ∧ e2 = 0 ∧ p.length ≠ q.length ∧ r = false) ∨ (e1 = 0 ∧ e2 = 0 ∧ p.length = q.length ∧ 1 ≤ p.length ∧ r = z) := by
    rw [hr, hz]
    unfold aheadO keyD
    rcases hE1 with ⟨h1, h2⟩ | ⟨h1, h2⟩ <;> rcases hE2 with ⟨h3, h4⟩ | ⟨h3, h4⟩
    · by_cases hl : p.length = q.length
      · right; right; right
        exact ⟨h1, h3, hl, ordB_len h2, by rw [if_pos h2, if_pos h4, h2, h4]; simp [hl]⟩
      · right; right; left
        exact ⟨h1, h3, hl, by simp [hl]⟩
    · right; left; exact ⟨h1, h3, by simp [h4]⟩
    · left; exact ⟨h1, by simp [h2]⟩
    · left; exact ⟨h1, by simp [h2]⟩
  unfold dv dvp at t1 t2 t3
  obtain ⟨h1, g1⟩ : ∃ h, h = keyD K col at_ p / 18446744073709551616 := ⟨_, rfl⟩
  obtain ⟨l1, g2⟩ : ∃ l, l = keyD K col at_ p % 18446744073709551616 := ⟨_, rfl⟩
  obtain ⟨h2, g3⟩ : ∃ h, h = keyD K col at_ q / 18446744073709551616 := ⟨_, rfl⟩
  obtain ⟨l2, g4⟩ : ∃ l, l = keyD K col at_ q % 18446744073709551616 := ⟨_, rfl⟩
  rw [← g1, ← g2] at t1 t3
  rw [← g3, ← g4] at t2 t3
  obtain ⟨m, hm'⟩ : ∃ m, m = at_.length := ⟨_, rfl⟩
  rw [← hm'] at t1 t2 hA ⊢
  obtain ⟨x, hx⟩ : ∃ x, x = p.getD 0 0 := ⟨_, rfl⟩
  obtain ⟨y, hy⟩ : ∃ x, x = q.getD 0 0 := ⟨_, rfl⟩
  rw [← hx, ← hy] at t3
  obtain ⟨np, hnp⟩ : ∃ n, n = p.length := ⟨_, rfl⟩
  obtain ⟨nq, hnq⟩ : ∃ n, n = q.length := ⟨_, rfl⟩
  rw [← hnp] at hcase t1 hP ⊢
  rw [← hnq] at hcase t2 hQ ⊢
  clear hr hz g1 g2 g3 g4 hE1 hE2 hm' hn hm hc hd ha hp hq hnp hnq
  have Ht1 := hideP t1; have Ht2 := hideP t2; have Ht3 := hideP t3; have HhA := hideP hA; have HhP := hideP hP; have HhQ := hideP hQ; have Hhx := hideP hx; have Hhy := hideP hy; clear t1 t2 t3 hA hP hQ hx hy
  have pre : ∀ r : Bool, (∀ w1 : World, ∀ g2 g3 : Nat, Hid (Below w.heap.size w w1) → True) → True := fun _ _ => trivial
  clear pre
  rcases hcase with ⟨rfl, rfl⟩ | ⟨rfl, rfl, rfl⟩ | ⟨rfl, rfl, hne, rfl⟩ | ⟨rfl, rfl, heq, hpos, rfl⟩
  case' inr.inr.inl => have tl : ((np : Int) == nq) = false := by simp; omega
  case' inr.inr.inl => clear hne
  case' inr.inr.inr =>
    obtain rfl := heq
    have j0 : (0 : Int) < np := by omega
    have jn : 0 < np := by omega
    obtain ⟨b, off, rfl, hb, hcl⟩ := HhP.out (by omega)
    obtain ⟨b', off', rfl, hb', hcl'⟩ := HhQ.out (by omega)
    have u1 := hcl 0 (by omega)
    have u2 := hcl' 0 (by omega)
    rw [Nat.add_zero] at u1 u2
    unfold i64s at u1 u2
    rw [← Hhx.out] at u1
    rw [← Hhy.out] at u2
    have Hu1 := hideP u1; have Hu2 := hideP u2; have Hhb := hideP hb; have Hhb' := hideP hb'; clear u1 u2 hb hb'
    clear hcl hcl' hpos
  all_goals
    go_enter Try.func34, Try.ntmps34
    go_wp2_with fail
    obtain ⟨w1, hw1⟩ : ∃ w1, w1 = w.alloc (Obj.cells #[.int .u8 K, .int .i64 col, .slice A m ca] 50) := ⟨_, rfl⟩
    have c1 := hideP (show Three w1 w.heap.size 50 (.int .u8 K) (.int .i64 col) (.slice A m ca) by rw [hw1]; exact Three.new _ _ _ _ _)
    have cb := hideP (show Below w.heap.size w w1 by rw [hw1]; exact below_new _ _)
    rw [← hw1]
    clear hw1
    refine (Ht1.out w1 (HhA.out.after cb.out) (HhP.out.after cb.out)).mono ?_
    rintro e w2 ⟨rfl, hb_⟩
    replace c1 := hideP (c1.out.after hb_)
    replace cb := hideP (bstep cb.out hb_)
    clear hb_
    have q0 := (c1.out.alloc (Obj.cells #[.int .u64 h1, .int .u64 l1] 29)).c0
    have q1 := (c1.out.alloc (Obj.cells #[.int .u64 h1, .int .u64 l1] 29)).c1
    have q2 := (c1.out.alloc (Obj.cells #[.int .u64 h1, .int .u64 l1] 29)).c2
    go_wp2_with fail
    clear q0 q1 q2
    obtain ⟨v2, hv_⟩ : ∃ v, v = w2.alloc (Obj.cells #[.int .u64 h1, .int .u64 l1] 29) := ⟨_, rfl⟩
    obtain ⟨g2, hg_⟩ : ∃ g, g = w2.heap.size := ⟨_, rfl⟩
    have hb_ : Below w2.heap.size w2 v2 := by rw [hv_]; exact below_new _ _
    have x2 := hideP (show Two v2 g2 29 (.int .u64 h1) (.int .u64 l1) by rw [hv_, hg_]; exact Two.new _ _ _ _)
    have Gx2 := hideP (show w2.heap.size ≤ g2 from Nat.le_of_eq hg_.symm)
    replace c1 := hideP (c1.out.after hb_)
    replace cb := hideP (bstep cb.out hb_)
    rw [← hv_, ← hg_]
    clear hv_ hg_ hb_
    refine (Ht2.out v2 (HhA.out.after cb.out) (HhQ.out.after cb.out)).mono ?_
    rintro e w3 ⟨rfl, hb_⟩
    replace x2 := hideP (x2.out.after hb_)
    replace cb := hideP (bstep cb.out hb_)
    clear hb_
    go_wp2
    obtain ⟨v3, hv_⟩ : ∃ v, v = w3.alloc (Obj.cells #[.int .u64 h2, .int .u64 l2] 29) := ⟨_, rfl⟩
    obtain ⟨g3, hg_⟩ : ∃ g, g = w3.heap.size := ⟨_, rfl⟩
    have hb_ : Below w3.heap.size w3 v3 := by rw [hv_]; exact below_new _ _
    have x3 := hideP (show Two v3 g3 29 (.int .u64 h2) (.int .u64 l2) by rw [hv_, hg_]; exact Two.new _ _ _ _)
    have Gx3 := hideP (show w3.heap.size ≤ g3 from Nat.le_of_eq hg_.symm)
    replace x2 := hideP (x2.out.after hb_)
    replace cb := hideP (bstep cb.out hb_)
    rw [← hv_, ← hg_]
    clear hv_ hg_ hb_
    have kx20 := x2.out.c0; have kx21 := x2.out.c1
    have kx30 := x3.out.c0; have kx31 := x3.out.c1
  · have v1 := cell_below cb.out Hhb.out Hu1.out
    have v2 := cell_below cb.out Hhb'.out Hu2.out
    refine wp_region_eager 25 [(true, 0), (true, 1), (true, 2), (true, 3), (true, 4), (true, 5), (true, 6), (true, 7), (true, 8), (true, 9), (true, 10), (true, 11), (true, 12), (true, 13), (true, 14), (true, 15), (true, 16), (true, 17), (true, 18), (true, 19), (true, 20), (true, 21), (true, 22), (true, 23), (true, 24)] (by kernel_rfl) (by kernel_rfl) ?_
    simp only [pick, List.map_cons, List.map_nil, nthO_zero, nthO_succ]
    repeat (first
      | (refine wpPlan_skipK (by rfl) (fun K hK => ?_); go_simp; refine hK _ ?_; clear hK K)
      | (refine wpPlan_valK (by rfl) (fun K hK => ?_); apply Exists.intro; refine ⟨fun W hW => ?_, ?_⟩; (focus (have hs0 := hW.cell kx20; have hs1 := hW.cell kx21; have hs2 := hW.cell kx30; have hs3 := hW.cell kx31; have hs4 := hW.cell v1; have hs5 := hW.cell v2; go_simp; (try rfl); done)); go_simp; refine hK _ ?_; clear hK K)
      | (refine wpPlan_callK (.bool r) 59 #[.agg #[.int .u64 h1, .int .u64 l1], .int .i64 x, .agg #[.int .u64 h2, .int .u64 l2], .int .i64 y] (by rfl) ?_ (fun W hW => (Ht3.out W).mono fun e w' h => ⟨h.1, Ext.of_below h.2⟩) (fun K hK => ?_); (focus (intro W; go_simp; done)); go_simp; refine hK _ ?_; clear hK K))
    refine wpPlan_nil (fun w4 hW0 => ?_)
    simp only [List.drop_succ_cons, List.drop_zero, List.drop_nil]
    replace cb := hideP (below_ext cb.out hW0.drew_left)
    clear hW0
    go_wp2
    go_ret
    exact ⟨rfl, cb.out⟩
  all_goals
    refine wp_region_eager 25 [(true, 0), (true, 1), (true, 2), (true, 3), (true, 4), (true, 5), (true, 6), (true, 7), (true, 8), (true, 9), (true, 10), (true, 11), (true, 12), (true, 13), (true, 14), (true, 15), (true, 16), (true, 17), (true, 18), (true, 19), (true, 20), (true, 21), (true, 22), (true, 23), (true, 24)] (by kernel_rfl) (by kernel_rfl) ?_
    simp only [pick, List.map_cons, List.map_nil, nthO_zero, nthO_succ]
    repeat (first
      | (refine wpPlan_skipK (by rfl) (fun K hK => ?_); go_simp; refine hK _ ?_; clear hK K)
      | (refine wpPlan_valK (by rfl) (fun K hK => ?_); apply Exists.intro; refine ⟨fun W hW => ?_, ?_⟩; (focus (have hs0 := hW.cell kx20; have hs1 := hW.cell kx21; have hs2 := hW.cell kx30; have hs3 := hW.cell kx31; go_simp; (try rfl); done)); go_simp; refine hK _ ?_; clear hK K))
    refine wpPlan_nil (fun w4 hW0 => ?_)
    simp only [List.drop_succ_cons, List.drop_zero, List.drop_nil]
    replace cb := hideP (below_ext cb.out hW0.drew_left)
    clear hW0
    go_wp2
    go_ret
    exact ⟨rfl, cb.out⟩
end Go.Proofs.Ytnekbmndphbaoaa
