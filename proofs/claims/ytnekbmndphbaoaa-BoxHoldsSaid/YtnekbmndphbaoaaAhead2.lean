/- Which row is ahead of another one: contract of the document's Ahead. -/
import Derived.Test.YtnekbmndphbaoaaAhead
set_option linter.unusedVariables false
set_option linter.unusedSimpArgs false
namespace Go.Proofs.Ytnekbmndphbaoaa
open Go.RowKit
theorem zcase (D E h1 l1 h2 l2 : Nat) (x y : Int) (z s : Bool) (g1 : h1 = D / 18446744073709551616) (g2 : l1 = D % 18446744073709551616) (g3 : h2 = E / 18446744073709551616) (g4 : l2 = E % 18446744073709551616)
    (hz : z = aheadB D E x y) (hs : s = decide (D < E)) : (h1 = h2 ∧ l1 = l2 ∧ z = decide (x < y)) ∨ (h1 = h2 ∧ ¬ l1 = l2 ∧ z = s) ∨ (¬ h1 = h2 ∧ z = s) := by
  have hDE : D = E ↔ h1 = h2 ∧ l1 = l2 := by
    constructor
    · intro h; subst h; exact ⟨g1.trans g3.symm, g2.trans g4.symm⟩
    · rintro ⟨a, b⟩
      rw [g1, g3] at a
      rw [g2, g4] at b
      rw [← Nat.div_add_mod D 18446744073709551616, ← Nat.div_add_mod E 18446744073709551616, a, b]
  rw [hz, hs]
  unfold aheadB
  by_cases h : D = E
  · left
    obtain ⟨a, b⟩ := hDE.1 h
    refine ⟨a, b, ?_⟩
    simp [h]
  · right
    have : decide (D < E ∨ D = E ∧ x < y) = decide (D < E) := by simp [h]
    rw [this]
    by_cases a : h1 = h2
    · left; exact ⟨a, fun b => h (hDE.2 ⟨a, b⟩), rfl⟩
    · right; exact ⟨a, rfl⟩

theorem rkey_any (K col : Int) (A : Option Addr) (at_ : List Int) (ca : Nat) (ha : IsI at_) (Q : Option Addr) (p : List Int) (c : Nat) (hp : IsI p) (hn : p.length ≤ 17592186043904) (hc : p.length ≤ c) :
    ∃ er : Bool, ((er = true ∧ ordB K col at_.length p.length = true) ∨ (er = false ∧ ordB K col at_.length p.length = false)) ∧ ∀ w, Arr w w.heap.size A at_.length (i64s at_) → Arr w w.heap.size Q p.length (i64s p) →
      Calls Try.prog 31 #[.agg #[.int .u8 K, .int .i64 col, .slice A at_.length ca], .slice Q p.length c] w fun e w' => e = .returned (.tuple #[dv (keyD K col at_ p), .bool er]) ∧ Below w.heap.size w w' := by
  by_cases h : ordB K col at_.length p.length = true
  · refine ⟨true, .inl ⟨rfl, h⟩, fun w hA hQ => ?_⟩
    have := rkey_in K col A Q at_ p ca c w hA hQ hp ha hc h
    unfold keyD
    rw [if_pos h]
    exact this
  · have h' : ordB K col at_.length p.length = false := by simpa using h
    refine ⟨false, .inr ⟨rfl, h'⟩, fun w hA hQ => ?_⟩
    have := rkey_no K col A Q at_ p ca c w hn h'
    unfold keyD
    rw [if_neg h]
    exact this
set_option maxRecDepth 100000 in
set_option maxHeartbeats 4000000 in
theorem raheadO_any (K col : Int) (A P Q : Option Addr) (at_ p q : List Int) (ca c d : Nat) (w : World) (hA : Arr w w.heap.size A at_.length (i64s at_)) (hP : Arr w w.heap.size P p.length (i64s p)) (hQ : Arr w w.heap.size Q q.length (i64s q))
    (ha : IsI at_) (hp : IsI p) (hq : IsI q) (hn : p.length ≤ 17592186043904) (hm : q.length ≤ 17592186043904) (hc : p.length ≤ c) (hd : q.length ≤ d) :
    Calls Try.prog 35 #[.agg #[.int .u8 K, .int .i64 col, .slice A at_.length ca], .slice P p.length c, .slice Q q.length d] w fun e w' => e = .returned (.bool (aheadO K col at_ p q)) ∧ Below w.heap.size w w' := by
  obtain ⟨e1, hE1, t1⟩ := rkey_any K col A at_ ca ha P p c hp hn hc
  obtain ⟨e2, hE2, t2⟩ := rkey_any K col A at_ ca ha Q q d hq hm hd
  have t3 := fun W => rless_any (keyD K col at_ p) (keyD K col at_ q) W (keyD_lt K col at_ p hp ha) (keyD_lt K col at_ q hq ha)
  obtain ⟨D, hD⟩ : ∃ D, D = keyD K col at_ p := ⟨_, rfl⟩
  obtain ⟨E, hE⟩ : ∃ D, D = keyD K col at_ q := ⟨_, rfl⟩
  obtain ⟨z, hz⟩ : ∃ z, z = aheadB D E (p.getD 0 0) (q.getD 0 0) := ⟨_, rfl⟩
  obtain ⟨r, hr⟩ : ∃ r, r = aheadO K col at_ p q := ⟨_, rfl⟩
  rw [← hr]
  have hcase : (e1 = false ∧ r = false) ∨ (e1 = true ∧ e2 = false ∧ r = false) ∨ (e1 = true ∧ e2 = true ∧ p.length ≠ q.length ∧ r = false) ∨ (e1 = true ∧ e2 = true ∧ p.length = q.length ∧ 1 ≤ p.length ∧ r = z) := by
    rw [hr, hz, hD, hE]
    unfold aheadO keyD
    rcases hE1 with ⟨h1, h2⟩ | ⟨h1, h2⟩ <;> rcases hE2 with ⟨h3, h4⟩ | ⟨h3, h4⟩
    · by_cases hl : p.length = q.length
      · right; right; right
        exact ⟨h1, h3, hl, ordB_len h2, by rw [if_pos h2, if_pos h4, h2, h4]; simp [hl]⟩
      · right; right; left
        exact ⟨h1, h3, hl, by simp [hl]⟩
    · right; left; exact ⟨h1, h3, by simp [h4]⟩
    · left; exact ⟨h1, by simp [h2]⟩
    · left; exact ⟨h1, by simp [h2]⟩
  rw [← hD, ← hE] at t3
  rw [← hD] at t1
  rw [← hE] at t2
  unfold dv dvp at t1 t2 t3
  obtain ⟨h1, g1⟩ : ∃ h, h = D / 18446744073709551616 := ⟨_, rfl⟩
  obtain ⟨l1, g2⟩ : ∃ l, l = D % 18446744073709551616 := ⟨_, rfl⟩
  obtain ⟨h2, g3⟩ : ∃ h, h = E / 18446744073709551616 := ⟨_, rfl⟩
  obtain ⟨l2, g4⟩ : ∃ l, l = E % 18446744073709551616 := ⟨_, rfl⟩
  rw [← g1, ← g2] at t1 t3
  rw [← g3, ← g4] at t2 t3
  obtain ⟨m, hm'⟩ : ∃ m, m = at_.length := ⟨_, rfl⟩
  rw [← hm'] at t1 t2 hA ⊢
  obtain ⟨x, hx⟩ : ∃ x, x = p.getD 0 0 := ⟨_, rfl⟩
  obtain ⟨y, hy⟩ : ∃ x, x = q.getD 0 0 := ⟨_, rfl⟩
  rw [← hx, ← hy] at hz
  obtain ⟨s, hs⟩ : ∃ s, s = decide (D < E) := ⟨_, rfl⟩
  rw [← hs] at t3
  have hzc : (h1 = h2 ∧ l1 = l2 ∧ z = decide (x < y)) ∨ (h1 = h2 ∧ ¬ l1 = l2 ∧ z = s) ∨ (¬ h1 = h2 ∧ z = s) := zcase D E h1 l1 h2 l2 x y z s g1 g2 g3 g4 hz hs
  obtain ⟨np, hnp⟩ : ∃ n, n = p.length := ⟨_, rfl⟩
  obtain ⟨nq, hnq⟩ : ∃ n, n = q.length := ⟨_, rfl⟩
  rw [← hnp] at hcase t1 hP ⊢
  rw [← hnq] at hcase t2 hQ ⊢
  clear hr hz hs hD hE g1 g2 g3 g4 hE1 hE2 hm' hn hm hc hd ha hp hq hnp hnq
  have Ht1 := hideP t1; have Ht2 := hideP t2; have Ht3 := hideP t3; have HhA := hideP hA; have HhP := hideP hP; have HhQ := hideP hQ; have Hhx := hideP hx; have Hhy := hideP hy; clear t1 t2 t3 hA hP hQ hx hy
  rcases hcase with ⟨rfl, rfl⟩ | ⟨rfl, rfl, rfl⟩ | ⟨rfl, rfl, hne, rfl⟩ | ⟨rfl, rfl, heq, hpos, rfl⟩
  case' inr.inr.inl => have tl : ((np : Int) != nq) = true := by simp; omega
  case' inr.inr.inl => clear hne
  case' inr.inr.inr =>
    obtain rfl := heq
    have j0 : (0 : Int) < np := by omega
    have jn : 0 < np := by omega
    obtain ⟨b, off, rfl, hb, hcl⟩ := HhP.out (by omega)
    obtain ⟨b', off', rfl, hb', hcl'⟩ := HhQ.out (by omega)
    have u1 := hcl 0 (by omega)
    have u2 := hcl' 0 (by omega)
    rw [Nat.add_zero] at u1 u2
    unfold i64s at u1 u2
    rw [← Hhx.out] at u1
    rw [← Hhy.out] at u2
    have Hu1 := hideP u1; have Hu2 := hideP u2; have Hhb := hideP hb; have Hhb' := hideP hb'; clear u1 u2 hb hb'
    clear hcl hcl' hpos
  all_goals
    go_enter Try.func35, Try.ntmps35
    go_wp2_with fail
    obtain ⟨w1, hw1⟩ : ∃ w1, w1 = w.alloc (Obj.cells #[.int .u8 K, .int .i64 col, .slice A m ca] 50) := ⟨_, rfl⟩
    have c1 := hideP (show Three w1 w.heap.size 50 (.int .u8 K) (.int .i64 col) (.slice A m ca) by rw [hw1]; exact Three.new _ _ _ _ _)
    have cb := hideP (show Below w.heap.size w w1 by rw [hw1]; exact below_new _ _)
    rw [← hw1]
    clear hw1
    refine (Ht1.out w1 (HhA.out.after cb.out) (HhP.out.after cb.out)).mono ?_
    rintro e w2 ⟨rfl, hb_⟩
    replace c1 := hideP (c1.out.after hb_)
    replace cb := hideP (bstep cb.out hb_)
    clear hb_
    have q0 := (c1.out.alloc (Obj.cells #[.int .u64 h1, .int .u64 l1] 29)).c0
    have q1 := (c1.out.alloc (Obj.cells #[.int .u64 h1, .int .u64 l1] 29)).c1
    have q2 := (c1.out.alloc (Obj.cells #[.int .u64 h1, .int .u64 l1] 29)).c2
    go_wp2_with fail
    clear q0 q1 q2
    obtain ⟨v2, hv_⟩ : ∃ v, v = w2.alloc (Obj.cells #[.int .u64 h1, .int .u64 l1] 29) := ⟨_, rfl⟩
    obtain ⟨g2, hg_⟩ : ∃ g, g = w2.heap.size := ⟨_, rfl⟩
    have hb_ : Below w2.heap.size w2 v2 := by rw [hv_]; exact below_new _ _
    have x2 := hideP (show Two v2 g2 29 (.int .u64 h1) (.int .u64 l1) by rw [hv_, hg_]; exact Two.new _ _ _ _)
    have Gx2 := hideP (show w2.heap.size ≤ g2 from Nat.le_of_eq hg_.symm)
    replace c1 := hideP (c1.out.after hb_)
    replace cb := hideP (bstep cb.out hb_)
    rw [← hv_, ← hg_]
    clear hv_ hg_ hb_
    refine (Ht2.out v2 (HhA.out.after cb.out) (HhQ.out.after cb.out)).mono ?_
    rintro e w3 ⟨rfl, hb_⟩
    replace x2 := hideP (x2.out.after hb_)
    replace cb := hideP (bstep cb.out hb_)
    clear hb_
  · have x2' := x2.out.alloc (Obj.cells #[.int .u64 h2, .int .u64 l2] 29)
    have x3' := Two.new w3 29 (.int .u64 h2) (.int .u64 l2)
    have kx20 := x2'.c0; have kx21 := x2'.c1; have kx30 := x3'.c0; have kx31 := x3'.c1
    have v1 : (w3.alloc (Obj.cells #[.int .u64 h2, .int .u64 l2] 29)).cell? ⟨b, off, none⟩ = some (.int .i64 x) := cell_below (cb.out.alloc cb.out.size _) Hhb.out Hu1.out
    have v2 : (w3.alloc (Obj.cells #[.int .u64 h2, .int .u64 l2] 29)).cell? ⟨b', off', none⟩ = some (.int .i64 y) := cell_below (cb.out.alloc cb.out.size _) Hhb'.out Hu2.out
    replace cb := hideP (cb.out.alloc cb.out.size (Obj.cells #[.int .u64 h2, .int .u64 l2] 29))
    clear x2' x3'
    rcases hzc with ⟨rfl, rfl, rfl⟩ | ⟨rfl, hne, rfl⟩ | ⟨hne, rfl⟩
    · go_wp2
      refine wp_region_eager 8 [(true, 0), (true, 1), (true, 2), (true, 3), (true, 4), (true, 5), (true, 6), (true, 7)] (by kernel_rfl) (by kernel_rfl) ?_
      simp only [pick, List.map_cons, List.map_nil, nthO_zero, nthO_succ]
      repeat (first
        | (refine wpPlan_skipK (by rfl) (fun K hK => ?_); go_simp; refine hK _ ?_; clear hK K)
        | (refine wpPlan_valK (by rfl) (fun K hK => ?_); apply Exists.intro; refine ⟨fun W hW => ?_, ?_⟩; (focus (have hs0 := hW.cell v1; have hs1 := hW.cell v2; go_simp; (try rfl); done)); go_simp; refine hK _ ?_; clear hK K))
      refine wpPlan_nil (fun w4 hW0 => ?_)
      simp only [List.drop_succ_cons, List.drop_zero, List.drop_nil]
      replace cb := hideP (below_ext cb.out hW0.drew_left)
      clear hW0
      go_wp2
      go_ret
      exact ⟨rfl, cb.out⟩
    all_goals
      go_wp2_with fail
      refine (Ht3.out _).mono ?_
      rintro e w4 ⟨rfl, hb_⟩
      replace cb := hideP (bstep cb.out hb_)
      clear hb_
      clear kx20 kx21 kx30 kx31 v1 v2
      go_wp2
      go_ret
      exact ⟨rfl, cb.out⟩
  all_goals
    go_wp2
    go_ret
    exact ⟨rfl, cb.out.alloc cb.out.size _⟩
end Go.Proofs.Ytnekbmndphbaoaa
