/- Contracts of node.Same, Empty, KidRight and of the reference's. Contracts of the document's package for chapter 4: Right, Has. -/
import Derived.Test.YtgcbodpjidoanaaQ4
import Derived.Test.YtgcbodpjidoanaaQ24
set_option linter.unusedVariables false
set_option linter.unusedSimpArgs false
namespace Go.Proofs.Ytgcbodpjidoanaa
open Go.RowKit
theorem kid_eq (k k' : KidD) : decide (k = k') = (decide (k.sum = k'.sum) && (decide (k.live = k'.live) && (decide (k.size = k'.size) && (decide (k.lo = k'.lo ∧ k.hi = k'.hi) && decide (k.key = k'.key))))) := by
  rw [Bool.eq_iff_iff]
  simp only [decide_eq_true_eq, Bool.and_eq_true]
  constructor
  · rintro rfl; simp
  · rintro ⟨h1, h2, h3, ⟨h4, h5⟩, h6⟩
    cases k; cases k'; simp_all
set_option maxRecDepth 100000 in
set_option maxHeartbeats 2000000 in
theorem nsame_any (k k' : KidD) (p p' : KidP) (w : World) (hk : KidOk k) (hk' : KidOk k') (hm : KidMem w w.heap.size k p) (hm' : KidMem w w.heap.size k' p') :
    Calls Try.prog 22 #[.agg (kidC k p).toArray, .agg (kidC k' p').toArray] w fun e w' => e = .returned (.bool (decide (k = k'))) ∧ Below w.heap.size w w' := by
  have t1 := fun W (hW : Below w.heap.size w W) => bsame_any p.lA p.hA p'.lA p'.hA k.lo k.hi k'.lo k'.hi p.lc p.hc p'.lc p'.hc W (hm.after hW).lo (hm.after hW).hi (hm'.after hW).lo (hm'.after hW).hi (Nat.le_trans hk.lo (by decide)) (Nat.le_trans hk.hi (by decide))
  have t2 := fun W (hW : Below w.heap.size w W) => isequal_any p.kA p'.kA k.key k'.key p.kc p'.kc W (hm.after hW).key (hm'.after hW).key (Nat.le_trans hk.key (by decide))
  have hE := fun W => run_eql_dge k.sum k'.sum hk.s hk'.s hk.sB hk'.sB W
  have hres := hideP (kid_eq k k')
  obtain ⟨b1, e1⟩ : ∃ b, b = decide (k.sum = k'.sum) := ⟨_, rfl⟩
  obtain ⟨b2, e2⟩ : ∃ b, b = decide (k.live = k'.live) := ⟨_, rfl⟩
  obtain ⟨b3, e3⟩ : ∃ b, b = decide (k.size = k'.size) := ⟨_, rfl⟩
  obtain ⟨b4, e4⟩ : ∃ b, b = decide (k.lo = k'.lo ∧ k.hi = k'.hi) := ⟨_, rfl⟩
  obtain ⟨b5, e5⟩ : ∃ b, b = decide (k.key = k'.key) := ⟨_, rfl⟩
  have f2 : (k.live == k'.live) = b2 := by rw [e2, Bool.eq_iff_iff]; simp
  have f3 : (k.size == k'.size) = b3 := by rw [e3, Bool.eq_iff_iff]; simp
  rw [← e4] at t1
  rw [← e5] at t2
  rw [← e1] at hE
  rw [← e1, ← e2, ← e3, ← e4, ← e5] at hres
  obtain ⟨v, hv⟩ : ∃ v, v = (w.alloc (.cells (kidC k p).toArray 43)).alloc (.cells (kidC k' p').toArray 43) := ⟨_, rfl⟩
  obtain ⟨g, hg⟩ : ∃ g, g = w.heap.size := ⟨_, rfl⟩
  obtain ⟨g', hg'⟩ : ∃ g', g' = w.heap.size + 1 := ⟨_, rfl⟩
  have X := hideP (show Row v g 43 (kidC k p) by rw [hv, hg]; exact (Row.new w 43 (kidC k p)).alloc _)
  have Y := hideP (show Row v g' 43 (kidC k' p') by rw [hv]; exact Row.new' _ _ _ _ (by simp [hg']))
  have B := hideP (show Below w.heap.size w v by rw [hv]; exact (below_new _ _).alloc (by simp) _)
  have XS := hideP (kid_sum hk (Row.range X.out))
  have YS := hideP (kid_sum hk' (Row.range Y.out))
  have x0 : v.cell? ⟨g, 32, none⟩ = some (.slice p.lA k.lo.length p.lc) := kid_at hk (Row.range X.out) 0 rfl
  have x1 : v.cell? ⟨g, 33, none⟩ = some (.slice p.hA k.hi.length p.hc) := kid_at hk (Row.range X.out) 1 rfl
  have y0 : v.cell? ⟨g', 32, none⟩ = some (.slice p'.lA k'.lo.length p'.lc) := kid_at hk' (Row.range Y.out) 0 rfl
  have y1 : v.cell? ⟨g', 33, none⟩ = some (.slice p'.hA k'.hi.length p'.hc) := kid_at hk' (Row.range Y.out) 1 rfl
  have x2 : v.cell? ⟨g, 34, none⟩ = some (.int .i64 k.live) := kid_at hk (Row.range X.out) 2 rfl
  have x3 : v.cell? ⟨g, 35, none⟩ = some (.int .i64 k.size) := kid_at hk (Row.range X.out) 3 rfl
  have y2 : v.cell? ⟨g', 34, none⟩ = some (.int .i64 k'.live) := kid_at hk' (Row.range Y.out) 2 rfl
  have y3 : v.cell? ⟨g', 35, none⟩ = some (.int .i64 k'.size) := kid_at hk' (Row.range Y.out) 3 rfl
  have x4 := hideP (fun W (hW : Ext v W) => show W.cell? ⟨g, 36, none⟩ = some (.slice p.kA k.key.length p.kc) from kid_at hk (Row.range (Row.ext X.out hW)) 4 rfl)
  have y4 := hideP (fun W (hW : Ext v W) => show W.cell? ⟨g', 36, none⟩ = some (.slice p'.kA k'.key.length p'.kc) from kid_at hk' (Row.range (Row.ext Y.out hW)) 4 rfl)
  have ls := hideP (size_d32 hk.s)
  have ls' := hideP (size_d32 hk'.s)
  obtain ⟨live, q1⟩ : ∃ z, z = k.live := ⟨_, rfl⟩
  obtain ⟨live', q2⟩ : ∃ z, z = k'.live := ⟨_, rfl⟩
  obtain ⟨sz, q3⟩ : ∃ z, z = k.size := ⟨_, rfl⟩
  obtain ⟨sz', q4⟩ : ∃ z, z = k'.size := ⟨_, rfl⟩
  rw [← q1, ← q2] at f2
  rw [← q3, ← q4] at f3
  rw [← q1] at x2; rw [← q2] at y2; rw [← q3] at x3; rw [← q4] at y3
  obtain ⟨C, hC⟩ : ∃ C, C = kidC k p := ⟨_, rfl⟩
  obtain ⟨C', hC'⟩ : ∃ C, C = kidC k' p' := ⟨_, rfl⟩
  obtain ⟨S, hS⟩ : ∃ C, C = k.sum := ⟨_, rfl⟩
  obtain ⟨S', hS'⟩ : ∃ C, C = k'.sum := ⟨_, rfl⟩
  rw [← hC] at hv ⊢
  rw [← hC'] at hv ⊢
  rw [← hS] at XS ls hE
  rw [← hS'] at YS ls' hE
  have Hv := hideP hv
  have HE := hideP hE
  have Ht1 := hideP t1; have Ht2 := hideP t2; have Hf2 := hideP f2; have Hf3 := hideP f3; have Hx0 := hideP x0; have Hx1 := hideP x1; have Hy0 := hideP y0; have Hy1 := hideP y1; have Hx2 := hideP x2; have Hx3 := hideP x3; have Hy2 := hideP y2; have Hy3 := hideP y3; clear t1 t2 f2 f3 x0 x1 y0 y1 x2 x3 y2 y3
  clear e1 e2 e3 e4 e5 q1 q2 q3 q4 hC hC' hS hS' hv hE hm hm' X Y
  obtain ⟨lA, lc, hA, hc, kA, kc⟩ := p
  obtain ⟨lA', lc', hA', hc', kA', kc'⟩ := p'
  obtain ⟨nl, hnl⟩ : ∃ n, n = k.lo.length := ⟨_, rfl⟩
  obtain ⟨nh, hnh⟩ : ∃ n, n = k.hi.length := ⟨_, rfl⟩
  obtain ⟨nk, hnk⟩ : ∃ n, n = k.key.length := ⟨_, rfl⟩
  obtain ⟨nl', hnl'⟩ : ∃ n, n = k'.lo.length := ⟨_, rfl⟩
  obtain ⟨nh', hnh'⟩ : ∃ n, n = k'.hi.length := ⟨_, rfl⟩
  obtain ⟨nk', hnk'⟩ : ∃ n, n = k'.key.length := ⟨_, rfl⟩
  dsimp only at Ht1 Ht2 Hx0 Hx1 Hy0 Hy1 x4 y4
  rw [← hnl] at Hx0
  rw [← hnh] at Hx1
  rw [← hnl'] at Hy0
  rw [← hnh'] at Hy1
  rw [← hnl, ← hnh, ← hnl', ← hnh'] at Ht1
  rw [← hnk, ← hnk'] at Ht2
  rw [← hnk] at x4
  rw [← hnk'] at y4
  rw [hres.out]
  clear hnl hnh hnk hnl' hnh' hnk' hres hk hk'
  go_enter Try.func22, Try.ntmps22
  go_upto_region 1 with fail
  rw [← hg', ← hg]
  rw [← Hv.out]
  clear hg hg' Hv
  rcases b1 with _ | _
  · have he := HE.out
    go_wp2_with (first
      | (refine wpList_load_mid rfl 37 (.tmp 5) rfl g 0 rfl (S.map b8) _ XS.out Try.underlying37 rfl ls.out ?_)
      | (refine wpList_load_mid rfl 37 (.tmp 7) rfl g' 0 rfl (S'.map b8) _ YS.out Try.underlying37 rfl ls'.out ?_)
      | fail)
    go_ret
    exact ⟨rfl, B.out⟩
  · have he := HE.out
    have k2 := Hx2.out; have k3 := Hx3.out; have l2 := Hy2.out; have l3 := Hy3.out; have g2 := Hf2.out; have g3 := Hf3.out
    rcases b2 with _ | _
    · skip
      go_wp2_with (first
        | (refine wpList_load_mid rfl 37 (.tmp 5) rfl g 0 rfl (S.map b8) _ XS.out Try.underlying37 rfl ls.out ?_)
        | (refine wpList_load_mid rfl 37 (.tmp 7) rfl g' 0 rfl (S'.map b8) _ YS.out Try.underlying37 rfl ls'.out ?_)
        | fail)
      go_ret
      exact ⟨rfl, B.out⟩
    rcases b3 with _ | _
    · skip
      go_wp2_with (first
        | (refine wpList_load_mid rfl 37 (.tmp 5) rfl g 0 rfl (S.map b8) _ XS.out Try.underlying37 rfl ls.out ?_)
        | (refine wpList_load_mid rfl 37 (.tmp 7) rfl g' 0 rfl (S'.map b8) _ YS.out Try.underlying37 rfl ls'.out ?_)
        | fail)
      go_ret
      exact ⟨rfl, B.out⟩
    have k0 := Hx0.out; have k1 := Hx1.out; have l0 := Hy0.out; have l1 := Hy1.out
    rcases b4 with _ | _
    · go_wp2_with (first
        | (refine wpList_load_mid rfl 37 (.tmp 5) rfl g 0 rfl (S.map b8) _ XS.out Try.underlying37 rfl ls.out ?_)
        | (refine wpList_load_mid rfl 37 (.tmp 7) rfl g' 0 rfl (S'.map b8) _ YS.out Try.underlying37 rfl ls'.out ?_)
        | (go_at_call 103; refine (Ht1.out v B.out).mono ?_; rintro e w1 ⟨rfl, b_⟩; have B1 := hideP (bstep B.out b_); clear b_))
      go_ret
      exact ⟨rfl, B1.out⟩
    · go_wp2_with (first
        | (refine wpList_load_mid rfl 37 (.tmp 5) rfl g 0 rfl (S.map b8) _ XS.out Try.underlying37 rfl ls.out ?_)
        | (refine wpList_load_mid rfl 37 (.tmp 7) rfl g' 0 rfl (S'.map b8) _ YS.out Try.underlying37 rfl ls'.out ?_)
        | (go_at_call 103; refine (Ht1.out v B.out).mono ?_; rintro e w1 ⟨rfl, b_⟩; have B1 := hideP (bstep B.out b_); have m4 := x4.out w1 (Ext.of_below b_); have n4 := y4.out w1 (Ext.of_below b_); clear b_ k0 k1 l0 l1 k2 k3 l2 l3)
        | (go_at_call 104; refine (Ht2.out w1 B1.out).mono ?_; rintro e w2 ⟨rfl, b_⟩; have B2 := hideP (bstep B1.out b_); clear b_ m4 n4))
      go_ret
      exact ⟨rfl, B2.out⟩
set_option maxRecDepth 100000 in
set_option maxHeartbeats 2000000 in
theorem rnsame_any (k k' : KidD) (p p' : KidP) (w : World) (hk : KidOk k) (hk' : KidOk k') (hm : KidMem w w.heap.size k p) (hm' : KidMem w w.heap.size k' p') :
    Calls Try.prog 23 #[.agg (kidC k p).toArray, .agg (kidC k' p').toArray] w fun e w' => e = .returned (.bool (decide (k = k'))) ∧ Below w.heap.size w w' := by
  have t1 := fun W (hW : Below w.heap.size w W) => same_any p.lA p.hA p'.lA p'.hA k.lo k.hi k'.lo k'.hi p.lc p.hc p'.lc p'.hc W (hm.after hW).lo (hm.after hW).hi (hm'.after hW).lo (hm'.after hW).hi (Nat.le_trans hk.lo (by decide)) (Nat.le_trans hk.hi (by decide))
  have t2 := fun W (hW : Below w.heap.size w W) => sameRow_any p.kA p'.kA k.key k'.key p.kc p'.kc W (hm.after hW).key (hm'.after hW).key (Nat.le_trans hk.key (by decide))
  have hE := fun W => run_eql_dge k.sum k'.sum hk.s hk'.s hk.sB hk'.sB W
  have hres := hideP (kid_eq k k')
  obtain ⟨b1, e1⟩ : ∃ b, b = decide (k.sum = k'.sum) := ⟨_, rfl⟩
  obtain ⟨b2, e2⟩ : ∃ b, b = decide (k.live = k'.live) := ⟨_, rfl⟩
  obtain ⟨b3, e3⟩ : ∃ b, b = decide (k.size = k'.size) := ⟨_, rfl⟩
  obtain ⟨b4, e4⟩ : ∃ b, b = decide (k.lo = k'.lo ∧ k.hi = k'.hi) := ⟨_, rfl⟩
  obtain ⟨b5, e5⟩ : ∃ b, b = decide (k.key = k'.key) := ⟨_, rfl⟩
  have f2 : (k.live == k'.live) = b2 := by rw [e2, Bool.eq_iff_iff]; simp
  have f3 : (k.size == k'.size) = b3 := by rw [e3, Bool.eq_iff_iff]; simp
  rw [← e4] at t1
  rw [← e5] at t2
  rw [← e1] at hE
  rw [← e1, ← e2, ← e3, ← e4, ← e5] at hres
  obtain ⟨v, hv⟩ : ∃ v, v = (w.alloc (.cells (kidC k p).toArray 43)).alloc (.cells (kidC k' p').toArray 43) := ⟨_, rfl⟩
  obtain ⟨g, hg⟩ : ∃ g, g = w.heap.size := ⟨_, rfl⟩
  obtain ⟨g', hg'⟩ : ∃ g', g' = w.heap.size + 1 := ⟨_, rfl⟩
  have X := hideP (show Row v g 43 (kidC k p) by rw [hv, hg]; exact (Row.new w 43 (kidC k p)).alloc _)
  have Y := hideP (show Row v g' 43 (kidC k' p') by rw [hv]; exact Row.new' _ _ _ _ (by simp [hg']))
  have B := hideP (show Below w.heap.size w v by rw [hv]; exact (below_new _ _).alloc (by simp) _)
  have XS := hideP (kid_sum hk (Row.range X.out))
  have YS := hideP (kid_sum hk' (Row.range Y.out))
  have x0 : v.cell? ⟨g, 32, none⟩ = some (.slice p.lA k.lo.length p.lc) := kid_at hk (Row.range X.out) 0 rfl
  have x1 : v.cell? ⟨g, 33, none⟩ = some (.slice p.hA k.hi.length p.hc) := kid_at hk (Row.range X.out) 1 rfl
  have y0 : v.cell? ⟨g', 32, none⟩ = some (.slice p'.lA k'.lo.length p'.lc) := kid_at hk' (Row.range Y.out) 0 rfl
  have y1 : v.cell? ⟨g', 33, none⟩ = some (.slice p'.hA k'.hi.length p'.hc) := kid_at hk' (Row.range Y.out) 1 rfl
  have x2 : v.cell? ⟨g, 34, none⟩ = some (.int .i64 k.live) := kid_at hk (Row.range X.out) 2 rfl
  have x3 : v.cell? ⟨g, 35, none⟩ = some (.int .i64 k.size) := kid_at hk (Row.range X.out) 3 rfl
  have y2 : v.cell? ⟨g', 34, none⟩ = some (.int .i64 k'.live) := kid_at hk' (Row.range Y.out) 2 rfl
  have y3 : v.cell? ⟨g', 35, none⟩ = some (.int .i64 k'.size) := kid_at hk' (Row.range Y.out) 3 rfl
  have x4 := hideP (fun W (hW : Ext v W) => show W.cell? ⟨g, 36, none⟩ = some (.slice p.kA k.key.length p.kc) from kid_at hk (Row.range (Row.ext X.out hW)) 4 rfl)
  have y4 := hideP (fun W (hW : Ext v W) => show W.cell? ⟨g', 36, none⟩ = some (.slice p'.kA k'.key.length p'.kc) from kid_at hk' (Row.range (Row.ext Y.out hW)) 4 rfl)
  have ls := hideP (size_d32 hk.s)
  have ls' := hideP (size_d32 hk'.s)
  obtain ⟨live, q1⟩ : ∃ z, z = k.live := ⟨_, rfl⟩
  obtain ⟨live', q2⟩ : ∃ z, z = k'.live := ⟨_, rfl⟩
  obtain ⟨sz, q3⟩ : ∃ z, z = k.size := ⟨_, rfl⟩
  obtain ⟨sz', q4⟩ : ∃ z, z = k'.size := ⟨_, rfl⟩
  rw [← q1, ← q2] at f2
  rw [← q3, ← q4] at f3
  rw [← q1] at x2; rw [← q2] at y2; rw [← q3] at x3; rw [← q4] at y3
  obtain ⟨C, hC⟩ : ∃ C, C = kidC k p := ⟨_, rfl⟩
  obtain ⟨C', hC'⟩ : ∃ C, C = kidC k' p' := ⟨_, rfl⟩
  obtain ⟨S, hS⟩ : ∃ C, C = k.sum := ⟨_, rfl⟩
  obtain ⟨S', hS'⟩ : ∃ C, C = k'.sum := ⟨_, rfl⟩
  rw [← hC] at hv ⊢
  rw [← hC'] at hv ⊢
  rw [← hS] at XS ls hE
  rw [← hS'] at YS ls' hE
  have Hv := hideP hv
  have HE := hideP hE
  have Ht1 := hideP t1; have Ht2 := hideP t2; have Hf2 := hideP f2; have Hf3 := hideP f3; have Hx0 := hideP x0; have Hx1 := hideP x1; have Hy0 := hideP y0; have Hy1 := hideP y1; have Hx2 := hideP x2; have Hx3 := hideP x3; have Hy2 := hideP y2; have Hy3 := hideP y3; clear t1 t2 f2 f3 x0 x1 y0 y1 x2 x3 y2 y3
  clear e1 e2 e3 e4 e5 q1 q2 q3 q4 hC hC' hS hS' hv hE hm hm' X Y
  obtain ⟨lA, lc, hA, hc, kA, kc⟩ := p
  obtain ⟨lA', lc', hA', hc', kA', kc'⟩ := p'
  obtain ⟨nl, hnl⟩ : ∃ n, n = k.lo.length := ⟨_, rfl⟩
  obtain ⟨nh, hnh⟩ : ∃ n, n = k.hi.length := ⟨_, rfl⟩
  obtain ⟨nk, hnk⟩ : ∃ n, n = k.key.length := ⟨_, rfl⟩
  obtain ⟨nl', hnl'⟩ : ∃ n, n = k'.lo.length := ⟨_, rfl⟩
  obtain ⟨nh', hnh'⟩ : ∃ n, n = k'.hi.length := ⟨_, rfl⟩
  obtain ⟨nk', hnk'⟩ : ∃ n, n = k'.key.length := ⟨_, rfl⟩
  dsimp only at Ht1 Ht2 Hx0 Hx1 Hy0 Hy1 x4 y4
  rw [← hnl] at Hx0
  rw [← hnh] at Hx1
  rw [← hnl'] at Hy0
  rw [← hnh'] at Hy1
  rw [← hnl, ← hnh, ← hnl', ← hnh'] at Ht1
  rw [← hnk, ← hnk'] at Ht2
  rw [← hnk] at x4
  rw [← hnk'] at y4
  rw [hres.out]
  clear hnl hnh hnk hnl' hnh' hnk' hres hk hk'
  go_enter Try.func23, Try.ntmps23
  go_upto_region 1 with fail
  rw [← hg', ← hg]
  rw [← Hv.out]
  clear hg hg' Hv
  rcases b1 with _ | _
  · have he := HE.out
    go_wp2_with (first
      | (refine wpList_load_mid rfl 37 (.tmp 5) rfl g 0 rfl (S.map b8) _ XS.out Try.underlying37 rfl ls.out ?_)
      | (refine wpList_load_mid rfl 37 (.tmp 7) rfl g' 0 rfl (S'.map b8) _ YS.out Try.underlying37 rfl ls'.out ?_)
      | fail)
    go_ret
    exact ⟨rfl, B.out⟩
  · have he := HE.out
    have k2 := Hx2.out; have k3 := Hx3.out; have l2 := Hy2.out; have l3 := Hy3.out; have g2 := Hf2.out; have g3 := Hf3.out
    rcases b2 with _ | _
    · skip
      go_wp2_with (first
        | (refine wpList_load_mid rfl 37 (.tmp 5) rfl g 0 rfl (S.map b8) _ XS.out Try.underlying37 rfl ls.out ?_)
        | (refine wpList_load_mid rfl 37 (.tmp 7) rfl g' 0 rfl (S'.map b8) _ YS.out Try.underlying37 rfl ls'.out ?_)
        | fail)
      go_ret
      exact ⟨rfl, B.out⟩
    rcases b3 with _ | _
    · skip
      go_wp2_with (first
        | (refine wpList_load_mid rfl 37 (.tmp 5) rfl g 0 rfl (S.map b8) _ XS.out Try.underlying37 rfl ls.out ?_)
        | (refine wpList_load_mid rfl 37 (.tmp 7) rfl g' 0 rfl (S'.map b8) _ YS.out Try.underlying37 rfl ls'.out ?_)
        | fail)
      go_ret
      exact ⟨rfl, B.out⟩
    have k0 := Hx0.out; have k1 := Hx1.out; have l0 := Hy0.out; have l1 := Hy1.out
    rcases b4 with _ | _
    · go_wp2_with (first
        | (refine wpList_load_mid rfl 37 (.tmp 5) rfl g 0 rfl (S.map b8) _ XS.out Try.underlying37 rfl ls.out ?_)
        | (refine wpList_load_mid rfl 37 (.tmp 7) rfl g' 0 rfl (S'.map b8) _ YS.out Try.underlying37 rfl ls'.out ?_)
        | (go_at_call 83; refine (Ht1.out v B.out).mono ?_; rintro e w1 ⟨rfl, b_⟩; have B1 := hideP (bstep B.out b_); clear b_))
      go_ret
      exact ⟨rfl, B1.out⟩
    · go_wp2_with (first
        | (refine wpList_load_mid rfl 37 (.tmp 5) rfl g 0 rfl (S.map b8) _ XS.out Try.underlying37 rfl ls.out ?_)
        | (refine wpList_load_mid rfl 37 (.tmp 7) rfl g' 0 rfl (S'.map b8) _ YS.out Try.underlying37 rfl ls'.out ?_)
        | (go_at_call 83; refine (Ht1.out v B.out).mono ?_; rintro e w1 ⟨rfl, b_⟩; have B1 := hideP (bstep B.out b_); have m4 := x4.out w1 (Ext.of_below b_); have n4 := y4.out w1 (Ext.of_below b_); clear b_ k0 k1 l0 l1 k2 k3 l2 l3)
        | (go_at_call 84; refine (Ht2.out w1 B1.out).mono ?_; rintro e w2 ⟨rfl, b_⟩; have B2 := hideP (bstep B1.out b_); clear b_ m4 n4))
      go_ret
      exact ⟨rfl, B2.out⟩
end Go.Proofs.Ytgcbodpjidoanaa
namespace Go.Proofs.Ytgcbodpjidoanaa
open Go.RowKit

set_option maxRecDepth 100000 in
set_option maxHeartbeats 1000000 in
theorem rbright_any (L H : Option Addr) (lo hi : List Int) (dl sh : Nat) (d : Int) (w : World) (hL : Arr w w.heap.size L lo.length (i64s lo)) (hH : Arr w w.heap.size H hi.length (i64s hi)) :
    Calls Try.prog 59 #[.agg #[.slice L lo.length dl, .slice H hi.length sh], .int .i64 d] w fun e w' => e = .returned (.bool (rightB lo hi d)) ∧ Below w.heap.size w w' := by
  have HL := hideP hL; have HH := hideP hH
  clear hL hH
  by_cases h1 : 1 ≤ d
  case neg =>
    have hr := hideP (show rightB lo hi d = false by simp [rightB, h1])
    have t : decide (d < 1) = true := by simp; omega
    go_enter Try.func59, Try.ntmps59
    go_wp2
    go_ret
    exact ⟨by rw [hr.out]; rfl, below_new _ _⟩
  have t1 : decide (d < 1) = false := by simp; omega
  by_cases h2 : d ≤ 8
  case neg =>
    have hr := hideP (show rightB lo hi d = false by simp [rightB, h2])
    have t : decide (8 < d) = true := by simp; omega
    go_enter Try.func59, Try.ntmps59
    go_wp2
    go_ret
    exact ⟨by rw [hr.out]; rfl, below_new _ _⟩
  have t2 : decide (8 < d) = false := by simp; omega
  by_cases h3 : (lo.length : Int) = d
  case neg =>
    have hr := hideP (show rightB lo hi d = false by simp [rightB, h3])
    have t : ((lo.length : Int) != d) = true := by simp [h3]
    clear h3
    go_enter Try.func59, Try.ntmps59
    go_wp2
    go_ret
    exact ⟨by rw [hr.out]; rfl, below_new _ _⟩
  have t3 : ((lo.length : Int) != d) = false := by simp [h3]
  by_cases h4 : (hi.length : Int) = d
  case neg =>
    have hr := hideP (show rightB lo hi d = false by simp [rightB, h4])
    have t : ((hi.length : Int) != d) = true := by simp [h4]
    clear h3 h4
    go_enter Try.func59, Try.ntmps59
    go_wp2
    go_ret
    exact ⟨by rw [hr.out]; rfl, below_new _ _⟩
  have t4 : ((hi.length : Int) != d) = false := by simp [h4]
  obtain ⟨n, hn⟩ : ∃ n, n = lo.length := ⟨_, rfl⟩
  have hm : hi.length = n := by omega
  obtain rfl : d = n := by omega
  have hr := hideP (show rightB lo hi n = leAll lo hi n by unfold rightB; simp only [decide_true, Bool.true_and, hn ▸ h1, h2, ← hn, hm, decide_eq_true h1])
  have h8 : n ≤ 8 := by omega
  rw [hm] at HH t4 ⊢
  rw [← hn] at HL t3 ⊢
  clear h1 h2 h3 h4 hn hm
  go_enter Try.func59, Try.ntmps59
  go_wp2_with fail
  obtain ⟨w1, hw1⟩ : ∃ w1, w1 = w.alloc (Obj.cells #[.slice L n dl, .slice H n sh] 41) := ⟨_, rfl⟩
  have c1 := hideP (show Two w1 w.heap.size 41 (.slice L n dl) (.slice H n sh) by rw [hw1]; exact Two.new _ _ _ _)
  have cb := hideP (show Below w.heap.size w w1 by rw [hw1]; exact below_new _ _)
  rw [← hw1]
  clear hw1
  go_loopw [5] (fun v5 wr => ∃ k : Nat, k ≤ n ∧ v5 = .int .i64 k ∧ Hid (leAll lo hi k = true ∧ Two wr w.heap.size 41 (.slice L n dl) (.slice H n sh) ∧ Below w.heap.size w wr)) (fun v5 _ => n - (intOf v5).toNat)
  case atStart => exact ⟨0, by omega, rfl, rfl, c1.out, cb.out⟩
  case round =>
    obtain ⟨k, hk, rfl, hW⟩ := hrel
    clear c1 cb
    by_cases hlt : k < n
    · have t' : decide ((k : Int) < n) = true := by simp; omega
      obtain ⟨b, off, rfl, hb, hc⟩ := (HL.out.below hW.out.2.2) (by omega)
      obtain ⟨b', off', rfl, hb', hc'⟩ := (HH.out.below hW.out.2.2) (by omega)
      have k1 := hc k hlt
      have k2 := hc' k hlt
      unfold i64s at k1 k2
      have kc10 := hW.out.2.1.c0
      have kc11 := hW.out.2.1.c1
      have hst : leAll lo hi (k + 1) = (leAll lo hi k && decide (lo.getD k 0 ≤ hi.getD k 0)) := range_all_succ _ k
      have hfl := fun h : decide (lo.getD k 0 ≤ hi.getD k 0) = false => (show leAll lo hi n = false from range_all_false _ n k hlt h)
      obtain ⟨x, ex⟩ : ∃ x, x = lo.getD k 0 := ⟨_, rfl⟩
      obtain ⟨y, ey⟩ : ∃ y, y = hi.getD k 0 := ⟨_, rfl⟩
      rw [← ex] at k1 hst hfl
      rw [← ey] at k2 hst hfl
      rw [hW.out.1, Bool.true_and] at hst
      clear ex ey hc hc' hb hb'
      by_cases hxy : x ≤ y
      · have t : decide (y < x) = false := by simp; omega
        have hs := hideP (show leAll lo hi (k + 1) = true by rw [hst]; simp [hxy])
        clear hst hfl hxy
        go_wp2
        refine wp_region_eager 11 [(true, 0), (true, 1), (true, 2), (true, 3), (true, 4), (true, 5), (true, 6), (true, 7), (true, 8), (true, 9), (true, 10)] (by kernel_rfl) (by kernel_rfl) ?_
        simp only [pick, List.map_cons, List.map_nil, nthO_zero, nthO_succ]
        repeat (first
          | (refine wpPlan_skipK (by rfl) (fun K hK => ?_); go_simp; refine hK _ ?_; clear hK K)
          | (refine wpPlan_valK (by rfl) (fun K hK => ?_); apply Exists.intro; refine ⟨fun W hW => ?_, ?_⟩; (focus (have hs0 := hW.cell k1; have hs1 := hW.cell k2; have hs2 := hW.cell kc10; have hs3 := hW.cell kc11; go_simp; (try rfl); done)); go_simp; refine hK _ ?_; clear hK K))
        refine wpPlan_nil (fun W1 hW0 => ?_)
        simp only [List.drop_succ_cons, List.drop_zero, List.drop_nil]
        have c1 := hideP (hW.out.2.1.ext hW0.drew_left)
        have cb := hideP (below_ext hW.out.2.2 hW0.drew_left)
        clear hW hW0 k1 k2 kc10 kc11
        go_wp2
        go_roundw
        case rel => exact ⟨k + 1, by omega, by go_num, hs.out, c1.out, cb.out⟩
        case measure => simp [intOf]; omega
      · have t : decide (y < x) = true := by simp; omega
        have hs := hideP (hfl (by simp; omega))
        clear hst hfl hxy
        go_wp2
        refine wp_region_eager 11 [(true, 0), (true, 1), (true, 2), (true, 3), (true, 4), (true, 5), (true, 6), (true, 7), (true, 8), (true, 9), (true, 10)] (by kernel_rfl) (by kernel_rfl) ?_
        simp only [pick, List.map_cons, List.map_nil, nthO_zero, nthO_succ]
        repeat (first
          | (refine wpPlan_skipK (by rfl) (fun K hK => ?_); go_simp; refine hK _ ?_; clear hK K)
          | (refine wpPlan_valK (by rfl) (fun K hK => ?_); apply Exists.intro; refine ⟨fun W hW => ?_, ?_⟩; (focus (have hs0 := hW.cell k1; have hs1 := hW.cell k2; have hs2 := hW.cell kc10; have hs3 := hW.cell kc11; go_simp; (try rfl); done)); go_simp; refine hK _ ?_; clear hK K))
        refine wpPlan_nil (fun W1 hW0 => ?_)
        simp only [List.drop_succ_cons, List.drop_zero, List.drop_nil]
        have cb := hideP (below_ext hW.out.2.2 hW0.drew_left)
        clear hW hW0 k1 k2 kc10 kc11
        go_wp2
        go_ret
        exact ⟨by rw [hr.out, hs.out]; rfl, cb.out⟩
    · have t' : decide ((k : Int) < n) = false := by simp; omega
      obtain rfl : k = n := by omega
      go_wp2
      go_ret
      exact ⟨by rw [hr.out, hW.out.1]; rfl, hW.out.2.2⟩
/-- a box has a point -/
def hasB (lo hi p : List Int) : Bool := rightB lo hi p.length && (List.range p.length).all fun i => decide (lo.getD i 0 ≤ p.getD i 0) && decide (p.getD i 0 ≤ hi.getD i 0)
end Go.Proofs.Ytgcbodpjidoanaa
