/- Keys of rows: contract of Key. -/
import Derived.Test.YtnekbmndphbaoaaKey
set_option linter.unusedVariables false
set_option linter.unusedSimpArgs false
namespace Go.Proofs.Ytnekbmndphbaoaa
open Go.RowKit
def keyN (K col : Int) (at_ p : List Int) : Nat :=
  if K = 2 then (9223372036854775807 - p.getD col.toNat 0).toNat else if K = 3 then dpt (p.drop 1) at_ (p.length - 1) else (p.getD col.toNat 0 + 9223372036854775808).toNat
theorem IsI.drop {p : List Int} (h : IsI p) : IsI (p.drop 1) := fun i => by
  have := h (i + 1)
  simpa [List.getD, List.getElem?_drop] using this
theorem Arr.drop {w : World} {B n b off : Nat} {p : List Int} (h : Arr w B (some ⟨b, off, none⟩) n (i64s p)) : Arr w B (some ⟨b, off + 1, none⟩) (n - 1) (i64s (p.drop 1)) := fun hn => by
  obtain ⟨b', off', e, hb, hc⟩ := h (by omega)
  injection e with e
  injection e with e1 e2
  subst e1 e2
  refine ⟨_, _, rfl, hb, fun i hi => ?_⟩
  have := hc (i + 1) (by omega)
  rw [show off + 1 + i = off + (i + 1) by omega, this]
  unfold i64s
  simp [List.getD, List.getElem?_drop]
theorem ordB_of {K col : Int} {m : Nat} {d : Int} (h : ordB K col m d = true) : 1 ≤ d ∧ d ≤ 8 ∧ ((K = 0 ∧ col = 0 ∧ m = 0) ∨ (K = 1 ∧ 1 ≤ col ∧ col < d ∧ m = 0) ∨ (K = 2 ∧ 0 ≤ col ∧ col < d ∧ m = 0) ∨ (K = 3 ∧ col = 0 ∧ 2 ≤ d ∧ (m : Int) = d - 1)) := by
  unfold ordB at h
  simpa using h
theorem keyN_lt (K col : Int) (at_ p : List Int) (hp : IsI p) (ha : IsI at_) (hn : p.length ≤ 8) : keyN K col at_ p < 147573952589676412928 := by
  have h := hp col.toNat
  have h2 := dpt_lt (p.drop 1) at_ (p.length - 1) hp.drop ha (by omega)
  unfold keyN
  split
  · omega
  · split
    · exact h2
    · omega

set_option maxRecDepth 100000 in
set_option maxHeartbeats 1000000 in
theorem key_no (K col : Int) (A Q : Option Addr) (at_ p : List Int) (ca c : Nat) (w : World) (hn : p.length ≤ 17592186043904) (hB : ordB K col at_.length p.length = false) :
    Calls Try.prog 30 #[.agg #[.int .u8 K, .int .i64 col, .slice A at_.length ca], .slice Q p.length c] w fun e w' => e = .returned (.tuple #[dv 0, .int .i64 1]) ∧ Below w.heap.size w w' := by
  have t := fun W => ord_any K col A at_.length ca p.length W (by unfold I64; omega)
  rw [hB] at t
  have e0 : dv 0 = .agg #[.int .u64 0, .int .u64 0] := rfl
  rw [e0]
  clear hB e0
  have Ht := hideP t; clear t
  go_enter Try.func30, Try.ntmps30
  go_wp2_with fail
  obtain ⟨w1, hw1⟩ : ∃ w1, w1 = (w.alloc (Obj.cells #[.int .u8 K, .int .i64 col, .slice A at_.length ca] 50)).alloc (Obj.cells #[.int .u64 0, .int .u64 0] 29) := ⟨_, rfl⟩
  have c2 := hideP (show Two w1 (w.heap.size + 1) 29 (.int .u64 0) (.int .u64 0) by rw [hw1]; exact Two.new' _ _ _ _ _ (by simp))
  have cb := hideP (show Below w.heap.size w w1 by rw [hw1]; exact (below_new _ _).alloc (by simp) _)
  rw [← hw1]
  clear hw1
  refine (Ht.out w1).mono ?_
  rintro e w2 ⟨rfl, hb⟩
  replace c2 := hideP (c2.out.after hb)
  replace cb := hideP (bstep cb.out hb)
  clear hb
  have f0 := c2.out.fz 0
  have f1 := c2.out.fz 1
  have kc20 := c2.out.c0; have kc21 := c2.out.c1
  go_wp2
  refine ret_dist2 rfl rfl rfl (c2.out.set2 _ _) rfl ?_
  exact ⟨rfl, (cb.out.setCell (p := ⟨w.heap.size + 1, 0, none⟩) (by simp) _).setCell (p := ⟨w.heap.size + 1, 1, none⟩) (by simp) _⟩

set_option maxRecDepth 100000 in
set_option maxHeartbeats 4000000 in
theorem key_in (K col : Int) (A Q : Option Addr) (at_ p : List Int) (ca c : Nat) (w : World) (hA : Arr w w.heap.size A at_.length (i64s at_)) (hQ : Arr w w.heap.size Q p.length (i64s p)) (hp : IsI p) (ha : IsI at_) (hc : p.length ≤ c)
    (hB : ordB K col at_.length p.length = true) :
    Calls Try.prog 30 #[.agg #[.int .u8 K, .int .i64 col, .slice A at_.length ca], .slice Q p.length c] w fun e w' => e = .returned (.tuple #[dv (keyN K col at_ p), .int .i64 0]) ∧ Below w.heap.size w w' := by
  obtain ⟨d1, d8, hK⟩ := ordB_of hB
  have t := fun W => ord_any K col A at_.length ca p.length W (by unfold I64; omega)
  rw [hB] at t
  obtain ⟨j, rfl⟩ : ∃ j : Nat, col = (j : Int) := ⟨col.toNat, by omega⟩
  have hkey : keyN K j at_ p = if K = 2 then (9223372036854775807 - p.getD j 0).toNat else if K = 3 then dpt (p.drop 1) at_ (p.length - 1) else (p.getD j 0 + 9223372036854775808).toNat := by unfold keyN; simp
  rw [hkey]
  obtain ⟨b, off, rfl, hb, hcl⟩ := hQ (by omega)
  have tB := fun W h h' => between_in (some ⟨b, off + 1, none⟩) A (p.drop 1) at_ (p.length - 1) (c - 1) ca W h h' hp.drop ha
  have hQ2 := hQ.drop
  obtain ⟨n, hn⟩ : ∃ n, n = p.length := ⟨_, rfl⟩
  obtain ⟨m, hm⟩ : ∃ m, m = at_.length := ⟨_, rfl⟩
  rw [← hn] at d1 d8 hK t tB hQ2 hc hcl ⊢
  rw [← hm] at hK t hA ⊢
  have k1 : (j : Int) < n → w.cell? ⟨b, off + j, none⟩ = some (.int .i64 (p.getD j 0)) := fun h => hcl j (by omega)
  have hx := hp j
  obtain ⟨x, ex⟩ : ∃ x, x = p.getD j 0 := ⟨_, rfl⟩
  rw [← ex] at k1 hx ⊢
  have Hx : I64 x := hx
  clear hB hkey hcl hQ hn hm ex hx
  have j0 : (0 : Int) ≤ (j : Int) := by omega
  have Ht := hideP t; have HhA := hideP hA; have HhQ2 := hideP hQ2; have HtB := hideP tB; have HHx := hideP Hx; have Hhb := hideP hb; have Hk1 := hideP k1; clear t hA hQ2 tB Hx hb k1
  rcases hK with ⟨rfl, h, z⟩ | ⟨rfl, z', h, z⟩ | ⟨rfl, z', h, z⟩ | ⟨rfl, z', h, z⟩
  · have j1 : (j : Int) < n := by omega
    clear h d1 z
    go_enter Try.func30, Try.ntmps30
    go_wp2_with fail
    obtain ⟨w1, hw1⟩ : ∃ w1, w1 = (w.alloc (Obj.cells #[.int .u8 0, .int .i64 j, .slice A m ca] 50)).alloc (Obj.cells #[.int .u64 0, .int .u64 0] 29) := ⟨_, rfl⟩
    have c1 := hideP (show Three w1 w.heap.size 50 (.int .u8 0) (.int .i64 j) (.slice A m ca) by rw [hw1]; exact (Three.new _ _ _ _ _).alloc _)
    have c2 := hideP (show Two w1 (w.heap.size + 1) 29 (.int .u64 0) (.int .u64 0) by rw [hw1]; exact Two.new' _ _ _ _ _ (by simp))
    have cb := hideP (show Below w.heap.size w w1 by rw [hw1]; exact (below_new _ _).alloc (by simp) _)
    rw [← hw1]
    clear hw1
    refine (Ht.out w1).mono ?_
    rintro e w2 ⟨rfl, hb_⟩
    replace c1 := hideP (c1.out.after hb_)
    replace c2 := hideP (c2.out.after hb_)
    replace cb := hideP (bstep cb.out hb_)
    clear hb_
    have q0 := c1.out.c0
    have q1 := c1.out.c1
    have q2 := c1.out.c2
    have k1' := cell_below cb.out Hhb.out (Hk1.out j1)
    go_wp2_with fail
    refine (up_any x w2 HHx.out).mono ?_
    rintro e w3 ⟨rfl, hb_⟩
    replace c2 := hideP (c2.out.after hb_)
    replace cb := hideP (bstep cb.out hb_)
    clear hb_
    clear q0 q1 q2
    unfold dv dvp
    obtain ⟨h, e1⟩ : ∃ h, h = (x + 9223372036854775808).toNat / 18446744073709551616 := ⟨_, rfl⟩
    obtain ⟨l, e2⟩ : ∃ h, h = (x + 9223372036854775808).toNat % 18446744073709551616 := ⟨_, rfl⟩
    rw [← e1, ← e2]
    have E1 := hideP e1
    have E2 := hideP e2
    clear e1 e2
    have f0 := c2.out.fz 0
    have f1 := c2.out.fz 1
    have kc20 := c2.out.c0; have kc21 := c2.out.c1
    go_wp2
    refine ret_dist2 rfl rfl rfl (c2.out.set2 _ _) rfl ?_
    refine ⟨by rw [E1.out, E2.out]; rfl, (cb.out.setCell (p := ⟨w.heap.size + 1, 0, none⟩) (by simp) _).setCell (p := ⟨w.heap.size + 1, 1, none⟩) (by simp) _⟩
  · have j1 : (j : Int) < n := by omega
    clear h d1 z z'
    go_enter Try.func30, Try.ntmps30
    go_wp2_with fail
    obtain ⟨w1, hw1⟩ : ∃ w1, w1 = (w.alloc (Obj.cells #[.int .u8 1, .int .i64 j, .slice A m ca] 50)).alloc (Obj.cells #[.int .u64 0, .int .u64 0] 29) := ⟨_, rfl⟩
    have c1 := hideP (show Three w1 w.heap.size 50 (.int .u8 1) (.int .i64 j) (.slice A m ca) by rw [hw1]; exact (Three.new _ _ _ _ _).alloc _)
    have c2 := hideP (show Two w1 (w.heap.size + 1) 29 (.int .u64 0) (.int .u64 0) by rw [hw1]; exact Two.new' _ _ _ _ _ (by simp))
    have cb := hideP (show Below w.heap.size w w1 by rw [hw1]; exact (below_new _ _).alloc (by simp) _)
    rw [← hw1]
    clear hw1
    refine (Ht.out w1).mono ?_
    rintro e w2 ⟨rfl, hb_⟩
    replace c1 := hideP (c1.out.after hb_)
    replace c2 := hideP (c2.out.after hb_)
    replace cb := hideP (bstep cb.out hb_)
    clear hb_
    have q0 := c1.out.c0
    have q1 := c1.out.c1
    have q2 := c1.out.c2
    have k1' := cell_below cb.out Hhb.out (Hk1.out j1)
    go_wp2_with fail
    refine (up_any x w2 HHx.out).mono ?_
    rintro e w3 ⟨rfl, hb_⟩
    replace c2 := hideP (c2.out.after hb_)
    replace cb := hideP (bstep cb.out hb_)
    clear hb_
    clear q0 q1 q2
    unfold dv dvp
    obtain ⟨h, e1⟩ : ∃ h, h = (x + 9223372036854775808).toNat / 18446744073709551616 := ⟨_, rfl⟩
    obtain ⟨l, e2⟩ : ∃ h, h = (x + 9223372036854775808).toNat % 18446744073709551616 := ⟨_, rfl⟩
    rw [← e1, ← e2]
    have E1 := hideP e1
    have E2 := hideP e2
    clear e1 e2
    have f0 := c2.out.fz 0
    have f1 := c2.out.fz 1
    have kc20 := c2.out.c0; have kc21 := c2.out.c1
    go_wp2
    refine ret_dist2 rfl rfl rfl (c2.out.set2 _ _) rfl ?_
    refine ⟨by rw [E1.out, E2.out]; rfl, (cb.out.setCell (p := ⟨w.heap.size + 1, 0, none⟩) (by simp) _).setCell (p := ⟨w.heap.size + 1, 1, none⟩) (by simp) _⟩
  · have j1 : (j : Int) < n := by omega
    clear h d1 z z'
    go_enter Try.func30, Try.ntmps30
    go_wp2_with fail
    obtain ⟨w1, hw1⟩ : ∃ w1, w1 = (w.alloc (Obj.cells #[.int .u8 2, .int .i64 j, .slice A m ca] 50)).alloc (Obj.cells #[.int .u64 0, .int .u64 0] 29) := ⟨_, rfl⟩
    have c1 := hideP (show Three w1 w.heap.size 50 (.int .u8 2) (.int .i64 j) (.slice A m ca) by rw [hw1]; exact (Three.new _ _ _ _ _).alloc _)
    have c2 := hideP (show Two w1 (w.heap.size + 1) 29 (.int .u64 0) (.int .u64 0) by rw [hw1]; exact Two.new' _ _ _ _ _ (by simp))
    have cb := hideP (show Below w.heap.size w w1 by rw [hw1]; exact (below_new _ _).alloc (by simp) _)
    rw [← hw1]
    clear hw1
    refine (Ht.out w1).mono ?_
    rintro e w2 ⟨rfl, hb_⟩
    replace c1 := hideP (c1.out.after hb_)
    replace c2 := hideP (c2.out.after hb_)
    replace cb := hideP (bstep cb.out hb_)
    clear hb_
    have q0 := c1.out.c0
    have q1 := c1.out.c1
    have q2 := c1.out.c2
    have k1' := cell_below cb.out Hhb.out (Hk1.out j1)
    go_wp2_with fail
    refine (down_any x w2 HHx.out).mono ?_
    rintro e w3 ⟨rfl, hb_⟩
    replace c2 := hideP (c2.out.after hb_)
    replace cb := hideP (bstep cb.out hb_)
    clear hb_
    clear q0 q1 q2
    unfold dv dvp
    obtain ⟨h, e1⟩ : ∃ h, h = (9223372036854775807 - x).toNat / 18446744073709551616 := ⟨_, rfl⟩
    obtain ⟨l, e2⟩ : ∃ h, h = (9223372036854775807 - x).toNat % 18446744073709551616 := ⟨_, rfl⟩
    rw [← e1, ← e2]
    have E1 := hideP e1
    have E2 := hideP e2
    clear e1 e2
    have f0 := c2.out.fz 0
    have f1 := c2.out.fz 1
    have kc20 := c2.out.c0; have kc21 := c2.out.c1
    go_wp2
    refine ret_dist2 rfl rfl rfl (c2.out.set2 _ _) rfl ?_
    refine ⟨by rw [E1.out, E2.out]; rfl, (cb.out.setCell (p := ⟨w.heap.size + 1, 0, none⟩) (by simp) _).setCell (p := ⟨w.heap.size + 1, 1, none⟩) (by simp) _⟩
  · obtain rfl : m = n - 1 := by omega
    have h1 : 1 ≤ n - 1 := by omega
    have h8 : n - 1 ≤ 8 := by omega
    have t1 : (1 : Int) ≤ n := by omega
    have t2 : (n : Int) ≤ c := by omega
    have t3 : ¬ c = 1 := by omega
    have HB := hideP (fun W h h' => HtB.out W h h' h1 h8)
    unfold dv dvp at HB
    show Calls _ _ _ _ fun e w' => e = .returned (.tuple #[dv (dpt (p.drop 1) at_ (n - 1)), .int .i64 0]) ∧ _
    unfold dv dvp
    obtain ⟨h0, e1⟩ : ∃ h, h = dpt (p.drop 1) at_ (n - 1) / 18446744073709551616 := ⟨_, rfl⟩
    obtain ⟨l0, e2⟩ : ∃ h, h = dpt (p.drop 1) at_ (n - 1) % 18446744073709551616 := ⟨_, rfl⟩
    rw [← e1, ← e2] at HB ⊢
    obtain ⟨m, hm⟩ : ∃ m, m = n - 1 := ⟨_, rfl⟩
    rw [← hm] at HhA Ht ⊢
    replace HB := hideP (show ∀ W, Arr W W.heap.size (some ⟨b, off + 1, none⟩) (n - 1) (i64s (p.drop 1)) → Arr W W.heap.size A m (i64s at_) → Calls Try.prog 14 #[.slice (some ⟨b, off + 1, none⟩) (n - 1) (c - 1), .slice A m ca] W fun e w' => e = .returned (.tuple #[.agg #[.int .u64 h0, .int .u64 l0], .int .i64 0]) ∧ Below W.heap.size W w' from by rw [hm]; exact HB.out)
    clear e1 e2 z z' h HtB hm h1 h8
    go_enter Try.func30, Try.ntmps30
    go_wp2_with fail
    obtain ⟨w1, hw1⟩ : ∃ w1, w1 = (w.alloc (Obj.cells #[.int .u8 3, .int .i64 j, .slice A m ca] 50)).alloc (Obj.cells #[.int .u64 0, .int .u64 0] 29) := ⟨_, rfl⟩
    have c1 := hideP (show Three w1 w.heap.size 50 (.int .u8 3) (.int .i64 j) (.slice A m ca) by rw [hw1]; exact (Three.new _ _ _ _ _).alloc _)
    have c2 := hideP (show Two w1 (w.heap.size + 1) 29 (.int .u64 0) (.int .u64 0) by rw [hw1]; exact Two.new' _ _ _ _ _ (by simp))
    have cb := hideP (show Below w.heap.size w w1 by rw [hw1]; exact (below_new _ _).alloc (by simp) _)
    rw [← hw1]
    clear hw1
    refine (Ht.out w1).mono ?_
    rintro e w2 ⟨rfl, hb_⟩
    replace c1 := hideP (c1.out.after hb_)
    replace c2 := hideP (c2.out.after hb_)
    replace cb := hideP (bstep cb.out hb_)
    clear hb_
    have q0 := c1.out.c0
    have q1 := c1.out.c1
    have q2 := c1.out.c2
    go_wp2
    refine wp_region_eager 7 [(true, 0), (true, 1), (true, 2), (true, 3), (true, 4), (true, 5), (true, 6)] (by kernel_rfl) (by kernel_rfl) ?_
    simp only [pick, List.map_cons, List.map_nil, nthO_zero, nthO_succ]
    repeat (first
      | (refine wpPlan_skipK (by rfl) (fun K hK => ?_); go_simp; refine hK _ ?_; clear hK K)
      | (refine wpPlan_valK (by rfl) (fun K hK => ?_); apply Exists.intro; refine ⟨fun W hW => ?_, ?_⟩; (focus (have hs0 := hW.cell q2; go_simp; (try rfl); done)); go_simp; refine hK _ ?_; clear hK K)
      | (refine wpPlan_callK (.tuple #[.agg #[.int .u64 h0, .int .u64 l0], .int .i64 0]) 14 #[.slice (some ⟨b, off + 1, none⟩) (n - 1) (c - 1), .slice A m ca] (by rfl) ?_ (fun W hW => (HB.out W (HhQ2.out.after (below_ext cb.out hW.drew_left)) (HhA.out.after (below_ext cb.out hW.drew_left))).mono fun e w' h => ⟨h.1, Ext.of_below h.2⟩) (fun K hK => ?_); (focus (intro W; go_simp; done)); go_simp; refine hK _ ?_; clear hK K))
    refine wpPlan_nil (fun w3 hW0 => ?_)
    simp only [List.drop_succ_cons, List.drop_zero, List.drop_nil]
    replace c2 := hideP (c2.out.ext hW0.drew_left)
    replace cb := hideP (below_ext cb.out hW0.drew_left)
    clear hW0 q0 q1 q2
    have f0 := c2.out.fz 0
    have f1 := c2.out.fz 1
    have kc20 := c2.out.c0; have kc21 := c2.out.c1
    go_wp2
    refine ret_dist2 rfl rfl rfl (c2.out.set2 _ _) rfl ?_
    exact ⟨rfl, (cb.out.setCell (p := ⟨w.heap.size + 1, 0, none⟩) (by simp) _).setCell (p := ⟨w.heap.size + 1, 1, none⟩) (by simp) _⟩
end Go.Proofs.Ytnekbmndphbaoaa
