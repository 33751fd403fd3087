/- Contracts of the document's package for chapter 4: Right, Has. -/
import Derived.Test.YtjdbpeblbejllaaBox3
set_option linter.unusedVariables false
set_option linter.unusedSimpArgs false
namespace Go.Proofs.Ytjdbpeblbejllaa
open Go.RowKit

set_option maxRecDepth 100000 in
set_option maxHeartbeats 1000000 in
theorem rright_any (L H : Option Addr) (lo hi : List Int) (dl sh : Nat) (d : Int) (w : World) (hL : Arr w w.heap.size L lo.length (i64s lo)) (hH : Arr w w.heap.size H hi.length (i64s hi)) :
    Calls Try.prog 37 #[.agg #[.slice L lo.length dl, .slice H hi.length sh], .int .i64 d] w fun e w' => e = .returned (.bool (rightB lo hi d)) ∧ Below w.heap.size w w' := by
  have HL := hideP hL; have HH := hideP hH
  clear hL hH
  by_cases h1 : 1 ≤ d
  case neg =>
    have hr := hideP (show rightB lo hi d = false by simp [rightB, h1])
    have t : decide (d < 1) = true := by simp; omega
    go_enter Try.func37, Try.ntmps37
    go_wp2
    go_ret
    exact ⟨by rw [hr.out]; rfl, below_new _ _⟩
  have t1 : decide (d < 1) = false := by simp; omega
  by_cases h2 : d ≤ 8
  case neg =>
    have hr := hideP (show rightB lo hi d = false by simp [rightB, h2])
    have t : decide (8 < d) = true := by simp; omega
    go_enter Try.func37, Try.ntmps37
    go_wp2
    go_ret
    exact ⟨by rw [hr.out]; rfl, below_new _ _⟩
  have t2 : decide (8 < d) = false := by simp; omega
  by_cases h3 : (lo.length : Int) = d
  case neg =>
    have hr := hideP (show rightB lo hi d = false by simp [rightB, h3])
    have t : ((lo.length : Int) != d) = true := by simp [h3]
    clear h3
    go_enter Try.func37, Try.ntmps37
    go_wp2
    go_ret
    exact ⟨by rw [hr.out]; rfl, below_new _ _⟩
  have t3 : ((lo.length : Int) != d) = false := by simp [h3]
  by_cases h4 : (hi.length : Int) = d
  case neg =>
    have hr := hideP (show rightB lo hi d = false by simp [rightB, h4])
    have t : ((hi.length : Int) != d) = true := by simp [h4]
    clear h3 h4
    go_enter Try.func37, Try.ntmps37
    go_wp2
    go_ret
    exact ⟨by rw [hr.out]; rfl, below_new _ _⟩
  have t4 : ((hi.length : Int) != d) = false := by simp [h4]
  obtain ⟨n, hn⟩ : ∃ n, n = lo.length := ⟨_, rfl⟩
  have hm : hi.length = n := by omega
  obtain rfl : d = n := by omega
  have hr := hideP (show rightB lo hi n = leAll lo hi n by unfold rightB; simp only [decide_true, Bool.true_and, hn ▸ h1, h2, ← hn, hm, decide_eq_true h1])
  have h8 : n ≤ 8 := by omega
  rw [hm] at HH t4 ⊢
  rw [← hn] at HL t3 ⊢
  clear h1 h2 h3 h4 hn hm
  go_enter Try.func37, Try.ntmps37
  go_wp2_with fail
  obtain ⟨w1, hw1⟩ : ∃ w1, w1 = w.alloc (Obj.cells #[.slice L n dl, .slice H n sh] 58) := ⟨_, rfl⟩
  have c1 := hideP (show Two w1 w.heap.size 58 (.slice L n dl) (.slice H n sh) by rw [hw1]; exact Two.new _ _ _ _)
  have cb := hideP (show Below w.heap.size w w1 by rw [hw1]; exact below_new _ _)
  rw [← hw1]
  clear hw1
  go_loopw [5] (fun v5 wr => ∃ k : Nat, k ≤ n ∧ v5 = .int .i64 k ∧ Hid (leAll lo hi k = true ∧ Two wr w.heap.size 58 (.slice L n dl) (.slice H n sh) ∧ Below w.heap.size w wr)) (fun v5 _ => n - (intOf v5).toNat)
  case atStart => exact ⟨0, by omega, rfl, rfl, c1.out, cb.out⟩
  case round =>
    obtain ⟨k, hk, rfl, hW⟩ := hrel
    clear c1 cb
    by_cases hlt : k < n
    · have t' : decide ((k : Int) < n) = true := by simp; omega
      obtain ⟨b, off, rfl, hb, hc⟩ := (HL.out.below hW.out.2.2) (by omega)
      obtain ⟨b', off', rfl, hb', hc'⟩ := (HH.out.below hW.out.2.2) (by omega)
      have k1 := hc k hlt
      have k2 := hc' k hlt
      unfold i64s at k1 k2
      have kc10 := hW.out.2.1.c0
      have kc11 := hW.out.2.1.c1
      have hst : leAll lo hi (k + 1) = (leAll lo hi k && decide (lo.getD k 0 ≤ hi.getD k 0)) := range_all_succ _ k
      have hfl := fun h : decide (lo.getD k 0 ≤ hi.getD k 0) = false => (show leAll lo hi n = false from range_all_false _ n k hlt h)
      obtain ⟨x, ex⟩ : ∃ x, x = lo.getD k 0 := ⟨_, rfl⟩
      obtain ⟨y, ey⟩ : ∃ y, y = hi.getD k 0 := ⟨_, rfl⟩
      rw [← ex] at k1 hst hfl
      rw [← ey] at k2 hst hfl
      rw [hW.out.1, Bool.true_and] at hst
      clear ex ey hc hc' hb hb'
      by_cases hxy : x ≤ y
      · have t : decide (y < x) = false := by simp; omega
        have hs := hideP (show leAll lo hi (k + 1) = true by rw [hst]; simp [hxy])
        clear hst hfl hxy
        go_wp2
        refine wp_region_eager 11 [(true, 0), (true, 1), (true, 2), (true, 3), (true, 4), (true, 5), (true, 6), (true, 7), (true, 8), (true, 9), (true, 10)] (by kernel_rfl) (by kernel_rfl) ?_
        simp only [pick, List.map_cons, List.map_nil, nthO_zero, nthO_succ]
        repeat (first
          | (refine wpPlan_skipK (by rfl) (fun K hK => ?_); go_simp; refine hK _ ?_; clear hK K)
          | (refine wpPlan_valK (by rfl) (fun K hK => ?_); apply Exists.intro; refine ⟨fun W hW => ?_, ?_⟩; (focus (have hs0 := hW.cell k1; have hs1 := hW.cell k2; have hs2 := hW.cell kc10; have hs3 := hW.cell kc11; go_simp; (try rfl); done)); go_simp; refine hK _ ?_; clear hK K))
        refine wpPlan_nil (fun W1 hW0 => ?_)
        simp only [List.drop_succ_cons, List.drop_zero, List.drop_nil]
        have c1 := hideP (hW.out.2.1.ext hW0.drew_left)
        have cb := hideP (below_ext hW.out.2.2 hW0.drew_left)
        clear hW hW0 k1 k2 kc10 kc11
        go_wp2
        go_roundw
        case rel => exact ⟨k + 1, by omega, by go_num, hs.out, c1.out, cb.out⟩
        case measure => simp [intOf]; omega
      · have t : decide (y < x) = true := by simp; omega
        have hs := hideP (hfl (by simp; omega))
        clear hst hfl hxy
        go_wp2
        refine wp_region_eager 11 [(true, 0), (true, 1), (true, 2), (true, 3), (true, 4), (true, 5), (true, 6), (true, 7), (true, 8), (true, 9), (true, 10)] (by kernel_rfl) (by kernel_rfl) ?_
        simp only [pick, List.map_cons, List.map_nil, nthO_zero, nthO_succ]
        repeat (first
          | (refine wpPlan_skipK (by rfl) (fun K hK => ?_); go_simp; refine hK _ ?_; clear hK K)
          | (refine wpPlan_valK (by rfl) (fun K hK => ?_); apply Exists.intro; refine ⟨fun W hW => ?_, ?_⟩; (focus (have hs0 := hW.cell k1; have hs1 := hW.cell k2; have hs2 := hW.cell kc10; have hs3 := hW.cell kc11; go_simp; (try rfl); done)); go_simp; refine hK _ ?_; clear hK K))
        refine wpPlan_nil (fun W1 hW0 => ?_)
        simp only [List.drop_succ_cons, List.drop_zero, List.drop_nil]
        have cb := hideP (below_ext hW.out.2.2 hW0.drew_left)
        clear hW hW0 k1 k2 kc10 kc11
        go_wp2
        go_ret
        exact ⟨by rw [hr.out, hs.out]; rfl, cb.out⟩
    · have t' : decide ((k : Int) < n) = false := by simp; omega
      obtain rfl : k = n := by omega
      go_wp2
      go_ret
      exact ⟨by rw [hr.out, hW.out.1]; rfl, hW.out.2.2⟩
/-- a box has a point -/
def hasB (lo hi p : List Int) : Bool := rightB lo hi p.length && (List.range p.length).all fun i => decide (lo.getD i 0 ≤ p.getD i 0) && decide (p.getD i 0 ≤ hi.getD i 0)
set_option maxRecDepth 100000 in
set_option maxHeartbeats 4000000 in
theorem rhas_any (L H P : Option Addr) (lo hi p : List Int) (dl sh c : Nat) (w : World) (hL : Arr w w.heap.size L lo.length (i64s lo)) (hH : Arr w w.heap.size H hi.length (i64s hi)) (hP : Arr w w.heap.size P p.length (i64s p)) (hn : p.length ≤ 17592186043904) :
    Calls Try.prog 34 #[.agg #[.slice L lo.length dl, .slice H hi.length sh], .slice P p.length c] w fun e w' => e = .returned (.bool (hasB lo hi p)) ∧ Below w.heap.size w w' := by
  have t1 := fun W h h' => rright_any L H lo hi dl sh p.length W h h'
  obtain ⟨o, ho⟩ : ∃ o, o = rightB lo hi p.length := ⟨_, rfl⟩
  have hb := hideP (show hasB lo hi p = (o && (List.range p.length).all fun i => decide (lo.getD i 0 ≤ p.getD i 0) && decide (p.getD i 0 ≤ hi.getD i 0)) by unfold hasB; rw [ho])
  have hlen : o = true → lo.length = p.length ∧ hi.length = p.length := fun h => by
    rw [ho] at h; have := rightB_len h; omega
  rw [← ho] at t1
  clear ho
  have Ht1 := hideP t1; have HhL := hideP hL; have HhH := hideP hH; have HhP := hideP hP; have Hhlen := hideP hlen; clear t1 hL hH hP hlen
  go_enter Try.func34, Try.ntmps34
  go_wp2_with fail
  obtain ⟨w1, hw1⟩ : ∃ w1, w1 = w.alloc (Obj.cells #[.slice L lo.length dl, .slice H hi.length sh] 58) := ⟨_, rfl⟩
  have c1 := hideP (show Two w1 w.heap.size 58 (.slice L lo.length dl) (.slice H hi.length sh) by rw [hw1]; exact Two.new _ _ _ _)
  have cb := hideP (show Below w.heap.size w w1 by rw [hw1]; exact below_new _ _)
  rw [← hw1]
  clear hw1
  refine (Ht1.out w1 (HhL.out.after cb.out) (HhH.out.after cb.out)).mono ?_
  rintro e w2 ⟨rfl, hb_⟩
  replace c1 := hideP (c1.out.after hb_)
  replace cb := hideP (bstep cb.out hb_)
  clear hb_
  cases o
  · go_wp2
    go_ret
    exact ⟨by rw [hb.out]; rfl, cb.out⟩
  obtain ⟨e1, e2⟩ := Hhlen.out rfl
  rw [e1] at HhL c1
  rw [e2] at HhH c1
  rw [e1, e2]
  clear e1 e2 Hhlen
  obtain ⟨n, hn'⟩ : ∃ n, n = p.length := ⟨_, rfl⟩
  rw [← hn'] at HhL HhH HhP c1 hb hn ⊢
  rw [Bool.true_and] at hb
  clear hn'
  go_wp2
  go_loopw [5] (fun v5 wr => ∃ k : Nat, k ≤ n ∧ v5 = .int .i64 k ∧ Hid ((List.range k).all (fun i => decide (lo.getD i 0 ≤ p.getD i 0) && decide (p.getD i 0 ≤ hi.getD i 0)) = true ∧ Two wr w.heap.size 58 (.slice L n dl) (.slice H n sh) ∧ Below w.heap.size w wr)) (fun v5 _ => n - (intOf v5).toNat)
  case atStart => exact ⟨0, by omega, rfl, rfl, c1.out, cb.out⟩
  case round =>
    obtain ⟨k, hk, rfl, hW⟩ := hrel
    clear c1 cb
    by_cases hlt : k < n
    · have t' : decide ((k : Int) < n) = true := by simp; omega
      obtain ⟨b, off, rfl, hb1, hc⟩ := (HhL.out.below hW.out.2.2) (by omega)
      obtain ⟨b', off', rfl, hb', hc'⟩ := (HhH.out.below hW.out.2.2) (by omega)
      obtain ⟨b2, off2, rfl, hb2, hc2⟩ := (HhP.out.below hW.out.2.2) (by omega)
      have k1 := hc k hlt
      have k2 := hc' k hlt
      have k3 := hc2 k hlt
      unfold i64s at k1 k2 k3
      have kc10 := hW.out.2.1.c0
      have kc11 := hW.out.2.1.c1
      have hst := range_all_succ (fun i => decide (lo.getD i 0 ≤ p.getD i 0) && decide (p.getD i 0 ≤ hi.getD i 0)) k
      have hfl := range_all_false (fun i => decide (lo.getD i 0 ≤ p.getD i 0) && decide (p.getD i 0 ≤ hi.getD i 0)) n k hlt
      rw [hW.out.1, Bool.true_and] at hst
      (try dsimp only at hst); (try dsimp only at hfl)
      obtain ⟨x, ex⟩ : ∃ x, x = lo.getD k 0 := ⟨_, rfl⟩
      obtain ⟨y, ey⟩ : ∃ y, y = hi.getD k 0 := ⟨_, rfl⟩
      obtain ⟨z, ez⟩ : ∃ y, y = p.getD k 0 := ⟨_, rfl⟩
      rw [← ex, ← ez] at hst hfl
      rw [← ex] at k1
      rw [← ey] at k2 hst hfl
      rw [← ez] at k3
      clear ex ey ez hc hc' hc2 hb1 hb' hb2
      have hcase : (decide (z < x) = true ∧ (decide (x ≤ z) && decide (z ≤ y)) = false) ∨ (decide (z < x) = false ∧ decide (y < z) = true ∧ (decide (x ≤ z) && decide (z ≤ y)) = false) ∨ (decide (z < x) = false ∧ decide (y < z) = false ∧ (decide (x ≤ z) && decide (z ≤ y)) = true) := by
        simp only [Bool.and_eq_true, Bool.and_eq_false_iff, decide_eq_true_eq, decide_eq_false_iff_not]; omega
      rcases hcase with ⟨t1, h⟩ | ⟨t1, t2, h⟩ | ⟨t1, t2, h⟩
      · have hs := hideP (hfl h)
        clear hst hfl h
        go_wp2
        refine wp_region_eager 22 [(true, 0), (true, 1), (true, 2), (true, 3), (true, 4), (true, 5), (true, 6), (true, 7), (true, 8), (true, 9), (true, 10), (true, 11), (true, 12), (true, 13), (true, 14), (true, 15), (true, 16), (true, 17), (true, 18), (true, 19), (true, 20), (true, 21)] (by kernel_rfl) (by kernel_rfl) ?_
        simp only [pick, List.map_cons, List.map_nil, nthO_zero, nthO_succ]
        repeat (first
          | (refine wpPlan_skipK (by rfl) (fun K hK => ?_); go_simp; refine hK _ ?_; clear hK K)
          | (refine wpPlan_valK (by rfl) (fun K hK => ?_); apply Exists.intro; refine ⟨fun W hW => ?_, ?_⟩; (focus (have hs0 := hW.cell k1; have hs1 := hW.cell k2; have hs2 := hW.cell k3; have hs3 := hW.cell kc10; have hs4 := hW.cell kc11; go_simp; (try rfl); done)); go_simp; refine hK _ ?_; clear hK K))
        refine wpPlan_nil (fun W1 hW0 => ?_)
        simp only [List.drop_succ_cons, List.drop_zero, List.drop_nil]
        have cb := hideP (below_ext hW.out.2.2 hW0.drew_left)
        clear hW hW0 k1 k2 k3 kc10 kc11
        go_wp2
        go_ret
        exact ⟨by rw [hb.out, hs.out]; rfl, cb.out⟩
      · have hs := hideP (hfl h)
        clear hst hfl h
        go_wp2
        refine wp_region_eager 22 [(true, 0), (true, 1), (true, 2), (true, 3), (true, 4), (true, 5), (true, 6), (true, 7), (true, 8), (true, 9), (true, 10), (true, 11), (true, 12), (true, 13), (true, 14), (true, 15), (true, 16), (true, 17), (true, 18), (true, 19), (true, 20), (true, 21)] (by kernel_rfl) (by kernel_rfl) ?_
        simp only [pick, List.map_cons, List.map_nil, nthO_zero, nthO_succ]
        repeat (first
          | (refine wpPlan_skipK (by rfl) (fun K hK => ?_); go_simp; refine hK _ ?_; clear hK K)
          | (refine wpPlan_valK (by rfl) (fun K hK => ?_); apply Exists.intro; refine ⟨fun W hW => ?_, ?_⟩; (focus (have hs0 := hW.cell k1; have hs1 := hW.cell k2; have hs2 := hW.cell k3; have hs3 := hW.cell kc10; have hs4 := hW.cell kc11; go_simp; (try rfl); done)); go_simp; refine hK _ ?_; clear hK K))
        refine wpPlan_nil (fun W1 hW0 => ?_)
        simp only [List.drop_succ_cons, List.drop_zero, List.drop_nil]
        have cb := hideP (below_ext hW.out.2.2 hW0.drew_left)
        clear hW hW0 k1 k2 k3 kc10 kc11
        go_wp2
        go_ret
        exact ⟨by rw [hb.out, hs.out]; rfl, cb.out⟩
      · have hs := hideP (hst.trans h)
        clear hst hfl h
        go_wp2
        refine wp_region_eager 22 [(true, 0), (true, 1), (true, 2), (true, 3), (true, 4), (true, 5), (true, 6), (true, 7), (true, 8), (true, 9), (true, 10), (true, 11), (true, 12), (true, 13), (true, 14), (true, 15), (true, 16), (true, 17), (true, 18), (true, 19), (true, 20), (true, 21)] (by kernel_rfl) (by kernel_rfl) ?_
        simp only [pick, List.map_cons, List.map_nil, nthO_zero, nthO_succ]
        repeat (first
          | (refine wpPlan_skipK (by rfl) (fun K hK => ?_); go_simp; refine hK _ ?_; clear hK K)
          | (refine wpPlan_valK (by rfl) (fun K hK => ?_); apply Exists.intro; refine ⟨fun W hW => ?_, ?_⟩; (focus (have hs0 := hW.cell k1; have hs1 := hW.cell k2; have hs2 := hW.cell k3; have hs3 := hW.cell kc10; have hs4 := hW.cell kc11; go_simp; (try rfl); done)); go_simp; refine hK _ ?_; clear hK K))
        refine wpPlan_nil (fun W1 hW0 => ?_)
        simp only [List.drop_succ_cons, List.drop_zero, List.drop_nil]
        have c1 := hideP (hW.out.2.1.ext hW0.drew_left)
        have cb := hideP (below_ext hW.out.2.2 hW0.drew_left)
        clear hW hW0 k1 k2 k3 kc10 kc11
        go_wp2
        go_roundw
        case rel => exact ⟨k + 1, by omega, by go_num, hs.out, c1.out, cb.out⟩
        case measure => simp [intOf]; omega
    · have t' : decide ((k : Int) < n) = false := by simp; omega
      obtain rfl : k = n := by omega
      go_wp2
      go_ret
      exact ⟨by rw [hb.out, hW.out.1]; rfl, hW.out.2.2⟩
end Go.Proofs.Ytjdbpeblbejllaa
