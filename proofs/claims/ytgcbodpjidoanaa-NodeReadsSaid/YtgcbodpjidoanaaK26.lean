/- Contracts of the document's package for chapter 4: Right, Has. Contracts of node.Empty, KidRight and of the reference's. -/
import Derived.Test.YtgcbodpjidoanaaK4
import Derived.Test.YtgcbodpjidoanaaK25
set_option linter.unusedVariables false
set_option linter.unusedSimpArgs false
namespace Go.Proofs.Ytgcbodpjidoanaa
open Go.RowKit

set_option maxRecDepth 100000 in
set_option maxHeartbeats 1000000 in
theorem rbright_any (L H : Option Addr) (lo hi : List Int) (dl sh : Nat) (d : Int) (w : World) (hL : Arr w w.heap.size L lo.length (i64s lo)) (hH : Arr w w.heap.size H hi.length (i64s hi)) :
    Calls Try.prog 59 #[.agg #[.slice L lo.length dl, .slice H hi.length sh], .int .i64 d] w fun e w' => e = .returned (.bool (rightB lo hi d)) ∧ Below w.heap.size w w' := by
  have HL := hideP hL; have HH := hideP hH
  clear hL hH
  by_cases h1 : 1 ≤ d
  case neg =>
    have hr := hideP (show rightB lo hi d = false by simp [rightB, h1])
    have t : decide (d < 1) = true := by simp; omega
    go_enter Try.func59, Try.ntmps59
    go_wp2
    go_ret
    exact ⟨by rw [hr.out]; rfl, below_new _ _⟩
  have t1 : decide (d < 1) = false := by simp; omega
  by_cases h2 : d ≤ 8
  case neg =>
    have hr := hideP (show rightB lo hi d = false by simp [rightB, h2])
    have t : decide (8 < d) = true := by simp; omega
    go_enter Try.func59, Try.ntmps59
    go_wp2
    go_ret
    exact ⟨by rw [hr.out]; rfl, below_new _ _⟩
  have t2 : decide (8 < d) = false := by simp; omega
  by_cases h3 : (lo.length : Int) = d
  case neg =>
    have hr := hideP (show rightB lo hi d = false by simp [rightB, h3])
    have t : ((lo.length : Int) != d) = true := by simp [h3]
    clear h3
    go_enter Try.func59, Try.ntmps59
    go_wp2
    go_ret
    exact ⟨by rw [hr.out]; rfl, below_new _ _⟩
  have t3 : ((lo.length : Int) != d) = false := by simp [h3]
  by_cases h4 : (hi.length : Int) = d
  case neg =>
    have hr := hideP (show rightB lo hi d = false by simp [rightB, h4])
    have t : ((hi.length : Int) != d) = true := by simp [h4]
    clear h3 h4
    go_enter Try.func59, Try.ntmps59
    go_wp2
    go_ret
    exact ⟨by rw [hr.out]; rfl, below_new _ _⟩
  have t4 : ((hi.length : Int) != d) = false := by simp [h4]
  obtain ⟨n, hn⟩ : ∃ n, n = lo.length := ⟨_, rfl⟩
  have hm : hi.length = n := by omega
  obtain rfl : d = n := by omega
  have hr := hideP (show rightB lo hi n = leAll lo hi n by unfold rightB; simp only [decide_true, Bool.true_and, hn ▸ h1, h2, ← hn, hm, decide_eq_true h1])
  have h8 : n ≤ 8 := by omega
  rw [hm] at HH t4 ⊢
  rw [← hn] at HL t3 ⊢
  clear h1 h2 h3 h4 hn hm
  go_enter Try.func59, Try.ntmps59
  go_wp2_with fail
  obtain ⟨w1, hw1⟩ : ∃ w1, w1 = w.alloc (Obj.cells #[.slice L n dl, .slice H n sh] 41) := ⟨_, rfl⟩
  have c1 := hideP (show Two w1 w.heap.size 41 (.slice L n dl) (.slice H n sh) by rw [hw1]; exact Two.new _ _ _ _)
  have cb := hideP (show Below w.heap.size w w1 by rw [hw1]; exact below_new _ _)
  rw [← hw1]
  clear hw1
  go_loopw [5] (fun v5 wr => ∃ k : Nat, k ≤ n ∧ v5 = .int .i64 k ∧ Hid (leAll lo hi k = true ∧ Two wr w.heap.size 41 (.slice L n dl) (.slice H n sh) ∧ Below w.heap.size w wr)) (fun v5 _ => n - (intOf v5).toNat)
  case atStart => exact ⟨0, by omega, rfl, rfl, c1.out, cb.out⟩
  case round =>
    obtain ⟨k, hk, rfl, hW⟩ := hrel
    clear c1 cb
    by_cases hlt : k < n
    · have t' : decide ((k : Int) < n) = true := by simp; omega
      obtain ⟨b, off, rfl, hb, hc⟩ := (HL.out.below hW.out.2.2) (by omega)
      obtain ⟨b', off', rfl, hb', hc'⟩ := (HH.out.below hW.out.2.2) (by omega)
      have k1 := hc k hlt
      have k2 := hc' k hlt
      unfold i64s at k1 k2
      have kc10 := hW.out.2.1.c0
      have kc11 := hW.out.2.1.c1
      have hst : leAll lo hi (k + 1) = (leAll lo hi k && decide (lo.getD k 0 ≤ hi.getD k 0)) := range_all_succ _ k
      have hfl := fun h : decide (lo.getD k 0 ≤ hi.getD k 0) = false => (show leAll lo hi n = false from range_all_false _ n k hlt h)
      obtain ⟨x, ex⟩ : ∃ x, x = lo.getD k 0 := ⟨_, rfl⟩
      obtain ⟨y, ey⟩ : ∃ y, y = hi.getD k 0 := ⟨_, rfl⟩
      rw [← ex] at k1 hst hfl
      rw [← ey] at k2 hst hfl
      rw [hW.out.1, Bool.true_and] at hst
      clear ex ey hc hc' hb hb'
      by_cases hxy : x ≤ y
      · have t : decide (y < x) = false := by simp; omega
        have hs := hideP (show leAll lo hi (k + 1) = true by rw [hst]; simp [hxy])
        clear hst hfl hxy
        go_wp2
        refine wp_region_eager 11 [(true, 0), (true, 1), (true, 2), (true, 3), (true, 4), (true, 5), (true, 6), (true, 7), (true, 8), (true, 9), (true, 10)] (by kernel_rfl) (by kernel_rfl) ?_
        simp only [pick, List.map_cons, List.map_nil, nthO_zero, nthO_succ]
        repeat (first
          | (refine wpPlan_skipK (by rfl) (fun K hK => ?_); go_simp; refine hK _ ?_; clear hK K)
          | (refine wpPlan_valK (by rfl) (fun K hK => ?_); apply Exists.intro; refine ⟨fun W hW => ?_, ?_⟩; (focus (have hs0 := hW.cell k1; have hs1 := hW.cell k2; have hs2 := hW.cell kc10; have hs3 := hW.cell kc11; go_simp; (try rfl); done)); go_simp; refine hK _ ?_; clear hK K))
        refine wpPlan_nil (fun W1 hW0 => ?_)
        simp only [List.drop_succ_cons, List.drop_zero, List.drop_nil]
        have c1 := hideP (hW.out.2.1.ext hW0.drew_left)
        have cb := hideP (below_ext hW.out.2.2 hW0.drew_left)
        clear hW hW0 k1 k2 kc10 kc11
        go_wp2
        go_roundw
        case rel => exact ⟨k + 1, by omega, by go_num, hs.out, c1.out, cb.out⟩
        case measure => simp [intOf]; omega
      · have t : decide (y < x) = true := by simp; omega
        have hs := hideP (hfl (by simp; omega))
        clear hst hfl hxy
        go_wp2
        refine wp_region_eager 11 [(true, 0), (true, 1), (true, 2), (true, 3), (true, 4), (true, 5), (true, 6), (true, 7), (true, 8), (true, 9), (true, 10)] (by kernel_rfl) (by kernel_rfl) ?_
        simp only [pick, List.map_cons, List.map_nil, nthO_zero, nthO_succ]
        repeat (first
          | (refine wpPlan_skipK (by rfl) (fun K hK => ?_); go_simp; refine hK _ ?_; clear hK K)
          | (refine wpPlan_valK (by rfl) (fun K hK => ?_); apply Exists.intro; refine ⟨fun W hW => ?_, ?_⟩; (focus (have hs0 := hW.cell k1; have hs1 := hW.cell k2; have hs2 := hW.cell kc10; have hs3 := hW.cell kc11; go_simp; (try rfl); done)); go_simp; refine hK _ ?_; clear hK K))
        refine wpPlan_nil (fun W1 hW0 => ?_)
        simp only [List.drop_succ_cons, List.drop_zero, List.drop_nil]
        have cb := hideP (below_ext hW.out.2.2 hW0.drew_left)
        clear hW hW0 k1 k2 kc10 kc11
        go_wp2
        go_ret
        exact ⟨by rw [hr.out, hs.out]; rfl, cb.out⟩
    · have t' : decide ((k : Int) < n) = false := by simp; omega
      obtain rfl : k = n := by omega
      go_wp2
      go_ret
      exact ⟨by rw [hr.out, hW.out.1]; rfl, hW.out.2.2⟩
/-- a box has a point -/
def hasB (lo hi p : List Int) : Bool := rightB lo hi p.length && (List.range p.length).all fun i => decide (lo.getD i 0 ≤ p.getD i 0) && decide (p.getD i 0 ≤ hi.getD i 0)
set_option maxRecDepth 100000 in
set_option maxHeartbeats 4000000 in
theorem rhas_any (L H P : Option Addr) (lo hi p : List Int) (dl sh c : Nat) (w : World) (hL : Arr w w.heap.size L lo.length (i64s lo)) (hH : Arr w w.heap.size H hi.length (i64s hi)) (hP : Arr w w.heap.size P p.length (i64s p)) (hn : p.length ≤ 17592186043904) :
    Calls Try.prog 29 #[.agg #[.slice L lo.length dl, .slice H hi.length sh], .slice P p.length c] w fun e w' => e = .returned (.bool (hasB lo hi p)) ∧ Below w.heap.size w w' := by
  have t1 := fun W h h' => rbright_any L H lo hi dl sh p.length W h h'
  obtain ⟨o, ho⟩ : ∃ o, o = rightB lo hi p.length := ⟨_, rfl⟩
  have hb := hideP (show hasB lo hi p = (o && (List.range p.length).all fun i => decide (lo.getD i 0 ≤ p.getD i 0) && decide (p.getD i 0 ≤ hi.getD i 0)) by unfold hasB; rw [ho])
  have hlen : o = true → lo.length = p.length ∧ hi.length = p.length := fun h => by
    rw [ho] at h; have := rightB_len h; omega
  rw [← ho] at t1
  clear ho
  have Ht1 := hideP t1; have HhL := hideP hL; have HhH := hideP hH; have HhP := hideP hP; have Hhlen := hideP hlen; clear t1 hL hH hP hlen
  go_enter Try.func29, Try.ntmps29
  go_wp2_with fail
  obtain ⟨w1, hw1⟩ : ∃ w1, w1 = w.alloc (Obj.cells #[.slice L lo.length dl, .slice H hi.length sh] 41) := ⟨_, rfl⟩
  have c1 := hideP (show Two w1 w.heap.size 41 (.slice L lo.length dl) (.slice H hi.length sh) by rw [hw1]; exact Two.new _ _ _ _)
  have cb := hideP (show Below w.heap.size w w1 by rw [hw1]; exact below_new _ _)
  rw [← hw1]
  clear hw1
  refine (Ht1.out w1 (HhL.out.after cb.out) (HhH.out.after cb.out)).mono ?_
  rintro e w2 ⟨rfl, hb_⟩
  replace c1 := hideP (c1.out.after hb_)
  replace cb := hideP (bstep cb.out hb_)
  clear hb_
  cases o
  · go_wp2
    go_ret
    exact ⟨by rw [hb.out]; rfl, cb.out⟩
  obtain ⟨e1, e2⟩ := Hhlen.out rfl
  rw [e1] at HhL c1
  rw [e2] at HhH c1
  rw [e1, e2]
  clear e1 e2 Hhlen
  obtain ⟨n, hn'⟩ : ∃ n, n = p.length := ⟨_, rfl⟩
  rw [← hn'] at HhL HhH HhP c1 hb hn ⊢
  rw [Bool.true_and] at hb
  clear hn'
  go_wp2
  go_loopw [5] (fun v5 wr => ∃ k : Nat, k ≤ n ∧ v5 = .int .i64 k ∧ Hid ((List.range k).all (fun i => decide (lo.getD i 0 ≤ p.getD i 0) && decide (p.getD i 0 ≤ hi.getD i 0)) = true ∧ Two wr w.heap.size 41 (.slice L n dl) (.slice H n sh) ∧ Below w.heap.size w wr)) (fun v5 _ => n - (intOf v5).toNat)
  case atStart => exact ⟨0, by omega, rfl, rfl, c1.out, cb.out⟩
  case round =>
    obtain ⟨k, hk, rfl, hW⟩ := hrel
    clear c1 cb
    by_cases hlt : k < n
    · have t' : decide ((k : Int) < n) = true := by simp; omega
      obtain ⟨b, off, rfl, hb1, hc⟩ := (HhL.out.below hW.out.2.2) (by omega)
      obtain ⟨b', off', rfl, hb', hc'⟩ := (HhH.out.below hW.out.2.2) (by omega)
      obtain ⟨b2, off2, rfl, hb2, hc2⟩ := (HhP.out.below hW.out.2.2) (by omega)
      have k1 := hc k hlt
      have k2 := hc' k hlt
      have k3 := hc2 k hlt
      unfold i64s at k1 k2 k3
      have kc10 := hW.out.2.1.c0
      have kc11 := hW.out.2.1.c1
      have hst := range_all_succ (fun i => decide (lo.getD i 0 ≤ p.getD i 0) && decide (p.getD i 0 ≤ hi.getD i 0)) k
      have hfl := range_all_false (fun i => decide (lo.getD i 0 ≤ p.getD i 0) && decide (p.getD i 0 ≤ hi.getD i 0)) n k hlt
      rw [hW.out.1, Bool.true_and] at hst
      (try dsimp only at hst); (try dsimp only at hfl)
      obtain ⟨x, ex⟩ : ∃ x, x = lo.getD k 0 := ⟨_, rfl⟩
      obtain ⟨y, ey⟩ : ∃ y, y = hi.getD k 0 := ⟨_, rfl⟩
      obtain ⟨z, ez⟩ : ∃ y, y = p.getD k 0 := ⟨_, rfl⟩
      rw [← ex, ← ez] at hst hfl
      rw [← ex] at k1
      rw [← ey] at k2 hst hfl
      rw [← ez] at k3
      clear ex ey ez hc hc' hc2 hb1 hb' hb2
      have hcase : (decide (z < x) = true ∧ (decide (x ≤ z) && decide (z ≤ y)) = false) ∨ (decide (z < x) = false ∧ decide (y < z) = true ∧ (decide (x ≤ z) && decide (z ≤ y)) = false) ∨ (decide (z < x) = false ∧ decide (y < z) = false ∧ (decide (x ≤ z) && decide (z ≤ y)) = true) := by
        simp only [Bool.and_eq_true, Bool.and_eq_false_iff, decide_eq_true_eq, decide_eq_false_iff_not]; omega
      rcases hcase with ⟨t1, h⟩ | ⟨t1, t2, h⟩ | ⟨t1, t2, h⟩
      · have hs := hideP (hfl h)
        clear hst hfl h
        go_wp2
        refine wp_region_eager 22 [(true, 0), (true, 1), (true, 2), (true, 3), (true, 4), (true, 5), (true, 6), (true, 7), (true, 8), (true, 9), (true, 10), (true, 11), (true, 12), (true, 13), (true, 14), (true, 15), (true, 16), (true, 17), (true, 18), (true, 19), (true, 20), (true, 21)] (by kernel_rfl) (by kernel_rfl) ?_
        simp only [pick, List.map_cons, List.map_nil, nthO_zero, nthO_succ]
        repeat (first
          | (refine wpPlan_skipK (by rfl) (fun K hK => ?_); go_simp; refine hK _ ?_; clear hK K)
          | (refine wpPlan_valK (by rfl) (fun K hK => ?_); apply Exists.intro; refine ⟨fun W hW => ?_, ?_⟩; (focus (have hs0 := hW.cell k1; have hs1 := hW.cell k2; have hs2 := hW.cell k3; have hs3 := hW.cell kc10; have hs4 := hW.cell kc11; go_simp; (try rfl); done)); go_simp; refine hK _ ?_; clear hK K))
        refine wpPlan_nil (fun W1 hW0 => ?_)
        simp only [List.drop_succ_cons, List.drop_zero, List.drop_nil]
        have cb := hideP (below_ext hW.out.2.2 hW0.drew_left)
        clear hW hW0 k1 k2 k3 kc10 kc11
        go_wp2
        go_ret
        exact ⟨by rw [hb.out, hs.out]; rfl, cb.out⟩
      · have hs := hideP (hfl h)
        clear hst hfl h
        go_wp2
        refine wp_region_eager 22 [(true, 0), (true, 1), (true, 2), (true, 3), (true, 4), (true, 5), (true, 6), (true, 7), (true, 8), (true, 9), (true, 10), (true, 11), (true, 12), (true, 13), (true, 14), (true, 15), (true, 16), (true, 17), (true, 18), (true, 19), (true, 20), (true, 21)] (by kernel_rfl) (by kernel_rfl) ?_
        simp only [pick, List.map_cons, List.map_nil, nthO_zero, nthO_succ]
        repeat (first
          | (refine wpPlan_skipK (by rfl) (fun K hK => ?_); go_simp; refine hK _ ?_; clear hK K)
          | (refine wpPlan_valK (by rfl) (fun K hK => ?_); apply Exists.intro; refine ⟨fun W hW => ?_, ?_⟩; (focus (have hs0 := hW.cell k1; have hs1 := hW.cell k2; have hs2 := hW.cell k3; have hs3 := hW.cell kc10; have hs4 := hW.cell kc11; go_simp; (try rfl); done)); go_simp; refine hK _ ?_; clear hK K))
        refine wpPlan_nil (fun W1 hW0 => ?_)
        simp only [List.drop_succ_cons, List.drop_zero, List.drop_nil]
        have cb := hideP (below_ext hW.out.2.2 hW0.drew_left)
        clear hW hW0 k1 k2 k3 kc10 kc11
        go_wp2
        go_ret
        exact ⟨by rw [hb.out, hs.out]; rfl, cb.out⟩
      · have hs := hideP (hst.trans h)
        clear hst hfl h
        go_wp2
        refine wp_region_eager 22 [(true, 0), (true, 1), (true, 2), (true, 3), (true, 4), (true, 5), (true, 6), (true, 7), (true, 8), (true, 9), (true, 10), (true, 11), (true, 12), (true, 13), (true, 14), (true, 15), (true, 16), (true, 17), (true, 18), (true, 19), (true, 20), (true, 21)] (by kernel_rfl) (by kernel_rfl) ?_
        simp only [pick, List.map_cons, List.map_nil, nthO_zero, nthO_succ]
        repeat (first
          | (refine wpPlan_skipK (by rfl) (fun K hK => ?_); go_simp; refine hK _ ?_; clear hK K)
          | (refine wpPlan_valK (by rfl) (fun K hK => ?_); apply Exists.intro; refine ⟨fun W hW => ?_, ?_⟩; (focus (have hs0 := hW.cell k1; have hs1 := hW.cell k2; have hs2 := hW.cell k3; have hs3 := hW.cell kc10; have hs4 := hW.cell kc11; go_simp; (try rfl); done)); go_simp; refine hK _ ?_; clear hK K))
        refine wpPlan_nil (fun W1 hW0 => ?_)
        simp only [List.drop_succ_cons, List.drop_zero, List.drop_nil]
        have c1 := hideP (hW.out.2.1.ext hW0.drew_left)
        have cb := hideP (below_ext hW.out.2.2 hW0.drew_left)
        clear hW hW0 k1 k2 k3 kc10 kc11
        go_wp2
        go_roundw
        case rel => exact ⟨k + 1, by omega, by go_num, hs.out, c1.out, cb.out⟩
        case measure => simp [intOf]; omega
    · have t' : decide ((k : Int) < n) = false := by simp; omega
      obtain rfl : k = n := by omega
      go_wp2
      go_ret
      exact ⟨by rw [hb.out, hW.out.1]; rfl, hW.out.2.2⟩
end Go.Proofs.Ytgcbodpjidoanaa
namespace Go.Proofs.Ytgcbodpjidoanaa
open Go.RowKit
def kidZ : KidD := ⟨List.replicate 32 0, [], [], 0, 0, []⟩
def kidPZ : KidP := ⟨none, 0, none, 0, none, 0⟩
theorem kidC_lit : (kidC kidZ kidPZ).toArray = #[.int .u8 0, .int .u8 0, .int .u8 0, .int .u8 0, .int .u8 0, .int .u8 0, .int .u8 0, .int .u8 0, .int .u8 0, .int .u8 0, .int .u8 0, .int .u8 0, .int .u8 0, .int .u8 0, .int .u8 0, .int .u8 0, .int .u8 0, .int .u8 0, .int .u8 0, .int .u8 0, .int .u8 0, .int .u8 0, .int .u8 0, .int .u8 0, .int .u8 0, .int .u8 0, .int .u8 0, .int .u8 0, .int .u8 0, .int .u8 0, .int .u8 0, .int .u8 0, .slice none 0 0, .slice none 0 0, .int .i64 0, .int .i64 0, .slice none 0 0] := rfl
theorem kidZ_ok : KidOk kidZ := ⟨rfl, fun i => by unfold kidZ; simp only [List.getD, List.getElem?_replicate]; split <;> decide, fun i => by simp [kidZ], fun i => by simp [kidZ], fun i => by simp [kidZ], by decide, by decide, by decide, by decide, by decide⟩
theorem kidZ_mem (w : World) (B : Nat) : KidMem w B kidZ kidPZ := ⟨Arr.none_, Arr.none_, Arr.none_⟩
set_option maxRecDepth 100000 in
set_option maxHeartbeats 2000000 in
theorem nempty_any (k : KidD) (p : KidP) (w : World) (hk : KidOk k) (hm : KidMem w w.heap.size k p) :
    Calls Try.prog 24 #[.agg (kidC k p).toArray] w fun e w' => e = .returned (.bool (decide (k = kidZ))) ∧ Below w.heap.size w w' := by
  have hT := hideP (fun W (hW : Below w.heap.size w W) => nsame_any k kidZ p kidPZ W hk kidZ_ok (hm.after hW) (kidZ_mem _ _))
  have hs := hideP (size_k37 (hk.cells p))
  obtain ⟨E, hE⟩ : ∃ E, E = decide (k = kidZ) := ⟨_, rfl⟩
  obtain ⟨C, hC⟩ : ∃ C, C = kidC k p := ⟨_, rfl⟩
  rw [← hE, ← hC, kidC_lit] at hT
  rw [← hC] at hs ⊢
  rw [← hE]
  have r0 := hideP (Row.new w 43 C)
  have hb := hideP (below_new w (.cells C.toArray 43))
  clear hE hC hm hk
  go_enter Try.func24, Try.ntmps24
  go_wp2_with (first
    | (refine wpList_load_row rfl 43 (.tmp 1) rfl w.heap.size rfl 43 C.toArray (0, 0) _ r0.out Try.underlying43 rfl hs.out ?_)
    | (go_at_call 22; refine (hT.out _ hb.out).mono ?_; rintro e w1 ⟨rfl, b_⟩; have B1 := hideP (bstep hb.out b_); clear b_))
  go_ret
  exact ⟨rfl, B1.out⟩
set_option maxRecDepth 100000 in
set_option maxHeartbeats 2000000 in
theorem rnempty_any (k : KidD) (p : KidP) (w : World) (hk : KidOk k) (hm : KidMem w w.heap.size k p) :
    Calls Try.prog 25 #[.agg (kidC k p).toArray] w fun e w' => e = .returned (.bool (decide (k = kidZ))) ∧ Below w.heap.size w w' := by
  have hT := hideP (fun W (hW : Below w.heap.size w W) => rnsame_any k kidZ p kidPZ W hk kidZ_ok (hm.after hW) (kidZ_mem _ _))
  have hs := hideP (size_k37 (hk.cells p))
  obtain ⟨E, hE⟩ : ∃ E, E = decide (k = kidZ) := ⟨_, rfl⟩
  obtain ⟨C, hC⟩ : ∃ C, C = kidC k p := ⟨_, rfl⟩
  rw [← hE, ← hC, kidC_lit] at hT
  rw [← hC] at hs ⊢
  rw [← hE]
  have r0 := hideP (Row.new w 43 C)
  have hb := hideP (below_new w (.cells C.toArray 43))
  clear hE hC hm hk
  go_enter Try.func25, Try.ntmps25
  go_wp2_with (first
    | (refine wpList_load_row rfl 43 (.tmp 1) rfl w.heap.size rfl 43 C.toArray (0, 0) _ r0.out Try.underlying43 rfl hs.out ?_)
    | (go_at_call 23; refine (hT.out _ hb.out).mono ?_; rintro e w1 ⟨rfl, b_⟩; have B1 := hideP (bstep hb.out b_); clear b_))
  go_ret
  exact ⟨rfl, B1.out⟩
/-- may a kid be? -/
def kidR (k : KidD) (d : Int) : Bool := decide (k = kidZ) || (decide (1 ≤ k.size) && (decide (k.size ≤ 1048576) && (decide (0 ≤ k.live) && (decide (k.live ≤ k.size) && (if k.live = 0 then decide (k.lo.length = 0) && decide (k.hi.length = 0) else rightB k.lo k.hi d)))))
set_option maxRecDepth 100000 in
set_option maxHeartbeats 2000000 in
theorem nkidright_any (k : KidD) (p : KidP) (d : Int) (w : World) (hk : KidOk k) (hm : KidMem w w.heap.size k p) :
    Calls Try.prog 20 #[.agg (kidC k p).toArray, .int .i64 d] w fun e w' => e = .returned (.bool (kidR k d)) ∧ Below w.heap.size w w' := by
  have hT := hideP (fun W (hW : Below w.heap.size w W) => nempty_any k p W hk (hm.after hW))
  have hBx := hideP (fun W (hW : Below w.heap.size w W) => right_any p.lA p.hA k.lo k.hi p.lc p.hc d W (hm.after hW).lo (hm.after hW).hi)
  have hs := hideP (size_k37 (hk.cells p))
  have hbl := hideP (And.intro hk.lo hk.hi)
  obtain ⟨E, hE⟩ : ∃ E, E = decide (k = kidZ) := ⟨_, rfl⟩
  have hR := hideP (show kidR k d = (E || (decide (1 ≤ k.size) && (decide (k.size ≤ 1048576) && (decide (0 ≤ k.live) && (decide (k.live ≤ k.size) && (if k.live = 0 then decide (k.lo.length = 0) && decide (k.hi.length = 0) else rightB k.lo k.hi d)))))) by rw [hE]; rfl)
  obtain ⟨v, hv⟩ : ∃ v, v = w.alloc (.cells (kidC k p).toArray 43) := ⟨_, rfl⟩
  obtain ⟨g, hg⟩ : ∃ g, g = w.heap.size := ⟨_, rfl⟩
  have X := hideP (show Row v g 43 (kidC k p) by rw [hv, hg]; exact Row.new w 43 (kidC k p))
  have B := hideP (show Below w.heap.size w v by rw [hv]; exact below_new _ _)
  have x0 := hideP (fun W (hW : Ext v W) => show W.cell? ⟨g, 32, none⟩ = some (.slice p.lA k.lo.length p.lc) from kid_at hk (Row.range (Row.ext X.out hW)) 0 rfl)
  have x1 := hideP (fun W (hW : Ext v W) => show W.cell? ⟨g, 33, none⟩ = some (.slice p.hA k.hi.length p.hc) from kid_at hk (Row.range (Row.ext X.out hW)) 1 rfl)
  have x2 := hideP (fun W (hW : Ext v W) => show W.cell? ⟨g, 34, none⟩ = some (.int .i64 k.live) from kid_at hk (Row.range (Row.ext X.out hW)) 2 rfl)
  have x3 := hideP (fun W (hW : Ext v W) => show W.cell? ⟨g, 35, none⟩ = some (.int .i64 k.size) from kid_at hk (Row.range (Row.ext X.out hW)) 3 rfl)
  obtain ⟨C, hC⟩ : ∃ C, C = kidC k p := ⟨_, rfl⟩
  obtain ⟨RB, hRB⟩ : ∃ C, C = rightB k.lo k.hi d := ⟨_, rfl⟩
  obtain ⟨live, q1⟩ : ∃ z, z = k.live := ⟨_, rfl⟩
  obtain ⟨sz, q2⟩ : ∃ z, z = k.size := ⟨_, rfl⟩
  obtain ⟨nl, q3⟩ : ∃ z, z = k.lo.length := ⟨_, rfl⟩
  obtain ⟨nh, q4⟩ : ∃ z, z = k.hi.length := ⟨_, rfl⟩
  obtain ⟨RS, q5⟩ : ∃ z, z = kidR k d := ⟨_, rfl⟩
  rw [← hC] at hv hT hs X ⊢
  rw [← hE] at hT
  rw [← hRB] at hBx hR
  rw [← q1, ← q2, ← q3, ← q4, ← q5] at hR
  rw [← q3, ← q4] at hBx
  rw [← q3, ← q4] at hbl
  rw [← q3] at x0; rw [← q4] at x1; rw [← q1] at x2; rw [← q2] at x3
  rw [← q5]
  have Hv := hideP hv
  clear hE hC hRB q1 q2 q3 q4 q5 hv hm hk
  go_enter Try.func20, Try.ntmps20
  go_upto_region 1 with fail
  rw [← Hv.out, ← hg]
  clear hg Hv
  rcases E with _ | _
  · go_upto_region 3 with (first
      | (refine wpList_load_row rfl 43 (.tmp 2) rfl g rfl 43 C.toArray (0, 0) _ X.out Try.underlying43 rfl hs.out ?_)
      | (go_at_call 24; refine (hT.out _ B.out).mono ?_; rintro e w1 ⟨rfl, b_⟩; have B1 := hideP (bstep B.out b_); have k0 := x0.out w1 (Ext.of_below b_); have k1 := x1.out w1 (Ext.of_below b_); have k2 := x2.out w1 (Ext.of_below b_); have k3 := x3.out w1 (Ext.of_below b_); clear b_))
    by_cases h1 : 1 ≤ sz
    case neg =>
      have e1 : decide (sz < 1) = true := by simp; omega
      have hr := hideP (show RS = false by rw [hR.out]; simp [h1])
      clear h1
      go_wp2_with fail
      go_ret
      exact ⟨by rw [hr.out]; rfl, B1.out⟩
    have e1 : decide (sz < 1) = false := by simp; omega
    by_cases h2 : sz ≤ 1048576
    case neg =>
      have e2 : decide (1048576 < sz) = true := by simp; omega
      have hr := hideP (show RS = false by rw [hR.out]; simp [h2])
      clear h1 h2
      go_wp2_with fail
      go_ret
      exact ⟨by rw [hr.out]; rfl, B1.out⟩
    have e2 : decide (1048576 < sz) = false := by simp; omega
    by_cases h3 : 0 ≤ live
    case neg =>
      have e3 : decide (live < 0) = true := by simp; omega
      have hr := hideP (show RS = false by rw [hR.out]; simp [h3])
      clear h1 h2 h3
      go_wp2_with fail
      go_ret
      exact ⟨by rw [hr.out]; rfl, B1.out⟩
    have e3 : decide (live < 0) = false := by simp; omega
    by_cases h4 : live ≤ sz
    case neg =>
      have e4 : decide (sz < live) = true := by simp; omega
      have hr := hideP (show RS = false by rw [hR.out]; simp [h4])
      clear h1 h2 h3 h4
      go_wp2_with fail
      go_ret
      exact ⟨by rw [hr.out]; rfl, B1.out⟩
    have e4 : decide (sz < live) = false := by simp; omega
    by_cases h5 : live = 0
    · have hr := hideP (show RS = (decide (nl = 0) && decide (nh = 0)) by rw [hR.out]; simp [h1, h2, h3, h4, h5]; (try (intros; omega)))
      have e5 : (live == 0) = true := by simp [h5]
      clear h1 h2 h3 h4 h5
      by_cases h6 : nl = 0
      · have e6 : ((nl : Int) == 0) = true := by simp [h6]
        by_cases h7 : nh = 0
        · have e7 : ((nh : Int) == 0) = true := by simp [h7]
          have hr2 := hideP (show RS = true by rw [hr.out]; simp [h6, h7])
          skip
          clear h6 h7
          go_wp2_with fail
          go_ret
          exact ⟨by rw [hr2.out]; rfl, B1.out⟩
        · have e7 : ((nh : Int) == 0) = false := by simp [h7]
          have hr2 := hideP (show RS = false by rw [hr.out]; simp [h7])
          skip
          clear h6 h7
          go_wp2_with fail
          go_ret
          exact ⟨by rw [hr2.out]; rfl, B1.out⟩
      · have e6 : ((nl : Int) == 0) = false := by simp [h6]
        have hr2 := hideP (show RS = false by rw [hr.out]; simp [h6])
        skip
        clear h6
        go_wp2_with fail
        go_ret
        exact ⟨by rw [hr2.out]; rfl, B1.out⟩
    · have hr := hideP (show RS = RB by rw [hR.out]; simp [h1, h2, h3, h4, h5])
      have e5 : (live == 0) = false := by simp [h5]
      clear h1 h2 h3 h4 h5
      go_wp2_with (go_at_call 102; refine (hBx.out w1 B1.out).mono ?_; rintro e w2 ⟨rfl, b_⟩; have B2 := hideP (bstep B1.out b_); clear b_)
      go_ret
      exact ⟨by rw [hr.out]; rfl, B2.out⟩
  · have hr := hideP (show RS = true by rw [hR.out]; rfl)
    go_wp2_with (first
      | (refine wpList_load_row rfl 43 (.tmp 2) rfl g rfl 43 C.toArray (0, 0) _ X.out Try.underlying43 rfl hs.out ?_)
      | (go_at_call 24; refine (hT.out _ B.out).mono ?_; rintro e w1 ⟨rfl, b_⟩; have B1 := hideP (bstep B.out b_); clear b_))
    go_ret
    exact ⟨by rw [hr.out]; rfl, B1.out⟩
theorem sum_zero {a b : Nat} (h : a ≤ 1000000 ∧ b ≤ 1000000) (ha : a = 0) (hb : b = 0) : (wrap64 ((a : Int) + (b : Int)) == 0) = true := by
  rw [IntWalk.wrap64_in _ (by omega)]; simp; omega
theorem sum_some {a b : Nat} (h : a ≤ 1000000 ∧ b ≤ 1000000) (hab : ¬ a = 0 ∨ ¬ b = 0) : (wrap64 ((a : Int) + (b : Int)) == 0) = false := by
  rw [IntWalk.wrap64_in _ (by omega)]; simp; omega
set_option maxRecDepth 100000 in
set_option maxHeartbeats 2000000 in
theorem rnkidright_any (k : KidD) (p : KidP) (d : Int) (w : World) (hk : KidOk k) (hm : KidMem w w.heap.size k p) :
    Calls Try.prog 21 #[.agg (kidC k p).toArray, .int .i64 d] w fun e w' => e = .returned (.bool (kidR k d)) ∧ Below w.heap.size w w' := by
  have hT := hideP (fun W (hW : Below w.heap.size w W) => rnempty_any k p W hk (hm.after hW))
  have hBx := hideP (fun W (hW : Below w.heap.size w W) => rbright_any p.lA p.hA k.lo k.hi p.lc p.hc d W (hm.after hW).lo (hm.after hW).hi)
  have hs := hideP (size_k37 (hk.cells p))
  have hbl := hideP (And.intro hk.lo hk.hi)
  obtain ⟨E, hE⟩ : ∃ E, E = decide (k = kidZ) := ⟨_, rfl⟩
  have hR := hideP (show kidR k d = (E || (decide (1 ≤ k.size) && (decide (k.size ≤ 1048576) && (decide (0 ≤ k.live) && (decide (k.live ≤ k.size) && (if k.live = 0 then decide (k.lo.length = 0) && decide (k.hi.length = 0) else rightB k.lo k.hi d)))))) by rw [hE]; rfl)
  obtain ⟨v, hv⟩ : ∃ v, v = w.alloc (.cells (kidC k p).toArray 43) := ⟨_, rfl⟩
  obtain ⟨g, hg⟩ : ∃ g, g = w.heap.size := ⟨_, rfl⟩
  have X := hideP (show Row v g 43 (kidC k p) by rw [hv, hg]; exact Row.new w 43 (kidC k p))
  have B := hideP (show Below w.heap.size w v by rw [hv]; exact below_new _ _)
  have x0 := hideP (fun W (hW : Ext v W) => show W.cell? ⟨g, 32, none⟩ = some (.slice p.lA k.lo.length p.lc) from kid_at hk (Row.range (Row.ext X.out hW)) 0 rfl)
  have x1 := hideP (fun W (hW : Ext v W) => show W.cell? ⟨g, 33, none⟩ = some (.slice p.hA k.hi.length p.hc) from kid_at hk (Row.range (Row.ext X.out hW)) 1 rfl)
  have x2 := hideP (fun W (hW : Ext v W) => show W.cell? ⟨g, 34, none⟩ = some (.int .i64 k.live) from kid_at hk (Row.range (Row.ext X.out hW)) 2 rfl)
  have x3 := hideP (fun W (hW : Ext v W) => show W.cell? ⟨g, 35, none⟩ = some (.int .i64 k.size) from kid_at hk (Row.range (Row.ext X.out hW)) 3 rfl)
  obtain ⟨C, hC⟩ : ∃ C, C = kidC k p := ⟨_, rfl⟩
  obtain ⟨RB, hRB⟩ : ∃ C, C = rightB k.lo k.hi d := ⟨_, rfl⟩
  obtain ⟨live, q1⟩ : ∃ z, z = k.live := ⟨_, rfl⟩
  obtain ⟨sz, q2⟩ : ∃ z, z = k.size := ⟨_, rfl⟩
  obtain ⟨nl, q3⟩ : ∃ z, z = k.lo.length := ⟨_, rfl⟩
  obtain ⟨nh, q4⟩ : ∃ z, z = k.hi.length := ⟨_, rfl⟩
  obtain ⟨RS, q5⟩ : ∃ z, z = kidR k d := ⟨_, rfl⟩
  rw [← hC] at hv hT hs X ⊢
  rw [← hE] at hT
  rw [← hRB] at hBx hR
  rw [← q1, ← q2, ← q3, ← q4, ← q5] at hR
  rw [← q3, ← q4] at hBx
  rw [← q3, ← q4] at hbl
  rw [← q3] at x0; rw [← q4] at x1; rw [← q1] at x2; rw [← q2] at x3
  rw [← q5]
  have Hv := hideP hv
  clear hE hC hRB q1 q2 q3 q4 q5 hv hm hk
  go_enter Try.func21, Try.ntmps21
  go_upto_region 1 with fail
  rw [← Hv.out, ← hg]
  clear hg Hv
  rcases E with _ | _
  · go_upto_region 3 with (first
      | (refine wpList_load_row rfl 43 (.tmp 2) rfl g rfl 43 C.toArray (0, 0) _ X.out Try.underlying43 rfl hs.out ?_)
      | (go_at_call 25; refine (hT.out _ B.out).mono ?_; rintro e w1 ⟨rfl, b_⟩; have B1 := hideP (bstep B.out b_); have k0 := x0.out w1 (Ext.of_below b_); have k1 := x1.out w1 (Ext.of_below b_); have k2 := x2.out w1 (Ext.of_below b_); have k3 := x3.out w1 (Ext.of_below b_); clear b_))
    by_cases h1 : 1 ≤ sz
    case neg =>
      have e1 : decide (sz < 1) = true := by simp; omega
      have hr := hideP (show RS = false by rw [hR.out]; simp [h1])
      clear h1
      go_wp2_with fail
      go_ret
      exact ⟨by rw [hr.out]; rfl, B1.out⟩
    have e1 : decide (sz < 1) = false := by simp; omega
    by_cases h2 : sz ≤ 1048576
    case neg =>
      have e2 : decide (1048576 < sz) = true := by simp; omega
      have hr := hideP (show RS = false by rw [hR.out]; simp [h2])
      clear h1 h2
      go_wp2_with fail
      go_ret
      exact ⟨by rw [hr.out]; rfl, B1.out⟩
    have e2 : decide (1048576 < sz) = false := by simp; omega
    by_cases h3 : 0 ≤ live
    case neg =>
      have e3 : decide (live < 0) = true := by simp; omega
      have hr := hideP (show RS = false by rw [hR.out]; simp [h3])
      clear h1 h2 h3
      go_wp2_with fail
      go_ret
      exact ⟨by rw [hr.out]; rfl, B1.out⟩
    have e3 : decide (live < 0) = false := by simp; omega
    by_cases h4 : live ≤ sz
    case neg =>
      have e4 : decide (sz < live) = true := by simp; omega
      have hr := hideP (show RS = false by rw [hR.out]; simp [h4])
      clear h1 h2 h3 h4
      go_wp2_with fail
      go_ret
      exact ⟨by rw [hr.out]; rfl, B1.out⟩
    have e4 : decide (sz < live) = false := by simp; omega
    by_cases h5 : live = 0
    · have hr := hideP (show RS = (decide (nl = 0) && decide (nh = 0)) by rw [hR.out]; simp [h1, h2, h3, h4, h5]; (try (intros; omega)))
      have e5 : (live == 0) = true := by simp [h5]
      clear h1 h2 h3 h4 h5
      by_cases h6 : nl = 0
      · have e6 : ((nl : Int) == 0) = true := by simp [h6]
        by_cases h7 : nh = 0
        · have e7 : ((nh : Int) == 0) = true := by simp [h7]
          have hr2 := hideP (show RS = true by rw [hr.out]; simp [h6, h7])
          have hsm := sum_zero hbl.out h6 h7
          clear h6 h7
          go_wp2_with fail
          go_ret
          exact ⟨by rw [hr2.out]; rfl, B1.out⟩
        · have e7 : ((nh : Int) == 0) = false := by simp [h7]
          have hr2 := hideP (show RS = false by rw [hr.out]; simp [h7])
          have hsm := sum_some hbl.out (by omega)
          clear h6 h7
          go_wp2_with fail
          go_ret
          exact ⟨by rw [hr2.out]; rfl, B1.out⟩
      · have e6 : ((nl : Int) == 0) = false := by simp [h6]
        have hr2 := hideP (show RS = false by rw [hr.out]; simp [h6])
        have hsm := sum_some hbl.out (by omega)
        clear h6
        go_wp2_with fail
        go_ret
        exact ⟨by rw [hr2.out]; rfl, B1.out⟩
    · have hr := hideP (show RS = RB by rw [hR.out]; simp [h1, h2, h3, h4, h5])
      have e5 : (live == 0) = false := by simp [h5]
      clear h1 h2 h3 h4 h5
      go_wp2_with (go_at_call 59; refine (hBx.out w1 B1.out).mono ?_; rintro e w2 ⟨rfl, b_⟩; have B2 := hideP (bstep B1.out b_); clear b_)
      go_ret
      exact ⟨by rw [hr.out]; rfl, B2.out⟩
  · have hr := hideP (show RS = true by rw [hR.out]; rfl)
    go_wp2_with (first
      | (refine wpList_load_row rfl 43 (.tmp 2) rfl g rfl 43 C.toArray (0, 0) _ X.out Try.underlying43 rfl hs.out ?_)
      | (go_at_call 25; refine (hT.out _ B.out).mono ?_; rintro e w1 ⟨rfl, b_⟩; have B1 := hideP (bstep B.out b_); clear b_))
    go_ret
    exact ⟨by rw [hr.out]; rfl, B1.out⟩
end Go.Proofs.Ytgcbodpjidoanaa
