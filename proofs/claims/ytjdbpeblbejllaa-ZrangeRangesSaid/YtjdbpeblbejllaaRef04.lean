/- Contracts of the document's package for chapter 4: SameRow, Same. -/
import Derived.Test.YtjdbpeblbejllaaDistLaw
import Derived.Test.YtjdbpeblbejllaaFork
set_option linter.unusedVariables false
set_option linter.unusedSimpArgs false
namespace Go.Proofs.Ytjdbpeblbejllaa
open Go.RowKit
theorem eqTo_all {p q : List Int} (h : q.length = p.length) : eqTo p q p.length = decide (p = q) := by
  rw [Bool.eq_iff_iff, eqTo_iff, decide_eq_true_iff]
  constructor
  · intro he
    refine List.ext_getElem? fun i => ?_
    rcases Nat.lt_or_ge i p.length with hi | hi
    · have := he i hi
      unfold List.getD at this
      rw [List.getElem?_eq_getElem hi, List.getElem?_eq_getElem (by omega)] at this ⊢
      simpa using this
    · simp [hi, h]
  · intro he; subst he; intros; rfl

set_option maxRecDepth 100000 in
set_option maxHeartbeats 1000000 in
theorem sameRow_any (A B : Option Addr) (p q : List Int) (c d : Nat) (w : World) (hA : Arr w w.heap.size A p.length (i64s p)) (hB : Arr w w.heap.size B q.length (i64s q)) (hn : p.length ≤ 17592186043904) :
    Calls Try.prog 60 #[.slice A p.length c, .slice B q.length d] w fun e w' => e = .returned (.bool (decide (p = q))) ∧ Below w.heap.size w w' := by
  by_cases hl : q.length = p.length
  case neg =>
    have t : ((p.length : Int) != q.length) = true := by simp; omega
    have hr := hideP (show decide (p = q) = false by simp; intro h; subst h; exact hl rfl)
    clear hl
    go_enter Try.func60, Try.ntmps60
    go_wp2
    go_ret
    exact ⟨by rw [hr.out]; rfl, Below.refl _ _⟩
  have hr := hideP (eqTo_all hl)
  rw [hl] at hB ⊢
  obtain ⟨n, hn'⟩ : ∃ n, n = p.length := ⟨_, rfl⟩
  rw [← hn'] at hA hB hn hr ⊢
  clear hl hn'
  have HhA := hideP hA; have HhB := hideP hB; clear hA hB
  go_enter Try.func60, Try.ntmps60
  go_wp2
  go_loopw [5] (fun v5 wr => ∃ k : Nat, k ≤ n ∧ v5 = .int .i64 k ∧ Hid (eqTo p q k = true ∧ Below w.heap.size w wr)) (fun v5 _ => n - (intOf v5).toNat)
  case atStart => exact ⟨0, by omega, rfl, rfl, Below.refl _ _⟩
  case round =>
    obtain ⟨k, hk, rfl, hW⟩ := hrel
    by_cases hlt : k < n
    · have t' : decide ((k : Int) < n) = true := by simp; omega
      obtain ⟨b, off, rfl, hb, hc⟩ := (HhA.out.below hW.out.2) (by omega)
      obtain ⟨b', off', rfl, hb', hc'⟩ := (HhB.out.below hW.out.2) (by omega)
      have k1 := hc k hlt
      have k2 := hc' k hlt
      unfold i64s at k1 k2
      have hst := eqTo_succ p q k
      have hfl := fun h : eqTo p q (k + 1) = false => (show eqTo p q n = false by
        have : ¬ eqTo p q n = true := fun h2 => by
          rw [eqTo_iff] at h2
          have : eqTo p q (k + 1) = true := by rw [eqTo_iff]; exact fun i hi => h2 i (by omega)
          rw [h] at this; cases this
        simpa using this)
      obtain ⟨x, ex⟩ : ∃ x, x = p.getD k 0 := ⟨_, rfl⟩
      obtain ⟨y, ey⟩ : ∃ y, y = q.getD k 0 := ⟨_, rfl⟩
      rw [← ex] at k1 hst
      rw [← ey] at k2 hst
      rw [hW.out.1, Bool.true_and] at hst
      clear ex ey hc hc' hb hb'
      by_cases hxy : x = y
      · subst hxy
        have t : (x != x) = false := by simp
        have hs := hideP (show eqTo p q (k + 1) = true by rw [hst]; simp)
        clear hst hfl
        go_wp2
        refine wp_region_eager 9 [(true, 0), (true, 1), (true, 2), (true, 3), (true, 4), (true, 5), (true, 6), (true, 7), (true, 8)] (by kernel_rfl) (by kernel_rfl) ?_
        simp only [pick, List.map_cons, List.map_nil, nthO_zero, nthO_succ]
        repeat (first
          | (refine wpPlan_skipK (by rfl) (fun K hK => ?_); go_simp; refine hK _ ?_; clear hK K)
          | (refine wpPlan_valK (by rfl) (fun K hK => ?_); apply Exists.intro; refine ⟨fun W hW => ?_, ?_⟩; (focus (have hs0 := hW.cell k1; have hs1 := hW.cell k2; go_simp; (try rfl); done)); go_simp; refine hK _ ?_; clear hK K))
        refine wpPlan_nil (fun W1 hW0 => ?_)
        simp only [List.drop_succ_cons, List.drop_zero, List.drop_nil]
        have fb := hideP (below_ext hW.out.2 hW0.drew_left)
        clear hW hW0 k1 k2
        go_wp2
        go_roundw
        case rel => exact ⟨k + 1, by omega, by go_num, hs.out, fb.out⟩
        case measure => simp [intOf]; omega
      · have t : (x != y) = true := by simp [hxy]
        have hs := hideP (hfl (by rw [hst]; simp [hxy]))
        clear hst hfl hxy
        go_wp2
        refine wp_region_eager 9 [(true, 0), (true, 1), (true, 2), (true, 3), (true, 4), (true, 5), (true, 6), (true, 7), (true, 8)] (by kernel_rfl) (by kernel_rfl) ?_
        simp only [pick, List.map_cons, List.map_nil, nthO_zero, nthO_succ]
        repeat (first
          | (refine wpPlan_skipK (by rfl) (fun K hK => ?_); go_simp; refine hK _ ?_; clear hK K)
          | (refine wpPlan_valK (by rfl) (fun K hK => ?_); apply Exists.intro; refine ⟨fun W hW => ?_, ?_⟩; (focus (have hs0 := hW.cell k1; have hs1 := hW.cell k2; go_simp; (try rfl); done)); go_simp; refine hK _ ?_; clear hK K))
        refine wpPlan_nil (fun W1 hW0 => ?_)
        simp only [List.drop_succ_cons, List.drop_zero, List.drop_nil]
        have fb := hideP (below_ext hW.out.2 hW0.drew_left)
        clear hW hW0 k1 k2
        go_wp2
        go_ret
        exact ⟨by rw [← hr.out, hs.out]; rfl, fb.out⟩
    · have t' : decide ((k : Int) < n) = false := by simp; omega
      obtain rfl : k = n := by omega
      go_wp2
      go_ret
      exact ⟨by rw [← hr.out, hW.out.1]; rfl, hW.out.2⟩

set_option maxRecDepth 100000 in
set_option maxHeartbeats 1000000 in
theorem same_any (L H L' H' : Option Addr) (lo hi lo' hi' : List Int) (dl sh dl' sh' : Nat) (w : World) (hL : Arr w w.heap.size L lo.length (i64s lo)) (hH : Arr w w.heap.size H hi.length (i64s hi))
    (hL' : Arr w w.heap.size L' lo'.length (i64s lo')) (hH' : Arr w w.heap.size H' hi'.length (i64s hi')) (hn : lo.length ≤ 17592186043904) (hm : hi.length ≤ 17592186043904) :
    Calls Try.prog 31 #[.agg #[.slice L lo.length dl, .slice H hi.length sh], .agg #[.slice L' lo'.length dl', .slice H' hi'.length sh']] w fun e w' => e = .returned (.bool (decide (lo = lo' ∧ hi = hi'))) ∧ Below w.heap.size w w' := by
  have t1 := fun W h h' => sameRow_any L L' lo lo' dl dl' W h h' hn
  have t2 := fun W h h' => sameRow_any H H' hi hi' sh sh' W h h' hm
  obtain ⟨p, hp⟩ : ∃ p, p = decide (lo = lo') := ⟨_, rfl⟩
  obtain ⟨q, hq⟩ : ∃ p, p = decide (hi = hi') := ⟨_, rfl⟩
  have hb := hideP (show decide (lo = lo' ∧ hi = hi') = (p && q) by rw [hp, hq]; simp)
  rw [← hp] at t1
  rw [← hq] at t2
  clear hp hq hn hm
  have Ht1 := hideP t1; have Ht2 := hideP t2; have HhL := hideP hL; have HhH := hideP hH; have HhL' := hideP hL'; have HhH' := hideP hH'; clear t1 t2 hL hH hL' hH'
  go_enter Try.func31, Try.ntmps31
  go_wp2_with fail
  obtain ⟨w1, hw1⟩ : ∃ w1, w1 = (w.alloc (Obj.cells #[.slice L lo.length dl, .slice H hi.length sh] 58)).alloc (Obj.cells #[.slice L' lo'.length dl', .slice H' hi'.length sh'] 58) := ⟨_, rfl⟩
  have c1 := hideP (show Two w1 w.heap.size 58 (.slice L lo.length dl) (.slice H hi.length sh) by rw [hw1]; exact (Two.new _ _ _ _).alloc _)
  have c2 := hideP (show Two w1 (w.heap.size + 1) 58 (.slice L' lo'.length dl') (.slice H' hi'.length sh') by rw [hw1]; exact Two.new' _ _ _ _ _ (by simp))
  have cb := hideP (show Below w.heap.size w w1 by rw [hw1]; exact (below_new _ _).alloc (by simp) _)
  rw [← hw1]
  clear hw1
  have kc10 := c1.out.c0; have kc11 := c1.out.c1
  have kc20 := c2.out.c0; have kc21 := c2.out.c1
  refine (Ht1.out w1 (HhL.out.after cb.out) (HhL'.out.after cb.out)).mono ?_
  rintro e w2 ⟨rfl, hb'⟩
  clear kc10 kc11 kc20 kc21
  replace c1 := hideP (c1.out.after hb')
  replace c2 := hideP (c2.out.after hb')
  replace cb := hideP (bstep cb.out hb')
  clear hb'
  cases p
  · go_wp2
    go_ret
    exact ⟨by rw [hb.out]; rfl, cb.out⟩
  · skip
    have kc10 := c1.out.c0; have kc11 := c1.out.c1
    have kc20 := c2.out.c0; have kc21 := c2.out.c1
    go_wp2_with fail
    refine (Ht2.out w2 (HhH.out.after cb.out) (HhH'.out.after cb.out)).mono ?_
    rintro e w3 ⟨rfl, hb'⟩
    clear kc10 kc11 kc20 kc21
    replace cb := hideP (bstep cb.out hb')
    clear hb'
    go_wp2
    go_ret
    exact ⟨by rw [hb.out]; rfl, cb.out⟩
end Go.Proofs.Ytjdbpeblbejllaa
