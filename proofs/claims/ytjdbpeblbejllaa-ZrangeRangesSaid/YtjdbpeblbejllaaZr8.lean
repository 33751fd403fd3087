/- Contracts of zrange's right, first, last, and of slices.Clone at bytes. -/
import Derived.Test.YtjdbpeblbejllaaZr7
import Derived.Test.YtjdbpeblbejllaaMort2
set_option linter.unusedVariables false
set_option linter.unusedSimpArgs false
namespace Go.Proofs.Ytjdbpeblbejllaa
open Go.RowKit
set_option maxRecDepth 100000 in
theorem first_any (L H : Option Addr) (p : List Int) (n a b : Nat) (w : World) (hL : Arr w w.heap.size L n (i64s p)) (hp : IsI p) (hn : p.length = n) (h1 : 1 ≤ n) (h8 : n ≤ 8) :
    Calls Try.prog 69 #[.agg #[.slice L n a, .slice H n b]] w fun e w' => ∃ g, e = .returned (.slice (some ⟨g, 0, none⟩) (8 * n) (8 * n)) ∧ w.heap.size ≤ g ∧ w'.rowIs g 5 (8 * n) (u8s (code p)) ∧ Below w.heap.size w w' := by
  have hc := fun (W : World) (h : Arr W W.heap.size L p.length (i64s p)) => code_in L p a W h hp (by omega) (by omega)
  rw [hn] at hc
  clear hn hp
  have HhL := hideP hL; have Hhc := hideP hc; clear hL hc
  go_enter Try.func69, Try.ntmps69
  go_upto_region 1 with fail
  obtain ⟨w1, hw1⟩ : ∃ w1, w1 = w.alloc (Obj.cells #[.slice L n a, .slice H n b] 91) := ⟨_, rfl⟩
  have c1 := hideP (show Two w1 w.heap.size 91 (.slice L n a) (.slice H n b) by rw [hw1]; exact Two.new _ _ _ _)
  have cb := hideP (show Below w.heap.size w w1 by rw [hw1]; exact below_new _ _)
  rw [← hw1]
  clear hw1
  have kc10 := c1.out.c0; have kc11 := c1.out.c1
  go_wp2_with fail
  refine (Hhc.out w1 (HhL.out.after cb.out)).mono ?_
  rintro e w2 ⟨g, rfl, hg, hr, hb⟩
  have HG := hideP hg; have HR := hideP hr; have HB := hideP hb
  clear hg hr hb kc10 kc11
  go_wp2
  go_ret
  exact ⟨g, rfl, Nat.le_trans cb.out.size HG.out, HR.out, cb.out.trans (HB.out.mono cb.out.size)⟩
set_option maxRecDepth 100000 in
theorem last_any (L H : Option Addr) (p : List Int) (n a b : Nat) (w : World) (hL : Arr w w.heap.size H n (i64s p)) (hp : IsI p) (hn : p.length = n) (h1 : 1 ≤ n) (h8 : n ≤ 8) :
    Calls Try.prog 72 #[.agg #[.slice L n a, .slice H n b]] w fun e w' => ∃ g, e = .returned (.slice (some ⟨g, 0, none⟩) (8 * n) (8 * n)) ∧ w.heap.size ≤ g ∧ w'.rowIs g 5 (8 * n) (u8s (code p)) ∧ Below w.heap.size w w' := by
  have hc := fun (W : World) (h : Arr W W.heap.size H p.length (i64s p)) => code_in H p b W h hp (by omega) (by omega)
  rw [hn] at hc
  clear hn hp
  have HhL := hideP hL; have Hhc := hideP hc; clear hL hc
  go_enter Try.func72, Try.ntmps72
  go_upto_region 1 with fail
  obtain ⟨w1, hw1⟩ : ∃ w1, w1 = w.alloc (Obj.cells #[.slice L n a, .slice H n b] 91) := ⟨_, rfl⟩
  have c1 := hideP (show Two w1 w.heap.size 91 (.slice L n a) (.slice H n b) by rw [hw1]; exact Two.new _ _ _ _)
  have cb := hideP (show Below w.heap.size w w1 by rw [hw1]; exact below_new _ _)
  rw [← hw1]
  clear hw1
  have kc10 := c1.out.c0; have kc11 := c1.out.c1
  go_wp2_with fail
  refine (Hhc.out w1 (HhL.out.after cb.out)).mono ?_
  rintro e w2 ⟨g, rfl, hg, hr, hb⟩
  have HG := hideP hg; have HR := hideP hr; have HB := hideP hb
  clear hg hr hb kc10 kc11
  go_wp2
  go_ret
  exact ⟨g, rfl, Nat.le_trans cb.out.size HG.out, HR.out, cb.out.trans (HB.out.mono cb.out.size)⟩
theorem zright_any (A L H : Option Addr) (lo hi : List Int) (m c dl sh : Nat) (w : World) (hL : Arr w w.heap.size L lo.length (i64s lo)) (hH : Arr w w.heap.size H hi.length (i64s hi)) (hn : lo.length ≤ 17592186043904) :
    Calls Try.prog 66 #[.slice A m c, .agg #[.slice L lo.length dl, .slice H hi.length sh]] w fun e w' => e = .returned (.bool (rightB lo hi lo.length && decide (m = 8 * lo.length))) ∧ Below w.heap.size w w' := by
  have tR := fun W h h' => right_any L H lo hi dl sh lo.length W h h'
  obtain ⟨n, hn'⟩ : ∃ n, n = lo.length := ⟨_, rfl⟩
  obtain ⟨k, hk⟩ : ∃ n, n = hi.length := ⟨_, rfl⟩
  obtain ⟨rr, hrr⟩ : ∃ s, s = rightB lo hi lo.length := ⟨_, rfl⟩
  rw [← hrr] at tR ⊢
  rw [← hn'] at hL tR hn ⊢
  rw [← hk] at hH tR ⊢
  clear hn' hk hrr
  have HhL := hideP hL; have HhH := hideP hH; have HtR := hideP tR; clear hL hH tR
  go_enter Try.func66, Try.ntmps66
  go_upto_region 1 with fail
  obtain ⟨w1, hw1⟩ : ∃ w1, w1 = w.alloc (Obj.cells #[.slice L n dl, .slice H k sh] 58) := ⟨_, rfl⟩
  have c1 := hideP (show Two w1 w.heap.size 58 (.slice L n dl) (.slice H k sh) by rw [hw1]; exact Two.new _ _ _ _)
  have cb := hideP (show Below w.heap.size w w1 by rw [hw1]; exact below_new _ _)
  rw [← hw1]
  clear hw1
  have kc10 := c1.out.c0; have kc11 := c1.out.c1
  go_wp2_with fail
  refine (HtR.out w1 (HhL.out.after cb.out) (HhH.out.after cb.out)).mono ?_
  rintro e w2 ⟨rfl, hb⟩
  clear kc10 kc11
  replace c1 := hideP (c1.out.after hb)
  replace cb := hideP (bstep cb.out hb)
  clear hb
  have kc10 := c1.out.c0; have kc11 := c1.out.c1
  cases rr
  · go_wp2
    go_ret
    exact ⟨by simp, cb.out⟩
  · by_cases he : m = 8 * n
    · have h1 : ((m : Int) == 8 * (n : Int)) = true := by simp; omega
      have hres := hideP (show (true && decide (m = 8 * n)) = true by simp [he])
      clear he
      go_wp2
      go_ret
      exact ⟨by rw [hres.out]; rfl, cb.out⟩
    · have h1 : ((m : Int) == 8 * (n : Int)) = false := by simp; omega
      have hres := hideP (show (true && decide (m = 8 * n)) = false by simp [he])
      clear he
      go_wp2
      go_ret
      exact ⟨by rw [hres.out]; rfl, cb.out⟩
theorem sclone_any (A : Option Addr) (l : List Nat) (c : Nat) (w : World) (hA : Arr w w.heap.size A l.length (u8s l)) (hn : l.length ≤ 140737488351232) :
    Calls Try.prog 71 #[.slice A l.length c] w fun e w' => ∃ R d, e = .returned (.slice R l.length d) ∧ Arr w' w'.heap.size R l.length (u8s l) ∧ Below w.heap.size w w' := by
  obtain ⟨i0, hi0, hz0, hz1, hz2⟩ := info_parts info_u8
  rcases A with _ | ad
  · have h0 : l.length = 0 := by
      rcases Nat.eq_zero_or_pos l.length with h | h
      · exact h
      · obtain ⟨_, _, h, _⟩ := hA h; cases h
    obtain rfl : l = [] := List.length_eq_zero_iff.1 h0
    have h1 := Lib.run_eql_slice_nil (P := Try.prog) w 22 5 none 0 c 0 0 Try.underlying22
    simp only [Option.isNone_none] at h1
    clear hA h0
    go_enter Try.func71, Try.ntmps71
    go_wp2
    go_ret
    exact ⟨none, 0, rfl, fun h => by simp at h, Below.refl _ _⟩
  · have h1 := Lib.run_eql_slice_nil (P := Try.prog) w 22 5 (some ad) l.length c 0 0 Try.underlying22
    simp only [Option.isNone_some] at h1
    have HA := hideP hA
    clear hA
    go_enter Try.func71, Try.ntmps71
    go_wp2_with (at_builtin; refine wpList_append_arr _ rfl (.tmp 5) (.tmp 6) 22 rfl w.heap.size 5 i0 _ 1 Try.underlying22 hi0 hz0 hz1 hz2 rfl (.slice (some ⟨w.heap.size, 0, none⟩) 0 0) 0 [] rfl (World.ownsRow_lit w #[] 0 (Nat.le_refl _) (by unfold maxLen; omega) (by simp)) w.heap.size (some ad) l.length c (u8s l) rfl (HA.out.keep fun p hp => World.cell?_alloc_lt w _ p hp) (fun _ => rfl) (by unfold maxLen; omega) (by omega) (by simp) ?_; intro A3 c3 w3 hown3 hg3 hat3)
    simp only [Nat.zero_add, List.nil_append] at hown3
    have HO := hideP (Arr.of_own (n := l.length) (f := u8s l) hown3 (fun i hi => by simp [List.getElem?_map, List.getElem?_range hi]))
    clear hown3
    go_ret
    refine ⟨A3, c3, by simp, HO.out, ?_⟩
    refine Below.trans ((Below.refl _ _).alloc (Nat.le_refl _) _) ((Below.refl _ _).grown hg3 (by simp) fun k hk => ?_)
    simp [Value.ownBlock] at hk
    omega
end Go.Proofs.Ytjdbpeblbejllaa
