/- Contract of zrange's Split where there is nothing to split. -/
import Derived.Test.YtjdbpeblbejllaaZr4
set_option linter.unusedVariables false
set_option linter.unusedSimpArgs false
namespace Go.Proofs.Ytjdbpeblbejllaa
open Go.RowKit
def noBox : Value := .agg #[.slice none 0 0, .slice none 0 0]
set_option maxRecDepth 100000 in
set_option maxHeartbeats 1000000 in
theorem split_out (L H : Option Addr) (lo hi : List Int) (dl sh : Nat) (w : World) (hL : Arr w w.heap.size L lo.length (i64s lo)) (hH : Arr w w.heap.size H hi.length (i64s hi)) (hp : IsI lo) (hq : IsI hi)
    (hR : rightB lo hi lo.length = false ∨ (uSt lo hi lo.length).2 < 0) :
    Calls Try.prog 29 #[.agg #[.slice L lo.length dl, .slice H hi.length sh]] w fun e w' => e = .returned (.tuple #[.agg #[.slice none 0 0, .slice none 0 0], .agg #[.slice none 0 0, .slice none 0 0], .bool false]) ∧ Below w.heap.size w w' := by
  have tR := fun W h h' => right_any L H lo hi dl sh lo.length W h h'
  have tU : rightB lo hi lo.length = true → ∀ W h h', _ := fun hr W h h' => unlike_any L H lo hi dl sh W h h' (by have := rightB_len hr; omega) hp hq (by have := rightB_len hr; omega)
  obtain ⟨n, hn⟩ : ∃ n, n = lo.length := ⟨_, rfl⟩
  obtain ⟨m, hm⟩ : ∃ m, m = hi.length := ⟨_, rfl⟩
  obtain ⟨s1, hs1⟩ : ∃ s, s = (uSt lo hi lo.length).1 := ⟨_, rfl⟩
  obtain ⟨s2, hs2⟩ : ∃ s, s = (uSt lo hi lo.length).2 := ⟨_, rfl⟩
  obtain ⟨rr, hrr⟩ : ∃ s, s = rightB lo hi lo.length := ⟨_, rfl⟩
  rw [← hs2, ← hrr] at hR
  rw [← hs1, ← hs2, ← hrr] at tU
  rw [← hrr] at tR
  rw [← hn] at hL tR tU ⊢
  rw [← hm] at hH tR tU ⊢
  clear hn hm hs1 hs2 hrr hp hq
  have HhL := hideP hL; have HhH := hideP hH; have HtR := hideP tR; clear hL hH tR
  go_enter Try.func29, Try.ntmps29
  go_upto_region 1 with fail
  obtain ⟨w1, hw1⟩ : ∃ w1, w1 = ((w.alloc (Obj.cells #[.slice L n dl, .slice H m sh] 58)).alloc (Obj.cells #[.slice none 0 0, .slice none 0 0] 58)).alloc (Obj.cells #[.slice none 0 0, .slice none 0 0] 58) := ⟨_, rfl⟩
  have c1 := hideP (show Two w1 w.heap.size 58 (.slice L n dl) (.slice H m sh) by rw [hw1]; exact ((Two.new _ _ _ _).alloc _).alloc _)
  have c2 := hideP (show Two w1 (w.heap.size + 1) 58 (.slice none 0 0) (.slice none 0 0) by rw [hw1]; exact (Two.new' _ _ _ _ _ (by simp)).alloc _)
  have c3 := hideP (show Two w1 (w.heap.size + 1 + 1) 58 (.slice none 0 0) (.slice none 0 0) by rw [hw1]; exact Two.new' _ _ _ _ _ (by simp))
  have cb := hideP (show Below w.heap.size w w1 by rw [hw1]; exact ((below_new _ _).alloc (by simp) _).alloc (by simp; omega) _)
  rw [← hw1]
  clear hw1
  cases rr
  · clear tU hR
    have kc10 := c1.out.c0; have kc11 := c1.out.c1
    go_wp2_with fail
    refine (HtR.out w1 (HhL.out.after cb.out) (HhH.out.after cb.out)).mono ?_
    rintro e w2 ⟨rfl, hb⟩
    clear kc10 kc11
    replace c1 := hideP (c1.out.after hb)
    replace c2 := hideP (c2.out.after hb)
    replace c3 := hideP (c3.out.after hb)
    replace cb := hideP (bstep cb.out hb)
    clear hb
    have d3 := hideP ((c3.out.setOther (a := ⟨w.heap.size + 1, 0, none⟩) (by simp) (.slice none 0 0)).setOther (a := ⟨w.heap.size + 1, 1, none⟩) (by simp) (.slice none 0 0))
    go_wp2_with (first
      | (refine wpList_store_two rfl 58 (.tmp 2) (.tmp 16) rfl (w.heap.size + 1) _ _ 58 _ _ rfl rfl c2.out size_box rfl rfl ?_)
      | (refine wpList_store_two rfl 58 (.tmp 3) (.tmp 17) rfl (w.heap.size + 1 + 1) _ _ 58 _ _ rfl rfl d3.out size_box rfl rfl ?_))
    refine ret_box3 rfl rfl rfl rfl (((c2.out.set2 (.slice none 0 0) (.slice none 0 0)).setOther (a := ⟨w.heap.size + 1 + 1, 0, none⟩) (by simp) _).setOther (a := ⟨w.heap.size + 1 + 1, 1, none⟩) (by simp) _) (d3.out.set2 _ _) rfl ⟨rfl, ?_⟩
    exact (((cb.out.setCell (p := ⟨w.heap.size + 1, 0, none⟩) (by simp) _).setCell (p := ⟨w.heap.size + 1, 1, none⟩) (by simp) _).setCell (p := ⟨w.heap.size + 1 + 1, 0, none⟩) (by simp; omega) _).setCell (p := ⟨w.heap.size + 1 + 1, 1, none⟩) (by simp; omega) _
  · have hs : s2 < 0 := by rcases hR with h | h; cases h; exact h
    have tU1 := hideP (tU rfl)
    have hd : decide ((0 : Int) ≤ s2) = false := by simp; omega
    rw [hd] at tU1
    clear tU hR hd
    have kc10 := c1.out.c0; have kc11 := c1.out.c1
    go_wp2_with fail
    refine (HtR.out w1 (HhL.out.after cb.out) (HhH.out.after cb.out)).mono ?_
    rintro e w2 ⟨rfl, hb⟩
    clear kc10 kc11
    replace c1 := hideP (c1.out.after hb)
    replace c2 := hideP (c2.out.after hb)
    replace c3 := hideP (c3.out.after hb)
    replace cb := hideP (bstep cb.out hb)
    clear hb
    have kc10 := c1.out.c0; have kc11 := c1.out.c1
    go_wp2_with fail
    refine (tU1.out w2 (HhL.out.after cb.out) (HhH.out.after cb.out)).mono ?_
    rintro e w3 ⟨rfl, hb⟩
    clear kc10 kc11
    replace hb := hb.below
    replace c1 := hideP (c1.out.after hb)
    replace c2 := hideP (c2.out.after hb)
    replace c3 := hideP (c3.out.after hb)
    replace cb := hideP (bstep cb.out hb)
    clear hb
    have d3 := hideP ((c3.out.setOther (a := ⟨w.heap.size + 1, 0, none⟩) (by simp) (.slice none 0 0)).setOther (a := ⟨w.heap.size + 1, 1, none⟩) (by simp) (.slice none 0 0))
    go_wp2_with (first
      | (refine wpList_store_two rfl 58 (.tmp 2) (.tmp 26) rfl (w.heap.size + 1) _ _ 58 _ _ rfl rfl c2.out size_box rfl rfl ?_)
      | (refine wpList_store_two rfl 58 (.tmp 3) (.tmp 27) rfl (w.heap.size + 1 + 1) _ _ 58 _ _ rfl rfl d3.out size_box rfl rfl ?_))
    refine ret_box3 rfl rfl rfl rfl (((c2.out.set2 (.slice none 0 0) (.slice none 0 0)).setOther (a := ⟨w.heap.size + 1 + 1, 0, none⟩) (by simp) _).setOther (a := ⟨w.heap.size + 1 + 1, 1, none⟩) (by simp) _) (d3.out.set2 _ _) rfl ⟨rfl, ?_⟩
    exact (((cb.out.setCell (p := ⟨w.heap.size + 1, 0, none⟩) (by simp) _).setCell (p := ⟨w.heap.size + 1, 1, none⟩) (by simp) _).setCell (p := ⟨w.heap.size + 1 + 1, 0, none⟩) (by simp; omega) _).setCell (p := ⟨w.heap.size + 1 + 1, 1, none⟩) (by simp; omega) _
end Go.Proofs.Ytjdbpeblbejllaa
