/- Contracts of package box: Of, Whole. -/
import Derived.Test.YtnekbmndphbaoaaRepeat
set_option linter.unusedVariables false
set_option linter.unusedSimpArgs false
namespace Go.Proofs.Ytnekbmndphbaoaa
open Go.RowKit
set_option maxRecDepth 100000 in
set_option maxHeartbeats 1000000 in
theorem of_no (P : Option Addr) (p : List Int) (c : Nat) (w : World) (h : p.length < 1 ∨ 8 < p.length) :
    Calls Try.prog 42 #[.slice P p.length c] w fun e w' => e = .returned (.agg #[.slice none 0 0, .slice none 0 0]) ∧ Below w.heap.size w w' := by
  obtain ⟨n, hn⟩ : ∃ n, n = p.length := ⟨_, rfl⟩
  rw [← hn] at h ⊢
  clear hn
  have hx := Two.new w 25 (.slice none 0 0) (.slice none 0 0)
  have f0 := hx.fz 0
  have f1 := hx.fz 1
  have k0 := hx.c0
  have k1 := hx.c1
  have H := hideP hx
  clear hx
  rcases h with h | h
  · have t : decide ((n : Int) < 1) = true := by simp; omega
    go_enter Try.func42, Try.ntmps42
    go_wp2
    exact ret_box rfl rfl H.out rfl ⟨rfl, below_new w _⟩
  · have t : decide ((n : Int) < 1) = false := by simp; omega
    have t' : decide ((8 : Int) < (n : Int)) = true := by simp; omega
    go_enter Try.func42, Try.ntmps42
    go_wp2
    exact ret_box rfl rfl H.out rfl ⟨rfl, below_new w _⟩
set_option maxRecDepth 100000 in
set_option maxHeartbeats 1000000 in
theorem of_in (P : Option Addr) (p : List Int) (c : Nat) (w : World) (hP : Arr w w.heap.size P p.length (i64s p)) (h1 : 1 ≤ p.length) (h8 : p.length ≤ 8) :
    Calls Try.prog 42 #[.slice P p.length c] w fun e w' => ∃ R s R' s', e = .returned (.agg #[.slice R p.length s, .slice R' p.length s']) ∧ Below w.heap.size w w' ∧ Arr w' w'.heap.size R p.length (i64s p) ∧ Arr w' w'.heap.size R' p.length (i64s p) := by
  have t1 := fun W h => clone_any P p c W h (by omega)
  obtain ⟨n, hn⟩ : ∃ n, n = p.length := ⟨_, rfl⟩
  have HN := hideP hn
  rw [← hn] at h1 h8 hP t1 ⊢
  have j1 : decide ((n : Int) < 1) = false := by simp; omega
  have j2 : decide ((8 : Int) < (n : Int)) = false := by simp; omega
  clear hn
  have Ht1 := hideP t1; have HhP := hideP hP; clear t1 hP
  go_enter Try.func42, Try.ntmps42
  go_wp2_with fail
  obtain ⟨w1, hw1⟩ : ∃ w1, w1 = w.alloc (Obj.cells #[.slice none 0 0, .slice none 0 0] 25) := ⟨_, rfl⟩
  have c2 := hideP (show Two w1 w.heap.size 25 (.slice none 0 0) (.slice none 0 0) by rw [hw1]; exact Two.new _ _ _ _)
  have cb := hideP (show Below w.heap.size w w1 by rw [hw1]; exact below_new _ _)
  rw [← hw1]
  clear hw1
  have Ht2 := Ht1
  have lt1 := hideP c2.out.lt
  refine (Ht1.out w1 (HhP.out.after cb.out)).mono ?_
  rintro e w2 ⟨R, s, rfl, hb, o1⟩
  replace c2 := hideP (c2.out.after hb)
  replace cb := hideP (bstep cb.out hb)
  clear hb
  have lt2 := hideP c2.out.lt
  go_wp2_with fail
  refine (Ht2.out w2 (HhP.out.after cb.out)).mono ?_
  rintro e w3 ⟨R', s', rfl, hb, o2⟩
  replace o1 := hideP (o1.ext (Ext.of_below hb))
  replace o2 := hideP o2
  replace c2 := hideP (c2.out.after hb)
  replace cb := hideP (bstep cb.out hb)
  clear hb
  have f0 := c2.out.fz 0
  have f1 := c2.out.fz 1
  have kc20 := c2.out.c0; have kc21 := c2.out.c1
  go_wp2
  refine ret_box rfl rfl (c2.out.set2 _ _) rfl ?_
  replace o1 := own_setCell (own_setCell o1.out (a := ⟨w.heap.size, 0, none⟩) lt1.out (.slice R n s)) (a := ⟨w.heap.size, 1, none⟩) lt1.out (.slice R' n s')
  replace o2 := own_setCell (own_setCell o2.out (a := ⟨w.heap.size, 0, none⟩) lt2.out (.slice R n s)) (a := ⟨w.heap.size, 1, none⟩) lt2.out (.slice R' n s')
  refine ⟨R, s, R', s', rfl, (cb.out.setCell (p := ⟨w.heap.size, 0, none⟩) (Nat.le_refl _) _).setCell (p := ⟨w.heap.size, 1, none⟩) (Nat.le_refl _) _, ?_, ?_⟩
  · have := o1.arr; rwa [← HN.out] at this
  · have := o2.arr; rwa [← HN.out] at this
theorem of_any (P : Option Addr) (p : List Int) (c : Nat) (w : World) (hP : Arr w w.heap.size P p.length (i64s p)) :
    Calls Try.prog 42 #[.slice P p.length c] w fun e w' => ∃ R s R' s' m, e = .returned (.agg #[.slice R m s, .slice R' m s']) ∧ Below w.heap.size w w' ∧ (1 ≤ p.length → p.length ≤ 8 → m = p.length ∧ Arr w' w'.heap.size R m (i64s p) ∧ Arr w' w'.heap.size R' m (i64s p)) := by
  by_cases h : 1 ≤ p.length ∧ p.length ≤ 8
  · refine (of_in P p c w hP h.1 h.2).mono ?_
    rintro e w' ⟨R, s, R', s', he, hb, h1, h2⟩
    exact ⟨R, s, R', s', _, he, hb, fun _ _ => ⟨rfl, h1, h2⟩⟩
  · refine (of_no P p c w (by omega)).mono ?_
    rintro e w' ⟨he, hb⟩
    exact ⟨none, 0, none, 0, 0, he, hb, fun h1 h2 => absurd ⟨h1, h2⟩ h⟩
set_option maxRecDepth 100000 in
set_option maxHeartbeats 1000000 in
theorem whole_no (d : Int) (w : World) (h : d < 1 ∨ 8 < d) :
    Calls Try.prog 40 #[.int .i64 d] w fun e w' => e = .returned (.agg #[.slice none 0 0, .slice none 0 0]) ∧ Below w.heap.size w w' := by
  have hx := Two.new w 25 (.slice none 0 0) (.slice none 0 0)
  have f0 := hx.fz 0
  have f1 := hx.fz 1
  have k0 := hx.c0
  have k1 := hx.c1
  have H := hideP hx
  clear hx
  rcases h with h | h
  · have t : decide (d < 1) = true := by simp; omega
    go_enter Try.func40, Try.ntmps40
    go_wp2
    exact ret_box rfl rfl H.out rfl ⟨rfl, below_new w _⟩
  · have t : decide (d < 1) = false := by simp; omega
    have t' : decide ((8 : Int) < d) = true := by simp; omega
    go_enter Try.func40, Try.ntmps40
    go_wp2
    exact ret_box rfl rfl H.out rfl ⟨rfl, below_new w _⟩
set_option maxRecDepth 100000 in
set_option maxHeartbeats 1000000 in
theorem whole_in (n : Nat) (w : World) (h1 : 1 ≤ n) (h8 : n ≤ 8) :
    Calls Try.prog 40 #[.int .i64 n] w fun e w' => ∃ R s R' s', e = .returned (.agg #[.slice R n s, .slice R' n s']) ∧ Below w.heap.size w w' ∧ Arr w' w'.heap.size R n (i64s (List.replicate n (-9223372036854775808))) ∧ Arr w' w'.heap.size R' n (i64s (List.replicate n 9223372036854775807)) := by
  have t1 := fun W X h => repeat_any X (-9223372036854775808) n 1 W h h1 (by omega)
  have t2 := fun W X h => repeat_any X 9223372036854775807 n 1 W h h1 (by omega)
  have j1 : decide ((n : Int) < 1) = false := by simp; omega
  have j2 : decide ((8 : Int) < (n : Int)) = false := by simp; omega
  have Ht1 := hideP t1; have Ht2 := hideP t2; clear t1 t2
  go_enter Try.func40, Try.ntmps40
  go_wp2_with fail
  obtain ⟨w1, hw1⟩ : ∃ w1, w1 = (w.alloc (Obj.cells #[.slice none 0 0, .slice none 0 0] 25)).alloc (Obj.cells #[.int .i64 (-9223372036854775808)] 2) := ⟨_, rfl⟩
  have c2 := hideP (show Two w1 w.heap.size 25 (.slice none 0 0) (.slice none 0 0) by rw [hw1]; exact (Two.new _ _ _ _).alloc _)
  have x1 := hideP (show Arr w1 w1.heap.size (some ⟨w.heap.size + 1, 0, none⟩) 1 (i64s [-9223372036854775808]) by rw [hw1]; exact Arr.of_i64' (w.alloc (Obj.cells #[.slice none 0 0, .slice none 0 0] 25)) [-9223372036854775808] 2 (w.heap.size + 1) 1 (by simp) rfl)
  have cb := hideP (show Below w.heap.size w w1 by rw [hw1]; exact (below_new _ _).alloc (by simp) _)
  rw [← hw1]
  clear hw1
  have lt1 := hideP c2.out.lt
  refine (Ht1.out w1 _ x1.out).mono ?_
  rintro e w2 ⟨R, s, rfl, hb, o1⟩
  replace c2 := hideP (c2.out.after hb)
  replace cb := hideP (bstep cb.out hb)
  clear hb
  go_wp2_with fail
  have x2 := hideP (Arr.of_i64 w2 [9223372036854775807] 2)
  have hx2 : Obj.cells ([9223372036854775807].map (Value.int .i64)).toArray 2 = Obj.cells #[.int .i64 9223372036854775807] 2 := rfl
  rw [hx2] at x2
  clear hx2
  obtain ⟨w22, hw22⟩ : ∃ v, v = w2.alloc (Obj.cells #[.int .i64 9223372036854775807] 2) := ⟨_, rfl⟩
  have hb : Below w2.heap.size w2 w22 := by rw [hw22]; exact below_new _ _
  rw [← hw22] at x2 ⊢
  clear hw22
  replace o1 := hideP (o1.ext (Ext.of_below hb))
  replace c2 := hideP (c2.out.after hb)
  replace cb := hideP (bstep cb.out hb)
  clear hb
  have lt2 := hideP c2.out.lt
  refine (Ht2.out w22 _ x2.out).mono ?_
  rintro e w3 ⟨R', s', rfl, hb, o2⟩
  replace o1 := hideP (o1.out.ext (Ext.of_below hb))
  replace o2 := hideP o2
  replace c2 := hideP (c2.out.after hb)
  replace cb := hideP (bstep cb.out hb)
  clear hb
  have f0 := c2.out.fz 0
  have f1 := c2.out.fz 1
  have kc20 := c2.out.c0; have kc21 := c2.out.c1
  go_wp2
  refine ret_box rfl rfl (c2.out.set2 _ _) rfl ?_
  replace o1 := own_setCell (own_setCell o1.out (a := ⟨w.heap.size, 0, none⟩) lt1.out (.slice R n s)) (a := ⟨w.heap.size, 1, none⟩) lt1.out (.slice R' n s')
  replace o2 := own_setCell (own_setCell o2.out (a := ⟨w.heap.size, 0, none⟩) lt2.out (.slice R n s)) (a := ⟨w.heap.size, 1, none⟩) lt2.out (.slice R' n s')
  refine ⟨R, s, R', s', rfl, (cb.out.setCell (p := ⟨w.heap.size, 0, none⟩) (Nat.le_refl _) _).setCell (p := ⟨w.heap.size, 1, none⟩) (Nat.le_refl _) _, ?_, ?_⟩
  · have := o1.arr; rwa [List.length_replicate] at this
  · have := o2.arr; rwa [List.length_replicate] at this
end Go.Proofs.Ytnekbmndphbaoaa
