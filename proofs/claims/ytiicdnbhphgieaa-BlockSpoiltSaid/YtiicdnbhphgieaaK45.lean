/- The reference's reader: state, Take, Byte, Count, Num. -/
import Derived.Deep.DeepCutAuto
import Derived.Test.YtiicdnbhphgieaaK19
set_option linter.unusedVariables false
set_option linter.unusedSimpArgs false
namespace Go.Proofs.Ytiicdnbhphgieaa
open Go.RowKit
/-- a reader of the reference's: what is left, its error -/
def Qd (w : World) (g : Nat) (l : List Nat) (e : Int) : Prop := ∃ A c, Two w g 119 (.slice A l.length c) (.int .i64 e) ∧ ArrL w g A l.length l ∧ IsB l ∧ l.length ≤ c
section
variable {w w' W : World} {g n : Nat} {A : Option Addr} {l : List Nat} {e : Int}
theorem Qd.lt (h : Qd w g l e) : g < w.heap.size := by obtain ⟨A, c, h1, _⟩ := h; exact h1.lt
theorem Qd.isB (h : Qd w g l e) : IsB l := by obtain ⟨A, c, _, _, h, _⟩ := h; exact h
theorem Qd.after (h : Qd w g l e) (hW : Below w.heap.size w w') : Qd w' g l e := by obtain ⟨A, c, h1, h2, h3, h4⟩ := h; exact ⟨A, c, h1.after hW, h2.below hW (Nat.le_of_lt h1.lt), h3, h4⟩
theorem Qd.below {B : Nat} (h : Qd w g l e) (hW : Below B w w') (hB : g < B) : Qd w' g l e := by obtain ⟨A, c, h1, h2, h3, h4⟩ := h; exact ⟨A, c, h1.below hW hB, h2.below hW (Nat.le_of_lt hB), h3, h4⟩
theorem Qd.ext (h : Qd w g l e) (hW : Ext w w') : Qd w' g l e := h.after hW.below
theorem Qd.ecell (h : Qd w g l e) : w.cell? ⟨g, 1, none⟩ = some (.int .i64 e) := by obtain ⟨A, c, h1, _⟩ := h; exact h1.c1
theorem Qd.fz (h : Qd w g l e) (i : Nat) : w.frozen? ⟨g, i, none⟩ = false := by obtain ⟨A, c, h1, _⟩ := h; exact h1.fz i
theorem Qd.setE (h : Qd w g l e) (x : Int) : Qd (w.setCell ⟨g, 1, none⟩ (.int .i64 x)) g l x := by
  obtain ⟨A, c, h1, h2, h3, h4⟩ := h; exact ⟨A, c, h1.set1 _, h2.setCell 1 _, h3, h4⟩
theorem Qd.butBelow {B : Nat} (h : Qd w g l e) (b : But (fun k => k = g) w W) (hB : B ≤ g) : Below B w W :=
  ⟨b.os, b.tape, b.output, b.size, fun k hk => b.block k (by have := h.lt; omega) (by omega)⟩
end
set_option maxRecDepth 100000 in
set_option maxHeartbeats 1000000 in
theorem qtake_ok (g : Nat) (l : List Nat) (k : Nat) (w : World) (hS : Qd w g l 0) (hk : k ≤ l.length) :
    Calls Try.prog 125 #[.pointer (some ⟨g, 0, none⟩), .int .i64 (k : Nat)] w fun e' w' => ∃ A c, e' = .returned (.slice A k c) ∧ k ≤ c ∧ But (fun b => b = g) w w' ∧ Qd w' g (l.drop k) 0 ∧ ArrL w' g A k (l.take k) := by
  obtain ⟨A, d, hT, hA, hl, hd⟩ := hS
  have c0 := hT.c0
  have c1 := hT.c1
  have f0 := hT.fz 0
  obtain ⟨n, hN⟩ : ∃ n, n = l.length := ⟨_, rfl⟩
  rw [← hN] at hk hd hT hA c0
  have i1 : ¬ ((n : Int) < (k : Int)) := by omega
  have i1' : (k : Int) ≤ (n : Int) := by omega
  have i2 : (k : Int) ≤ (d : Int) := by omega
  have i3 : k ≤ d := by omega
  have HhT := hideP hT; have HhA := hideP hA; have Hhl := hideP hl; have Hhd := hideP hd; have HhN := hideP hN; clear hT hA hl hd hN
  go_enter Try.func125, Try.ntmps125
  go_wp2_with fail
  rotate_left
  · have hc := HhA.out.cut (cap := d) k hk Hhd.out
    rw [if_neg h] at hc
    go_ret
    refine ⟨A, d, rfl, i3, But.set w ⟨g, 0, none⟩ _ rfl, ⟨A.map (·.add k), d - k, ?_, ?_, isB_drop Hhl.out k, ?_⟩, (HhA.out.front k hk).setCell 0 _⟩
    · rw [List.length_drop, ← HhN.out]; exact HhT.out.set0 _
    · rw [List.length_drop, ← HhN.out]; exact hc.setCell 0 _
    · rw [List.length_drop, ← HhN.out]; have := Hhd.out; omega
  · subst h
    have hc := HhA.out.cut (cap := d) d hk Hhd.out
    rw [if_pos rfl] at hc
    go_ret
    refine ⟨A, d, rfl, i3, But.set w ⟨g, 0, none⟩ _ rfl, ⟨A, ?cc, ?ta, ?tb, isB_drop Hhl.out d, ?tc⟩, (HhA.out.front d hk).setCell 0 _⟩
    case ta => rw [List.length_drop, ← HhN.out]; exact HhT.out.set0 _
    case tb => rw [List.length_drop, ← HhN.out]; exact hc.setCell 0 _
    case tc => rw [List.length_drop, ← HhN.out]; have := Hhd.out; omega
set_option maxRecDepth 100000 in
set_option maxHeartbeats 1000000 in
theorem qtake_short (g : Nat) (l : List Nat) (k : Nat) (w : World) (hS : Qd w g l 0) (hk : l.length < k) :
    Calls Try.prog 125 #[.pointer (some ⟨g, 0, none⟩), .int .i64 (k : Nat)] w fun e' w' => e' = .returned (.slice none 0 0) ∧ But (fun b => b = g) w w' ∧ Qd w' g l 20 := by
  have hR := hideP hS
  obtain ⟨A, d, hT, hA, hl, hd⟩ := hS
  have c0 := hT.c0
  have c1 := hT.c1
  have f1 := hT.fz 1
  obtain ⟨n, hN⟩ : ∃ n, n = l.length := ⟨_, rfl⟩
  rw [← hN] at hk c0
  have i1 : (n : Int) < (k : Int) := by omega
  clear hT hA hl hd hN
  go_enter Try.func125, Try.ntmps125
  go_wp2_with fail
  go_ret
  exact ⟨rfl, But.set w ⟨g, 1, none⟩ _ rfl, hR.out.setE 20⟩
set_option maxRecDepth 100000 in
set_option maxHeartbeats 1000000 in
theorem qtake_old (g : Nat) (l : List Nat) (k e : Int) (he : e ≠ 0) (w : World) (hS : Qd w g l e) :
    Calls Try.prog 125 #[.pointer (some ⟨g, 0, none⟩), .int .i64 k] w fun e' w' => e' = .returned (.slice none 0 0) ∧ w' = w := by
  have c1 := hS.ecell
  clear hS
  go_enter Try.func125, Try.ntmps125
  go_wp2
  go_ret
  exact ⟨rfl, rfl⟩
/-- what Take answers -/
def QTook (w' : World) (g k : Nat) (e' : Ending) : Option (List Nat) → Prop
  | none => e' = .returned (.slice none 0 0)
  | some t => t.length = k ∧ IsB t ∧ ∃ A c, e' = .returned (.slice A k c) ∧ k ≤ c ∧ ArrL w' g A k t
theorem qtake_any (g : Nat) (l : List Nat) (k : Nat) (e : Int) (w : World) (hS : Qd w g l e) :
    Calls Try.prog 125 #[.pointer (some ⟨g, 0, none⟩), .int .i64 (k : Nat)] w fun e' w' => But (fun b => b = g) w w' ∧ Qd w' g (rTake k l e).2.1 (rTake k l e).2.2 ∧ QTook w' g k e' (rTake k l e).1 := by
  unfold rTake
  by_cases he : e = 0
  · subst he
    rw [if_neg (by simp)]
    by_cases hk : l.length < k
    · rw [if_pos hk]
      refine (qtake_short g l k w hS hk).mono ?_
      rintro e' w' ⟨h1, h2, h3⟩
      exact ⟨h2, h3, h1⟩
    · rw [if_neg hk]
      have hI := hS.isB
      refine (qtake_ok g l k w hS (by omega)).mono ?_
      rintro e' w' ⟨A, c, h1, h2, h3, h4, h5⟩
      exact ⟨h3, h4, by simp; omega, isB_take hI k, A, c, h1, h2, h5⟩
  · rw [if_pos he]
    refine (qtake_old g l k e he w hS).mono ?_
    rintro e' w' ⟨h1, rfl⟩
    exact ⟨But.refl _, hS, h1⟩
set_option maxRecDepth 100000 in
set_option maxHeartbeats 1000000 in
theorem qbyte_any (g : Nat) (l : List Nat) (e : Int) (w : World) (hS : Qd w g l e) :
    Calls Try.prog 78 #[.pointer (some ⟨g, 0, none⟩)] w fun e' w' => e' = .returned (.int .u8 (rByte l e : Nat)) ∧ But (fun b => b = g) w w' ∧ Qd w' g (rTake 1 l e).2.1 (rTake 1 l e).2.2 := by
  have hT := qtake_any g l 1 e w hS
  unfold rByte
  rcases hq : rTake 1 l e with ⟨_ | t, l', e1⟩ <;> rw [hq] at hT
  · have HT := hideP hT
    clear hT hq hS
    dsimp only
    go_enter Try.func78, Try.ntmps78
    go_wp2_with (go_at_call 125; refine HT.out.mono ?_; rintro e2 w1 ⟨b1, s1, rfl⟩; have S1 := hideP s1; have B1 := hideP b1; clear b1 s1)
    go_ret
    exact ⟨rfl, B1.out, S1.out⟩
  · have HT := hideP hT
    clear hT hq hS
    dsimp only
    obtain ⟨x, hx⟩ : ∃ x, x = t.getD 0 0 := ⟨_, rfl⟩
    rw [← hx]
    have Hx := hideP hx
    clear hx
    go_enter Try.func78, Try.ntmps78
    go_wp2_with (go_at_call 125; refine HT.out.mono ?_; rintro e2 w1 ⟨b1, s1, hl1, hI1, A, c, rfl, hc1, hX⟩; obtain ⟨b, off, rfl, hB, hcc⟩ := hX (by decide); have c0 := hcc 0 (by decide); unfold u8s at c0; rw [← Hx.out, Nat.add_zero] at c0; have S1 := hideP s1; have B1 := hideP b1; clear b1 s1 hl1 hI1 hX hcc)
    go_ret
    exact ⟨rfl, B1.out, S1.out⟩
end Go.Proofs.Ytiicdnbhphgieaa
