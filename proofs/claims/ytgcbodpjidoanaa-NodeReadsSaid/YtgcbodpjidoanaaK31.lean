/- The reference's reader: state, Take, Byte, Count, Num. The reference's reader: Count, Num, Text. The reference's reader: Row. -/
import Derived.Deep.DeepCutAuto
import Derived.Test.YtgcbodpjidoanaaK18
set_option linter.unusedVariables false
set_option linter.unusedSimpArgs false
namespace Go.Proofs.Ytgcbodpjidoanaa
open Go.RowKit
/-- a reader of the reference's: what is left, its error -/
def Qd (w : World) (g : Nat) (l : List Nat) (e : Int) : Prop := ∃ A c, Two w g 150 (.slice A l.length c) (.int .i64 e) ∧ ArrL w g A l.length l ∧ IsB l ∧ l.length ≤ c
section
variable {w w' W : World} {g n : Nat} {A : Option Addr} {l : List Nat} {e : Int}
theorem Qd.lt (h : Qd w g l e) : g < w.heap.size := by obtain ⟨A, c, h1, _⟩ := h; exact h1.lt
theorem Qd.isB (h : Qd w g l e) : IsB l := by obtain ⟨A, c, _, _, h, _⟩ := h; exact h
theorem Qd.after (h : Qd w g l e) (hW : Below w.heap.size w w') : Qd w' g l e := by obtain ⟨A, c, h1, h2, h3, h4⟩ := h; exact ⟨A, c, h1.after hW, h2.below hW (Nat.le_of_lt h1.lt), h3, h4⟩
theorem Qd.below {B : Nat} (h : Qd w g l e) (hW : Below B w w') (hB : g < B) : Qd w' g l e := by obtain ⟨A, c, h1, h2, h3, h4⟩ := h; exact ⟨A, c, h1.below hW hB, h2.below hW (Nat.le_of_lt hB), h3, h4⟩
theorem Qd.ext (h : Qd w g l e) (hW : Ext w w') : Qd w' g l e := h.after hW.below
theorem Qd.ecell (h : Qd w g l e) : w.cell? ⟨g, 1, none⟩ = some (.int .i64 e) := by obtain ⟨A, c, h1, _⟩ := h; exact h1.c1
theorem Qd.fz (h : Qd w g l e) (i : Nat) : w.frozen? ⟨g, i, none⟩ = false := by obtain ⟨A, c, h1, _⟩ := h; exact h1.fz i
theorem Qd.setE (h : Qd w g l e) (x : Int) : Qd (w.setCell ⟨g, 1, none⟩ (.int .i64 x)) g l x := by
  obtain ⟨A, c, h1, h2, h3, h4⟩ := h; exact ⟨A, c, h1.set1 _, h2.setCell 1 _, h3, h4⟩
theorem Qd.butBelow {B : Nat} (h : Qd w g l e) (b : But (fun k => k = g) w W) (hB : B ≤ g) : Below B w W :=
  ⟨b.os, b.tape, b.output, b.size, fun k hk => b.block k (by have := h.lt; omega) (by omega)⟩
end
set_option maxRecDepth 100000 in
set_option maxHeartbeats 1000000 in
theorem qtake_ok (g : Nat) (l : List Nat) (k : Nat) (w : World) (hS : Qd w g l 0) (hk : k ≤ l.length) :
    Calls Try.prog 176 #[.pointer (some ⟨g, 0, none⟩), .int .i64 (k : Nat)] w fun e' w' => ∃ A c, e' = .returned (.slice A k c) ∧ k ≤ c ∧ But (fun b => b = g) w w' ∧ Qd w' g (l.drop k) 0 ∧ ArrL w' g A k (l.take k) := by
  obtain ⟨A, d, hT, hA, hl, hd⟩ := hS
  have c0 := hT.c0
  have c1 := hT.c1
  have f0 := hT.fz 0
  obtain ⟨n, hN⟩ : ∃ n, n = l.length := ⟨_, rfl⟩
  rw [← hN] at hk hd hT hA c0
  have i1 : ¬ ((n : Int) < (k : Int)) := by omega
  have i1' : (k : Int) ≤ (n : Int) := by omega
  have i2 : (k : Int) ≤ (d : Int) := by omega
  have i3 : k ≤ d := by omega
  have HhT := hideP hT; have HhA := hideP hA; have Hhl := hideP hl; have Hhd := hideP hd; have HhN := hideP hN; clear hT hA hl hd hN
  go_enter Try.func176, Try.ntmps176
  go_wp2_with fail
  rotate_left
  · have hc := HhA.out.cut (cap := d) k hk Hhd.out
    rw [if_neg h] at hc
    go_ret
    refine ⟨A, d, rfl, i3, But.set w ⟨g, 0, none⟩ _ rfl, ⟨A.map (·.add k), d - k, ?_, ?_, isB_drop Hhl.out k, ?_⟩, (HhA.out.front k hk).setCell 0 _⟩
    · rw [List.length_drop, ← HhN.out]; exact HhT.out.set0 _
    · rw [List.length_drop, ← HhN.out]; exact hc.setCell 0 _
    · rw [List.length_drop, ← HhN.out]; have := Hhd.out; omega
  · subst h
    have hc := HhA.out.cut (cap := d) d hk Hhd.out
    rw [if_pos rfl] at hc
    go_ret
    refine ⟨A, d, rfl, i3, But.set w ⟨g, 0, none⟩ _ rfl, ⟨A, ?cc, ?ta, ?tb, isB_drop Hhl.out d, ?tc⟩, (HhA.out.front d hk).setCell 0 _⟩
    case ta => rw [List.length_drop, ← HhN.out]; exact HhT.out.set0 _
    case tb => rw [List.length_drop, ← HhN.out]; exact hc.setCell 0 _
    case tc => rw [List.length_drop, ← HhN.out]; have := Hhd.out; omega
set_option maxRecDepth 100000 in
set_option maxHeartbeats 1000000 in
theorem qtake_short (g : Nat) (l : List Nat) (k : Nat) (w : World) (hS : Qd w g l 0) (hk : l.length < k) :
    Calls Try.prog 176 #[.pointer (some ⟨g, 0, none⟩), .int .i64 (k : Nat)] w fun e' w' => e' = .returned (.slice none 0 0) ∧ But (fun b => b = g) w w' ∧ Qd w' g l 20 := by
  have hR := hideP hS
  obtain ⟨A, d, hT, hA, hl, hd⟩ := hS
  have c0 := hT.c0
  have c1 := hT.c1
  have f1 := hT.fz 1
  obtain ⟨n, hN⟩ : ∃ n, n = l.length := ⟨_, rfl⟩
  rw [← hN] at hk c0
  have i1 : (n : Int) < (k : Int) := by omega
  clear hT hA hl hd hN
  go_enter Try.func176, Try.ntmps176
  go_wp2_with fail
  go_ret
  exact ⟨rfl, But.set w ⟨g, 1, none⟩ _ rfl, hR.out.setE 20⟩
set_option maxRecDepth 100000 in
set_option maxHeartbeats 1000000 in
theorem qtake_old (g : Nat) (l : List Nat) (k e : Int) (he : e ≠ 0) (w : World) (hS : Qd w g l e) :
    Calls Try.prog 176 #[.pointer (some ⟨g, 0, none⟩), .int .i64 k] w fun e' w' => e' = .returned (.slice none 0 0) ∧ w' = w := by
  have c1 := hS.ecell
  clear hS
  go_enter Try.func176, Try.ntmps176
  go_wp2
  go_ret
  exact ⟨rfl, rfl⟩
/-- what Take answers -/
def QTook (w' : World) (g k : Nat) (e' : Ending) : Option (List Nat) → Prop
  | none => e' = .returned (.slice none 0 0)
  | some t => t.length = k ∧ IsB t ∧ ∃ A c, e' = .returned (.slice A k c) ∧ k ≤ c ∧ ArrL w' g A k t
theorem qtake_any (g : Nat) (l : List Nat) (k : Nat) (e : Int) (w : World) (hS : Qd w g l e) :
    Calls Try.prog 176 #[.pointer (some ⟨g, 0, none⟩), .int .i64 (k : Nat)] w fun e' w' => But (fun b => b = g) w w' ∧ Qd w' g (rTake k l e).2.1 (rTake k l e).2.2 ∧ QTook w' g k e' (rTake k l e).1 := by
  unfold rTake
  by_cases he : e = 0
  · subst he
    rw [if_neg (by simp)]
    by_cases hk : l.length < k
    · rw [if_pos hk]
      refine (qtake_short g l k w hS hk).mono ?_
      rintro e' w' ⟨h1, h2, h3⟩
      exact ⟨h2, h3, h1⟩
    · rw [if_neg hk]
      have hI := hS.isB
      refine (qtake_ok g l k w hS (by omega)).mono ?_
      rintro e' w' ⟨A, c, h1, h2, h3, h4, h5⟩
      exact ⟨h3, h4, by simp; omega, isB_take hI k, A, c, h1, h2, h5⟩
  · rw [if_pos he]
    refine (qtake_old g l k e he w hS).mono ?_
    rintro e' w' ⟨h1, rfl⟩
    exact ⟨But.refl _, hS, h1⟩
set_option maxRecDepth 100000 in
set_option maxHeartbeats 1000000 in
theorem qbyte_any (g : Nat) (l : List Nat) (e : Int) (w : World) (hS : Qd w g l e) :
    Calls Try.prog 94 #[.pointer (some ⟨g, 0, none⟩)] w fun e' w' => e' = .returned (.int .u8 (rByte l e : Nat)) ∧ But (fun b => b = g) w w' ∧ Qd w' g (rTake 1 l e).2.1 (rTake 1 l e).2.2 := by
  have hT := qtake_any g l 1 e w hS
  unfold rByte
  rcases hq : rTake 1 l e with ⟨_ | t, l', e1⟩ <;> rw [hq] at hT
  · have HT := hideP hT
    clear hT hq hS
    dsimp only
    go_enter Try.func94, Try.ntmps94
    go_wp2_with (go_at_call 176; refine HT.out.mono ?_; rintro e2 w1 ⟨b1, s1, rfl⟩; have S1 := hideP s1; have B1 := hideP b1; clear b1 s1)
    go_ret
    exact ⟨rfl, B1.out, S1.out⟩
  · have HT := hideP hT
    clear hT hq hS
    dsimp only
    obtain ⟨x, hx⟩ : ∃ x, x = t.getD 0 0 := ⟨_, rfl⟩
    rw [← hx]
    have Hx := hideP hx
    clear hx
    go_enter Try.func94, Try.ntmps94
    go_wp2_with (go_at_call 176; refine HT.out.mono ?_; rintro e2 w1 ⟨b1, s1, hl1, hI1, A, c, rfl, hc1, hX⟩; obtain ⟨b, off, rfl, hB, hcc⟩ := hX (by decide); have c0 := hcc 0 (by decide); unfold u8s at c0; rw [← Hx.out, Nat.add_zero] at c0; have S1 := hideP s1; have B1 := hideP b1; clear b1 s1 hl1 hI1 hX hcc)
    go_ret
    exact ⟨rfl, B1.out, S1.out⟩
end Go.Proofs.Ytgcbodpjidoanaa
namespace Go.Proofs.Ytgcbodpjidoanaa
open Go.RowKit
set_option maxRecDepth 100000 in
set_option maxHeartbeats 1000000 in
theorem qcount_any (g : Nat) (l : List Nat) (most : Nat) (e : Int) (w : World) (hS : Qd w g l e) :
    Calls Try.prog 98 #[.pointer (some ⟨g, 0, none⟩), .int .i64 (most : Nat)] w fun e' w' => e' = .returned (.int .i64 ((rCount most l e).1 : Nat)) ∧ But (fun b => b = g) w w' ∧ Qd w' g (rCount most l e).2.1 (rCount most l e).2.2 := by
  have hT := qtake_any g l 3 e w hS
  unfold rCount
  rcases hq : rTake 3 l e with ⟨_ | t, l', e1⟩ <;> rw [hq] at hT
  · have HT := hideP hT
    clear hT hS hq
    go_enter Try.func98, Try.ntmps98
    go_wp2_with (go_at_call 176; refine HT.out.mono ?_; rintro e2 w1 ⟨b1, s1, rfl⟩; have S1 := hideP s1; have B1 := hideP b1; clear b1 s1)
    go_ret
    exact ⟨rfl, B1.out, S1.out⟩
  · have HT := hideP hT
    obtain rfl := rTake_some hq
    clear hT hS hq
    dsimp only
    obtain ⟨x, hx⟩ : ∃ x, x = t.getD 0 0 := ⟨_, rfl⟩
    obtain ⟨y, hy⟩ : ∃ y, y = t.getD 1 0 := ⟨_, rfl⟩
    obtain ⟨z, hz⟩ : ∃ z, z = t.getD 2 0 := ⟨_, rfl⟩
    have Hx := hideP hx
    have Hy := hideP hy
    have Hz := hideP hz
    rw [← hx, ← hy, ← hz]
    clear hx hy hz
    obtain ⟨RS, hRS⟩ : ∃ RS : Nat × List Nat × Int, RS = if most < x * 65536 + y * 256 + z ∨ 1048576 < x * 65536 + y * 256 + z then (0, l', 10) else (x * 65536 + y * 256 + z, l', 0) := ⟨_, rfl⟩
    rw [← hRS]
    have HRS := hideP hRS
    clear hRS
    go_enter Try.func98, Try.ntmps98
    go_upto_region 4 with (go_at_call 176; refine HT.out.mono ?_; rintro e2 w1 ⟨b1, s1, hl1, hI1, A, c, rfl, hc1, hX⟩; have S1 := hideP s1; have B1 := hideP b1; clear s1 b1; obtain ⟨b, off, rfl, hB, hcc⟩ := hX (by decide); have c0 := hcc 0 (by decide); rw [Nat.add_zero] at c0; have c1 := hcc 1 (by decide); have c2 := hcc 2 (by decide); unfold u8s at c0 c1 c2; rw [← Hx.out] at c0; rw [← Hy.out] at c1; rw [← Hz.out] at c2; have X1 := hI1 0; have Y1 := hI1 1; have Z1 := hI1 2; rw [← Hx.out] at X1; rw [← Hy.out] at Y1; rw [← Hz.out] at Z1; clear hX hcc hl1 hI1)
    obtain ⟨N, hN⟩ : ∃ N, N = x * 65536 + y * 256 + z := ⟨_, rfl⟩
    have nb : N < 16777216 := by omega
    have w1' : IntKind.i64.wrap (65536 * (x : Int)) = (x : Int) * 65536 := by rw [Int.mul_comm]; exact IntWalk.i64_in _ (by omega)
    have w2' : IntKind.i64.wrap (256 * (y : Int)) = (y : Int) * 256 := by rw [Int.mul_comm]; exact IntWalk.i64_in _ (by omega)
    have w3' : IntKind.i64.wrap ((x : Int) * 65536 + (y : Int) * 256) = (x : Int) * 65536 + (y : Int) * 256 := IntWalk.i64_in _ (by omega)
    have w4' : IntKind.i64.wrap ((x : Int) * 65536 + (y : Int) * 256 + (z : Int)) = (N : Int) := by rw [IntWalk.i64_in _ (by omega)]; omega
    rw [← hN] at HRS
    clear hN
    go_quiet (fail)
    clear c0 c1 c2 X1 Y1 Z1 w1' w2' w3' w4'
    have S2 := hideP (show Qd (w1.drewN nq) g l' 0 from S1.out)
    have B2 := hideP (show But (fun b => b = g) w (w1.drewN nq) from ⟨B1.out.size, B1.out.block, B1.out.os, B1.out.tape, B1.out.output⟩)
    generalize w1.drewN nq = W at S2 B2 ⊢
    clear S1 B1 HT
    have k1 := S2.out.ecell
    have f1 := S2.out.fz 1
    by_cases hm : most < N
    · have hm' : (most : Int) < (N : Int) := by omega
      have HE := hideP (HRS.out.trans (if_pos (Or.inl hm)))
      clear HRS
      go_wp2_with fail
      go_ret
      rw [HE.out]
      exact ⟨rfl, B2.out.trans (But.set W ⟨g, 1, none⟩ _ rfl), S2.out.setE 10⟩
    · have hm' : decide ((most : Int) < (N : Int)) = false := by simp; omega
      by_cases hc : 1048576 < N
      · have HE := hideP (HRS.out.trans (if_pos (Or.inr hc)))
        have hc' : (1048576 : Int) < (N : Int) := by omega
        clear HRS
        go_wp2_with fail
        go_ret
        rw [HE.out]
        exact ⟨rfl, B2.out.trans (But.set W ⟨g, 1, none⟩ _ rfl), S2.out.setE 10⟩
      · have HE := hideP (HRS.out.trans (if_neg (by omega)))
        have hc' : decide ((1048576 : Int) < (N : Int)) = false := by simp; omega
        clear HRS
        go_wp2_with fail
        go_ret
        rw [HE.out]
        exact ⟨rfl, B2.out, S2.out⟩
theorem sub_downw (U : Nat) (h : U < 18446744073709551616) : IntKind.i64.wrap (IntKind.u64.wrap ((U : Int) - 9223372036854775808)) = (U : Int) - 9223372036854775808 := by
  rw [IntKind.wrap_u64, IntKind.wrap_i64]
  omega
set_option maxRecDepth 100000 in
set_option maxHeartbeats 1000000 in
theorem qnum_any (g : Nat) (l : List Nat) (e : Int) (w : World) (hS : Qd w g l e) :
    Calls Try.prog 177 #[.pointer (some ⟨g, 0, none⟩)] w fun e' w' => e' = .returned (.int .i64 (rNum l e)) ∧ But (fun b => b = g) w w' ∧ Qd w' g (rTake 8 l e).2.1 (rTake 8 l e).2.2 := by
  have hT := qtake_any g l 8 e w hS
  unfold rNum
  rcases hq : rTake 8 l e with ⟨_ | t, l', e1⟩ <;> rw [hq] at hT
  · have HT := hideP hT
    clear hT hS hq
    go_enter Try.func177, Try.ntmps177
    go_wp2_with (go_at_call 176; refine HT.out.mono ?_; rintro e2 w1 ⟨b1, s1, rfl⟩; have S1 := hideP s1; have B1 := hideP b1; clear b1 s1)
    go_ret
    exact ⟨rfl, B1.out, S1.out⟩
  · have HT := hideP hT
    clear hT hS hq
    dsimp only
    go_enter Try.func177, Try.ntmps177
    go_wp2_with (go_at_call 176; refine HT.out.mono ?_; rintro e2 w1 ⟨b1, s1, hl1, hI1, A, c, rfl, hc1, hX⟩; have S1 := hideP s1; have B1 := hideP b1; have HL := hideP hl1; have HI := hideP hI1; obtain ⟨b, off, rfl, hB, hcc⟩ := hX (by decide); have HCC := hideP hcc; clear s1 b1 hl1 hI1 hX hcc)
    go_loopw [4, 5] (fun v4 v5 wr => ∃ (k : Nat), k ≤ 8 ∧ v5 = .int .i64 (k : Nat) ∧ v4 = .int .u64 (beN (t.take k) : Nat) ∧ Hid (wr = w1)) (fun _ v5 _ => 8 - (intOf v5).toNat)
    case atStart => exact ⟨0, by omega, rfl, rfl, rfl⟩
    case round =>
      obtain ⟨k, hk, rfl, rfl, hV⟩ := hrel
      by_cases hlt : k < 8
      · have i1 : (k : Int) < 8 := by omega
        have m2 : IntKind.i64.wrap ((k : Int) + 1) = (k : Int) + 1 := IntWalk.i64_in _ (by omega)
        have c0 := HCC.out k hlt
        rw [← hV.out] at c0
        unfold u8s at c0
        have hs := hideP (beN_succ t k (by rw [HL.out]; exact hlt))
        have hx := HI.out k
        have hu : beN (t.take k) < 72057594037927936 := by
          have := beN_lt t HI.out k (by rw [HL.out]; exact hk)
          have h2 : (256 : Nat) ^ k ≤ 256 ^ 7 := Nat.pow_le_pow_right (by decide) (by omega)
          have h3 : (256 : Nat) ^ 7 = 72057594037927936 := by decide
          omega
        obtain ⟨x, hx'⟩ : ∃ x, x = t.getD k 0 := ⟨_, rfl⟩
        obtain ⟨u, hu'⟩ : ∃ u, u = beN (t.take k) := ⟨_, rfl⟩
        rw [← hx'] at c0 hx hs
        rw [← hu'] at hu hs ⊢
        have m3 : IntKind.u64.wrap (256 * (u : Int)) = 256 * (u : Int) := by rw [IntKind.wrap_u64]; omega
        obtain ⟨v, hv⟩ : ∃ v, v = u * 256 + x := ⟨_, rfl⟩
        have m4 : IntKind.u64.wrap (256 * (u : Int) + (x : Int)) = (v : Int) := by rw [IntKind.wrap_u64]; omega
        rw [← hv] at hs
        clear hx' hu' hv
        go_wp2_with fail
        go_roundw
        case rel => exact ⟨k + 1, by omega, by rw [show ((k + 1 : Nat) : Int) = (k : Int) + 1 by omega], by rw [hs.out], hV.out⟩
        case measure => simp [intOf]; omega
      · obtain rfl : k = 8 := by omega
        have hu : beN (t.take 8) < 18446744073709551616 := by
          have := beN_lt t HI.out 8 (by rw [HL.out]; exact Nat.le_refl _)
          have h3 : (256 : Nat) ^ 8 = 18446744073709551616 := by decide
          omega
        have ht := hideP (show t.take 8 = t from List.take_of_length_le (by rw [HL.out]; exact Nat.le_refl _))
        rw [ht.out] at hu ⊢
        obtain ⟨u, hu'⟩ : ∃ u, u = beN t := ⟨_, rfl⟩
        rw [← hu'] at hu ⊢
        have Hu := hideP hu'
        clear hu'
        have o1 := sub_downw u hu
        go_wp2_with fail
        go_ret
        have e1 := hV.out
        subst e1
        exact ⟨by rw [← Hu.out]; rfl, B1.out, S1.out⟩
theorem OwnB.butQ {S : Nat → Prop} {w W : World} {base c : Nat} {A : Option Addr} {l : List Nat} (h : OwnB w base A c l) (b : But S w W) (hS : ∀ k, base ≤ k → ¬ S k) : OwnB W base A c l := by
  refine ⟨h.1, h.2.imp id ?_⟩
  rintro ⟨g, cap, cur, hv, hg, hh, r⟩
  exact ⟨g, cap, cur, hv, hg, (b.block g (Array.getElem?_eq_some_iff.1 hh).1 (hS g hg)).trans hh, r⟩
theorem But.then_newQ {S : Nat → Prop} {w w1 w2 : World} {B : Nat} (b : But S w w1) (h : Below B w1 w2) (hB : w.heap.size ≤ B) : But S w w2 :=
  ⟨Nat.le_trans b.size h.size, fun k hk hn => (h.block k (Nat.lt_of_lt_of_le hk hB)).trans (b.block k hk hn), h.os.trans b.os, h.tape.trans b.tape, h.output.trans b.output⟩
end Go.Proofs.Ytgcbodpjidoanaa
namespace Go.Proofs.Ytgcbodpjidoanaa
open Go.RowKit
theorem nums_stop (k : Nat) (l : List Nat) (e : Int) (h : (rNums k l e).2.2 ≠ 0) : ∀ j, (rNums (k + j) l e).2 = (rNums k l e).2
  | 0 => rfl
  | j + 1 => by
    have ih := nums_stop k l e h j
    show (rTake 8 (rNums (k + j) l e).2.1 (rNums (k + j) l e).2.2).2 = _
    rw [ih, take_stuck _ _ _ h]
/-- behind k numbers -/
def QTo (w : World) (g : Nat) (L : List Nat) (E : Int) (wr : World) (A : Option Addr) (c m k : Nat) : Prop :=
  ∃ R : List Int, m = R.length ∧ OwnI wr w.heap.size A c R ∧ But (fun b => b = g) w wr ∧ Qd wr g (rNums k L E).2.1 (rNums k L E).2.2 ∧ ((rNums k L E).2.2 = 0 → R = (rNums k L E).1)
set_option maxRecDepth 100000 in
set_option maxHeartbeats 2000000 in
theorem qrow_any (g : Nat) (l : List Nat) (most : Nat) (e : Int) (w : World) (hS : Qd w g l e) :
    Calls Try.prog 96 #[.pointer (some ⟨g, 0, none⟩), .int .i64 (most : Nat)] w fun e' w' => ∃ R d, e' = .returned (.slice R (rRow most l e).1.length d) ∧ OwnI w' w.heap.size R d (rRow most l e).1 ∧ But (fun b => b = g) w w' ∧ Qd w' g (rRow most l e).2.1 (rRow most l e).2.2 := by
  have hT := qbyte_any g l e w hS
  have hnb := rByte_lt l e hS.isB
  have hg := hS.lt
  have hX := hideP (fun k (h : w.heap.size ≤ k) => (by omega : ¬ (k = g)))
  obtain ⟨n, hn⟩ : ∃ n, n = rByte l e := ⟨_, rfl⟩
  obtain ⟨E, hE⟩ : ∃ E, E = rRowE most l e := ⟨_, rfl⟩
  obtain ⟨L, hL⟩ : ∃ L, L = (rTake 1 l e).2.1 := ⟨_, rfl⟩
  obtain ⟨f, hf⟩ : ∃ f, f = (rTake 1 l e).2.2 := ⟨_, rfl⟩
  have hE' : E = if most < n ∧ f = 0 then 10 else f := by rw [hE, hn, hf]; rfl
  have hR : rRow most l e = (if (rNums n L E).2.2 = 0 then (rNums n L E).1 else [], (rNums n L E).2) := by unfold rRow; rw [← hn, ← hL, ← hE]
  obtain ⟨RS, hRS⟩ : ∃ RS, RS = rRow most l e := ⟨_, rfl⟩
  rw [← hRS]
  have HRS := hideP (hRS.trans hR)
  rw [← hn, ← hL, ← hf] at hT
  rw [← hn] at hnb
  clear hn hE hL hf hRS hR
  have HhT := hideP hT; have HhS := hideP hS; have HhE' := hideP hE'; clear hT hS hE'
  go_enter Try.func96, Try.ntmps96
  go_upto_region 2 with (go_at_call 94; refine HhT.out.mono ?_; rintro e2 w1 ⟨rfl, b1, s1⟩; have S1 := hideP s1; have B1 := hideP b1; clear s1 b1)
  have k1 := S1.out.ecell
  have f1 := S1.out.fz 1
  by_cases hf : f = 0
  · by_cases hm : most < n
    · subst hf
      have hm' : decide ((most : Int) < (n : Int)) = true := by simp; omega
      have HE := hideP (show E = 10 by rw [HhE'.out, if_pos ⟨hm, rfl⟩])
      go_upto_region 4 with fail
      obtain ⟨W, hW⟩ : ∃ W, W = w1.setCell ⟨g, 1, none⟩ (.int .i64 10) := ⟨_, rfl⟩
      have SE := hideP (show Qd W g L E by rw [hW, HE.out]; exact S1.out.setE 10)
      have BE := hideP (show But (fun b => b = g) w W by rw [hW]; exact B1.out.trans (But.set w1 ⟨g, 1, none⟩ _ rfl))
      rw [← hW]
      clear hW k1 f1 S1 B1 HhT HhE'
      go_wp2_with fail
      go_loopw [6, 7] (fun v6 v7 wr => ∃ (k m : Nat) (A : Option Addr) (c : Nat), k ≤ n ∧ v7 = .int .i64 (k : Nat) ∧ v6 = .slice A m c ∧ m ≤ k ∧ Hid (QTo w g L E wr A c m k)) (fun _ v7 _ => n - (intOf v7).toNat)
      case atStart => exact ⟨0, 0, none, 0, by omega, rfl, rfl, by omega, [], rfl, OwnI.nil _ _, BE.out, SE.out, fun _ => rfl⟩
      case round =>
        obtain ⟨k, m, A, c, hk, rfl, rfl, hmk, hV⟩ := hrel
        obtain ⟨R, hm_, hO_, hB_, hQ_, hR_⟩ := hV.out
        have hM := hideP hm_; have hO := hideP hO_; have hB := hideP hB_; have hQ := hideP hQ_; have hRR := hideP hR_
        clear hV hm_ hO_ hB_ hQ_ hR_
        have hst := hideP (show rNums (k + 1) L E = (if (rTake 8 (rNums k L E).2.1 (rNums k L E).2.2).2.2 = 0 then (rNums k L E).1 ++ [rNum (rNums k L E).2.1 (rNums k L E).2.2] else (rNums k L E).1, (rTake 8 (rNums k L E).2.1 (rNums k L E).2.2).2) from rfl)
        have hstop := hideP (nums_stop k L E)
        obtain ⟨⟨rs, l1, e1⟩, hq⟩ : ∃ q, q = rNums k L E := ⟨_, rfl⟩
        rw [← hq] at hst hQ hRR hstop
        dsimp only at hst hQ hRR hstop
        have HQ := hideP hq
        clear hq
        have k1 := hQ.out.ecell
        by_cases hz : e1 = 0
        · subst hz
          by_cases hlt : k < n
          · have i2 : (k : Int) < (n : Int) := by omega
            have hN := qnum_any g l1 0 wr hQ.out
            obtain ⟨x, hx⟩ : ∃ x, x = rNum l1 0 := ⟨_, rfl⟩
            obtain ⟨⟨o, l2, e2⟩, ho⟩ : ∃ q, q = rTake 8 l1 0 := ⟨_, rfl⟩
            rw [← hx, ← ho] at hst hN
            clear hx ho
            dsimp only at hst hN
            have HN := hideP hN
            clear hN
            go_wp2_with (first
              | (go_at_call 177; refine HN.out.mono ?_; rintro e3 w3 ⟨rfl, b3, s3⟩; have S3 := hideP s3; have B3 := hideP (hB.out.trans b3); have O3 := hideP (hO.out.but b3 hX.out); clear b3 s3 k1)
              | (at_builtin; refine wpList_appI rfl (.tmp 36) (.tmp 39) rfl w.heap.size A c m R hM.out rfl O3.out x rfl (by omega) B3.out.size ?_; intro A4 c4 w4 o4 b4; have O4 := hideP o4; have B4 := hideP b4; clear o4 b4))
            go_roundw
            case rel =>
              refine ⟨k + 1, m + 1, A4, c4, by omega, by go_num, rfl, by omega, R ++ [x], by rw [List.length_append, ← hM.out]; rfl, O4.out, B3.out.then_below B4.out, by rw [hst.out]; exact S3.out.below B4.out hg, fun h => ?_⟩
              rw [hst.out] at h ⊢
              dsimp only at h ⊢
              rw [if_pos h, hRR.out trivial]
            case measure => simp [intOf]; omega
          · obtain rfl : k = n := by omega
            have i2 : ¬ ((k : Int) < (k : Int)) := by omega
            go_wp2_with fail
            go_ret
            rw [HRS.out, ← HQ.out]
            have hRe := hRR.out trivial
            exact ⟨A, c, by rw [if_pos rfl, ← hRe, ← hM.out]; rfl, by rw [if_pos rfl, ← hRe]; exact hO.out, hB.out, hQ.out⟩
        · have hz' : ((e1 : Int) == 0) = false := by simpa using hz
          have hz2 : ((e1 : Int) != 0) = true := by simpa using hz
          have hfin := hideP (show RS = ([], l1, e1) by
            have h2 := hstop.out hz (n - k)
            rw [show k + (n - k) = n by omega] at h2
            rw [HRS.out, h2]
            dsimp only
            rw [if_neg hz])
          by_cases hlt : k < n
          · have i2 : (k : Int) < (n : Int) := by omega
            go_wp2_with fail
            go_ret
            rw [hfin.out]
            exact ⟨none, 0, rfl, OwnI.nil _ _, hB.out, hQ.out⟩
          · have i2 : ¬ ((k : Int) < (n : Int)) := by omega
            go_wp2_with fail
            go_ret
            rw [hfin.out]
            exact ⟨none, 0, rfl, OwnI.nil _ _, hB.out, hQ.out⟩
    · subst hf
      have hm' : decide ((most : Int) < (n : Int)) = false := by simp; omega
      have HE := hideP (show E = 0 by rw [HhE'.out, if_neg (fun h => hm h.1)])
      go_upto_region 4 with fail
      have SE := hideP (show Qd w1 g L E by rw [HE.out]; exact S1.out)
      have BE := hideP B1.out
      clear k1 f1 S1 B1 HhT HhE'
      go_wp2_with fail
      go_loopw [6, 7] (fun v6 v7 wr => ∃ (k m : Nat) (A : Option Addr) (c : Nat), k ≤ n ∧ v7 = .int .i64 (k : Nat) ∧ v6 = .slice A m c ∧ m ≤ k ∧ Hid (QTo w g L E wr A c m k)) (fun _ v7 _ => n - (intOf v7).toNat)
      case atStart => exact ⟨0, 0, none, 0, by omega, rfl, rfl, by omega, [], rfl, OwnI.nil _ _, BE.out, SE.out, fun _ => rfl⟩
      case round =>
        obtain ⟨k, m, A, c, hk, rfl, rfl, hmk, hV⟩ := hrel
        obtain ⟨R, hm_, hO_, hB_, hQ_, hR_⟩ := hV.out
        have hM := hideP hm_; have hO := hideP hO_; have hB := hideP hB_; have hQ := hideP hQ_; have hRR := hideP hR_
        clear hV hm_ hO_ hB_ hQ_ hR_
        have hst := hideP (show rNums (k + 1) L E = (if (rTake 8 (rNums k L E).2.1 (rNums k L E).2.2).2.2 = 0 then (rNums k L E).1 ++ [rNum (rNums k L E).2.1 (rNums k L E).2.2] else (rNums k L E).1, (rTake 8 (rNums k L E).2.1 (rNums k L E).2.2).2) from rfl)
        have hstop := hideP (nums_stop k L E)
        obtain ⟨⟨rs, l1, e1⟩, hq⟩ : ∃ q, q = rNums k L E := ⟨_, rfl⟩
        rw [← hq] at hst hQ hRR hstop
        dsimp only at hst hQ hRR hstop
        have HQ := hideP hq
        clear hq
        have k1 := hQ.out.ecell
        by_cases hz : e1 = 0
        · subst hz
          by_cases hlt : k < n
          · have i2 : (k : Int) < (n : Int) := by omega
            have hN := qnum_any g l1 0 wr hQ.out
            obtain ⟨x, hx⟩ : ∃ x, x = rNum l1 0 := ⟨_, rfl⟩
            obtain ⟨⟨o, l2, e2⟩, ho⟩ : ∃ q, q = rTake 8 l1 0 := ⟨_, rfl⟩
            rw [← hx, ← ho] at hst hN
            clear hx ho
            dsimp only at hst hN
            have HN := hideP hN
            clear hN
            go_wp2_with (first
              | (go_at_call 177; refine HN.out.mono ?_; rintro e3 w3 ⟨rfl, b3, s3⟩; have S3 := hideP s3; have B3 := hideP (hB.out.trans b3); have O3 := hideP (hO.out.but b3 hX.out); clear b3 s3 k1)
              | (at_builtin; refine wpList_appI rfl (.tmp 36) (.tmp 39) rfl w.heap.size A c m R hM.out rfl O3.out x rfl (by omega) B3.out.size ?_; intro A4 c4 w4 o4 b4; have O4 := hideP o4; have B4 := hideP b4; clear o4 b4))
            go_roundw
            case rel =>
              refine ⟨k + 1, m + 1, A4, c4, by omega, by go_num, rfl, by omega, R ++ [x], by rw [List.length_append, ← hM.out]; rfl, O4.out, B3.out.then_below B4.out, by rw [hst.out]; exact S3.out.below B4.out hg, fun h => ?_⟩
              rw [hst.out] at h ⊢
              dsimp only at h ⊢
              rw [if_pos h, hRR.out trivial]
            case measure => simp [intOf]; omega
          · obtain rfl : k = n := by omega
            have i2 : ¬ ((k : Int) < (k : Int)) := by omega
            go_wp2_with fail
            go_ret
            rw [HRS.out, ← HQ.out]
            have hRe := hRR.out trivial
            exact ⟨A, c, by rw [if_pos rfl, ← hRe, ← hM.out]; rfl, by rw [if_pos rfl, ← hRe]; exact hO.out, hB.out, hQ.out⟩
        · have hz' : ((e1 : Int) == 0) = false := by simpa using hz
          have hz2 : ((e1 : Int) != 0) = true := by simpa using hz
          have hfin := hideP (show RS = ([], l1, e1) by
            have h2 := hstop.out hz (n - k)
            rw [show k + (n - k) = n by omega] at h2
            rw [HRS.out, h2]
            dsimp only
            rw [if_neg hz])
          by_cases hlt : k < n
          · have i2 : (k : Int) < (n : Int) := by omega
            go_wp2_with fail
            go_ret
            rw [hfin.out]
            exact ⟨none, 0, rfl, OwnI.nil _ _, hB.out, hQ.out⟩
          · have i2 : ¬ ((k : Int) < (n : Int)) := by omega
            go_wp2_with fail
            go_ret
            rw [hfin.out]
            exact ⟨none, 0, rfl, OwnI.nil _ _, hB.out, hQ.out⟩
  · have hf' : ((f : Int) == 0) = false := by simpa using hf
    have HE := hideP (show E = f by rw [HhE'.out, if_neg (fun h => hf h.2)])
    go_upto_region 4 with fail
    have SE := hideP (show Qd w1 g L E by rw [HE.out]; exact S1.out)
    have BE := hideP B1.out
    clear k1 f1 S1 B1 HhT HhE' hf'
    go_wp2_with fail
    go_loopw [6, 7] (fun v6 v7 wr => ∃ (k m : Nat) (A : Option Addr) (c : Nat), k ≤ n ∧ v7 = .int .i64 (k : Nat) ∧ v6 = .slice A m c ∧ m ≤ k ∧ Hid (QTo w g L E wr A c m k)) (fun _ v7 _ => n - (intOf v7).toNat)
    case atStart => exact ⟨0, 0, none, 0, by omega, rfl, rfl, by omega, [], rfl, OwnI.nil _ _, BE.out, SE.out, fun _ => rfl⟩
    case round =>
      obtain ⟨k, m, A, c, hk, rfl, rfl, hmk, hV⟩ := hrel
      obtain ⟨R, hm_, hO_, hB_, hQ_, hR_⟩ := hV.out
      have hM := hideP hm_; have hO := hideP hO_; have hB := hideP hB_; have hQ := hideP hQ_; have hRR := hideP hR_
      clear hV hm_ hO_ hB_ hQ_ hR_
      have hst := hideP (show rNums (k + 1) L E = (if (rTake 8 (rNums k L E).2.1 (rNums k L E).2.2).2.2 = 0 then (rNums k L E).1 ++ [rNum (rNums k L E).2.1 (rNums k L E).2.2] else (rNums k L E).1, (rTake 8 (rNums k L E).2.1 (rNums k L E).2.2).2) from rfl)
      have hstop := hideP (nums_stop k L E)
      obtain ⟨⟨rs, l1, e1⟩, hq⟩ : ∃ q, q = rNums k L E := ⟨_, rfl⟩
      rw [← hq] at hst hQ hRR hstop
      dsimp only at hst hQ hRR hstop
      have HQ := hideP hq
      clear hq
      have k1 := hQ.out.ecell
      by_cases hz : e1 = 0
      · subst hz
        by_cases hlt : k < n
        · have i2 : (k : Int) < (n : Int) := by omega
          have hN := qnum_any g l1 0 wr hQ.out
          obtain ⟨x, hx⟩ : ∃ x, x = rNum l1 0 := ⟨_, rfl⟩
          obtain ⟨⟨o, l2, e2⟩, ho⟩ : ∃ q, q = rTake 8 l1 0 := ⟨_, rfl⟩
          rw [← hx, ← ho] at hst hN
          clear hx ho
          dsimp only at hst hN
          have HN := hideP hN
          clear hN
          go_wp2_with (first
            | (go_at_call 177; refine HN.out.mono ?_; rintro e3 w3 ⟨rfl, b3, s3⟩; have S3 := hideP s3; have B3 := hideP (hB.out.trans b3); have O3 := hideP (hO.out.but b3 hX.out); clear b3 s3 k1)
            | (at_builtin; refine wpList_appI rfl (.tmp 36) (.tmp 39) rfl w.heap.size A c m R hM.out rfl O3.out x rfl (by omega) B3.out.size ?_; intro A4 c4 w4 o4 b4; have O4 := hideP o4; have B4 := hideP b4; clear o4 b4))
          go_roundw
          case rel =>
            refine ⟨k + 1, m + 1, A4, c4, by omega, by go_num, rfl, by omega, R ++ [x], by rw [List.length_append, ← hM.out]; rfl, O4.out, B3.out.then_below B4.out, by rw [hst.out]; exact S3.out.below B4.out hg, fun h => ?_⟩
            rw [hst.out] at h ⊢
            dsimp only at h ⊢
            rw [if_pos h, hRR.out trivial]
          case measure => simp [intOf]; omega
        · obtain rfl : k = n := by omega
          have i2 : ¬ ((k : Int) < (k : Int)) := by omega
          go_wp2_with fail
          go_ret
          rw [HRS.out, ← HQ.out]
          have hRe := hRR.out trivial
          exact ⟨A, c, by rw [if_pos rfl, ← hRe, ← hM.out]; rfl, by rw [if_pos rfl, ← hRe]; exact hO.out, hB.out, hQ.out⟩
      · have hz' : ((e1 : Int) == 0) = false := by simpa using hz
        have hz2 : ((e1 : Int) != 0) = true := by simpa using hz
        have hfin := hideP (show RS = ([], l1, e1) by
          have h2 := hstop.out hz (n - k)
          rw [show k + (n - k) = n by omega] at h2
          rw [HRS.out, h2]
          dsimp only
          rw [if_neg hz])
        by_cases hlt : k < n
        · have i2 : (k : Int) < (n : Int) := by omega
          go_wp2_with fail
          go_ret
          rw [hfin.out]
          exact ⟨none, 0, rfl, OwnI.nil _ _, hB.out, hQ.out⟩
        · have i2 : ¬ ((k : Int) < (n : Int)) := by omega
          go_wp2_with fail
          go_ret
          rw [hfin.out]
          exact ⟨none, 0, rfl, OwnI.nil _ _, hB.out, hQ.out⟩
end Go.Proofs.Ytgcbodpjidoanaa
