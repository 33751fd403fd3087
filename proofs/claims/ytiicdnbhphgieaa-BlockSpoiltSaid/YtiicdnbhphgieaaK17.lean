/- Contracts of codec.Reader's fail, take, Err, End. Contracts of codec.Reader's take (told at once), Byte, Err, End; codec.New. Contracts of codec.Reader's Count. -/
import Derived.Laws.BitsAllLaws
import Derived.BigQuiet
import Derived.Test.YtiicdnbhphgieaaK6
import Derived.Test.YtiicdnbhphgieaaK10
import Derived.Test.YtiicdnbhphgieaaK16
set_option linter.unusedVariables false
set_option linter.unusedSimpArgs false
namespace Go.Proofs.Ytiicdnbhphgieaa
open Go.RowKit
/-- bytes that lie in a block below g -/
def ArrL (w : World) (g : Nat) (A : Option Addr) (n : Nat) (l : List Nat) : Prop := 0 < n → ∃ b off, A = some ⟨b, off, none⟩ ∧ b < g ∧ ∀ i, i < n → w.cell? ⟨b, off + i, none⟩ = some (u8s l i)
section
variable {w W : World} {g n : Nat} {A : Option Addr} {l : List Nat}
theorem ArrL.arr (h : ArrL w g A n l) : Arr w g A n (u8s l) := h
theorem ArrL.below {B : Nat} (h : ArrL w g A n l) (hb : Below B w W) (hg : g ≤ B) : ArrL W g A n l := fun hn => by
  obtain ⟨b, off, e, hB, hc⟩ := h hn
  exact ⟨b, off, e, hB, fun i hi => by rw [hb.cell (Nat.lt_of_lt_of_le hB hg)]; exact hc i hi⟩
theorem ArrL.setCell (h : ArrL w g A n l) (o : Nat) (v : Value) : ArrL (w.setCell ⟨g, o, none⟩ v) g A n l := fun hn => by
  obtain ⟨b, off, e, hB, hc⟩ := h hn
  exact ⟨b, off, e, hB, fun i hi => by rw [World.cell?_setCell_other _ _ _ _ (by intro e2; injection e2 with e2 _ _; omega)]; exact hc i hi⟩
theorem ArrL.cut {cap : Nat} (h : ArrL w g A n l) (k : Nat) (hk : k ≤ n) (hc : n ≤ cap) : ArrL w g (if cap = k then A else A.map (·.add k)) (n - k) (l.drop k) := fun hn => by
  obtain ⟨b, off, rfl, hB, hcell⟩ := h (by omega)
  rw [if_neg (by omega)]
  refine ⟨b, off + k, ?_, hB, fun i hi => ?_⟩
  · simp only [Option.map_some, Addr.add]
    split
    · simp_all
    · rfl
  · rw [Nat.add_assoc, hcell _ (by omega)]; unfold u8s List.getD; rw [List.getElem?_drop]
theorem ArrL.front (h : ArrL w g A n l) (k : Nat) (hk : k ≤ n) : ArrL w g A k (l.take k) := fun hn => by
  obtain ⟨b, off, rfl, hB, hcell⟩ := h (by omega)
  refine ⟨b, off, rfl, hB, fun i hi => ?_⟩
  rw [hcell i (by omega)]; unfold u8s List.getD; rw [List.getElem?_take, if_pos hi]
end
/-- a reader that has l to read, its error e -/
def Rd (w : World) (g : Nat) (l : List Nat) (e : Int) : Prop := ∃ A c, Two w g 148 (.slice A l.length c) (.int .i64 e) ∧ ArrL w g A l.length l ∧ IsB l ∧ l.length ≤ c
section
variable {w w' : World} {g : Nat} {l : List Nat} {e : Int}
theorem Rd.lt (h : Rd w g l e) : g < w.heap.size := by obtain ⟨A, c, h1, _⟩ := h; exact h1.lt
theorem Rd.isB (h : Rd w g l e) : IsB l := by obtain ⟨A, c, _, _, h, _⟩ := h; exact h
theorem Rd.after (h : Rd w g l e) (hW : Below w.heap.size w w') : Rd w' g l e := by obtain ⟨A, c, h1, h2, h3, h4⟩ := h; exact ⟨A, c, h1.after hW, h2.below hW (Nat.le_of_lt h1.lt), h3, h4⟩
theorem Rd.below {B : Nat} (h : Rd w g l e) (hW : Below B w w') (hB : g < B) : Rd w' g l e := by obtain ⟨A, c, h1, h2, h3, h4⟩ := h; exact ⟨A, c, h1.below hW hB, h2.below hW (Nat.le_of_lt hB), h3, h4⟩
theorem Rd.ext (h : Rd w g l e) (hW : Ext w w') : Rd w' g l e := h.after hW.below
end
theorem isB_drop {l : List Nat} (h : IsB l) (k : Nat) : IsB (l.drop k) := fun i => by
  have := h (k + i); unfold List.getD at this ⊢; rwa [List.getElem?_drop]
theorem isB_take {l : List Nat} (h : IsB l) (k : Nat) : IsB (l.take k) := fun i => by
  have := h i; unfold List.getD at this ⊢; rw [List.getElem?_take]; split
  · exact this
  · decide
set_option maxRecDepth 100000 in
set_option maxHeartbeats 400000 in
theorem fail_new (g : Nat) (l : List Nat) (x : Int) (w : World) (hS : Rd w g l 0) :
    Calls Try.prog 122 #[.pointer (some ⟨g, 0, none⟩), .int .i64 x] w fun e' w' => e' = .returned (.tuple #[]) ∧ But (fun b => b = g) w w' ∧ Rd w' g l x := by
  obtain ⟨A, d, hT, hA, hl, hd⟩ := hS
  have c1 := hT.c1
  have f1 := hT.fz 1
  have HhT := hideP hT; have HhA := hideP hA; have Hhl := hideP hl; have Hhd := hideP hd; clear hT hA hl hd
  go_enter Try.func122, Try.ntmps122
  go_wp2
  exact bodyPost_end (results_none rfl _ _ _) rfl ⟨rfl, But.set w ⟨g, 1, none⟩ _ rfl, A, d, HhT.out.set1 _, HhA.out.setCell 1 _, Hhl.out, Hhd.out⟩
theorem fail_old (g : Nat) (l : List Nat) (x e : Int) (he : e ≠ 0) (w : World) (hS : Rd w g l e) :
    Calls Try.prog 122 #[.pointer (some ⟨g, 0, none⟩), .int .i64 x] w fun e' w' => e' = .returned (.tuple #[]) ∧ w' = w := by
  obtain ⟨A, d, hT, hA, hl, hd⟩ := hS
  have c1 := hT.c1
  have f1 := hT.fz 1
  have HhT := hideP hT; have HhA := hideP hA; have Hhl := hideP hl; have Hhd := hideP hd; clear hT hA hl hd
  go_enter Try.func122, Try.ntmps122
  go_wp2
  exact bodyPost_end (results_none rfl _ _ _) rfl ⟨rfl, rfl⟩
set_option maxRecDepth 100000 in
set_option maxHeartbeats 1000000 in
theorem take_ok (g : Nat) (l : List Nat) (k : Nat) (w : World) (hS : Rd w g l 0) (hk : k ≤ l.length) :
    Calls Try.prog 121 #[.pointer (some ⟨g, 0, none⟩), .int .i64 (k : Nat)] w fun e' w' => ∃ A c, e' = .returned (.tuple #[.slice A k c, .bool true]) ∧ k ≤ c ∧ But (fun b => b = g) w w' ∧ Rd w' g (l.drop k) 0 ∧ ArrL w' g A k (l.take k) := by
  obtain ⟨A, d, hT, hA, hl, hd⟩ := hS
  have c0 := hT.c0
  have c1 := hT.c1
  have f0 := hT.fz 0
  obtain ⟨n, hN⟩ : ∃ n, n = l.length := ⟨_, rfl⟩
  rw [← hN] at hk hd hT hA c0
  have i1 : ¬ ((n : Int) < (k : Int)) := by omega
  have i1' : (k : Int) ≤ (n : Int) := by omega
  have i2 : (k : Int) ≤ (d : Int) := by omega
  have i3 : k ≤ d := by omega
  have HhT := hideP hT; have HhA := hideP hA; have Hhl := hideP hl; have Hhd := hideP hd; have HhN := hideP hN; clear hT hA hl hd hN
  go_enter Try.func121, Try.ntmps121
  go_wp2_with fail
  rotate_left
  · have hc := HhA.out.cut (cap := d) k hk Hhd.out
    rw [if_neg h] at hc
    go_ret2
    refine ⟨A, d, rfl, i3, But.set w ⟨g, 0, none⟩ _ rfl, ⟨A.map (·.add k), d - k, ?_, ?_, isB_drop Hhl.out k, ?_⟩, (HhA.out.front k hk).setCell 0 _⟩
    · rw [List.length_drop, ← HhN.out]; exact HhT.out.set0 _
    · rw [List.length_drop, ← HhN.out]; exact hc.setCell 0 _
    · rw [List.length_drop, ← HhN.out]; have := Hhd.out; omega
  · subst h
    have hc := HhA.out.cut (cap := d) d hk Hhd.out
    rw [if_pos rfl] at hc
    go_ret2
    refine ⟨A, d, rfl, i3, But.set w ⟨g, 0, none⟩ _ rfl, ⟨A, ?cc, ?ta, ?tb, isB_drop Hhl.out d, ?tc⟩, (HhA.out.front d hk).setCell 0 _⟩
    case ta => rw [List.length_drop, ← HhN.out]; exact HhT.out.set0 _
    case tb => rw [List.length_drop, ← HhN.out]; exact hc.setCell 0 _
    case tc => rw [List.length_drop, ← HhN.out]; have := Hhd.out; omega
set_option maxRecDepth 100000 in
set_option maxHeartbeats 1000000 in
theorem take_short (g : Nat) (l : List Nat) (k : Nat) (w : World) (hS : Rd w g l 0) (hk : l.length < k) :
    Calls Try.prog 121 #[.pointer (some ⟨g, 0, none⟩), .int .i64 (k : Nat)] w fun e' w' => e' = .returned (.tuple #[.slice none 0 0, .bool false]) ∧ But (fun b => b = g) w w' ∧ Rd w' g l 20 := by
  obtain ⟨A, d, hT, hA, hl, hd⟩ := hS
  have c0 := hT.c0
  have c1 := hT.c1
  have hR := hideP (show Rd w g l 0 from ⟨A, d, hT, hA, hl, hd⟩)
  obtain ⟨n, hN⟩ : ∃ n, n = l.length := ⟨_, rfl⟩
  rw [← hN] at hk c0
  have i1 : (n : Int) < (k : Int) := by omega
  clear hT hA hl hd hN
  go_enter Try.func121, Try.ntmps121
  go_wp2_with (go_at_call 122; refine (fail_new g l 20 _ hR.out).mono ?_; rintro e1 w1 ⟨rfl, b1, s1⟩; clear c0 c1; have S1 := hideP s1; have B1 := hideP b1; clear b1; obtain ⟨A1, d1, hT1, _⟩ := s1; have c1 := hT1.c1; clear hT1)
  go_ret2
  exact ⟨rfl, B1.out, S1.out⟩
set_option maxRecDepth 100000 in
set_option maxHeartbeats 1000000 in
theorem take_old (g : Nat) (l : List Nat) (k e : Int) (he : e ≠ 0) (w : World) (hS : Rd w g l e) :
    Calls Try.prog 121 #[.pointer (some ⟨g, 0, none⟩), .int .i64 k] w fun e' w' => e' = .returned (.tuple #[.slice none 0 0, .bool false]) ∧ w' = w := by
  obtain ⟨A, d, hT, hA, hl, hd⟩ := hS
  have c1 := hT.c1
  clear hT hA hl hd
  go_enter Try.func121, Try.ntmps121
  go_wp2
  go_ret2
  exact ⟨rfl, rfl⟩
end Go.Proofs.Ytiicdnbhphgieaa
namespace Go.Proofs.Ytiicdnbhphgieaa
open Go.RowKit
/-- the next k bytes, what is left, the error -/
def rTake (k : Nat) (l : List Nat) (e : Int) : Option (List Nat) × List Nat × Int :=
  if e ≠ 0 then (none, l, e) else if l.length < k then (none, l, 20) else (some (l.take k), l.drop k, 0)
/-- what take answers -/
def Took (w' : World) (g k : Nat) (e' : Ending) : Option (List Nat) → Prop
  | none => e' = .returned (.tuple #[.slice none 0 0, .bool false])
  | some t => t.length = k ∧ IsB t ∧ ∃ A c, e' = .returned (.tuple #[.slice A k c, .bool true]) ∧ k ≤ c ∧ ArrL w' g A k t
theorem take_any (g : Nat) (l : List Nat) (k : Nat) (e : Int) (w : World) (hS : Rd w g l e) :
    Calls Try.prog 121 #[.pointer (some ⟨g, 0, none⟩), .int .i64 (k : Nat)] w fun e' w' => But (fun b => b = g) w w' ∧ Rd w' g (rTake k l e).2.1 (rTake k l e).2.2 ∧ Took w' g k e' (rTake k l e).1 := by
  unfold rTake
  split
  · rename_i he
    refine (take_old g l k e he w hS).mono ?_
    rintro e' w' ⟨rfl, rfl⟩
    exact ⟨But.refl _, hS, rfl⟩
  · rename_i he
    obtain rfl : e = 0 := Decidable.not_not.1 he
    split
    · rename_i hk
      refine (take_short g l k w hS hk).mono ?_
      rintro e' w' ⟨rfl, h1, h2⟩
      exact ⟨h1, h2, rfl⟩
    · rename_i hk
      have hk' : k ≤ l.length := by omega
      refine (take_ok g l k w hS hk').mono ?_
      rintro e' w' ⟨A, c, rfl, h1, h2, h3, h4⟩
      exact ⟨h2, h3, by simp; omega, isB_take hS.isB k, A, c, rfl, h1, h4⟩
/-- the next byte -/
def rByte (l : List Nat) (e : Int) : Nat := match (rTake 1 l e).1 with | none => 0 | some t => t.getD 0 0
set_option maxRecDepth 100000 in
set_option maxHeartbeats 400000 in
theorem rbyte_any (g : Nat) (l : List Nat) (e : Int) (w : World) (hS : Rd w g l e) :
    Calls Try.prog 96 #[.pointer (some ⟨g, 0, none⟩)] w fun e' w' => e' = .returned (.int .u8 (rByte l e : Nat)) ∧ But (fun b => b = g) w w' ∧ Rd w' g (rTake 1 l e).2.1 (rTake 1 l e).2.2 := by
  have hT := take_any g l 1 e w hS
  unfold rByte
  rcases hq : rTake 1 l e with ⟨_ | t, l', e1⟩ <;> rw [hq] at hT
  · have HT := hideP hT
    clear hT hS hq
    go_enter Try.func96, Try.ntmps96
    go_wp2_with (go_at_call 121; refine HT.out.mono ?_; rintro e2 w1 ⟨b1, s1, rfl⟩)
    go_ret
    exact ⟨rfl, b1, s1⟩
  · have HT := hideP hT
    clear hT hS hq
    dsimp only
    obtain ⟨x, hx⟩ : ∃ x, x = t.getD 0 0 := ⟨_, rfl⟩
    have Hx := hideP hx
    rw [← hx]
    clear hx
    go_enter Try.func96, Try.ntmps96
    go_wp2_with (go_at_call 121; refine HT.out.mono ?_; rintro e2 w1 ⟨b1, s1, hl1, hI1, A, c, rfl, hc1, hX⟩; obtain ⟨b, off, rfl, hB, hcc⟩ := hX (by decide); have c0 := hcc 0 (by decide); rw [Nat.add_zero] at c0; unfold u8s at c0; rw [← Hx.out] at c0)
    go_ret
    exact ⟨rfl, b1, s1⟩
theorem rerr_any (g : Nat) (l : List Nat) (e : Int) (w : World) (hS : Rd w g l e) :
    Calls Try.prog 67 #[.pointer (some ⟨g, 0, none⟩)] w fun e' w' => e' = .returned (.int .i64 e) ∧ w' = w := by
  obtain ⟨A, d, hT, hO, hl⟩ := hS
  have c1 := hT.c1
  clear hT hO hl
  go_enter Try.func67, Try.ntmps67
  go_wp2
  go_ret
  exact ⟨rfl, rfl⟩
/-- the error behind a reader's end -/
def rEnd (l : List Nat) (e : Int) : Int := if 0 < l.length ∧ e = 0 then 22 else e
set_option maxRecDepth 100000 in
set_option maxHeartbeats 400000 in
theorem rend_any (g : Nat) (l : List Nat) (e : Int) (w : World) (hS : Rd w g l e) :
    Calls Try.prog 68 #[.pointer (some ⟨g, 0, none⟩)] w fun e' w' => e' = .returned (.int .i64 (rEnd l e)) ∧ But (fun b => b = g) w w' ∧ Rd w' g l (rEnd l e) := by
  have HS := hideP hS
  obtain ⟨A, d, hT, hA, hl, hd⟩ := hS
  have c0 := hT.c0
  have c1 := hT.c1
  clear hT hA hl hd
  obtain ⟨n, hN⟩ : ∃ n, n = l.length := ⟨_, rfl⟩
  rw [← hN] at c0
  unfold rEnd
  rw [← hN]
  clear hN
  by_cases hn : 0 < n
  · have i1 : (0 : Int) < (n : Int) := by omega
    by_cases he : e = 0
    · subst he
      rw [if_pos ⟨hn, rfl⟩]
      go_enter Try.func68, Try.ntmps68
      go_wp2_with (go_at_call 122; refine (fail_new g l 22 _ HS.out).mono ?_; rintro e1 w1 ⟨rfl, b1, s1⟩; clear c0 c1; have S1 := hideP s1; have B1 := hideP b1; clear b1; obtain ⟨A1, d1, hT1, _⟩ := s1; have c1 := hT1.c1; clear hT1)
      go_ret
      exact ⟨rfl, B1.out, S1.out⟩
    · rw [if_neg (fun h => he h.2)]
      have He := hideP he
      clear he
      go_enter Try.func68, Try.ntmps68
      go_wp2_with (go_at_call 122; refine (fail_old g l 22 e He.out _ HS.out).mono ?_; rintro e1 w1 ⟨rfl, rfl⟩)
      go_ret
      exact ⟨rfl, But.refl _, HS.out⟩
  · obtain rfl : n = 0 := by omega
    rw [if_neg (fun h => absurd h.1 (by decide))]
    go_enter Try.func68, Try.ntmps68
    go_wp2
    go_ret
    exact ⟨rfl, But.refl _, HS.out⟩
set_option maxRecDepth 100000 in
set_option maxHeartbeats 400000 in
theorem rnew_any (A : Option Addr) (l : List Nat) (c : Nat) (w : World) (hA : Arr w w.heap.size A l.length (u8s l)) (hI : IsB l) (hn : l.length ≤ 140737488351232) :
    Calls Try.prog 64 #[.slice A l.length c] w fun e w' => ∃ g, e = .returned (.pointer (some ⟨g, 0, none⟩)) ∧ w.heap.size ≤ g ∧ Below w.heap.size w w' ∧ Rd w' g l 0 := by
  have hT := hideP (sclone_any A l c w hA hn)
  have HhI := hideP hI; clear hI
  clear hA
  go_enter Try.func64, Try.ntmps64
  go_wp2_with (go_at_call 120; refine hT.out.mono ?_; rintro e2 w1 ⟨R, d, rfl, o1, b1⟩; have O1 := hideP o1; have B1 := hideP b1; clear o1 b1)
  go_ret
  have hx : ArrL w1 w1.heap.size R l.length l := fun hn => by
    obtain ⟨b, hR, h1, h2, _, hc⟩ := O1.out.at hn
    exact ⟨b, 0, hR, h2, fun i hi => by rw [Nat.zero_add]; exact hc i hi⟩
  refine ⟨w1.heap.size, rfl, B1.out.size, B1.out.alloc B1.out.size _, R, d, Two.new _ _ _ _, ?_, HhI.out, O1.out.cap⟩
  intro hn
  obtain ⟨b, off, hR, h1, hc⟩ := hx hn
  exact ⟨b, off, hR, h1, fun i hi => (World.cell?_alloc_lt w1 _ _ h1).trans (hc i hi)⟩
end Go.Proofs.Ytiicdnbhphgieaa
namespace Go.Proofs.Ytiicdnbhphgieaa
open Go.RowKit
theorem i64_or_natr (a b : Nat) (ha : a < 4611686018427387904) (hb : b < 4611686018427387904) : bits .or .i64 (a : Int) (b : Int) = ((a ||| b : Nat) : Int) := by
  have hx : a ||| b < 2 ^ 62 := Nat.or_lt_two_pow (by omega) (by omega)
  have h1 : (BitVec.ofInt 64 (a : Int)).toNat = a := by
    rw [BitVec.ofInt_natCast, BitVec.toNat_ofNat]; exact Nat.mod_eq_of_lt (by omega)
  have h2 : (BitVec.ofInt 64 (b : Int)).toNat = b := by
    rw [BitVec.ofInt_natCast, BitVec.toNat_ofNat]; exact Nat.mod_eq_of_lt (by omega)
  show IntKind.i64.wrap ((BitVec.ofInt 64 (a : Int) ||| BitVec.ofInt 64 (b : Int)).toNat : Int) = _
  rw [BitVec.toNat_or, h1, h2, IntKind.wrap_i64]
  omega
theorem or3a (x y : Nat) (hx : x < 256) (hy : y < 256) : bits .or .i64 ((x : Int) * 65536) ((y : Int) * 256) = (x : Int) * 65536 + (y : Int) * 256 := by
  rw [show (x : Int) * 65536 = ((x * 65536 : Nat) : Int) by omega, show (y : Int) * 256 = ((y * 256 : Nat) : Int) by omega, i64_or_natr _ _ (by omega) (by omega), nat_join 16 _ _ (by simp) (by omega)]
  omega
theorem or3b (x y z : Nat) (hx : x < 256) (hy : y < 256) (hz : z < 256) : bits .or .i64 ((x : Int) * 65536 + (y : Int) * 256) (z : Int) = (x : Int) * 65536 + (y : Int) * 256 + (z : Int) := by
  rw [show (x : Int) * 65536 + (y : Int) * 256 = ((x * 65536 + y * 256 : Nat) : Int) by omega, i64_or_natr _ _ (by omega) (by omega), nat_join 8 _ _ (by omega) (by omega)]
  omega
/-- a count that is read -/
def rCount (most : Nat) (l : List Nat) (e : Int) : Nat × List Nat × Int :=
  match rTake 3 l e with
  | (none, l', e') => (0, l', e')
  | (some t, l', e') => if most < t.getD 0 0 * 65536 + t.getD 1 0 * 256 + t.getD 2 0 ∨ 1048576 < t.getD 0 0 * 65536 + t.getD 1 0 * 256 + t.getD 2 0 then (0, l', 10) else (t.getD 0 0 * 65536 + t.getD 1 0 * 256 + t.getD 2 0, l', 0)
theorem rTake_some {k : Nat} {l t l' : List Nat} {e e' : Int} (h : rTake k l e = (some t, l', e')) : e' = 0 := by
  unfold rTake at h
  split at h
  · cases h
  · split at h
    · cases h
    · cases h; rfl
set_option maxRecDepth 100000 in
set_option maxHeartbeats 1000000 in
theorem rcount_any (g : Nat) (l : List Nat) (most : Nat) (e : Int) (w : World) (hS : Rd w g l e) :
    Calls Try.prog 65 #[.pointer (some ⟨g, 0, none⟩), .int .i64 (most : Nat)] w fun e' w' => e' = .returned (.int .i64 ((rCount most l e).1 : Nat)) ∧ But (fun b => b = g) w w' ∧ Rd w' g (rCount most l e).2.1 (rCount most l e).2.2 := by
  have hT := take_any g l 3 e w hS
  unfold rCount
  rcases hq : rTake 3 l e with ⟨_ | t, l', e1⟩ <;> rw [hq] at hT
  · have HT := hideP hT
    clear hT hS hq
    go_enter Try.func65, Try.ntmps65
    go_wp2_with (go_at_call 121; refine HT.out.mono ?_; rintro e2 w1 ⟨b1, s1, rfl⟩)
    go_ret
    exact ⟨rfl, b1, s1⟩
  · have HT := hideP hT
    obtain rfl := rTake_some hq
    clear hT hS hq
    dsimp only
    obtain ⟨x, hx⟩ : ∃ x, x = t.getD 0 0 := ⟨_, rfl⟩
    obtain ⟨y, hy⟩ : ∃ y, y = t.getD 1 0 := ⟨_, rfl⟩
    obtain ⟨z, hz⟩ : ∃ z, z = t.getD 2 0 := ⟨_, rfl⟩
    have Hx := hideP hx
    have Hy := hideP hy
    have Hz := hideP hz
    rw [← hx, ← hy, ← hz]
    clear hx hy hz
    obtain ⟨RS, hRS⟩ : ∃ RS : Nat × List Nat × Int, RS = if most < x * 65536 + y * 256 + z ∨ 1048576 < x * 65536 + y * 256 + z then (0, l', 10) else (x * 65536 + y * 256 + z, l', 0) := ⟨_, rfl⟩
    rw [← hRS]
    have HRS := hideP hRS
    clear hRS
    go_enter Try.func65, Try.ntmps65
    go_upto_region 4 with (go_at_call 121; refine HT.out.mono ?_; rintro e2 w1 ⟨b1, s1, hl1, hI1, A, c, rfl, hc1, hX⟩; have S1 := hideP s1; have B1 := hideP b1; clear s1 b1; obtain ⟨b, off, rfl, hB, hcc⟩ := hX (by decide); have c0 := hcc 0 (by decide); rw [Nat.add_zero] at c0; have c1 := hcc 1 (by decide); have c2 := hcc 2 (by decide); unfold u8s at c0 c1 c2; rw [← Hx.out] at c0; rw [← Hy.out] at c1; rw [← Hz.out] at c2; have X1 := hI1 0; have Y1 := hI1 1; have Z1 := hI1 2; rw [← Hx.out] at X1; rw [← Hy.out] at Y1; rw [← Hz.out] at Z1; clear hI1 hX hcc)
    have o1 := or3a x y X1 Y1
    have o2 := or3b x y z X1 Y1 Z1
    obtain ⟨N, hN⟩ : ∃ N, N = x * 65536 + y * 256 + z := ⟨_, rfl⟩
    have hN' : (x : Int) * 65536 + (y : Int) * 256 + (z : Int) = (N : Int) := by omega
    have nb : N < 16777216 := by omega
    rw [hN'] at o2
    have w1' : IntKind.i64.wrap ((x : Int) * 65536) = (x : Int) * 65536 := IntWalk.i64_in _ (by omega)
    have w2' : IntKind.i64.wrap ((y : Int) * 256) = (y : Int) * 256 := IntWalk.i64_in _ (by omega)
    rw [← hN] at HRS
    clear hN hN'
    go_quiet (fail)
    clear c0 c1 c2 X1 Y1 Z1 o1 o2 w1' w2'
    have S2 := hideP (show Rd (w1.drewN nq) g l' 0 from S1.out)
    have B2 := hideP (show But (fun b => b = g) w (w1.drewN nq) from ⟨B1.out.size, B1.out.block, B1.out.os, B1.out.tape, B1.out.output⟩)
    generalize w1.drewN nq = W at S2 B2 ⊢
    clear S1 B1 HT
    by_cases hm : 1048576 < most
    · have hm' : (1048576 : Int) < (most : Int) := by omega
      by_cases hc : 1048576 < N
      · have HE := hideP (HRS.out.trans (if_pos (Or.inr hc)))
        have hc' : (1048576 : Int) < (N : Int) := by omega
        clear HRS
        go_wp2_with (go_at_call 122; refine (fail_new g l' 10 _ S2.out).mono ?_; rintro e1 w2 ⟨rfl, b2, s2⟩)
        go_ret
        rw [HE.out]
        exact ⟨rfl, B2.out.trans b2, s2⟩
      · have HE := hideP (HRS.out.trans (if_neg (by omega)))
        have hc' : (N : Int) ≤ (1048576 : Int) := by omega
        clear HRS
        go_wp2_with fail
        go_ret
        rw [HE.out]
        exact ⟨rfl, B2.out, S2.out⟩
    · have hm' : (most : Int) ≤ (1048576 : Int) := by omega
      by_cases hc : most < N
      · have HE := hideP (HRS.out.trans (if_pos (Or.inl hc)))
        have hc' : (most : Int) < (N : Int) := by omega
        clear HRS
        go_wp2_with (go_at_call 122; refine (fail_new g l' 10 _ S2.out).mono ?_; rintro e1 w2 ⟨rfl, b2, s2⟩)
        go_ret
        rw [HE.out]
        exact ⟨rfl, B2.out.trans b2, s2⟩
      · have HE := hideP (HRS.out.trans (if_neg (by omega)))
        have hc' : (N : Int) ≤ (most : Int) := by omega
        clear HRS
        go_wp2_with fail
        go_ret
        rw [HE.out]
        exact ⟨rfl, B2.out, S2.out⟩
end Go.Proofs.Ytiicdnbhphgieaa
