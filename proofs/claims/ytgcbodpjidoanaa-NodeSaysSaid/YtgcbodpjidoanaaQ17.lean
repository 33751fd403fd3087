/- Contracts of codec.Reader's take (told at once), Byte, Err, End; codec.New. Contracts of codec.Reader's Count. Contracts of codec.Reader's Text. Contracts of codec.Reader's Num. -/
import Derived.Laws.BitsAllLaws
import Derived.BigQuiet
import Derived.Test.YtgcbodpjidoanaaQ16
set_option linter.unusedVariables false
set_option linter.unusedSimpArgs false
namespace Go.Proofs.Ytgcbodpjidoanaa
open Go.RowKit
/-- the next k bytes, what is left, the error -/
def rTake (k : Nat) (l : List Nat) (e : Int) : Option (List Nat) × List Nat × Int :=
  if e ≠ 0 then (none, l, e) else if l.length < k then (none, l, 20) else (some (l.take k), l.drop k, 0)
/-- what take answers -/
def Took (w' : World) (g k : Nat) (e' : Ending) : Option (List Nat) → Prop
  | none => e' = .returned (.tuple #[.slice none 0 0, .bool false])
  | some t => t.length = k ∧ IsB t ∧ ∃ A c, e' = .returned (.tuple #[.slice A k c, .bool true]) ∧ k ≤ c ∧ ArrL w' g A k t
theorem take_any (g : Nat) (l : List Nat) (k : Nat) (e : Int) (w : World) (hS : Rd w g l e) :
    Calls Try.prog 160 #[.pointer (some ⟨g, 0, none⟩), .int .i64 (k : Nat)] w fun e' w' => But (fun b => b = g) w w' ∧ Rd w' g (rTake k l e).2.1 (rTake k l e).2.2 ∧ Took w' g k e' (rTake k l e).1 := by
  unfold rTake
  split
  · rename_i he
    refine (take_old g l k e he w hS).mono ?_
    rintro e' w' ⟨rfl, rfl⟩
    exact ⟨But.refl _, hS, rfl⟩
  · rename_i he
    obtain rfl : e = 0 := Decidable.not_not.1 he
    split
    · rename_i hk
      refine (take_short g l k w hS hk).mono ?_
      rintro e' w' ⟨rfl, h1, h2⟩
      exact ⟨h1, h2, rfl⟩
    · rename_i hk
      have hk' : k ≤ l.length := by omega
      refine (take_ok g l k w hS hk').mono ?_
      rintro e' w' ⟨A, c, rfl, h1, h2, h3, h4⟩
      exact ⟨h2, h3, by simp; omega, isB_take hS.isB k, A, c, rfl, h1, h4⟩
/-- the next byte -/
def rByte (l : List Nat) (e : Int) : Nat := match (rTake 1 l e).1 with | none => 0 | some t => t.getD 0 0
set_option maxRecDepth 100000 in
set_option maxHeartbeats 400000 in
theorem rbyte_any (g : Nat) (l : List Nat) (e : Int) (w : World) (hS : Rd w g l e) :
    Calls Try.prog 86 #[.pointer (some ⟨g, 0, none⟩)] w fun e' w' => e' = .returned (.int .u8 (rByte l e : Nat)) ∧ But (fun b => b = g) w w' ∧ Rd w' g (rTake 1 l e).2.1 (rTake 1 l e).2.2 := by
  have hT := take_any g l 1 e w hS
  unfold rByte
  rcases hq : rTake 1 l e with ⟨_ | t, l', e1⟩ <;> rw [hq] at hT
  · have HT := hideP hT
    clear hT hS hq
    go_enter Try.func86, Try.ntmps86
    go_wp2_with (go_at_call 160; refine HT.out.mono ?_; rintro e2 w1 ⟨b1, s1, rfl⟩)
    go_ret
    exact ⟨rfl, b1, s1⟩
  · have HT := hideP hT
    clear hT hS hq
    dsimp only
    obtain ⟨x, hx⟩ : ∃ x, x = t.getD 0 0 := ⟨_, rfl⟩
    have Hx := hideP hx
    rw [← hx]
    clear hx
    go_enter Try.func86, Try.ntmps86
    go_wp2_with (go_at_call 160; refine HT.out.mono ?_; rintro e2 w1 ⟨b1, s1, hl1, hI1, A, c, rfl, hc1, hX⟩; obtain ⟨b, off, rfl, hB, hcc⟩ := hX (by decide); have c0 := hcc 0 (by decide); rw [Nat.add_zero] at c0; unfold u8s at c0; rw [← Hx.out] at c0)
    go_ret
    exact ⟨rfl, b1, s1⟩
/-- the error behind a reader's end -/
def rEnd (l : List Nat) (e : Int) : Int := if 0 < l.length ∧ e = 0 then 22 else e
set_option maxRecDepth 100000 in
set_option maxHeartbeats 400000 in
theorem rend_any (g : Nat) (l : List Nat) (e : Int) (w : World) (hS : Rd w g l e) :
    Calls Try.prog 90 #[.pointer (some ⟨g, 0, none⟩)] w fun e' w' => e' = .returned (.int .i64 (rEnd l e)) ∧ But (fun b => b = g) w w' ∧ Rd w' g l (rEnd l e) := by
  have HS := hideP hS
  obtain ⟨A, d, hT, hA, hl, hd⟩ := hS
  have c0 := hT.c0
  have c1 := hT.c1
  clear hT hA hl hd
  obtain ⟨n, hN⟩ : ∃ n, n = l.length := ⟨_, rfl⟩
  rw [← hN] at c0
  unfold rEnd
  rw [← hN]
  clear hN
  by_cases hn : 0 < n
  · have i1 : (0 : Int) < (n : Int) := by omega
    by_cases he : e = 0
    · subst he
      rw [if_pos ⟨hn, rfl⟩]
      go_enter Try.func90, Try.ntmps90
      go_wp2_with (go_at_call 161; refine (fail_new g l 22 _ HS.out).mono ?_; rintro e1 w1 ⟨rfl, b1, s1⟩; clear c0 c1; have S1 := hideP s1; have B1 := hideP b1; clear b1; obtain ⟨A1, d1, hT1, _⟩ := s1; have c1 := hT1.c1; clear hT1)
      go_ret
      exact ⟨rfl, B1.out, S1.out⟩
    · rw [if_neg (fun h => he h.2)]
      have He := hideP he
      clear he
      go_enter Try.func90, Try.ntmps90
      go_wp2_with (go_at_call 161; refine (fail_old g l 22 e He.out _ HS.out).mono ?_; rintro e1 w1 ⟨rfl, rfl⟩)
      go_ret
      exact ⟨rfl, But.refl _, HS.out⟩
  · obtain rfl : n = 0 := by omega
    rw [if_neg (fun h => absurd h.1 (by decide))]
    go_enter Try.func90, Try.ntmps90
    go_wp2
    go_ret
    exact ⟨rfl, But.refl _, HS.out⟩
set_option maxRecDepth 100000 in
set_option maxHeartbeats 400000 in
theorem rnew_any (A : Option Addr) (l : List Nat) (c : Nat) (w : World) (hA : Arr w w.heap.size A l.length (u8s l)) (hI : IsB l) (hn : l.length ≤ 140737488351232) :
    Calls Try.prog 85 #[.slice A l.length c] w fun e w' => ∃ g, e = .returned (.pointer (some ⟨g, 0, none⟩)) ∧ w.heap.size ≤ g ∧ Below w.heap.size w w' ∧ Rd w' g l 0 := by
  have hT := hideP (sclone_any A l c w hA hn)
  have HhI := hideP hI; clear hI
  clear hA
  go_enter Try.func85, Try.ntmps85
  go_wp2_with (go_at_call 159; refine hT.out.mono ?_; rintro e2 w1 ⟨R, d, rfl, o1, b1⟩; have O1 := hideP o1; have B1 := hideP b1; clear o1 b1)
  go_ret
  have hx : ArrL w1 w1.heap.size R l.length l := fun hn => by
    obtain ⟨b, hR, h1, h2, _, hc⟩ := O1.out.at hn
    exact ⟨b, 0, hR, h2, fun i hi => by rw [Nat.zero_add]; exact hc i hi⟩
  refine ⟨w1.heap.size, rfl, B1.out.size, B1.out.alloc B1.out.size _, R, d, Two.new _ _ _ _, ?_, HhI.out, O1.out.cap⟩
  intro hn
  obtain ⟨b, off, hR, h1, hc⟩ := hx hn
  exact ⟨b, off, hR, h1, fun i hi => (World.cell?_alloc_lt w1 _ _ h1).trans (hc i hi)⟩
end Go.Proofs.Ytgcbodpjidoanaa
namespace Go.Proofs.Ytgcbodpjidoanaa
open Go.RowKit
theorem i64_or_natr (a b : Nat) (ha : a < 4611686018427387904) (hb : b < 4611686018427387904) : bits .or .i64 (a : Int) (b : Int) = ((a ||| b : Nat) : Int) := by
  have hx : a ||| b < 2 ^ 62 := Nat.or_lt_two_pow (by omega) (by omega)
  have h1 : (BitVec.ofInt 64 (a : Int)).toNat = a := by
    rw [BitVec.ofInt_natCast, BitVec.toNat_ofNat]; exact Nat.mod_eq_of_lt (by omega)
  have h2 : (BitVec.ofInt 64 (b : Int)).toNat = b := by
    rw [BitVec.ofInt_natCast, BitVec.toNat_ofNat]; exact Nat.mod_eq_of_lt (by omega)
  show IntKind.i64.wrap ((BitVec.ofInt 64 (a : Int) ||| BitVec.ofInt 64 (b : Int)).toNat : Int) = _
  rw [BitVec.toNat_or, h1, h2, IntKind.wrap_i64]
  omega
theorem or3a (x y : Nat) (hx : x < 256) (hy : y < 256) : bits .or .i64 ((x : Int) * 65536) ((y : Int) * 256) = (x : Int) * 65536 + (y : Int) * 256 := by
  rw [show (x : Int) * 65536 = ((x * 65536 : Nat) : Int) by omega, show (y : Int) * 256 = ((y * 256 : Nat) : Int) by omega, i64_or_natr _ _ (by omega) (by omega), nat_join 16 _ _ (by simp) (by omega)]
  omega
theorem or3b (x y z : Nat) (hx : x < 256) (hy : y < 256) (hz : z < 256) : bits .or .i64 ((x : Int) * 65536 + (y : Int) * 256) (z : Int) = (x : Int) * 65536 + (y : Int) * 256 + (z : Int) := by
  rw [show (x : Int) * 65536 + (y : Int) * 256 = ((x * 65536 + y * 256 : Nat) : Int) by omega, i64_or_natr _ _ (by omega) (by omega), nat_join 8 _ _ (by omega) (by omega)]
  omega
/-- a count that is read -/
def rCount (most : Nat) (l : List Nat) (e : Int) : Nat × List Nat × Int :=
  match rTake 3 l e with
  | (none, l', e') => (0, l', e')
  | (some t, l', e') => if most < t.getD 0 0 * 65536 + t.getD 1 0 * 256 + t.getD 2 0 ∨ 1048576 < t.getD 0 0 * 65536 + t.getD 1 0 * 256 + t.getD 2 0 then (0, l', 10) else (t.getD 0 0 * 65536 + t.getD 1 0 * 256 + t.getD 2 0, l', 0)
theorem rTake_some {k : Nat} {l t l' : List Nat} {e e' : Int} (h : rTake k l e = (some t, l', e')) : e' = 0 := by
  unfold rTake at h
  split at h
  · cases h
  · split at h
    · cases h
    · cases h; rfl
set_option maxRecDepth 100000 in
set_option maxHeartbeats 1000000 in
theorem rcount_any (g : Nat) (l : List Nat) (most : Nat) (e : Int) (w : World) (hS : Rd w g l e) :
    Calls Try.prog 164 #[.pointer (some ⟨g, 0, none⟩), .int .i64 (most : Nat)] w fun e' w' => e' = .returned (.int .i64 ((rCount most l e).1 : Nat)) ∧ But (fun b => b = g) w w' ∧ Rd w' g (rCount most l e).2.1 (rCount most l e).2.2 := by
  have hT := take_any g l 3 e w hS
  unfold rCount
  rcases hq : rTake 3 l e with ⟨_ | t, l', e1⟩ <;> rw [hq] at hT
  · have HT := hideP hT
    clear hT hS hq
    go_enter Try.func164, Try.ntmps164
    go_wp2_with (go_at_call 160; refine HT.out.mono ?_; rintro e2 w1 ⟨b1, s1, rfl⟩)
    go_ret
    exact ⟨rfl, b1, s1⟩
  · have HT := hideP hT
    obtain rfl := rTake_some hq
    clear hT hS hq
    dsimp only
    obtain ⟨x, hx⟩ : ∃ x, x = t.getD 0 0 := ⟨_, rfl⟩
    obtain ⟨y, hy⟩ : ∃ y, y = t.getD 1 0 := ⟨_, rfl⟩
    obtain ⟨z, hz⟩ : ∃ z, z = t.getD 2 0 := ⟨_, rfl⟩
    have Hx := hideP hx
    have Hy := hideP hy
    have Hz := hideP hz
    rw [← hx, ← hy, ← hz]
    clear hx hy hz
    obtain ⟨RS, hRS⟩ : ∃ RS : Nat × List Nat × Int, RS = if most < x * 65536 + y * 256 + z ∨ 1048576 < x * 65536 + y * 256 + z then (0, l', 10) else (x * 65536 + y * 256 + z, l', 0) := ⟨_, rfl⟩
    rw [← hRS]
    have HRS := hideP hRS
    clear hRS
    go_enter Try.func164, Try.ntmps164
    go_upto_region 4 with (go_at_call 160; refine HT.out.mono ?_; rintro e2 w1 ⟨b1, s1, hl1, hI1, A, c, rfl, hc1, hX⟩; have S1 := hideP s1; have B1 := hideP b1; clear s1 b1; obtain ⟨b, off, rfl, hB, hcc⟩ := hX (by decide); have c0 := hcc 0 (by decide); rw [Nat.add_zero] at c0; have c1 := hcc 1 (by decide); have c2 := hcc 2 (by decide); unfold u8s at c0 c1 c2; rw [← Hx.out] at c0; rw [← Hy.out] at c1; rw [← Hz.out] at c2; have X1 := hI1 0; have Y1 := hI1 1; have Z1 := hI1 2; rw [← Hx.out] at X1; rw [← Hy.out] at Y1; rw [← Hz.out] at Z1; clear hI1 hX hcc)
    have o1 := or3a x y X1 Y1
    have o2 := or3b x y z X1 Y1 Z1
    obtain ⟨N, hN⟩ : ∃ N, N = x * 65536 + y * 256 + z := ⟨_, rfl⟩
    have hN' : (x : Int) * 65536 + (y : Int) * 256 + (z : Int) = (N : Int) := by omega
    have nb : N < 16777216 := by omega
    rw [hN'] at o2
    have w1' : IntKind.i64.wrap ((x : Int) * 65536) = (x : Int) * 65536 := IntWalk.i64_in _ (by omega)
    have w2' : IntKind.i64.wrap ((y : Int) * 256) = (y : Int) * 256 := IntWalk.i64_in _ (by omega)
    rw [← hN] at HRS
    clear hN hN'
    go_quiet (fail)
    clear c0 c1 c2 X1 Y1 Z1 o1 o2 w1' w2'
    have S2 := hideP (show Rd (w1.drewN nq) g l' 0 from S1.out)
    have B2 := hideP (show But (fun b => b = g) w (w1.drewN nq) from ⟨B1.out.size, B1.out.block, B1.out.os, B1.out.tape, B1.out.output⟩)
    generalize w1.drewN nq = W at S2 B2 ⊢
    clear S1 B1 HT
    by_cases hm : 1048576 < most
    · have hm' : (1048576 : Int) < (most : Int) := by omega
      by_cases hc : 1048576 < N
      · have HE := hideP (HRS.out.trans (if_pos (Or.inr hc)))
        have hc' : (1048576 : Int) < (N : Int) := by omega
        clear HRS
        go_wp2_with (go_at_call 161; refine (fail_new g l' 10 _ S2.out).mono ?_; rintro e1 w2 ⟨rfl, b2, s2⟩)
        go_ret
        rw [HE.out]
        exact ⟨rfl, B2.out.trans b2, s2⟩
      · have HE := hideP (HRS.out.trans (if_neg (by omega)))
        have hc' : (N : Int) ≤ (1048576 : Int) := by omega
        clear HRS
        go_wp2_with fail
        go_ret
        rw [HE.out]
        exact ⟨rfl, B2.out, S2.out⟩
    · have hm' : (most : Int) ≤ (1048576 : Int) := by omega
      by_cases hc : most < N
      · have HE := hideP (HRS.out.trans (if_pos (Or.inl hc)))
        have hc' : (most : Int) < (N : Int) := by omega
        clear HRS
        go_wp2_with (go_at_call 161; refine (fail_new g l' 10 _ S2.out).mono ?_; rintro e1 w2 ⟨rfl, b2, s2⟩)
        go_ret
        rw [HE.out]
        exact ⟨rfl, B2.out.trans b2, s2⟩
      · have HE := hideP (HRS.out.trans (if_neg (by omega)))
        have hc' : (N : Int) ≤ (most : Int) := by omega
        clear HRS
        go_wp2_with fail
        go_ret
        rw [HE.out]
        exact ⟨rfl, B2.out, S2.out⟩
end Go.Proofs.Ytgcbodpjidoanaa
namespace Go.Proofs.Ytgcbodpjidoanaa
open Go.RowKit
theorem OwnB.monoR {w : World} {base base' : Nat} {R : Option Addr} {s : Nat} {l : List Nat} (h : OwnB w base R s l) (hb : base' ≤ base) : OwnB w base' R s l :=
  ⟨h.1, h.2.imp id fun ⟨g, cap, cur, hv, hg, r⟩ => ⟨g, cap, cur, hv, Nat.le_trans hb hg, r⟩⟩
theorem But.of_below {S : Nat → Prop} {w w' : World} (h : Below w.heap.size w w') : But S w w' := But.of_ext (Ext.of_below h)
/-- a text that is read -/
def rText (most : Nat) (l : List Nat) (e : Int) : List Nat × List Nat × Int :=
  ((rTake (rCount most l e).1 (rCount most l e).2.1 (rCount most l e).2.2).1.getD [], (rTake (rCount most l e).1 (rCount most l e).2.1 (rCount most l e).2.2).2)
theorem rCount_le (most : Nat) (l : List Nat) (e : Int) : (rCount most l e).1 ≤ 1048576 ∧ (rCount most l e).1 ≤ most := by
  unfold rCount
  split
  · simp
  · split
    · simp
    · simp only; omega
end Go.Proofs.Ytgcbodpjidoanaa
namespace Go.Proofs.Ytgcbodpjidoanaa
open Go.RowKit
/-- bytes as a number, the highest first -/
def beN (t : List Nat) : Nat := t.foldl (fun u x => u * 256 + x) 0
theorem beN_succ (t : List Nat) (k : Nat) (hk : k < t.length) : beN (t.take (k + 1)) = beN (t.take k) * 256 + t.getD k 0 := by
  unfold beN
  rw [List.take_add_one, List.foldl_append, List.getElem?_eq_getElem hk]
  simp [List.getD, List.getElem?_eq_getElem hk]
theorem beN_lt (t : List Nat) (hI : IsB t) : ∀ k, k ≤ t.length → beN (t.take k) < 256 ^ k
  | 0, _ => by simp [beN]
  | k + 1, h => by
    rw [beN_succ t k (by omega), Nat.pow_succ]
    have := beN_lt t hI k (by omega)
    have := hI k
    omega
theorem xor_downw (U : Nat) (h : U < 18446744073709551616) : IntKind.i64.wrap (bits BinOp.xor IntKind.u64 (U : Int) 9223372036854775808) = (U : Int) - 9223372036854775808 := by
  have := bits_xor_u64_nat U 9223372036854775808 h (by decide)
  rw [show ((9223372036854775808 : Nat) : Int) = 9223372036854775808 from rfl] at this
  rw [this, IntKind.wrap_i64]
  by_cases h : U < 9223372036854775808
  · rw [xor63 U h]; omega
  · obtain ⟨y, hy⟩ : ∃ y, U = y + 9223372036854775808 := ⟨U - 9223372036854775808, by omega⟩
    have hyl : y < 9223372036854775808 := by omega
    rw [hy, ← xor63 y hyl, Nat.xor_assoc, Nat.xor_self, Nat.xor_zero, xor63 y hyl]
    omega
theorem or8 (u x : Nat) (hu : u < 72057594037927936) (hx : x < 256) : bits BinOp.or IntKind.u64 ((u : Int) * 256) (x : Int) = ((u * 256 + x : Nat) : Int) := by
  have h1 : (u : Int) * 256 = ((u * 256 : Nat) : Int) := by omega
  rw [h1, u64_or_nat _ _ (by omega) (by omega), nat_join 8 _ _ (by simp) (by omega)]
/-- a number that is read -/
def rNum (l : List Nat) (e : Int) : Int := match (rTake 8 l e).1 with | none => 0 | some t => (beN t : Int) - 9223372036854775808
set_option maxRecDepth 100000 in
set_option maxHeartbeats 1000000 in
theorem rnum_any (g : Nat) (l : List Nat) (e : Int) (w : World) (hS : Rd w g l e) :
    Calls Try.prog 162 #[.pointer (some ⟨g, 0, none⟩)] w fun e' w' => e' = .returned (.int .i64 (rNum l e)) ∧ But (fun b => b = g) w w' ∧ Rd w' g (rTake 8 l e).2.1 (rTake 8 l e).2.2 := by
  have hT := take_any g l 8 e w hS
  unfold rNum
  rcases hq : rTake 8 l e with ⟨_ | t, l', e1⟩ <;> rw [hq] at hT
  · have HT := hideP hT
    clear hT hS hq
    go_enter Try.func162, Try.ntmps162
    go_wp2_with (go_at_call 160; refine HT.out.mono ?_; rintro e2 w1 ⟨b1, s1, rfl⟩)
    go_ret
    exact ⟨rfl, b1, s1⟩
  · have HT := hideP hT
    clear hT hS hq
    dsimp only
    go_enter Try.func162, Try.ntmps162
    go_wp2_with (go_at_call 160; refine HT.out.mono ?_; rintro e2 w1 ⟨b1, s1, hl1, hI1, A, c, rfl, hc1, hX⟩; have S1 := hideP s1; have B1 := hideP b1; have HL := hideP hl1; have HI := hideP hI1; obtain ⟨b, off, rfl, hB, hcc⟩ := hX (by decide); have HCC := hideP hcc; clear s1 b1 hl1 hI1 hX hcc)
    go_loopw [5, 7, 17] (fun v5 _ v17 wr => ∃ (k : Nat), k ≤ 8 ∧ v17 = .int .i64 (k : Nat) ∧ v5 = .int .u64 (beN (t.take k) : Nat) ∧ Hid (wr = w1)) (fun _ _ v17 _ => 8 - (intOf v17).toNat)
    case atStart => exact ⟨0, by omega, rfl, rfl, rfl⟩
    case round =>
      obtain ⟨k, hk, rfl, rfl, hV⟩ := hrel
      by_cases hlt : k < 8
      · have i1 : (k : Int) < 8 := by omega
        have m2 : IntKind.i64.wrap ((k : Int) + 1) = (k : Int) + 1 := IntWalk.i64_in _ (by omega)
        have c0 := HCC.out k hlt
        rw [← hV.out] at c0
        unfold u8s at c0
        have hs := hideP (beN_succ t k (by rw [HL.out]; exact hlt))
        have hx := HI.out k
        have hu : beN (t.take k) < 72057594037927936 := by
          have := beN_lt t HI.out k (by rw [HL.out]; exact hk)
          have h2 : (256 : Nat) ^ k ≤ 256 ^ 7 := Nat.pow_le_pow_right (by decide) (by omega)
          have h3 : (256 : Nat) ^ 7 = 72057594037927936 := by decide
          omega
        obtain ⟨x, hx'⟩ : ∃ x, x = t.getD k 0 := ⟨_, rfl⟩
        obtain ⟨u, hu'⟩ : ∃ u, u = beN (t.take k) := ⟨_, rfl⟩
        rw [← hx'] at c0 hx hs
        rw [← hu'] at hu hs ⊢
        have m3 : IntKind.u64.wrap ((u : Int) * 256) = (u : Int) * 256 := by rw [IntKind.wrap_u64]; omega
        have o1 := or8 u x hu hx
        obtain ⟨v, hv⟩ : ∃ v, v = u * 256 + x := ⟨_, rfl⟩
        rw [← hv] at o1 hs
        clear hx' hu' hv
        go_wp2_with fail
        go_roundw
        case rel => exact ⟨k + 1, by omega, by rw [show ((k + 1 : Nat) : Int) = (k : Int) + 1 by omega], by rw [hs.out], hV.out⟩
        case measure => simp [intOf]; omega
      · obtain rfl : k = 8 := by omega
        have hu : beN (t.take 8) < 18446744073709551616 := by
          have := beN_lt t HI.out 8 (by rw [HL.out]; exact Nat.le_refl _)
          have h3 : (256 : Nat) ^ 8 = 18446744073709551616 := by decide
          omega
        have ht := hideP (show t.take 8 = t from List.take_of_length_le (by rw [HL.out]; exact Nat.le_refl _))
        rw [ht.out] at hu ⊢
        obtain ⟨u, hu'⟩ : ∃ u, u = beN t := ⟨_, rfl⟩
        rw [← hu'] at hu ⊢
        have Hu := hideP hu'
        clear hu'
        have o1 := xor_downw u hu
        go_wp2_with fail
        go_ret
        have e1 := hV.out
        subst e1
        exact ⟨by rw [← Hu.out]; rfl, B1.out, S1.out⟩
end Go.Proofs.Ytgcbodpjidoanaa
