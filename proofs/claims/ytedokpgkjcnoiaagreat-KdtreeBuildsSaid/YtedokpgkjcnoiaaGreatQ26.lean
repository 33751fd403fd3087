/- The Reader: contracts for any name of its variable. -/
import Derived.Test.YtedokpgkjcnoiaaGreatQ25
set_option linter.unusedVariables false
set_option linter.unusedSimpArgs false
namespace Go.Proofs.YtedokpgkjcnoiaaGreat
open Go.RowKit
set_option maxRecDepth 100000
set_option maxHeartbeats 1000000
def rdH (o : Nat) (l : List Nat) (e : Int) : OH := [(o, .box 153 [.d (byteL l), exI .i64 e])]
def optB : Option (List Nat) → DV
 | none => .v (.slice none 0 0)
 | some t => byteL t
theorem drop_byF (l : List Nat) (k i : Nat) : byF l (k + i) = byF (l.drop k) i := by simp [byF, List.getD_eq_getElem?_getD]
theorem take_byF (l : List Nat) (k i : Nat) (h : i < k) : byF l (0 + i) = byF (l.take k) i := by simp [byF, List.getD_eq_getElem?_getD, List.getElem?_take, h]
theorem rfail9 (l : List Nat) (x e : Int) : ACall Tryz.prog 105 [.ptr 900 0 0 0, exI .i64 x] (rdH 900 l e) (.tup []) (rdH 900 l (if e = 0 then x else e)) := by
 by_cases he : e = 0
 ·rw [if_pos he]; subst he
  refine acall_on (mu := []) [] [] mixed Tryz.func105 rfl rfl rfl ?_
  conv => whnf
  repeat' ((first
  | refine ob ?_
  | (refine And.intro (fun hq => ?_) (fun hq => ?_) <;> first | exact cl1 | exact cl3 | skip)
  | refine ob2 ?_ | refine ob4 ?_ | refine fun hq => ?_ | fail) <;> conv => whnf)
  all_goals (repeat' (first | exact sm | apply And.intro))
 ·rw [if_neg he]
  have hd : decide (e = 0) = false := decide_eq_false he
  refine acall_on (mu := []) [] [] mixed Tryz.func105 rfl rfl rfl ?_
  conv => whnf
  repeat' ((first
  | refine ob ?_
  | (refine And.intro (fun hq => ?_) (fun hq => ?_) <;> first | exact cl1 | exact cl3 | skip)
  | refine ob2 ?_ | refine ob4 ?_ | refine fun hq => ?_ | fail) <;> conv => whnf)
  all_goals (repeat' (first | exact sm | apply And.intro))
theorem rtake9 (l : List Nat) (k : Nat) (e : Int) : ACall Tryz.prog 104 [.ptr 900 0 0 0, exI .i64 k] (rdH 900 l e) (.tup [.d (optB (Pl.rTake k l e).1), exB (Pl.rTake k l e).1.isSome]) (rdH 900 (Pl.rTake k l e).2.1 (Pl.rTake k l e).2.2) := by
 unfold Pl.rTake
 by_cases he : e = 0
 ·subst he
  rw [if_neg (by decide)]
  have f0 := rfail9 l 20 0
  rw [if_pos rfl] at f0
  by_cases hk : l.length < k
  ·rw [if_pos hk]
   refine acall_on (mu := []) [] [] mixed Tryz.func104 rfl rfl rfl ?_
   conv => whnf
   repeat' ((first
   | refine ob ?_
   | refine ⟨_, _, _, .gen [900] _ _ _ rfl (f0) rfl rfl rfl rfl rfl, ?_⟩
   | ((refine ⟨_, _, _, .gen [900] _ _ _ rfl (.arg ?harg (f0)) rfl rfl rfl rfl rfl, ?_⟩); case harg => (repeat' (first | exact sm | apply And.intro))) | (refine And.intro (fun hq => ?_) (fun hq => ?_) <;> first | exact cl1 | exact cl3 | skip)
   | refine ob2 ?_ | refine ob4 ?_ | refine fun hq => ?_ | fail) <;> conv => whnf)
   all_goals (repeat' (first | exact sm | apply And.intro))
  ·rw [if_neg hk]
   refine acall_on (mu := []) [] [] mixed Tryz.func104 rfl rfl rfl ?_
   conv => whnf
   repeat' ((first
   | refine ob ?_
   | refine ⟨_, _, _, .gen [900] _ _ _ rfl (f0) rfl rfl rfl rfl rfl, ?_⟩
   | ((refine ⟨_, _, _, .gen [900] _ _ _ rfl (.arg ?harg (f0)) rfl rfl rfl rfl rfl, ?_⟩); case harg => (repeat' (first | exact sm | apply And.intro))) | (refine And.intro (fun hq => ?_) (fun hq => ?_) <;> first | exact cl1 | exact cl3 | skip)
   | refine ob2 ?_ | refine ob4 ?_ | refine fun hq => ?_ | fail) <;> conv => whnf)
   all_goals (repeat' (first | exact trivial | (exact fun i hi => take_byF l k i (by simpa using hi)) | (exact fun i _ => drop_byF l k i) | ((simp; done)) | ((simp; omega)) | exact sm | apply And.intro))
 ·rw [if_pos he]
  have hd : decide (e = 0) = false := decide_eq_false he
  refine acall_on (mu := []) [] [] mixed Tryz.func104 rfl rfl rfl ?_
  conv => whnf
  repeat' ((first
  | refine ob ?_
  | (refine And.intro (fun hq => ?_) (fun hq => ?_) <;> first | exact cl1 | exact cl3 | skip)
  | refine ob2 ?_ | refine ob4 ?_ | refine fun hq => ?_ | fail) <;> conv => whnf)
  all_goals (repeat' (first | exact sm | apply And.intro))
theorem rfail (o : Nat) (l : List Nat) (x e : Int) : ACall Tryz.prog 105 [.ptr o 0 0 0, exI .i64 x] (rdH o l e) (.tup []) (rdH o l (if e = 0 then x else e)) := by
    obtain ⟨σ, τ, hστ, e1⟩ := names1 900 o
    have q := (rfail9 l x e).ren (σ := σ) (τ := τ) (δ := fun _ => 0) hστ (by intros; rfl)
    simp only [mapC, mapA_agD] at q
    simpa [mapC, mapA, mapA1, rnA, rnH, rnO, rdH, e1] using q
theorem rtake (o : Nat) (l : List Nat) (k : Nat) (e : Int) : ACall Tryz.prog 104 [.ptr o 0 0 0, exI .i64 k] (rdH o l e) (.tup [.d (optB (Pl.rTake k l e).1), exB (Pl.rTake k l e).1.isSome]) (rdH o (Pl.rTake k l e).2.1 (Pl.rTake k l e).2.2) := by
    obtain ⟨σ, τ, hστ, e1⟩ := names1 900 o
    have q := (rtake9 l k e).ren (σ := σ) (τ := τ) (δ := fun _ => 0) hστ (by intros; rfl)
    simp only [mapC, mapA_agD] at q
    simpa [mapC, mapA, mapA1, rnA, rnH, rnO, rdH, e1] using q
theorem rtake_none (o : Nat) {l l' : List Nat} {k : Nat} {e e' : Int} (h : Pl.rTake k l e = (none, l', e')) : ACall Tryz.prog 104 [.ptr o 0 0 0, exI .i64 k] (rdH o l e) (.tup [.d (.v (.slice none 0 0)), exB false]) (rdH o l' e') := by
 have := rtake o l k e
 rwa [h] at this
theorem rtake_some (o : Nat) {l l' t : List Nat} {k : Nat} {e e' : Int} (h : Pl.rTake k l e = (some t, l', e')) : t.length = k ∧ ACall Tryz.prog 104 [.ptr o 0 0 0, exI .i64 k] (rdH o l e) (.tup [.d (byteL t), exB true]) (rdH o l' e') := by
 have := rtake o l k e
 rw [h] at this
 refine ⟨?_, this⟩
 unfold Pl.rTake at h
 split at h
 ·cases h
 ·split at h
  ·cases h
  ·cases h; simp; omega
theorem rbyte9 (l : List Nat) (e : Int) : ACall Tryz.prog 71 [.ptr 900 0 0 0] (rdH 900 l e) (exI .u8 (Pl.rByte l e : Nat)) (rdH 900 (Pl.rTake 1 l e).2.1 (Pl.rTake 1 l e).2.2) := by
 unfold Pl.rByte
 rcases hq : Pl.rTake 1 l e with ⟨_ | t, l', e'⟩
 ·refine acall_on (mu := []) [] [] mixed Tryz.func71 rfl rfl rfl ?_
  have q := rtake_none 900 hq
  conv => whnf
  repeat' ((first
  | refine ob ?_
  | refine ⟨_, _, _, .gen [900] _ _ _ rfl (q) rfl rfl rfl rfl rfl, ?_⟩
  | ((refine ⟨_, _, _, .gen [900] _ _ _ rfl (.arg ?harg (q)) rfl rfl rfl rfl rfl, ?_⟩); case harg => (repeat' (first | exact sm | apply And.intro))) | (refine And.intro (fun hq => ?_) (fun hq => ?_) <;> first | exact cl1 | exact cl3 | skip)
  | refine ob2 ?_ | refine ob4 ?_ | refine fun hq => ?_ | fail) <;> conv => whnf)
  all_goals (repeat' (first | exact sm | apply And.intro))
 ·refine acall_on (mu := []) [] [] mixed Tryz.func71 rfl rfl rfl ?_
  obtain ⟨h1, q⟩ := rtake_some 900 hq
  conv => whnf
  repeat' ((first
  | refine ob ?_
  | refine ⟨_, _, _, .gen [900] _ _ _ rfl (q) rfl rfl rfl rfl rfl, ?_⟩
  | ((refine ⟨_, _, _, .gen [900] _ _ _ rfl (.arg ?harg (q)) rfl rfl rfl rfl rfl, ?_⟩); case harg => (repeat' (first | exact sm | apply And.intro))) | (refine And.intro (fun hq => ?_) (fun hq => ?_) <;> first | exact cl1 | exact cl3 | skip)
  | refine ob2 ?_ | refine ob4 ?_ | refine fun hq => ?_ | fail) <;> conv => whnf)
  all_goals (repeat' (first | exact sm | apply And.intro))
theorem rbyte (o : Nat) (l : List Nat) (e : Int) : ACall Tryz.prog 71 [.ptr o 0 0 0] (rdH o l e) (exI .u8 (Pl.rByte l e : Nat)) (rdH o (Pl.rTake 1 l e).2.1 (Pl.rTake 1 l e).2.2) := by
    obtain ⟨σ, τ, hστ, e1⟩ := names1 900 o
    have q := (rbyte9 l e).ren (σ := σ) (τ := τ) (δ := fun _ => 0) hστ (by intros; rfl)
    simp only [mapC, mapA_agD] at q
    simpa [mapC, mapA, mapA1, rnA, rnH, rnO, rdH, e1] using q
theorem rtruth9 (l : List Nat) (e : Int) : ACall Tryz.prog 72 [.ptr 900 0 0 0] (rdH 900 l e) (exB (Pl.rTruth l e).1) (rdH 900 (Pl.rTruth l e).2.1 (Pl.rTruth l e).2.2) := by
 unfold Pl.rTruth Pl.rTruthE
 have q := rbyte 900 l e
 have f := rfail 900 (Pl.rTake 1 l e).2.1 21 (Pl.rTake 1 l e).2.2
 obtain ⟨x, hx⟩ : ∃ x, x = Pl.rByte l e := ⟨_, rfl⟩
 obtain ⟨m, hm⟩ : ∃ m, m = (Pl.rTake 1 l e).2.1 := ⟨_, rfl⟩
 obtain ⟨y, hy⟩ : ∃ y, y = (Pl.rTake 1 l e).2.2 := ⟨_, rfl⟩
 simp only [← hx, ← hm, ← hy] at q f ⊢
 clear hx hm hy
 by_cases h1 : 1 < x
 ·have e2 : (if 1 < x ∧ y = 0 then 21 else y) = (if y = 0 then (21 : Int) else y) := by simp [h1]
  rw [e2]
  refine acall_on (mu := []) [] [] mixed Tryz.func72 rfl rfl rfl ?_
  conv => whnf
  repeat' ((first
  | refine ob ?_
  | refine ⟨_, _, _, .gen [900] _ _ _ rfl (q) rfl rfl rfl rfl rfl, ?_⟩
  | refine ⟨_, _, _, .gen [900] _ _ _ rfl (f) rfl rfl rfl rfl rfl, ?_⟩
  | ((refine ⟨_, _, _, .gen [900] _ _ _ rfl (.arg ?harg (q)) rfl rfl rfl rfl rfl, ?_⟩); case harg => (repeat' (first | exact sm | apply And.intro)))
  | ((refine ⟨_, _, _, .gen [900] _ _ _ rfl (.arg ?harg (f)) rfl rfl rfl rfl rfl, ?_⟩); case harg => (repeat' (first | exact sm | apply And.intro))) | (refine And.intro (fun hq => ?_) (fun hq => ?_) <;> first | exact cl1 | exact cl3 | skip)
  | refine ob2 ?_ | refine ob4 ?_ | refine fun hq => ?_ | fail) <;> conv => whnf)
  all_goals (repeat' (first | exact trivial | ((congr 1; simp; omega)) | exact sm | apply And.intro))
 ·have e2 : (if 1 < x ∧ y = 0 then 21 else y) = y := by simp [h1]
  rw [e2]
  refine acall_on (mu := []) [] [] mixed Tryz.func72 rfl rfl rfl ?_
  conv => whnf
  repeat' ((first
  | refine ob ?_
  | refine ⟨_, _, _, .gen [900] _ _ _ rfl (q) rfl rfl rfl rfl rfl, ?_⟩
  | refine ⟨_, _, _, .gen [900] _ _ _ rfl (f) rfl rfl rfl rfl rfl, ?_⟩
  | ((refine ⟨_, _, _, .gen [900] _ _ _ rfl (.arg ?harg (q)) rfl rfl rfl rfl rfl, ?_⟩); case harg => (repeat' (first | exact sm | apply And.intro)))
  | ((refine ⟨_, _, _, .gen [900] _ _ _ rfl (.arg ?harg (f)) rfl rfl rfl rfl rfl, ?_⟩); case harg => (repeat' (first | exact sm | apply And.intro))) | (refine And.intro (fun hq => ?_) (fun hq => ?_) <;> first | exact cl1 | exact cl3 | skip)
  | refine ob2 ?_ | refine ob4 ?_ | refine fun hq => ?_ | fail) <;> conv => whnf)
  all_goals (repeat' (first | exact trivial | ((congr 1; simp; omega)) | exact sm | apply And.intro))
theorem rtruth (o : Nat) (l : List Nat) (e : Int) : ACall Tryz.prog 72 [.ptr o 0 0 0] (rdH o l e) (exB (Pl.rTruth l e).1) (rdH o (Pl.rTruth l e).2.1 (Pl.rTruth l e).2.2) := by
    obtain ⟨σ, τ, hστ, e1⟩ := names1 900 o
    have q := (rtruth9 l e).ren (σ := σ) (τ := τ) (δ := fun _ => 0) hστ (by intros; rfl)
    simp only [mapC, mapA_agD] at q
    simpa [mapC, mapA, mapA1, rnA, rnH, rnO, rdH, e1] using q
theorem or_i64 (x y : Nat) (hx : x < 4611686018427387904) (hy : y < 4611686018427387904) : IntKind.i64.wrap ((BitVec.ofInt IntKind.i64.bits (x : Int) ||| BitVec.ofInt IntKind.i64.bits (y : Int)).toNat : Int) = ((x ||| y : Nat) : Int) := by
 have e : (BitVec.ofInt IntKind.i64.bits (x : Int) ||| BitVec.ofInt IntKind.i64.bits (y : Int)).toNat = x ||| y := by
  rw [BitVec.toNat_or]
  simp [IntKind.bits, Nat.mod_eq_of_lt (show x < 18446744073709551616 by omega), Nat.mod_eq_of_lt (show y < 18446744073709551616 by omega)]
 have h : x ||| y < 4611686018427387904 := Nat.or_lt_two_pow (n := 62) hx hy
 rw [e, IntKind.wrap_i64]; omega
theorem or_add (i x y : Nat) (hy : y < 2 ^ i) : 2 ^ i * x ||| y = 2 ^ i * x + y := (Nat.two_pow_add_eq_or_of_lt hy x).symm
theorem cnt_val (a b c : Nat) (ha : a < 256) (hb : b < 256) (hc : c < 256) :
    IntKind.i64.wrap ((BitVec.ofInt IntKind.i64.bits (IntKind.i64.wrap ((BitVec.ofInt IntKind.i64.bits (IntKind.i64.wrap ((a : Int) * 2 ^ min (Int.toNat 16) IntKind.i64.bits)) ||| BitVec.ofInt IntKind.i64.bits (IntKind.i64.wrap ((b : Int) * 2 ^ min (Int.toNat 8) IntKind.i64.bits))).toNat : Int)) ||| BitVec.ofInt IntKind.i64.bits (c : Int)).toNat : Int) = ((a * 65536 + b * 256 + c : Nat) : Int) := by
  have e1 : IntKind.i64.wrap ((a : Int) * 2 ^ min (Int.toNat 16) IntKind.i64.bits) = ((2 ^ 16 * a : Nat) : Int) := by
    show IntKind.i64.wrap ((a : Int) * 2 ^ 16) = _
    rw [IntKind.wrap_i64]; omega
  have e2 : IntKind.i64.wrap ((b : Int) * 2 ^ min (Int.toNat 8) IntKind.i64.bits) = ((b * 256 : Nat) : Int) := by
    show IntKind.i64.wrap ((b : Int) * 2 ^ 8) = _
    rw [IntKind.wrap_i64]; omega
  rw [e1, e2, or_i64 _ _ (by omega) (by omega), or_add 16 a (b * 256) (by omega), show 2 ^ 16 * a + b * 256 = 2 ^ 8 * (256 * a + b) by omega, or_i64 _ _ (by omega) (by omega), or_add 8 _ c (by omega)]
  omega
theorem rcount9 (most : Nat) (l : List Nat) (e : Int) (hB : Pl.IsB l) : ACall Tryz.prog 108 [.ptr 900 0 0 0, exI .i64 most] (rdH 900 l e) (exI .i64 (Pl.rCount most l e).1) (rdH 900 (Pl.rCount most l e).2.1 (Pl.rCount most l e).2.2) := by
 unfold Pl.rCount
 rcases hq : Pl.rTake 3 l e with ⟨_ | t, l', e'⟩
 ·refine acall_on (mu := []) [] [] mixed Tryz.func108 rfl rfl rfl ?_
  have q := rtake_none 900 hq
  conv => whnf
  repeat' ((first
  | refine ob ?_
  | refine ⟨_, _, _, .gen [900] _ _ _ rfl (q) rfl rfl rfl rfl rfl, ?_⟩
  | ((refine ⟨_, _, _, .gen [900] _ _ _ rfl (.arg ?harg (q)) rfl rfl rfl rfl rfl, ?_⟩); case harg => (repeat' (first | exact sm | apply And.intro))) | (refine And.intro (fun hq => ?_) (fun hq => ?_) <;> first | exact cl1 | exact cl3 | skip)
  | refine ob2 ?_ | refine ob4 ?_ | refine fun hq => ?_ | fail) <;> conv => whnf)
  all_goals (repeat' (first | exact sm | apply And.intro))
 ·have he := Pl.rTake_some hq
  subst he
  obtain ⟨h1, q⟩ := rtake_some 900 hq
  have ht : Pl.IsB t := by
   unfold Pl.rTake at hq
   split at hq
   ·cases hq
   ·split at hq
    ·cases hq
    ·cases hq; exact Pl.isB_take hB 3
  have hv := cnt_val (t.getD (Int.toNat 0) 0) (t.getD (Int.toNat 1) 0) (t.getD (Int.toNat 2) 0) (ht _) (ht _) (ht _)
  rw [show t.getD (Int.toNat 0) 0 * 65536 + t.getD (Int.toNat 1) 0 * 256 + t.getD (Int.toNat 2) 0 = t.getD 0 0 * 65536 + t.getD 1 0 * 256 + t.getD 2 0 from rfl] at hv
  obtain ⟨n, hn⟩ : ∃ n : Nat, n = t.getD 0 0 * 65536 + t.getD 1 0 * 256 + t.getD 2 0 := ⟨_, rfl⟩
  have b0 := ht 0
  have b1 := ht 1
  have b2 := ht 2
  simp only [← hn] at hv ⊢
  have f := rfail 900 l' 10 0
  rw [if_pos rfl] at f
  refine acall_on (mu := []) [] [] mixed Tryz.func108 rfl rfl rfl ?_
  conv => whnf
  repeat' ((first
  | refine ob ?_
  | refine ⟨_, _, _, .gen [900] _ _ _ rfl (q) rfl rfl rfl rfl rfl, ?_⟩
  | ((refine ⟨_, _, _, .gen [900] _ _ _ rfl (.arg ?harg (q)) rfl rfl rfl rfl rfl, ?_⟩); case harg => (repeat' (first | exact sm | apply And.intro))) | (refine And.intro (fun hq => ?_) (fun hq => ?_) <;> first | exact cl1 | exact cl3 | skip)
  | refine ob2 ?_ | refine ob4 ?_ | refine fun hq => ?_ | fail) <;> conv => whnf)
  ·rw [hv] at hq
   have hc : most < n ∨ 1048576 < n := by
    have := of_decide_eq_true hq
    split at this <;> omega
   rw [if_pos hc]
   conv => whnf
   repeat' ((first
   | refine ob ?_
   | refine ⟨_, _, _, .gen [900] _ _ _ rfl (f) rfl rfl rfl rfl rfl, ?_⟩
   | ((refine ⟨_, _, _, .gen [900] _ _ _ rfl (.arg ?harg (f)) rfl rfl rfl rfl rfl, ?_⟩); case harg => (repeat' (first | exact sm | apply And.intro))) | (refine And.intro (fun hq => ?_) (fun hq => ?_) <;> first | exact cl1 | exact cl3 | skip)
   | refine ob2 ?_ | refine ob4 ?_ | refine fun hq => ?_ | fail) <;> conv => whnf)
   all_goals (repeat' (first | exact sm | apply And.intro))
  ·rw [hv] at hq ⊢
   have hc : ¬ (most < n ∨ 1048576 < n) := by
    have := of_decide_eq_false hq
    split at this <;> omega
   rw [if_neg hc]
   all_goals (repeat' (first | exact sm | apply And.intro))
theorem rcount (o : Nat) (most : Nat) (l : List Nat) (e : Int) (hB : Pl.IsB l) : ACall Tryz.prog 108 [.ptr o 0 0 0, exI .i64 most] (rdH o l e) (exI .i64 (Pl.rCount most l e).1) (rdH o (Pl.rCount most l e).2.1 (Pl.rCount most l e).2.2) := by
    obtain ⟨σ, τ, hστ, e1⟩ := names1 900 o
    have q := (rcount9 most l e hB).ren (σ := σ) (τ := τ) (δ := fun _ => 0) hστ (by intros; rfl)
    simp only [mapC, mapA_agD] at q
    simpa [mapC, mapA, mapA1, rnA, rnH, rnO, rdH, e1] using q
theorem or8u (U x : Nat) (hU : U < 72057594037927936) (hx : x < 256) : IntKind.u64.wrap ((BitVec.ofInt IntKind.u64.bits (IntKind.u64.wrap ((U : Int) * 2 ^ min (Int.toNat 8) IntKind.u64.bits)) ||| BitVec.ofInt IntKind.u64.bits (IntKind.u64.wrap (x : Int))).toNat : Int) = ((U * 256 + x : Nat) : Int) := by
 have e1 : IntKind.u64.wrap ((U : Int) * 2 ^ min (Int.toNat 8) IntKind.u64.bits) = ((2 ^ 8 * U : Nat) : Int) := by
  show IntKind.u64.wrap ((U : Int) * 2 ^ 8) = _
  rw [IntKind.wrap_u64]; omega
 have e2 : IntKind.u64.wrap (x : Int) = ((x : Nat) : Int) := by rw [IntKind.wrap_u64]; omega
 have e : ∀ Y : Nat, Y < 18446744073709551616 → (BitVec.ofInt IntKind.u64.bits (Y : Int) ||| BitVec.ofInt IntKind.u64.bits ((x : Nat) : Int)).toNat = Y ||| x := fun Y hY => by
  rw [BitVec.toNat_or]
  simp [IntKind.bits, Nat.mod_eq_of_lt hY, Nat.mod_eq_of_lt (show x < 18446744073709551616 by omega)]
 rw [e1, e2, e _ (by omega), or_add 8 U x (by omega), IntKind.wrap_u64]; omega
theorem xor_down (U : Nat) (h : U < 18446744073709551616) : IntKind.i64.wrap (IntKind.u64.wrap ((BitVec.ofInt IntKind.u64.bits (U : Int) ^^^ BitVec.ofInt IntKind.u64.bits 9223372036854775808).toNat : Int)) = (U : Int) - 9223372036854775808 := by
 have hx := xor_up ((U : Int) - 9223372036854775808 + (if U < 9223372036854775808 then 9223372036854775808 else -9223372036854775808)) (by split <;> omega) (by split <;> omega)
 have e1 : IntKind.u64.wrap ((U : Int) - 9223372036854775808 + (if U < 9223372036854775808 then 9223372036854775808 else -9223372036854775808)) = (U : Int) := by
  rw [IntKind.wrap_u64]; split <;> omega
 rw [e1] at hx
 rw [hx, IntKind.wrap_i64]
 split <;> omega
theorem rnum9 (l : List Nat) (e : Int) (hB : Pl.IsB l) : ACall Tryz.prog 106 [.ptr 900 0 0 0] (rdH 900 l e) (exI .i64 (Pl.rNum l e)) (rdH 900 (Pl.rTake 8 l e).2.1 (Pl.rTake 8 l e).2.2) := by
 unfold Pl.rNum
 rcases hq : Pl.rTake 8 l e with ⟨_ | t, l', e'⟩
 ·refine acall_on (mu := []) [] [] mixed Tryz.func106 rfl rfl rfl ?_
  have q := rtake_none 900 hq
  conv => whnf
  repeat' ((first
  | refine ob ?_
  | refine ⟨_, _, _, .gen [900] _ _ _ rfl (q) rfl rfl rfl rfl rfl, ?_⟩
  | ((refine ⟨_, _, _, .gen [900] _ _ _ rfl (.arg ?harg (q)) rfl rfl rfl rfl rfl, ?_⟩); case harg => (repeat' (first | exact sm | apply And.intro))) | (refine And.intro (fun hq => ?_) (fun hq => ?_) <;> first | exact cl1 | exact cl3 | skip)
  | refine ob2 ?_ | refine ob4 ?_ | refine fun hq => ?_ | fail) <;> conv => whnf)
  all_goals (repeat' (first | exact sm | apply And.intro))
 ·obtain ⟨h1, q⟩ := rtake_some 900 hq
  have ht : Pl.IsB t := by
   unfold Pl.rTake at hq
   split at hq
   ·cases hq
   ·split at hq
    ·cases hq
    ·cases hq; exact Pl.isB_take hB 8
  refine acall_on (mu := []) [] [] mixed Tryz.func106 rfl rfl rfl ?_
  conv => whnf
  repeat' ((first
  | refine ob ?_
  | refine ⟨_, _, _, .gen [900] _ _ _ rfl (q) rfl rfl rfl rfl rfl, ?_⟩
  | ((refine ⟨_, _, _, .gen [900] _ _ _ rfl (.arg ?harg (q)) rfl rfl rfl rfl rfl, ?_⟩); case harg => (repeat' (first | exact sm | apply And.intro))) | (refine And.intro (fun hq => ?_) (fun hq => ?_) <;> first | exact cl1 | exact cl3 | skip)
  | refine ob2 ?_ | refine ob4 ?_ | refine fun hq => ?_ | fail) <;> conv => whnf)
  have h0 : Pl.beN (t.take 0) = 0 := by simp [Pl.beN]
  have hlt : ∀ k, k < 8 → Pl.beN (t.take k) < 72057594037927936 := fun k hk => by
   have := Pl.beN_lt t ht k (by omega)
   have h2 : 256 ^ k ≤ 256 ^ 7 := Nat.pow_le_pow_right (by decide) (by omega)
   omega
  refine ⟨[], ?_⟩
  conv => whnf
  refine ⟨Nat, fun k => k ≤ 8, fun k => 8 - k, fun k => [(5, exI .u64 (Pl.beN (t.take k) : Nat)), (17, exI .i64 k)], fun _ => [], ⟨0, by omega, ?_⟩, ?_⟩
  ·skip
   refine ⟨[], ?_⟩
   conv => whnf
   refine ⟨rfl, ?_, ?_⟩ <;> (repeat' (first | exact sm | apply And.intro))
  intro k hk
  rcases Nat.lt_or_ge k 8 with h8 | h8
  ·have hu := or8u (Pl.beN (t.take k)) (t.getD k 0) (hlt k h8) (ht k)
   rw [← Pl.beN_succ t k (by omega)] at hu
   have hx := ht k
   conv => whnf
   repeat' ((first
   | refine ob ?_
   | (refine And.intro (fun hq => ?_) (fun hq => ?_) <;> first | exact cl1 | exact cl3 | skip)
   | refine ob2 ?_ | refine ob4 ?_ | refine fun hq => ?_ | fail) <;> conv => whnf)
   refine ⟨k + 1, by omega, by dsimp only; omega, ?_⟩
   refine ⟨[], ?_⟩
   conv => whnf
   refine ⟨rfl, ?_, ?_⟩ <;> (repeat' (first | exact trivial | (exact congrArg (Value.int .u64) hu) | exact sm | apply And.intro))
  ·obtain rfl : k = 8 := by omega
   have hd := xor_down (Pl.beN (t.take 8)) (by have := Pl.beN_lt t ht 8 (by omega); omega)
   rw [List.take_of_length_le (by omega)] at hd
   conv => whnf
   repeat' ((first
   | refine ob ?_
   | (refine And.intro (fun hq => ?_) (fun hq => ?_) <;> first | exact cl1 | exact cl3 | skip)
   | refine ob2 ?_ | refine ob4 ?_ | refine fun hq => ?_ | fail) <;> conv => whnf)
   rw [List.take_of_length_le (show t.length ≤ 8 by omega), hd]
   all_goals (repeat' (first | exact sm | apply And.intro))
theorem rnum (o : Nat) (l : List Nat) (e : Int) (hB : Pl.IsB l) : ACall Tryz.prog 106 [.ptr o 0 0 0] (rdH o l e) (exI .i64 (Pl.rNum l e)) (rdH o (Pl.rTake 8 l e).2.1 (Pl.rTake 8 l e).2.2) := by
    obtain ⟨σ, τ, hστ, e1⟩ := names1 900 o
    have q := (rnum9 l e hB).ren (σ := σ) (τ := τ) (δ := fun _ => 0) hστ (by intros; rfl)
    simp only [mapC, mapA_agD] at q
    simpa [mapC, mapA, mapA1, rnA, rnH, rnO, rdH, e1] using q
theorem rend9 (l : List Nat) (e : Int) : ACall Tryz.prog 75 [.ptr 900 0 0 0] (rdH 900 l e) (exI .i64 (Pl.rEnd l e)) (rdH 900 l (Pl.rEnd l e)) := by
 have f := rfail 900 l 22 e
 unfold Pl.rEnd
 by_cases h0 : 0 < l.length
 ·rw [show (if 0 < l.length ∧ e = 0 then (22 : Int) else e) = if e = 0 then 22 else e by simp [h0]]
  refine acall_on (mu := []) [] [] mixed Tryz.func75 rfl rfl rfl ?_
  conv => whnf
  repeat' ((first
  | refine ob ?_
  | refine ⟨_, _, _, .gen [900] _ _ _ rfl (f) rfl rfl rfl rfl rfl, ?_⟩
  | ((refine ⟨_, _, _, .gen [900] _ _ _ rfl (.arg ?harg (f)) rfl rfl rfl rfl rfl, ?_⟩); case harg => (repeat' (first | exact sm | apply And.intro))) | (refine And.intro (fun hq => ?_) (fun hq => ?_) <;> first | exact cl1 | exact cl3 | skip)
  | refine ob2 ?_ | refine ob4 ?_ | refine fun hq => ?_ | fail) <;> conv => whnf)
  all_goals (repeat' (first | exact sm | apply And.intro))
 ·rw [if_neg (fun h => h0 h.1)]
  refine acall_on (mu := []) [] [] mixed Tryz.func75 rfl rfl rfl ?_
  conv => whnf
  repeat' ((first
  | refine ob ?_
  | refine ⟨_, _, _, .gen [900] _ _ _ rfl (f) rfl rfl rfl rfl rfl, ?_⟩
  | ((refine ⟨_, _, _, .gen [900] _ _ _ rfl (.arg ?harg (f)) rfl rfl rfl rfl rfl, ?_⟩); case harg => (repeat' (first | exact sm | apply And.intro))) | (refine And.intro (fun hq => ?_) (fun hq => ?_) <;> first | exact cl1 | exact cl3 | skip)
  | refine ob2 ?_ | refine ob4 ?_ | refine fun hq => ?_ | fail) <;> conv => whnf)
  all_goals (repeat' (first | exact sm | apply And.intro))
theorem rend (o : Nat) (l : List Nat) (e : Int) : ACall Tryz.prog 75 [.ptr o 0 0 0] (rdH o l e) (exI .i64 (Pl.rEnd l e)) (rdH o l (Pl.rEnd l e)) := by
    obtain ⟨σ, τ, hστ, e1⟩ := names1 900 o
    have q := (rend9 l e).ren (σ := σ) (τ := τ) (δ := fun _ => 0) hστ (by intros; rfl)
    simp only [mapC, mapA_agD] at q
    simpa [mapC, mapA, mapA1, rnA, rnH, rnO, rdH, e1] using q
theorem rdig9 (l : List Nat) (e : Int) : ACall Tryz.prog 107 [.ptr 900 0 0 0] (rdH 900 l e) (agD (digL (Pl.rDig l e))) (rdH 900 (Pl.rTake 32 l e).2.1 (Pl.rTake 32 l e).2.2) := by
 unfold Pl.rDig
 rcases hq : Pl.rTake 32 l e with ⟨_ | t, l', e'⟩
 ·have q := rtake_none 900 hq
  refine acall_on (mu := [0,1,2,3,4,5,6,7,8]) [] [] mixed Tryz.func107 rfl rfl rfl ?_
  conv => whnf
  repeat' ((first
  | refine ob ?_
  | refine ⟨_, _, _, .gen [900] _ _ _ rfl (q) rfl rfl rfl rfl rfl, ?_⟩
  | ((refine ⟨_, _, _, .gen [900] _ _ _ rfl (.arg ?harg (q)) rfl rfl rfl rfl rfl, ?_⟩); case harg => (repeat' (first | exact sm | apply And.intro))) | (refine And.intro (fun hq => ?_) (fun hq => ?_) <;> first | exact cl1 | exact cl3 | skip)
  | refine ob2 ?_ | refine ob4 ?_ | refine fun hq => ?_ | fail) <;> conv => whnf)
  all_goals (repeat' (first | exact sm | apply And.intro))
 ·obtain ⟨h1, q⟩ := rtake_some 900 hq
  rw [show byteL t = .sl 1 32 (byF t) by unfold byteL; rw [h1]] at q
  refine acall_on (mu := [2, 3]) [] [] mixed Tryz.func107 rfl rfl rfl ?_
  conv => whnf
  repeat' ((first
  | refine ob ?_
  | refine ⟨_, _, _, .gen [900] _ _ _ rfl (q) rfl rfl rfl rfl rfl, ?_⟩
  | ((refine ⟨_, _, _, .gen [900] _ _ _ rfl (.arg ?harg (q)) rfl rfl rfl rfl rfl, ?_⟩); case harg => (repeat' (first | exact sm | apply And.intro))) | (refine And.intro (fun hq => ?_) (fun hq => ?_) <;> first | exact cl1 | exact cl3 | skip)
  | refine ob2 ?_ | refine ob4 ?_ | refine fun hq => ?_ | fail) <;> conv => whnf)
  all_goals (repeat' (first | exact sm | apply And.intro))
theorem rdig (o : Nat) (l : List Nat) (e : Int) : ACall Tryz.prog 107 [.ptr o 0 0 0] (rdH o l e) (agD (digL (Pl.rDig l e))) (rdH o (Pl.rTake 32 l e).2.1 (Pl.rTake 32 l e).2.2) := by
    obtain ⟨σ, τ, hστ, e1⟩ := names1 900 o
    have q := (rdig9 l e).ren (σ := σ) (τ := τ) (δ := fun _ => 0) hστ (by intros; rfl)
    simp only [mapC, mapA_agD] at q
    simpa [mapC, mapA, mapA1, rnA, rnH, rnO, rdH, e1] using q
theorem rnew9 (l : List Nat) (hl : l.length ≤ 100000000000) : ACall Tryz.prog 70 [.d (byteL l)] [] (.ptr 6 0 0 0) (rdH 6 l 0) := by
 refine acall_on (mu := [6]) [] [] mixed Tryz.func70 rfl rfl rfl ?_
 conv => whnf
 repeat' ((first
 | refine ob ?_
 | refine ⟨_, _, _, .gen [] _ _ _ rfl (bclone l.length (byF l) hl) rfl rfl rfl rfl rfl, ?_⟩
 | ((refine ⟨_, _, _, .gen [] _ _ _ rfl (.arg ?harg (bclone l.length (byF l) hl)) rfl rfl rfl rfl rfl, ?_⟩); case harg => (repeat' (first | exact sm | apply And.intro))) | (refine And.intro (fun hq => ?_) (fun hq => ?_) <;> first | exact cl1 | exact cl3 | skip)
 | refine ob2 ?_ | refine ob4 ?_ | refine fun hq => ?_ | fail) <;> conv => whnf)
 all_goals (repeat' (first | exact sm | apply And.intro))
theorem rnew (o : Nat) (l : List Nat) (hl : l.length ≤ 100000000000) : ACall Tryz.prog 70 [.d (byteL l)] [] (.ptr o 0 0 0) (rdH o l 0) := by
 obtain ⟨σ, τ, hστ, e1⟩ := names1 6 o
 have q := (rnew9 l hl).ren (σ := σ) (τ := τ) (δ := fun _ => 0) hστ (by intros; rfl)
 simpa [mapC, mapA, mapA1, rnA, rnH, rnO, rdH, e1] using q
def iF (l : List Int) (i : Nat) : List DV := [.v (.int .i64 (l.getD i 0))]
theorem app_iF1 (r : List Int) (x : Int) : ∀ k, k < r.length + 1 → app r.length (iF r) (chop 1 [.v (.int .i64 x)]) k = iF (r ++ [x]) k := fun k hk => by
 rcases Nat.lt_or_ge k r.length with h | h
 ·rw [app_lt h]; simp [iF, List.getD_eq_getElem?_getD, List.getElem?_append_left h]
 ·obtain rfl : k = r.length := by omega
  rw [app_ge h]; simp [iF, chop, List.getD_eq_getElem?_getD]
theorem rrow9 (m : Int) (l : List Nat) (e : Int) (hB : Pl.IsB l) : ACall Tryz.prog 73 [.ptr 900 0 0 0, exI .i64 m] (rdH 900 l e) (.d (i64L (Pl.rRowI m l e).1)) (rdH 900 (Pl.rRowI m l e).2.1 (Pl.rRowI m l e).2.2) := by
 unfold Pl.rRowI
 have q0 := rbyte 900 l e
 have hx := Pl.rByte_lt l e hB
 have hB1 : Pl.IsB (Pl.rTake 1 l e).2.1 := (Pl.take_suf 1 l e).isB hB
 obtain ⟨x, hx'⟩ : ∃ x, x = Pl.rByte l e := ⟨_, rfl⟩
 obtain ⟨l1, hl1⟩ : ∃ l1, l1 = (Pl.rTake 1 l e).2.1 := ⟨_, rfl⟩
 obtain ⟨e1, he1⟩ : ∃ e1, e1 = (Pl.rTake 1 l e).2.2 := ⟨_, rfl⟩
 simp only [← hx', ← hl1, ← he1] at q0 hx hB1 ⊢
 have f0 := rfail 900 l1 10 e1
 by_cases hm : m < (x : Int)
 ·obtain ⟨e2, he2⟩ : ∃ e2, e2 = (if e1 = 0 then 10 else e1) := ⟨_, rfl⟩
  rw [show (if m < (x : Int) ∧ e1 = 0 then (10 : Int) else e1) = e2 by rw [he2]; simp [hm]]
  rw [← he2] at f0
  refine acall_on (mu := []) [] [] mixed Tryz.func73 rfl rfl rfl ?_
  conv => whnf
  repeat' ((first
  | refine ob ?_
  | refine ⟨_, _, _, .gen [900] _ _ _ rfl (q0) rfl rfl rfl rfl rfl, ?_⟩
  | refine ⟨_, _, _, .gen [900] _ _ _ rfl (f0) rfl rfl rfl rfl rfl, ?_⟩
  | ((refine ⟨_, _, _, .gen [900] _ _ _ rfl (.arg ?harg (q0)) rfl rfl rfl rfl rfl, ?_⟩); case harg => (repeat' (first | exact sm | apply And.intro)))
  | ((refine ⟨_, _, _, .gen [900] _ _ _ rfl (.arg ?harg (f0)) rfl rfl rfl rfl rfl, ?_⟩); case harg => (repeat' (first | exact sm | apply And.intro))) | (refine And.intro (fun hq => ?_) (fun hq => ?_) <;> first | exact cl1 | exact cl3 | skip)
  | refine ob2 ?_ | refine ob4 ?_ | refine fun hq => ?_ | fail) <;> conv => whnf)
  refine ⟨[.virt 6 50 2 1], ?_⟩
  conv => whnf
  refine ⟨Nat, fun j => j ≤ x, fun j => x - j, fun j => [(6, .own 50 0), (17, exI .i64 j)], fun j => (50, .row 2 1 0 false (Pl.rNums j l1 e2).1.length (iF (Pl.rNums j l1 e2).1)) :: rdH 900 (Pl.rNums j l1 e2).2.1 (Pl.rNums j l1 e2).2.2, ⟨0, by omega, ?_⟩, ?_⟩
  ·skip
   refine ⟨[], ?_⟩
   conv => whnf
   refine ⟨rfl, ?_, ?_⟩ <;> (repeat' (first | exact trivial | (exact fun k hk => absurd hk (Nat.not_lt_zero k)) | exact sm | apply And.intro))
  intro j hj
  conv => whnf
  rcases Nat.lt_or_ge j x with hlt | hge
  ·have q := rnum 900 (Pl.rNums j l1 e2).2.1 (Pl.rNums j l1 e2).2.2 ((Pl.nums_suf j l1 e2).isB hB1)
   have hlen := Pl.rNums_len j l1 e2
   have hs : Pl.rNums (j + 1) l1 e2 = (if (Pl.rTake 8 (Pl.rNums j l1 e2).2.1 (Pl.rNums j l1 e2).2.2).2.2 = 0 then (Pl.rNums j l1 e2).1 ++ [Pl.rNum (Pl.rNums j l1 e2).2.1 (Pl.rNums j l1 e2).2.2] else (Pl.rNums j l1 e2).1, (Pl.rTake 8 (Pl.rNums j l1 e2).2.1 (Pl.rNums j l1 e2).2.2).2) := rfl
   generalize Pl.rNums j l1 e2 = S at q hs hlen ⊢
   obtain ⟨r, m1, y1⟩ := S
   simp only [] at q hs hlen ⊢
   generalize Pl.rNum m1 y1 = z at q hs
   generalize Pl.rTake 8 m1 y1 = U at q hs
   obtain ⟨_, m2, y2⟩ := U
   simp only [] at q hs
   by_cases hy : y2 = 0
   ·have hd : decide (y2 = 0) = true := decide_eq_true hy
    rw [if_pos hy] at hs
    conv => whnf
    repeat' ((first
    | refine ob ?_
    | refine ⟨_, _, _, .gen [900] _ _ _ rfl (q) rfl rfl rfl rfl rfl, ?_⟩
    | ((refine ⟨_, _, _, .gen [900] _ _ _ rfl (.arg ?harg (q)) rfl rfl rfl rfl rfl, ?_⟩); case harg => (repeat' (first | exact sm | apply And.intro))) | (refine And.intro (fun hq => ?_) (fun hq => ?_) <;> first | exact cl1 | exact cl3 | skip)
    | refine ob2 ?_ | refine ob4 ?_ | refine fun hq => ?_ | fail) <;> conv => whnf)
    refine ⟨j + 1, by omega, by omega, ?_⟩
    rw [hs]
    refine ⟨[.regen 50 0], ?_⟩
    conv => whnf
    refine ⟨rfl, ?_, ?_⟩ <;> (repeat' (first | exact trivial | (exact app_iF1 _ _) | ((simp; done)) | exact sm | apply And.intro))
   ·have hd : decide (y2 = 0) = false := decide_eq_false hy
    rw [if_neg hy] at hs
    conv => whnf
    repeat' ((first
    | refine ob ?_
    | refine ⟨_, _, _, .gen [900] _ _ _ rfl (q) rfl rfl rfl rfl rfl, ?_⟩
    | ((refine ⟨_, _, _, .gen [900] _ _ _ rfl (.arg ?harg (q)) rfl rfl rfl rfl rfl, ?_⟩); case harg => (repeat' (first | exact sm | apply And.intro))) | (refine And.intro (fun hq => ?_) (fun hq => ?_) <;> first | exact cl1 | exact cl3 | skip)
    | refine ob2 ?_ | refine ob4 ?_ | refine fun hq => ?_ | fail) <;> conv => whnf)
    refine ⟨j + 1, by omega, by omega, ?_⟩
    rw [hs]
    refine ⟨[.regen 50 0], ?_⟩
    conv => whnf
    refine ⟨rfl, ?_, ?_⟩ <;> (repeat' (first | exact sm | apply And.intro))
  ·obtain rfl : j = x := by omega
   generalize Pl.rNums j l1 e2 = S
   obtain ⟨r, m1, y1⟩ := S
   simp only []
   by_cases hy : y1 = 0
   ·have hd : decide (y1 = 0) = true := decide_eq_true hy
    rw [if_pos hy]
    conv => whnf
    repeat' ((first
    | refine ob ?_
    | (refine And.intro (fun hq => ?_) (fun hq => ?_) <;> first | exact cl1 | exact cl3 | skip)
    | refine ob2 ?_ | refine ob4 ?_ | refine fun hq => ?_ | fail) <;> conv => whnf)
    all_goals (repeat' (first | exact sm | apply And.intro))
   ·have hd : decide (y1 = 0) = false := decide_eq_false hy
    rw [if_neg hy]
    conv => whnf
    repeat' ((first
    | refine ob ?_
    | (refine And.intro (fun hq => ?_) (fun hq => ?_) <;> first | exact cl1 | exact cl3 | skip)
    | refine ob2 ?_ | refine ob4 ?_ | refine fun hq => ?_ | fail) <;> conv => whnf)
    all_goals (repeat' (first | exact sm | apply And.intro))
 ·obtain ⟨e2, he2⟩ : ∃ e2, e2 = e1 := ⟨_, rfl⟩
  rw [show (if m < (x : Int) ∧ e1 = 0 then (10 : Int) else e1) = e2 by rw [he2]; simp [hm]]
  subst he2
  refine acall_on (mu := []) [] [] mixed Tryz.func73 rfl rfl rfl ?_
  conv => whnf
  repeat' ((first
  | refine ob ?_
  | refine ⟨_, _, _, .gen [900] _ _ _ rfl (q0) rfl rfl rfl rfl rfl, ?_⟩
  | refine ⟨_, _, _, .gen [900] _ _ _ rfl (f0) rfl rfl rfl rfl rfl, ?_⟩
  | ((refine ⟨_, _, _, .gen [900] _ _ _ rfl (.arg ?harg (q0)) rfl rfl rfl rfl rfl, ?_⟩); case harg => (repeat' (first | exact sm | apply And.intro)))
  | ((refine ⟨_, _, _, .gen [900] _ _ _ rfl (.arg ?harg (f0)) rfl rfl rfl rfl rfl, ?_⟩); case harg => (repeat' (first | exact sm | apply And.intro))) | (refine And.intro (fun hq => ?_) (fun hq => ?_) <;> first | exact cl1 | exact cl3 | skip)
  | refine ob2 ?_ | refine ob4 ?_ | refine fun hq => ?_ | fail) <;> conv => whnf)
  refine ⟨[.virt 6 50 2 1], ?_⟩
  conv => whnf
  refine ⟨Nat, fun j => j ≤ x, fun j => x - j, fun j => [(6, .own 50 0), (17, exI .i64 j)], fun j => (50, .row 2 1 0 false (Pl.rNums j l1 e2).1.length (iF (Pl.rNums j l1 e2).1)) :: rdH 900 (Pl.rNums j l1 e2).2.1 (Pl.rNums j l1 e2).2.2, ⟨0, by omega, ?_⟩, ?_⟩
  ·skip
   refine ⟨[], ?_⟩
   conv => whnf
   refine ⟨rfl, ?_, ?_⟩ <;> (repeat' (first | exact trivial | (exact fun k hk => absurd hk (Nat.not_lt_zero k)) | exact sm | apply And.intro))
  intro j hj
  conv => whnf
  rcases Nat.lt_or_ge j x with hlt | hge
  ·have q := rnum 900 (Pl.rNums j l1 e2).2.1 (Pl.rNums j l1 e2).2.2 ((Pl.nums_suf j l1 e2).isB hB1)
   have hlen := Pl.rNums_len j l1 e2
   have hs : Pl.rNums (j + 1) l1 e2 = (if (Pl.rTake 8 (Pl.rNums j l1 e2).2.1 (Pl.rNums j l1 e2).2.2).2.2 = 0 then (Pl.rNums j l1 e2).1 ++ [Pl.rNum (Pl.rNums j l1 e2).2.1 (Pl.rNums j l1 e2).2.2] else (Pl.rNums j l1 e2).1, (Pl.rTake 8 (Pl.rNums j l1 e2).2.1 (Pl.rNums j l1 e2).2.2).2) := rfl
   generalize Pl.rNums j l1 e2 = S at q hs hlen ⊢
   obtain ⟨r, m1, y1⟩ := S
   simp only [] at q hs hlen ⊢
   generalize Pl.rNum m1 y1 = z at q hs
   generalize Pl.rTake 8 m1 y1 = U at q hs
   obtain ⟨_, m2, y2⟩ := U
   simp only [] at q hs
   by_cases hy : y2 = 0
   ·have hd : decide (y2 = 0) = true := decide_eq_true hy
    rw [if_pos hy] at hs
    conv => whnf
    repeat' ((first
    | refine ob ?_
    | refine ⟨_, _, _, .gen [900] _ _ _ rfl (q) rfl rfl rfl rfl rfl, ?_⟩
    | ((refine ⟨_, _, _, .gen [900] _ _ _ rfl (.arg ?harg (q)) rfl rfl rfl rfl rfl, ?_⟩); case harg => (repeat' (first | exact sm | apply And.intro))) | (refine And.intro (fun hq => ?_) (fun hq => ?_) <;> first | exact cl1 | exact cl3 | skip)
    | refine ob2 ?_ | refine ob4 ?_ | refine fun hq => ?_ | fail) <;> conv => whnf)
    refine ⟨j + 1, by omega, by omega, ?_⟩
    rw [hs]
    refine ⟨[.regen 50 0], ?_⟩
    conv => whnf
    refine ⟨rfl, ?_, ?_⟩ <;> (repeat' (first | exact trivial | (exact app_iF1 _ _) | ((simp; done)) | exact sm | apply And.intro))
   ·have hd : decide (y2 = 0) = false := decide_eq_false hy
    rw [if_neg hy] at hs
    conv => whnf
    repeat' ((first
    | refine ob ?_
    | refine ⟨_, _, _, .gen [900] _ _ _ rfl (q) rfl rfl rfl rfl rfl, ?_⟩
    | ((refine ⟨_, _, _, .gen [900] _ _ _ rfl (.arg ?harg (q)) rfl rfl rfl rfl rfl, ?_⟩); case harg => (repeat' (first | exact sm | apply And.intro))) | (refine And.intro (fun hq => ?_) (fun hq => ?_) <;> first | exact cl1 | exact cl3 | skip)
    | refine ob2 ?_ | refine ob4 ?_ | refine fun hq => ?_ | fail) <;> conv => whnf)
    refine ⟨j + 1, by omega, by omega, ?_⟩
    rw [hs]
    refine ⟨[.regen 50 0], ?_⟩
    conv => whnf
    refine ⟨rfl, ?_, ?_⟩ <;> (repeat' (first | exact sm | apply And.intro))
  ·obtain rfl : j = x := by omega
   generalize Pl.rNums j l1 e2 = S
   obtain ⟨r, m1, y1⟩ := S
   simp only []
   by_cases hy : y1 = 0
   ·have hd : decide (y1 = 0) = true := decide_eq_true hy
    rw [if_pos hy]
    conv => whnf
    repeat' ((first
    | refine ob ?_
    | (refine And.intro (fun hq => ?_) (fun hq => ?_) <;> first | exact cl1 | exact cl3 | skip)
    | refine ob2 ?_ | refine ob4 ?_ | refine fun hq => ?_ | fail) <;> conv => whnf)
    all_goals (repeat' (first | exact sm | apply And.intro))
   ·have hd : decide (y1 = 0) = false := decide_eq_false hy
    rw [if_neg hy]
    conv => whnf
    repeat' ((first
    | refine ob ?_
    | (refine And.intro (fun hq => ?_) (fun hq => ?_) <;> first | exact cl1 | exact cl3 | skip)
    | refine ob2 ?_ | refine ob4 ?_ | refine fun hq => ?_ | fail) <;> conv => whnf)
    all_goals (repeat' (first | exact sm | apply And.intro))
theorem rrow (o : Nat) (m : Int) (l : List Nat) (e : Int) (hB : Pl.IsB l) : ACall Tryz.prog 73 [.ptr o 0 0 0, exI .i64 m] (rdH o l e) (.d (i64L (Pl.rRowI m l e).1)) (rdH o (Pl.rRowI m l e).2.1 (Pl.rRowI m l e).2.2) := by
    obtain ⟨σ, τ, hστ, e1⟩ := names1 900 o
    have q := (rrow9 m l e hB).ren (σ := σ) (τ := τ) (δ := fun _ => 0) hστ (by intros; rfl)
    simp only [mapC, mapA_agD] at q
    simpa [mapC, mapA, mapA1, rnA, rnH, rnO, rdH, e1] using q
end Go.Proofs.YtedokpgkjcnoiaaGreat
