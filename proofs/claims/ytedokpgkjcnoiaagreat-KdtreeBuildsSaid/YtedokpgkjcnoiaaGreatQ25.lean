/- The Writer: contracts for any names of its variable and of its row. -/
import Derived.Test.YtedokpgkjcnoiaaGreatQ17
import Derived.Test.YtedokpgkjcnoiaaGreatQ22
set_option linter.unusedVariables false
set_option linter.unusedSimpArgs false
namespace Go.Proofs.YtedokpgkjcnoiaaGreat
open Go.RowKit

set_option maxRecDepth 100000
set_option maxHeartbeats 1000000
def wrH (o k g : Nat) (l : List Nat) (e : Int) : OH := [(o, .box 163 [.own k g, exI .i64 e]), (k, .row 5 1 g false l.length (byF l))]
theorem app_byF (l m : List Nat) (k : Nat) : app l.length (byF l) (byF m) k = byF (l ++ m) k := by
 rcases Nat.lt_or_ge k l.length with h | h
 ·rw [app_lt h]; simp [byF, List.getD_eq_getElem?_getD, List.getElem?_append_left h]
 ·rw [app_ge h]; simp [byF, List.getD_eq_getElem?_getD, List.getElem?_append_right h]
theorem mapC_d (σ δ : Nat → Nat) : ∀ l : List DV, mapC (rnA σ δ) (l.map .d) = l.map .d
 | [] => rfl
 | a :: r => by simp [mapC, rnA, mapC_d σ δ r]
theorem mapA_agD (σ δ : Nat → Nat) (l : List DV) : mapA (rnA σ δ) (agD l) = agD l := congrArg AV.agg (mapC_d σ δ l)
theorem wput9 (l m : List Nat) (e : Int) (hl : l.length + m.length ≤ 1000000000000) : ACall Tryz.prog 141 [.ptr 900 0 0 0, exB true, .d (byteL m)] (wrH 900 901 0 l e) (.tup []) (wrH 900 901 1 (l ++ m) e) := by
 refine acall_on (mu := []) [] [] mixed Tryz.func141 rfl rfl rfl ?_
 conv => whnf
 repeat' ((first
 | refine ob ?_
 | (refine And.intro (fun hq => ?_) (fun hq => ?_) <;> first | exact cl1 | exact cl3 | skip)
 | refine ob2 ?_ | refine ob4 ?_ | refine fun hq => ?_ | fail) <;> conv => whnf)
 all_goals (repeat' (first | exact trivial | (exact fun k _ => app_byF _ _ k) | ((simp; done)) | exact sm | apply And.intro))
theorem wput (o k g : Nat) (hok : o ≠ k) (l m : List Nat) (e : Int) (hl : l.length + m.length ≤ 1000000000000) : ACall Tryz.prog 141 [.ptr o 0 0 0, exB true, .d (byteL m)] (wrH o k g l e) (.tup []) (wrH o k (1 + g) (l ++ m) e) := by
    obtain ⟨σ, τ, hστ, e1, e2⟩ := names2 (a1 := 900) (a2 := 901) (b1 := o) (b2 := k) (by decide) hok
    have q := (wput9 l m e hl).ren (σ := σ) (τ := τ) (δ := fun x => if x = 901 then g else 0) hστ (by
      intro x ob hx hr
      by_cases ex : x = 901
      · subst ex; rcases hx with hx | hx <;> (simp [wrH, look] at hx; subst hx; cases hr)
      · simp [ex])
    simp only [mapC, mapA_agD] at q
    simpa [mapC, mapA, mapA1, rnA, rnH, rnO, wrH, e1, e2] using q
theorem wbyte9 (l : List Nat) (x : Nat) (e : Int) (hl : l.length ≤ 100000000000) : ACall Tryz.prog 117 [.ptr 900 0 0 0, exI .u8 x] (wrH 900 901 0 l e) (.tup []) (wrH 900 901 1 (l ++ [x]) e) := by
 refine acall_on (mu := []) [] [] mixed Tryz.func117 rfl rfl rfl ?_
 conv => whnf
 repeat' ((first
 | refine ob ?_
 | refine ⟨_, _, _, .gen [900,901] _ _ _ rfl (wput 900 901 0 (by decide) l [x] e (by simp; omega)) rfl rfl rfl rfl rfl, ?_⟩
 | ((refine ⟨_, _, _, .gen [900,901] _ _ _ rfl (.arg ?harg (wput 900 901 0 (by decide) l [x] e (by simp; omega))) rfl rfl rfl rfl rfl, ?_⟩); case harg => (repeat' (first | exact sm | apply And.intro))) | (refine And.intro (fun hq => ?_) (fun hq => ?_) <;> first | exact cl1 | exact cl3 | skip)
 | refine ob2 ?_ | refine ob4 ?_ | refine fun hq => ?_ | fail) <;> conv => whnf)
 all_goals (repeat' (first | exact trivial | (exact fun k _ => app_byF _ _ k) | ((simp; done)) | exact sm | apply And.intro))
theorem wbyte (o k g : Nat) (hok : o ≠ k) (l : List Nat) (x : Nat) (e : Int) (hl : l.length ≤ 100000000000) : ACall Tryz.prog 117 [.ptr o 0 0 0, exI .u8 x] (wrH o k g l e) (.tup []) (wrH o k (1 + g) (l ++ [x]) e) := by
    obtain ⟨σ, τ, hστ, e1, e2⟩ := names2 (a1 := 900) (a2 := 901) (b1 := o) (b2 := k) (by decide) hok
    have q := (wbyte9 l x e hl).ren (σ := σ) (τ := τ) (δ := fun x => if x = 901 then g else 0) hστ (by
      intro x ob hx hr
      by_cases ex : x = 901
      · subst ex; rcases hx with hx | hx <;> (simp [wrH, look] at hx; subst hx; cases hr)
      · simp [ex])
    simp only [mapC, mapA_agD] at q
    simpa [mapC, mapA, mapA1, rnA, rnH, rnO, wrH, e1, e2] using q
theorem wtruth9 (l : List Nat) (x : Bool) (e : Int) (hl : l.length ≤ 100000000000) : ACall Tryz.prog 118 [.ptr 900 0 0 0, exB x] (wrH 900 901 0 l e) (.tup []) (wrH 900 901 1 (l ++ [if x then 1 else 0]) e) := by
 refine acall_on (mu := []) [] [] mixed Tryz.func118 rfl rfl rfl ?_
 cases x
 ·skip
  conv => whnf
  repeat' ((first
  | refine ob ?_
  | refine ⟨_, _, _, .gen [900,901] _ _ _ rfl (wbyte 900 901 0 (by decide) l 0 e hl) rfl rfl rfl rfl rfl, ?_⟩
  | ((refine ⟨_, _, _, .gen [900,901] _ _ _ rfl (.arg ?harg (wbyte 900 901 0 (by decide) l 0 e hl)) rfl rfl rfl rfl rfl, ?_⟩); case harg => (repeat' (first | exact sm | apply And.intro))) | (refine And.intro (fun hq => ?_) (fun hq => ?_) <;> first | exact cl1 | exact cl3 | skip)
  | refine ob2 ?_ | refine ob4 ?_ | refine fun hq => ?_ | fail) <;> conv => whnf)
  all_goals (repeat' (first | exact trivial | ((simp; done)) | exact sm | apply And.intro))
 ·skip
  conv => whnf
  repeat' ((first
  | refine ob ?_
  | refine ⟨_, _, _, .gen [900,901] _ _ _ rfl (wbyte 900 901 0 (by decide) l 1 e hl) rfl rfl rfl rfl rfl, ?_⟩
  | ((refine ⟨_, _, _, .gen [900,901] _ _ _ rfl (.arg ?harg (wbyte 900 901 0 (by decide) l 1 e hl)) rfl rfl rfl rfl rfl, ?_⟩); case harg => (repeat' (first | exact sm | apply And.intro))) | (refine And.intro (fun hq => ?_) (fun hq => ?_) <;> first | exact cl1 | exact cl3 | skip)
  | refine ob2 ?_ | refine ob4 ?_ | refine fun hq => ?_ | fail) <;> conv => whnf)
  all_goals (repeat' (first | exact trivial | ((simp; done)) | exact sm | apply And.intro))
theorem wtruth (o k g : Nat) (hok : o ≠ k) (l : List Nat) (x : Bool) (e : Int) (hl : l.length ≤ 100000000000) : ACall Tryz.prog 118 [.ptr o 0 0 0, exB x] (wrH o k g l e) (.tup []) (wrH o k (1 + g) (l ++ [if x then 1 else 0]) e) := by
    obtain ⟨σ, τ, hστ, e1, e2⟩ := names2 (a1 := 900) (a2 := 901) (b1 := o) (b2 := k) (by decide) hok
    have q := (wtruth9 l x e hl).ren (σ := σ) (τ := τ) (δ := fun x => if x = 901 then g else 0) hστ (by
      intro x ob hx hr
      by_cases ex : x = 901
      · subst ex; rcases hx with hx | hx <;> (simp [wrH, look] at hx; subst hx; cases hr)
      · simp [ex])
    simp only [mapC, mapA_agD] at q
    simpa [mapC, mapA, mapA1, rnA, rnH, rnO, wrH, e1, e2] using q
theorem be3_same (n : Nat) (a b c : DV) (ha : a = .v (.int .u8 (n / 65536 % 256 : Nat))) (hb : b = .v (.int .u8 (n / 256 % 256 : Nat))) (hc : c = .v (.int .u8 (n % 256 : Nat))) : ∀ k, k < 3 → chop 1 [a, b, c] k = byF (Pl.be3 n) k := by
 subst ha hb hc
 intro k hk
 rcases k with _ | _ | _ | k
 ·rfl
 ·rfl
 ·rfl
 ·omega
theorem wrap8 (n : Nat) : IntKind.u8.wrap (n : Int) = ((n % 256 : Nat) : Int) := by simp [IntKind.wrap, IntKind.bits, IntKind.signed]
theorem shr_nat (n k : Nat) : Int.fdiv (n : Int) (2 ^ k) = ((n / 2 ^ k : Nat) : Int) := by
 rw [Int.fdiv_eq_ediv_of_nonneg _ (by exact_mod_cast Nat.zero_le (2 ^ k))]
 push_cast; rfl
theorem wcount9 (l : List Nat) (n : Nat) (e : Int) (hn : n ≤ 1048576) (hl : l.length ≤ 100000000000) : ACall Tryz.prog 121 [.ptr 900 0 0 0, exI .i64 n] (wrH 900 901 0 l e) (.tup []) (wrH 900 901 1 (l ++ Pl.be3 n) e) := by
 refine acall_on (mu := []) [] [] mixed Tryz.func121 rfl rfl rfl ?_
 have hp : (Pl.be3 n).length = 3 := rfl
 have hd : decide ((n : Int) ≤ 1048576) = true := by simp; omega
 have b1 : DV.v (.int .u8 (IntKind.u8.wrap (Int.fdiv (n : Int) (2 ^ 16)))) = .v (.int .u8 (n / 65536 % 256 : Nat)) := by rw [shr_nat, wrap8]
 have b2 : DV.v (.int .u8 (IntKind.u8.wrap (Int.fdiv (n : Int) (2 ^ 8)))) = .v (.int .u8 (n / 256 % 256 : Nat)) := by rw [shr_nat, wrap8]
 have b3 : DV.v (.int .u8 (IntKind.u8.wrap (n : Int))) = .v (.int .u8 (n % 256 : Nat)) := by rw [wrap8]
 conv => whnf
 repeat' ((first
 | refine ob ?_
 | refine ⟨_, _, _, .gen [900,901] _ _ _ rfl (wput 900 901 0 (by decide) l (Pl.be3 n) e (by omega)) rfl rfl rfl rfl rfl, ?_⟩
 | ((refine ⟨_, _, _, .gen [900,901] _ _ _ rfl (.arg ?harg (wput 900 901 0 (by decide) l (Pl.be3 n) e (by omega))) rfl rfl rfl rfl rfl, ?_⟩); case harg => (repeat' (first | exact trivial | (exact congrArg Value.bool hd) | (exact be3_same n _ _ _ b1 b2 b3) | exact sm | apply And.intro))) | (refine And.intro (fun hq => ?_) (fun hq => ?_) <;> first | exact cl1 | exact cl3 | skip)
 | refine ob2 ?_ | refine ob4 ?_ | refine fun hq => ?_ | fail) <;> conv => whnf)
 all_goals (repeat' (first | exact trivial | ((simp; done)) | exact sm | apply And.intro))
theorem wcount (o k g : Nat) (hok : o ≠ k) (l : List Nat) (n : Nat) (e : Int) (hn : n ≤ 1048576) (hl : l.length ≤ 100000000000) : ACall Tryz.prog 121 [.ptr o 0 0 0, exI .i64 n] (wrH o k g l e) (.tup []) (wrH o k (1 + g) (l ++ Pl.be3 n) e) := by
    obtain ⟨σ, τ, hστ, e1, e2⟩ := names2 (a1 := 900) (a2 := 901) (b1 := o) (b2 := k) (by decide) hok
    have q := (wcount9 l n e hn hl).ren (σ := σ) (τ := τ) (δ := fun x => if x = 901 then g else 0) hστ (by
      intro x ob hx hr
      by_cases ex : x = 901
      · subst ex; rcases hx with hx | hx <;> (simp [wrH, look] at hx; subst hx; cases hr)
      · simp [ex])
    simp only [mapC, mapA_agD] at q
    simpa [mapC, mapA, mapA1, rnA, rnH, rnO, wrH, e1, e2] using q
theorem shr_b (U j : Nat) (hj : j < 8) : IntKind.u8.wrap (Int.fdiv (U : Int) (2 ^ min (Int.toNat (56 - 8 * (j : Int))) IntKind.u64.bits)) = ((Pl.be8 U).getD j 0 : Nat) := by
 have : min (Int.toNat (56 - 8 * (j : Int))) IntKind.u64.bits = 56 - 8 * j := by simp [IntKind.bits]; omega
 rw [this, shr_nat, wrap8]
 rcases j with _ | _ | _ | _ | _ | _ | _ | _ | j
 all_goals first | rfl | (exfalso; omega) | simp [Pl.be8]
theorem xor_up (x : Int) (h1 : -9223372036854775808 ≤ x) (h2 : x ≤ 9223372036854775807) : IntKind.u64.wrap ((BitVec.ofInt IntKind.u64.bits (IntKind.u64.wrap x) ^^^ BitVec.ofInt IntKind.u64.bits 9223372036854775808).toNat : Int) = ((x + 9223372036854775808).toNat : Nat) := by
  obtain ⟨u, hu, hu2, hu3⟩ : ∃ u : Nat, IntKind.u64.wrap x = (u : Int) ∧ u < 18446744073709551616 ∧ (u : Int) = x % 18446744073709551616 := by
    refine ⟨(x % 18446744073709551616).toNat, ?_, by omega, by omega⟩
    rw [IntKind.wrap_u64]; omega
  rw [hu]
  have x63 : ∀ x : Nat, x < 9223372036854775808 → x ^^^ 9223372036854775808 = x + 9223372036854775808 := fun x hx => by
    have h := (Nat.two_pow_add_eq_or_of_lt (i := 63) (b := x) (by simpa using hx) 1)
    have hxor : x ^^^ 9223372036854775808 = x ||| 9223372036854775808 := by
      apply Nat.eq_of_testBit_eq
      intro i
      rw [Nat.testBit_xor, Nat.testBit_or]
      by_cases hi : i = 63
      · subst hi
        have : x.testBit 63 = false := Nat.testBit_lt_two_pow hx
        simp [this]
      · have : Nat.testBit 9223372036854775808 i = false := by
          rw [show (9223372036854775808 : Nat) = 2 ^ 63 from rfl, Nat.testBit_two_pow]
          simp; omega
        simp [this]
    rw [hxor, Nat.or_comm]
    simp at h
    omega
  have e : (BitVec.ofInt IntKind.u64.bits (u : Int) ^^^ BitVec.ofInt IntKind.u64.bits 9223372036854775808).toNat = u ^^^ 9223372036854775808 := by
    rw [BitVec.toNat_xor]
    simp [IntKind.bits, Nat.mod_eq_of_lt hu2]
  rw [e]
  by_cases h : u < 9223372036854775808
  · rw [x63 u h, IntKind.wrap_u64]; omega
  · obtain ⟨y, hy⟩ : ∃ y, u = y + 9223372036854775808 := ⟨u - 9223372036854775808, by omega⟩
    have hyl : y < 9223372036854775808 := by omega
    rw [hy, ← x63 y hyl, Nat.xor_assoc, Nat.xor_self, Nat.xor_zero, IntKind.wrap_u64]
    omega
theorem take_one {α : Type} (m : List α) (d : α) (j : Nat) (h : j < m.length) : m.take j ++ [m.getD j d] = m.take (j + 1) := by
 rw [List.take_add_one, List.getElem?_eq_getElem h, List.getD_eq_getElem?_getD, List.getElem?_eq_getElem h]; rfl
theorem wnum9 (l : List Nat) (x : Int) (e : Int) (h1 : -9223372036854775808 ≤ x) (h2 : x ≤ 9223372036854775807) (hl : l.length ≤ 10000000000) : ACall Tryz.prog 142 [.ptr 900 0 0 0, exI .i64 x] (wrH 900 901 0 l e) (.tup []) (wrH 900 901 1 (l ++ Pl.num8 x) e) := by
 refine acall_on (mu := []) [] [] mixed Tryz.func142 rfl rfl rfl ?_
 conv => whnf
 repeat' ((first
 | refine ob ?_
 | (refine And.intro (fun hq => ?_) (fun hq => ?_) <;> first | exact cl1 | exact cl3 | skip)
 | refine ob2 ?_ | refine ob4 ?_ | refine fun hq => ?_ | fail) <;> conv => whnf)
 have hu := xor_up x h1 h2
 rw [show Pl.num8 x = Pl.be8 (x + 9223372036854775808).toNat from rfl]
 obtain ⟨U, hU⟩ : ∃ U, U = (x + 9223372036854775808).toNat := ⟨_, rfl⟩
 rw [← hU] at hu ⊢
 rw [hu]
 have h8 : (Pl.be8 U).length = 8 := rfl
 refine ⟨[.regen 901 1], ?_⟩
 conv => whnf
 refine ⟨Nat, fun j => j ≤ 8, fun j => 8 - j, fun j => [(5, exI .i64 (56 - 8 * j))], fun j => wrH 900 901 1 (l ++ (Pl.be8 U).take j) e, ⟨0, by decide, ?_⟩, ?_⟩
 ·skip
  refine ⟨[], ?_⟩
  conv => whnf
  refine ⟨rfl, ?_, ?_⟩ <;> (repeat' (first | exact trivial | ((simp; done)) | exact sm | apply And.intro))
 intro j hj
 have hlj : (l ++ (Pl.be8 U).take j).length ≤ 100000000000 := by simp; omega
 rcases Nat.lt_or_ge j 8 with hlt | hge
 ·have q := wbyte 900 901 1 (by decide) (l ++ (Pl.be8 U).take j) ((Pl.be8 U).getD j 0) e hlj
  rw [List.append_assoc, take_one _ _ _ (by rw [h8]; exact hlt)] at q
  have hb := shr_b U j hlt
  conv => whnf
  repeat' ((first
  | refine ob ?_
  | refine ⟨_, _, _, .gen [900,901] _ _ _ rfl (q) rfl rfl rfl rfl rfl, ?_⟩
  | ((refine ⟨_, _, _, .gen [900,901] _ _ _ rfl (.arg ?harg (q)) rfl rfl rfl rfl rfl, ?_⟩); case harg => (repeat' (first | exact trivial | (exact congrArg (Value.int .u8) hb) | exact sm | apply And.intro))) | (refine And.intro (fun hq => ?_) (fun hq => ?_) <;> first | exact cl1 | exact cl3 | skip)
  | refine ob2 ?_ | refine ob4 ?_ | refine fun hq => ?_ | fail) <;> conv => whnf)
  refine ⟨j + 1, by omega, by dsimp only; omega, ?_⟩
  refine ⟨[.regen 901 1], ?_⟩
  conv => whnf
  refine ⟨rfl, ?_, ?_⟩ <;> (repeat' (first | exact trivial | (exact congrArg (Value.int .i64) (by omega)) | exact sm | apply And.intro))
 ·obtain rfl : j = 8 := by omega
  conv => whnf
  repeat' ((first
  | refine ob ?_
  | (refine And.intro (fun hq => ?_) (fun hq => ?_) <;> first | exact cl1 | exact cl3 | skip)
  | refine ob2 ?_ | refine ob4 ?_ | refine fun hq => ?_ | fail) <;> conv => whnf)
  all_goals (repeat' (first | exact trivial | ((simp; done)) | exact sm | apply And.intro))
theorem wnum (o k g : Nat) (hok : o ≠ k) (l : List Nat) (x : Int) (e : Int) (h1 : -9223372036854775808 ≤ x) (h2 : x ≤ 9223372036854775807) (hl : l.length ≤ 10000000000) : ACall Tryz.prog 142 [.ptr o 0 0 0, exI .i64 x] (wrH o k g l e) (.tup []) (wrH o k (1 + g) (l ++ Pl.num8 x) e) := by
    obtain ⟨σ, τ, hστ, e1, e2⟩ := names2 (a1 := 900) (a2 := 901) (b1 := o) (b2 := k) (by decide) hok
    have q := (wnum9 l x e h1 h2 hl).ren (σ := σ) (τ := τ) (δ := fun x => if x = 901 then g else 0) hστ (by
      intro x ob hx hr
      by_cases ex : x = 901
      · subst ex; rcases hx with hx | hx <;> (simp [wrH, look] at hx; subst hx; cases hr)
      · simp [ex])
    simp only [mapC, mapA_agD] at q
    simpa [mapC, mapA, mapA1, rnA, rnH, rnO, wrH, e1, e2] using q
theorem dig_chop (s : List Nat) : ∀ k, k < 32 → chop 1 (digL s) (0 + k) = byF s k := fun k hk => by
 have e : digL s = (List.range 32).map fun i => .v (.int .u8 (s.getD i 0 : Nat)) := rfl
 rw [e, Nat.zero_add]
 unfold chop byF
 apply List.ext_getElem?
 intro i
 rw [Nat.mul_one, List.getElem?_take, List.getElem?_drop, List.getElem?_map]
 rcases i with _ | i
 ·simp [List.getElem?_range hk]
 ·simp
theorem wdig9 (l s : List Nat) (e : Int) (hs : s.length = 32) (hl : l.length ≤ 10000000000) : ACall Tryz.prog 120 [.ptr 900 0 0 0, agD (digL s)] (wrH 900 901 0 l e) (.tup []) (wrH 900 901 1 (l ++ s) e) := by
 refine acall_on (mu := []) [] [] mixed Tryz.func120 rfl rfl rfl ?_
 conv => whnf
 repeat' ((first
 | refine ob ?_
 | refine ⟨_, _, _, .gen [900,901] _ _ _ rfl (wput 900 901 0 (by decide) l s e (by omega)) rfl rfl rfl rfl rfl, ?_⟩
 | ((refine ⟨_, _, _, .gen [900,901] _ _ _ rfl (.arg ?harg (wput 900 901 0 (by decide) l s e (by omega))) rfl rfl rfl rfl rfl, ?_⟩); case harg => (repeat' (first | exact trivial | (exact hs.symm) | (exact dig_chop s) | exact sm | apply And.intro))) | (refine And.intro (fun hq => ?_) (fun hq => ?_) <;> first | exact cl1 | exact cl3 | skip)
 | refine ob2 ?_ | refine ob4 ?_ | refine fun hq => ?_ | fail) <;> conv => whnf)
 all_goals (repeat' (first | exact trivial | ((simp; done)) | exact sm | apply And.intro))
theorem wdig (o k g : Nat) (hok : o ≠ k) (l s : List Nat) (e : Int) (hs : s.length = 32) (hl : l.length ≤ 10000000000) : ACall Tryz.prog 120 [.ptr o 0 0 0, agD (digL s)] (wrH o k g l e) (.tup []) (wrH o k (1 + g) (l ++ s) e) := by
    obtain ⟨σ, τ, hστ, e1, e2⟩ := names2 (a1 := 900) (a2 := 901) (b1 := o) (b2 := k) (by decide) hok
    have q := (wdig9 l s e hs hl).ren (σ := σ) (τ := τ) (δ := fun x => if x = 901 then g else 0) hστ (by
      intro x ob hx hr
      by_cases ex : x = 901
      · subst ex; rcases hx with hx | hx <;> (simp [wrH, look] at hx; subst hx; cases hr)
      · simp [ex])
    simp only [mapC, mapA_agD] at q
    simpa [mapC, mapA, mapA1, rnA, rnH, rnO, wrH, e1, e2] using q
theorem rowB_take (r : List Int) (k : Nat) (hk : k < r.length) : ([r.length] ++ ((r.take k).map Pl.num8).flatten) ++ Pl.num8 (r.getD k 0) = [r.length] ++ ((r.take (k + 1)).map Pl.num8).flatten := by
 rw [← take_one r 0 k hk]; simp
theorem rowB_take_len (r : List Int) (k : Nat) : ([r.length] ++ ((r.take k).map Pl.num8).flatten).length ≤ 1 + 8 * r.length := by
 have := Pl.rows_len (r.take k)
 rw [List.length_append, this, List.length_take]
 simp; omega
theorem wrow9 (l : List Nat) (r : List Int) (e : Int) (hr : r.length ≤ 255) (hI : Pl.IsI r) (hl : l.length ≤ 1000000000) : ACall Tryz.prog 119 [.ptr 900 0 0 0, .d (i64L r)] (wrH 900 901 0 l e) (.tup []) (wrH 900 901 1 (l ++ Pl.rowB r) e) := by
 refine acall_on (mu := []) [] [] mixed Tryz.func119 rfl rfl rfl ?_
 have q0 := wbyte 900 901 0 (by decide) l r.length e (by omega)
 have hb : IntKind.u8.wrap (r.length : Int) = ((r.length : Nat) : Int) := by rw [wrap8]; omega
 conv => whnf
 repeat' ((first
 | refine ob ?_
 | refine ⟨_, _, _, .gen [900,901] _ _ _ rfl (q0) rfl rfl rfl rfl rfl, ?_⟩
 | ((refine ⟨_, _, _, .gen [900,901] _ _ _ rfl (.arg ?harg (q0)) rfl rfl rfl rfl rfl, ?_⟩); case harg => (repeat' (first | exact trivial | (exact congrArg (Value.int .u8) hb) | exact sm | apply And.intro))) | (refine And.intro (fun hq => ?_) (fun hq => ?_) <;> first | exact cl1 | exact cl3 | skip)
 | refine ob2 ?_ | refine ob4 ?_ | refine fun hq => ?_ | fail) <;> conv => whnf)
 refine ⟨[], ?_⟩
 conv => whnf
 refine ⟨Nat, fun j => j ≤ r.length, fun j => r.length - j, fun j => [(19, exI .i64 j)], fun j => wrH 900 901 1 (l ++ ([r.length] ++ ((r.take j).map Pl.num8).flatten)) e, ⟨0, by omega, ?_⟩, ?_⟩
 ·skip
  refine ⟨[], ?_⟩
  conv => whnf
  refine ⟨rfl, ?_, ?_⟩ <;> (repeat' (first | exact trivial | ((simp; done)) | exact sm | apply And.intro))
 intro j hj
 have hlj := rowB_take_len r j
 rcases Nat.lt_or_ge j r.length with hlt | hge
 ·have q := wnum 900 901 1 (by decide) (l ++ ([r.length] ++ ((r.take j).map Pl.num8).flatten)) (r.getD j 0) e (hI j).1 (hI j).2 (by rw [List.length_append]; omega)
  rw [List.append_assoc, rowB_take r j hlt] at q
  conv => whnf
  repeat' ((first
  | refine ob ?_
  | refine ⟨_, _, _, .gen [900,901] _ _ _ rfl (q) rfl rfl rfl rfl rfl, ?_⟩
  | ((refine ⟨_, _, _, .gen [900,901] _ _ _ rfl (.arg ?harg (q)) rfl rfl rfl rfl rfl, ?_⟩); case harg => (repeat' (first | exact sm | apply And.intro))) | (refine And.intro (fun hq => ?_) (fun hq => ?_) <;> first | exact cl1 | exact cl3 | skip)
  | refine ob2 ?_ | refine ob4 ?_ | refine fun hq => ?_ | fail) <;> conv => whnf)
  refine ⟨j + 1, by omega, by dsimp only; omega, ?_⟩
  refine ⟨[.regen 901 1], ?_⟩
  conv => whnf
  refine ⟨rfl, ?_, ?_⟩ <;> (repeat' (first | exact sm | apply And.intro))
 ·obtain rfl : j = r.length := by omega
  rw [show Pl.rowB r = [r.length] ++ ((r.take r.length).map Pl.num8).flatten by rw [List.take_length]; rfl]
  conv => whnf
  repeat' ((first
  | refine ob ?_
  | (refine And.intro (fun hq => ?_) (fun hq => ?_) <;> first | exact cl1 | exact cl3 | skip)
  | refine ob2 ?_ | refine ob4 ?_ | refine fun hq => ?_ | fail) <;> conv => whnf)
  all_goals (repeat' (first | exact trivial | ((simp; done)) | exact sm | apply And.intro))
theorem wrow (o k g : Nat) (hok : o ≠ k) (l : List Nat) (r : List Int) (e : Int) (hr : r.length ≤ 255) (hI : Pl.IsI r) (hl : l.length ≤ 1000000000) : ACall Tryz.prog 119 [.ptr o 0 0 0, .d (i64L r)] (wrH o k g l e) (.tup []) (wrH o k (1 + g) (l ++ Pl.rowB r) e) := by
    obtain ⟨σ, τ, hστ, e1, e2⟩ := names2 (a1 := 900) (a2 := 901) (b1 := o) (b2 := k) (by decide) hok
    have q := (wrow9 l r e hr hI hl).ren (σ := σ) (τ := τ) (δ := fun x => if x = 901 then g else 0) hστ (by
      intro x ob hx hr
      by_cases ex : x = 901
      · subst ex; rcases hx with hx | hx <;> (simp [wrH, look] at hx; subst hx; cases hr)
      · simp [ex])
    simp only [mapC, mapA_agD] at q
    simpa [mapC, mapA, mapA1, rnA, rnH, rnO, wrH, e1, e2] using q
theorem werr9 (l : List Nat) (e : Int) : ACall Tryz.prog 123 [.ptr 900 0 0 0] (wrH 900 901 0 l e) (exI .i64 e) (wrH 900 901 0 l e) := by
 refine acall_on (mu := []) [] [] mixed Tryz.func123 rfl rfl rfl ?_
 conv => whnf
 repeat' ((first
 | refine ob ?_
 | (refine And.intro (fun hq => ?_) (fun hq => ?_) <;> first | exact cl1 | exact cl3 | skip)
 | refine ob2 ?_ | refine ob4 ?_ | refine fun hq => ?_ | fail) <;> conv => whnf)
 all_goals (repeat' (first | exact sm | apply And.intro))
theorem werr (o k g : Nat) (hok : o ≠ k) (l : List Nat) (e : Int) : ACall Tryz.prog 123 [.ptr o 0 0 0] (wrH o k g l e) (exI .i64 e) (wrH o k g l e) := by
    obtain ⟨σ, τ, hστ, e1, e2⟩ := names2 (a1 := 900) (a2 := 901) (b1 := o) (b2 := k) (by decide) hok
    have q := (werr9 l e).ren (σ := σ) (τ := τ) (δ := fun x => if x = 901 then g else 0) hστ (by
      intro x ob hx hr
      by_cases ex : x = 901
      · subst ex; rcases hx with hx | hx <;> (simp [wrH, look] at hx; subst hx; cases hr)
      · simp [ex])
    simp only [mapC, mapA_agD] at q
    simpa [mapC, mapA, mapA1, rnA, rnH, rnO, wrH, e1, e2] using q
theorem bclone (n : Nat) (f : Nat → List DV) (hl : n ≤ 100000000000) : ACall Tryz.prog 103 [.d (.sl 1 n f)] [] (.d (.sl 1 n f)) [] := by
 rcases n with _ | n
 ·refine ACall.none0 (pre := []) (post := []) fun A c => ?_
  refine acall_on (mu := [5]) [] [] mixed Tryz.func103 rfl rfl rfl ?_
  conv => whnf
  repeat' ((first
  | refine ob ?_
  | (refine And.intro (fun hq => ?_) (fun hq => ?_) <;> first | exact cl1 | exact cl3 | skip)
  | refine ob2 ?_ | refine ob4 ?_ | refine fun hq => ?_ | fail) <;> conv => whnf)
  all_goals (repeat' (first | exact sm | apply And.intro))
 ·have h0 : 0 < n + 1 := by omega
  refine acall_on (mu := [5]) [] [] mixed Tryz.func103 rfl rfl rfl ?_
  conv => whnf
  repeat' ((first
  | refine ob ?_
  | (refine And.intro (fun hq => ?_) (fun hq => ?_) <;> first | exact cl1 | exact cl3 | skip)
  | refine ob2 ?_ | refine ob4 ?_ | refine fun hq => ?_ | fail) <;> conv => whnf)
  all_goals (repeat' (first | exact trivial | (exact fun k _ => app_ge (Nat.zero_le k)) | (exact Nat.zero_add _) | exact sm | apply And.intro))
theorem bcloneO (n : Nat) (f : Nat → List DV) (h0 : 0 < n) (hl : n ≤ 100000000000) : ACall Tryz.prog 103 [.own 901 0] [(901, .row 5 1 0 false n f)] (.own 5 1) [(5, .row 5 1 1 false n f), (901, .row 5 1 0 false n f)] := by
 refine acall_on (mu := [5]) [] [] mixed Tryz.func103 rfl rfl rfl ?_
 conv => whnf
 repeat' ((first
 | refine ob ?_
 | (refine And.intro (fun hq => ?_) (fun hq => ?_) <;> first | exact cl1 | exact cl3 | skip)
 | refine ob2 ?_ | refine ob4 ?_ | refine fun hq => ?_ | fail) <;> conv => whnf)
 all_goals (repeat' (first | exact trivial | (exact fun k _ => app_ge (Nat.zero_le k)) | (exact Nat.zero_add _) | exact sm | apply And.intro))
theorem wbytes9 (l : List Nat) (e : Int) (he : e = 0) (h0 : 0 < l.length) (hl : l.length ≤ 10000000000) : ACall Tryz.prog 122 [.ptr 900 0 0 0] (wrH 900 901 0 l e) (.d (byteL l)) (wrH 900 901 0 l e) := by
 subst he
 refine acall_on (mu := []) [] [] mixed Tryz.func122 rfl rfl rfl ?_
 conv => whnf
 repeat' ((first
 | refine ob ?_
 | refine ⟨_, _, _, .gen [901] _ _ _ rfl (bcloneO l.length (byF l) h0 (by omega)) rfl rfl rfl rfl rfl, ?_⟩
 | ((refine ⟨_, _, _, .gen [901] _ _ _ rfl (.arg ?harg (bcloneO l.length (byF l) h0 (by omega))) rfl rfl rfl rfl rfl, ?_⟩); case harg => (repeat' (first | exact sm | apply And.intro))) | (refine And.intro (fun hq => ?_) (fun hq => ?_) <;> first | exact cl1 | exact cl3 | skip)
 | refine ob2 ?_ | refine ob4 ?_ | refine fun hq => ?_ | fail) <;> conv => whnf)
 all_goals (repeat' (first | exact sm | apply And.intro))
theorem wbytes (o k g : Nat) (hok : o ≠ k) (l : List Nat) (h0 : 0 < l.length) (hl : l.length ≤ 10000000000) : ACall Tryz.prog 122 [.ptr o 0 0 0] (wrH o k g l 0) (.d (byteL l)) (wrH o k g l 0) := by
    obtain ⟨σ, τ, hστ, e1, e2⟩ := names2 (a1 := 900) (a2 := 901) (b1 := o) (b2 := k) (by decide) hok
    have q := (wbytes9 l 0 rfl h0 hl).ren (σ := σ) (τ := τ) (δ := fun x => if x = 901 then g else 0) hστ (by
      intro x ob hx hr
      by_cases ex : x = 901
      · subst ex; rcases hx with hx | hx <;> (simp [wrH, look] at hx; subst hx; cases hr)
      · simp [ex])
    simp only [mapC, mapA_agD] at q
    simpa [mapC, mapA, mapA1, rnA, rnH, rnO, wrH, e1, e2] using q
end Go.Proofs.YtedokpgkjcnoiaaGreat
