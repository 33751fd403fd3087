/- KdtreeKeeps, walked. -/
import Derived.Test.YtedokpgkjcnoiaaGreatW22
import Derived.Test.YtedokpgkjcnoiaaGreatW23
import Derived.Test.YtedokpgkjcnoiaaGreatW40
import Derived.Test.YtedokpgkjcnoiaaGreatW47
import Derived.Test.YtedokpgkjcnoiaaGreatW48
set_option linter.unusedVariables false
set_option linter.unusedSimpArgs false
namespace Go.Proofs.YtedokpgkjcnoiaaGreat
open Go.RowKit
open Kd (Rw RwOk KidGood PGood Inv1 Inv2 insP delP rowsP chP)
set_option maxRecDepth 100000
set_option maxHeartbeats 8000000
theorem walk_KdtreeKeeps (z : Nat) (a b : List (Nat × Rw)) (hz : z < 256) (ha : ∀ o ∈ a, Pl.IsI o.2) (hb : ∀ o ∈ b, Pl.IsI o.2) : ACall Tryz.prog 4 [.d (.v (.int .u8 (z : Nat))), .d (opsL a), .d (opsL b)] [] (exB true) [] := by
 have q0 := alive11
 have q1 := ldims_ok z hz
 obtain ⟨d, ed⟩ : ∃ d : Nat, d = 1 + z % 5 := ⟨_, rfl⟩
 rw [← ed] at q1
 have h1 : 1 ≤ d := by omega
 have h8 : d ≤ 8 := by omega
 clear ed
 have cn := cppnew
 have ha2 : ∀ i, i < a.length → Pl.IsI (a.getD i (0, [])).2 := fun i hi => by
  rw [List.getD_eq_getElem?_getD, List.getElem?_eq_getElem hi]; exact ha _ (List.getElem_mem hi)
 have hb2 : ∀ i, i < b.length → Pl.IsI (b.getD i (0, [])).2 := fun i hi => by
  rw [List.getD_eq_getElem?_getD, List.getElem?_eq_getElem hi]; exact hb _ (List.getElem_mem hi)
 refine acall_on (mu := []) [] [] mixed Tryz.func4 rfl rfl rfl ?_
 conv => whnf
 repeat' ((first
 | refine ob ?_
 | refine ⟨_, _, _, .flat _ _ rfl (q0) rfl, ?_⟩
 | refine ⟨_, _, _, .flat _ _ rfl (q1) rfl, ?_⟩
 | refine ⟨_, _, _, .gen [] _ _ _ rfl (cn) rfl rfl rfl rfl rfl, ?_⟩
 | ((refine ⟨_, _, _, .flat _ _ rfl (.arg ?harg (q0)) rfl, ?_⟩); case harg => (repeat' (first | exact sm | apply And.intro)))
 | ((refine ⟨_, _, _, .flat _ _ rfl (.arg ?harg (q1)) rfl, ?_⟩); case harg => (repeat' (first | exact sm | apply And.intro)))
 | ((refine ⟨_, _, _, .gen [] _ _ _ rfl (.arg ?harg (cn)) rfl rfl rfl rfl rfl, ?_⟩); case harg => (repeat' (first | exact sm | apply And.intro))) | (refine And.intro (fun hq => ?_) (fun hq => ?_) <;> first | exact cl1 | ((try simp only [bl] at hq); (try dsimp only at hq); first | exact cl2 | skip))
 | refine fun hq => ?_ | refine ob3 ?_ | fail) <;> conv => whnf)
 refine ⟨[], ?_⟩
 conv => whnf
 refine ⟨Nat × Sto × KidD, fun x => Inv1 d x.1 x.2.1 x.2.2 ∧ x.1 ≤ min a.length 20, fun x => min a.length 20 - x.1, fun x => [(10, exI .i64 x.1)], fun x => (9, .box 36 ((kidL x.2.2).map .d)) :: stoH 900 901 x.2.1, ⟨(0, Sto.new, Pl.kidZ), ⟨Inv1.new d, by dsimp only; omega⟩, ?_⟩, ?_⟩
 ·skip
  refine ⟨[], ?_⟩
  conv => whnf
  refine ⟨rfl, ?_, ?_⟩ <;> (repeat' (first | exact sm | apply And.intro))
 rintro ⟨i, s, k⟩ ⟨hI, hi⟩
 dsimp only at hI hi
 conv => whnf
 rcases Nat.lt_or_ge i (min a.length 20) with hlt | hge
 ·have cf := lfit_ok (a.getD ((i : Int)).toNat (0, [])).2 d h1 h8
  have hp := fitD_ok (ha2 ((i : Int)).toNat (by omega)) d
  generalize fitD (a.getD ((i : Int)).toNat (0, [])).2 d = p at cf hp
  have st := hI.step h1 h8 (by omega) hp
  have ci := kInsert_ok d h1 h8 s k p hI.st hI.kd hp
  generalize insP d (k.size.toNat + 1) s k p 0 = R at st ci
  obtain ⟨s1, k1, e⟩ := R
  dsimp only [resK] at st ci
  by_cases e0 : e = 0
  ·subst e0
   rw [if_pos rfl] at st
   conv => whnf
   repeat' ((first
   | refine ob ?_
   | refine ⟨_, _, _, .gen [] _ _ _ rfl (cf) rfl rfl rfl rfl rfl, ?_⟩
   | refine ⟨_, _, _, .gen [901,900] _ _ _ rfl (ci) rfl rfl rfl rfl rfl, ?_⟩
   | ((refine ⟨_, _, _, .gen [] _ _ _ rfl (.arg ?harg (cf)) rfl rfl rfl rfl rfl, ?_⟩); case harg => (repeat' (first | exact sm | apply And.intro)))
   | ((refine ⟨_, _, _, .gen [901,900] _ _ _ rfl (.arg ?harg (ci)) rfl rfl rfl rfl rfl, ?_⟩); case harg => (repeat' (first | exact sm | apply And.intro))) | (refine And.intro (fun hq => ?_) (fun hq => ?_) <;> first | exact cl1 | ((try simp only [bl] at hq); (try dsimp only at hq); first | exact cl2 | skip))
   | refine fun hq => ?_ | refine ob3 ?_ | fail) <;> conv => whnf)
   refine ⟨(i + 1, s1, k1), ⟨st.2, by dsimp only; omega⟩, by dsimp only; omega, ?_⟩
   refine ⟨[], ?_⟩
   conv => whnf
   refine ⟨rfl, ?_, ?_⟩ <;> (repeat' (first | exact sm | apply And.intro))
  ·rw [if_neg e0] at st
   conv => whnf
   repeat' ((first
   | refine ob ?_
   | refine ⟨_, _, _, .gen [] _ _ _ rfl (cf) rfl rfl rfl rfl rfl, ?_⟩
   | refine ⟨_, _, _, .gen [901,900] _ _ _ rfl (ci) rfl rfl rfl rfl rfl, ?_⟩
   | ((refine ⟨_, _, _, .gen [] _ _ _ rfl (.arg ?harg (cf)) rfl rfl rfl rfl rfl, ?_⟩); case harg => (repeat' (first | exact sm | apply And.intro)))
   | ((refine ⟨_, _, _, .gen [901,900] _ _ _ rfl (.arg ?harg (ci)) rfl rfl rfl rfl rfl, ?_⟩); case harg => (repeat' (first | exact sm | apply And.intro))) | (refine And.intro (fun hq => ?_) (fun hq => ?_) <;> first | exact cl1 | ((try simp only [bl] at hq); (try dsimp only at hq); first | exact cl2 | skip))
   | refine fun hq => ?_ | refine ob3 ?_ | fail) <;> conv => whnf)
   refine ⟨(i + 1, s1, k), ⟨st.2, by dsimp only; omega⟩, by dsimp only; omega, ?_⟩
   refine ⟨[], ?_⟩
   conv => whnf
   refine ⟨rfl, ?_, ?_⟩ <;> (repeat' (first | exact sm | apply And.intro))
 obtain rfl : i = min a.length 20 := by omega
 have cr := kRows_ok d h1 h8 s k hI.st hI.kd
 clear ha2 q0 q1 cn
 have hi20 : min a.length 20 ≤ 20 := by omega
 have hstop : ¬ min a.length 20 < a.length ∨ ¬ min a.length 20 < 20 := by omega
 generalize min a.length 20 = i at hI hi hge hi20 hstop
 cases hw : rowsP d s k with
 | none =>
  rw [hw] at cr
  conv => whnf
  repeat' ((first
  | refine ob ?_
  | refine ⟨_, _, _, .gen [901,900] _ _ _ rfl (cr) rfl rfl rfl rfl rfl, ?_⟩
  | ((refine ⟨_, _, _, .gen [901,900] _ _ _ rfl (.arg ?harg (cr)) rfl rfl rfl rfl rfl, ?_⟩); case harg => (repeat' (first | exact sm | apply And.intro))) | (refine And.intro (fun hq => ?_) (fun hq => ?_) <;> first | exact cl1 | ((try simp only [bl] at hq); (try dsimp only at hq); first | exact cl2 | skip))
  | refine fun hq => ?_ | refine ob3 ?_ | fail) <;> conv => whnf)
  all_goals
   refine ⟨[], ?_⟩
   conv => whnf
   refine ⟨Nat × Sto × KidD × Bool, fun x => Inv2 d (i + x.1) s x.2.1 x.2.2.1 x.2.2.2 ∧ x.1 ≤ min b.length 20, fun x => min b.length 20 - x.1, fun x => [(16, exB x.2.2.2), (17, exI .i64 x.1)], fun x => (15, .box 36 ((kidL x.2.2.1).map .d)) :: stoH 900 901 x.2.1, ⟨(0, s, k, true), ⟨Inv2.of hI, by dsimp only; omega⟩, ?_⟩, ?_⟩
   ·skip
    refine ⟨[], ?_⟩
    conv => whnf
    refine ⟨rfl, ?_, ?_⟩ <;> (repeat' (first | exact sm | apply And.intro))
   rintro ⟨j, t, m, g⟩ ⟨hJ, hj⟩
   dsimp only at hJ hj
   conv => whnf
   rcases Nat.lt_or_ge j (min b.length 20) with hlt | hge2
   ·have cf := lfit_ok (b.getD ((j : Int)).toNat (0, [])).2 d h1 h8
    have hp := fitD_ok (hb2 ((j : Int)).toNat (by omega)) d
    generalize fitD (b.getD ((j : Int)).toNat (0, [])).2 d = p at cf hp
    have q := hJ.step h1 h8 (by omega) hp
    have cd := kDelete_ok d h1 h8 t m p hJ.st hJ.kd hp
    by_cases e0 : (delP d t m p).2.2 = 0
    ·rw [show chP d t m p = delP d t m p from if_pos e0] at q
     generalize delP d t m p = D at q cd e0
     obtain ⟨t1, m1, e⟩ := D
     dsimp only [resK] at q cd e0
     subst e0
     have pk := Kd.kid_pos q.2.1.k
     dsimp only at pk
     have q3 := q.2.2
     cases g with
     | false =>
      rw [Bool.false_and] at q3
      conv => whnf
      repeat' ((first
      | refine ob ?_
      | refine ⟨_, _, _, .gen [] _ _ _ rfl (cf) rfl rfl rfl rfl rfl, ?_⟩
      | refine ⟨_, _, _, .gen [901,900] _ _ _ rfl (cd) rfl rfl rfl rfl rfl, ?_⟩
      | ((refine ⟨_, _, _, .gen [] _ _ _ rfl (.arg ?harg (cf)) rfl rfl rfl rfl rfl, ?_⟩); case harg => (repeat' (first | exact sm | apply And.intro)))
      | ((refine ⟨_, _, _, .gen [901,900] _ _ _ rfl (.arg ?harg (cd)) rfl rfl rfl rfl rfl, ?_⟩); case harg => (repeat' (first | exact sm | apply And.intro))) | (refine And.intro (fun hq => ?_) (fun hq => ?_) <;> first | exact cl1 | ((try simp only [bl] at hq); (try dsimp only at hq); first | exact cl2 | skip))
      | refine fun hq => ?_ | refine ob3 ?_ | fail) <;> conv => whnf)
      refine ⟨(j + 1, t1, m1, false), ⟨q3, by dsimp only; omega⟩, by dsimp only; omega, ?_⟩
      refine ⟨[], ?_⟩
      conv => whnf
      refine ⟨rfl, ?_, ?_⟩ <;> (repeat' (first | exact sm | apply And.intro))
     | true =>
      rw [Bool.true_and, decide_eq_true (rfl : (0 : Int) = 0), Bool.true_and] at q3
      conv => whnf
      repeat' ((first
      | refine ob ?_
      | refine ⟨_, _, _, .gen [] _ _ _ rfl (cf) rfl rfl rfl rfl rfl, ?_⟩
      | refine ⟨_, _, _, .gen [901,900] _ _ _ rfl (cd) rfl rfl rfl rfl rfl, ?_⟩
      | ((refine ⟨_, _, _, .gen [] _ _ _ rfl (.arg ?harg (cf)) rfl rfl rfl rfl rfl, ?_⟩); case harg => (repeat' (first | exact sm | apply And.intro)))
      | ((refine ⟨_, _, _, .gen [901,900] _ _ _ rfl (.arg ?harg (cd)) rfl rfl rfl rfl rfl, ?_⟩); case harg => (repeat' (first | exact sm | apply And.intro))) | (refine And.intro (fun hq => ?_) (fun hq => ?_) <;> first | exact cl1 | ((try simp only [bl] at hq); (try dsimp only at hq); first | exact cl2 | skip))
      | refine fun hq => ?_ | refine ob3 ?_ | fail) <;> conv => whnf)
      refine ⟨(j + 1, t1, m1, _), ⟨q3, by dsimp only; omega⟩, by dsimp only; omega, ?_⟩
      refine ⟨[], ?_⟩
      conv => whnf
      refine ⟨rfl, ?_, ?_⟩ <;> (repeat' (first | exact sm | apply And.intro))
    ·have ci := kInsert_ok d h1 h8 (delP d t m p).1 m p q.1.s hJ.kd hp
     rw [show chP d t m p = insP d (m.size.toNat + 1) (delP d t m p).1 m p 0 from if_neg e0] at q
     generalize insP d (m.size.toNat + 1) (delP d t m p).1 m p 0 = R at q ci
     generalize delP d t m p = D at q ci cd e0
     obtain ⟨t0, m0, e⟩ := D
     obtain ⟨t1, m1, f⟩ := R
     dsimp only [resK] at q cd ci e0
     have pk := Kd.kid_pos q.2.1.k
     dsimp only at pk
     have q3 := q.2.2
     cases g with
     | false =>
      rw [Bool.false_and] at q3
      conv => whnf
      repeat' ((first
      | refine ob ?_
      | refine ⟨_, _, _, .gen [] _ _ _ rfl (cf) rfl rfl rfl rfl rfl, ?_⟩
      | refine ⟨_, _, _, .gen [901,900] _ _ _ rfl (cd) rfl rfl rfl rfl rfl, ?_⟩
      | refine ⟨_, _, _, .gen [901,900] _ _ _ rfl (ci) rfl rfl rfl rfl rfl, ?_⟩
      | ((refine ⟨_, _, _, .gen [] _ _ _ rfl (.arg ?harg (cf)) rfl rfl rfl rfl rfl, ?_⟩); case harg => (repeat' (first | exact sm | apply And.intro)))
      | ((refine ⟨_, _, _, .gen [901,900] _ _ _ rfl (.arg ?harg (cd)) rfl rfl rfl rfl rfl, ?_⟩); case harg => (repeat' (first | exact sm | apply And.intro)))
      | ((refine ⟨_, _, _, .gen [901,900] _ _ _ rfl (.arg ?harg (ci)) rfl rfl rfl rfl rfl, ?_⟩); case harg => (repeat' (first | exact sm | apply And.intro))) | (refine And.intro (fun hq => ?_) (fun hq => ?_) <;> first | exact cl1 | ((try simp only [bl] at hq); (try dsimp only at hq); first | exact cl2 | skip))
      | refine fun hq => ?_ | refine ob3 ?_ | fail) <;> conv => whnf)
      refine ⟨(j + 1, t1, m1, false), ⟨q3, by dsimp only; omega⟩, by dsimp only; omega, ?_⟩
      refine ⟨[], ?_⟩
      conv => whnf
      refine ⟨rfl, ?_, ?_⟩ <;> (repeat' (first | exact sm | apply And.intro))
     | true =>
      by_cases f0 : f = 0
      ·subst f0
       rw [Bool.true_and, decide_eq_true (rfl : (0 : Int) = 0), Bool.true_and] at q3
       conv => whnf
       repeat' ((first
       | refine ob ?_
       | refine ⟨_, _, _, .gen [] _ _ _ rfl (cf) rfl rfl rfl rfl rfl, ?_⟩
       | refine ⟨_, _, _, .gen [901,900] _ _ _ rfl (cd) rfl rfl rfl rfl rfl, ?_⟩
       | refine ⟨_, _, _, .gen [901,900] _ _ _ rfl (ci) rfl rfl rfl rfl rfl, ?_⟩
       | ((refine ⟨_, _, _, .gen [] _ _ _ rfl (.arg ?harg (cf)) rfl rfl rfl rfl rfl, ?_⟩); case harg => (repeat' (first | exact sm | apply And.intro)))
       | ((refine ⟨_, _, _, .gen [901,900] _ _ _ rfl (.arg ?harg (cd)) rfl rfl rfl rfl rfl, ?_⟩); case harg => (repeat' (first | exact sm | apply And.intro)))
       | ((refine ⟨_, _, _, .gen [901,900] _ _ _ rfl (.arg ?harg (ci)) rfl rfl rfl rfl rfl, ?_⟩); case harg => (repeat' (first | exact sm | apply And.intro))) | (refine And.intro (fun hq => ?_) (fun hq => ?_) <;> first | exact cl1 | ((try simp only [bl] at hq); (try dsimp only at hq); first | exact cl2 | skip))
       | refine fun hq => ?_ | refine ob3 ?_ | fail) <;> conv => whnf)
       refine ⟨(j + 1, t1, m1, _), ⟨q3, by dsimp only; omega⟩, by dsimp only; omega, ?_⟩
       refine ⟨[], ?_⟩
       conv => whnf
       refine ⟨rfl, ?_, ?_⟩ <;> (repeat' (first | exact sm | apply And.intro))
      ·rw [Bool.true_and, decide_eq_false f0, Bool.false_and] at q3
       conv => whnf
       repeat' ((first
       | refine ob ?_
       | refine ⟨_, _, _, .gen [] _ _ _ rfl (cf) rfl rfl rfl rfl rfl, ?_⟩
       | refine ⟨_, _, _, .gen [901,900] _ _ _ rfl (cd) rfl rfl rfl rfl rfl, ?_⟩
       | refine ⟨_, _, _, .gen [901,900] _ _ _ rfl (ci) rfl rfl rfl rfl rfl, ?_⟩
       | ((refine ⟨_, _, _, .gen [] _ _ _ rfl (.arg ?harg (cf)) rfl rfl rfl rfl rfl, ?_⟩); case harg => (repeat' (first | exact sm | apply And.intro)))
       | ((refine ⟨_, _, _, .gen [901,900] _ _ _ rfl (.arg ?harg (cd)) rfl rfl rfl rfl rfl, ?_⟩); case harg => (repeat' (first | exact sm | apply And.intro)))
       | ((refine ⟨_, _, _, .gen [901,900] _ _ _ rfl (.arg ?harg (ci)) rfl rfl rfl rfl rfl, ?_⟩); case harg => (repeat' (first | exact sm | apply And.intro))) | (refine And.intro (fun hq => ?_) (fun hq => ?_) <;> first | exact cl1 | ((try simp only [bl] at hq); (try dsimp only at hq); first | exact cl2 | skip))
       | refine fun hq => ?_ | refine ob3 ?_ | fail) <;> conv => whnf)
       refine ⟨(j + 1, t1, m1, false), ⟨q3, by dsimp only; omega⟩, by dsimp only; omega, ?_⟩
       refine ⟨[], ?_⟩
       conv => whnf
       refine ⟨rfl, ?_, ?_⟩ <;> (repeat' (first | exact sm | apply And.intro))
   have cr2 := kRows_ok d h1 h8 t k hJ.st hI.kd
   have cc := cppclash t hJ.st
   obtain rfl : j = min b.length 20 := by omega
   clear hb2
   obtain ⟨co, hc⟩ : ∃ co, t.c = co := ⟨_, rfl⟩
   cases co with
   | some x =>
    rw [show t.c.isSome = true by rw [hc]; rfl] at cc
    cases hw2 : rowsP d t k with
    | none =>
     rw [hw2] at cr2
     conv => whnf
     repeat' ((first
     | refine ob ?_
     | refine ⟨_, _, _, .gen [901,900] _ _ _ rfl (cr2) rfl rfl rfl rfl rfl, ?_⟩
     | refine ⟨_, _, _, .gen [901,900] _ _ _ rfl (cc) rfl rfl rfl rfl rfl, ?_⟩
     | ((refine ⟨_, _, _, .gen [901,900] _ _ _ rfl (.arg ?harg (cr2)) rfl rfl rfl rfl rfl, ?_⟩); case harg => (repeat' (first | exact sm | apply And.intro)))
     | ((refine ⟨_, _, _, .gen [901,900] _ _ _ rfl (.arg ?harg (cc)) rfl rfl rfl rfl rfl, ?_⟩); case harg => (repeat' (first | exact sm | apply And.intro))) | (refine And.intro (fun hq => ?_) (fun hq => ?_) <;> first | exact cl1 | ((try simp only [bl] at hq); (try dsimp only at hq); first | exact cl2 | skip))
     | refine fun hq => ?_ | refine ob3 ?_ | fail) <;> conv => whnf)
     all_goals (repeat' (first | exact sm | apply And.intro))
    | some L2 =>
     rw [hw2] at cr2
     conv => whnf
     repeat' ((first
     | refine ob ?_
     | refine ⟨_, _, _, .gen [901,900] _ _ _ rfl (cr2) rfl rfl rfl rfl rfl, ?_⟩
     | refine ⟨_, _, _, .gen [901,900] _ _ _ rfl (cc) rfl rfl rfl rfl rfl, ?_⟩
     | ((refine ⟨_, _, _, .gen [901,900] _ _ _ rfl (.arg ?harg (cr2)) rfl rfl rfl rfl rfl, ?_⟩); case harg => (repeat' (first | exact sm | apply And.intro)))
     | ((refine ⟨_, _, _, .gen [901,900] _ _ _ rfl (.arg ?harg (cc)) rfl rfl rfl rfl rfl, ?_⟩); case harg => (repeat' (first | exact sm | apply And.intro))) | (refine And.intro (fun hq => ?_) (fun hq => ?_) <;> first | exact cl1 | ((try simp only [bl] at hq); (try dsimp only at hq); first | exact cl2 | skip))
     | refine fun hq => ?_ | refine ob3 ?_ | fail) <;> conv => whnf)
     all_goals (repeat' (first | exact sm | apply And.intro))
   | none =>
    rw [show t.c.isSome = false by rw [hc]; rfl] at cc
    obtain ⟨g1, L, w1, w2, w3, w4⟩ := Kd.keeps_end h1 h8 hI (by omega) hJ hc
    subst g1
    rw [hw] at w1
    cases w1
 | some L1 =>
  rw [hw] at cr
  conv => whnf
  repeat' ((first
  | refine ob ?_
  | refine ⟨_, _, _, .gen [901,900] _ _ _ rfl (cr) rfl rfl rfl rfl rfl, ?_⟩
  | ((refine ⟨_, _, _, .gen [901,900] _ _ _ rfl (.arg ?harg (cr)) rfl rfl rfl rfl rfl, ?_⟩); case harg => (repeat' (first | exact sm | apply And.intro))) | (refine And.intro (fun hq => ?_) (fun hq => ?_) <;> first | exact cl1 | ((try simp only [bl] at hq); (try dsimp only at hq); first | exact cl2 | skip))
  | refine fun hq => ?_ | refine ob3 ?_ | fail) <;> conv => whnf)
  all_goals
   refine ⟨[], ?_⟩
   conv => whnf
   refine ⟨Nat × Sto × KidD × Bool, fun x => Inv2 d (i + x.1) s x.2.1 x.2.2.1 x.2.2.2 ∧ x.1 ≤ min b.length 20, fun x => min b.length 20 - x.1, fun x => [(16, exB x.2.2.2), (17, exI .i64 x.1)], fun x => (15, .box 36 ((kidL x.2.2.1).map .d)) :: stoH 900 901 x.2.1, ⟨(0, s, k, true), ⟨Inv2.of hI, by dsimp only; omega⟩, ?_⟩, ?_⟩
   ·skip
    refine ⟨[], ?_⟩
    conv => whnf
    refine ⟨rfl, ?_, ?_⟩ <;> (repeat' (first | exact sm | apply And.intro))
   rintro ⟨j, t, m, g⟩ ⟨hJ, hj⟩
   dsimp only at hJ hj
   conv => whnf
   rcases Nat.lt_or_ge j (min b.length 20) with hlt | hge2
   ·have cf := lfit_ok (b.getD ((j : Int)).toNat (0, [])).2 d h1 h8
    have hp := fitD_ok (hb2 ((j : Int)).toNat (by omega)) d
    generalize fitD (b.getD ((j : Int)).toNat (0, [])).2 d = p at cf hp
    have q := hJ.step h1 h8 (by omega) hp
    have cd := kDelete_ok d h1 h8 t m p hJ.st hJ.kd hp
    by_cases e0 : (delP d t m p).2.2 = 0
    ·rw [show chP d t m p = delP d t m p from if_pos e0] at q
     generalize delP d t m p = D at q cd e0
     obtain ⟨t1, m1, e⟩ := D
     dsimp only [resK] at q cd e0
     subst e0
     have pk := Kd.kid_pos q.2.1.k
     dsimp only at pk
     have q3 := q.2.2
     cases g with
     | false =>
      rw [Bool.false_and] at q3
      conv => whnf
      repeat' ((first
      | refine ob ?_
      | refine ⟨_, _, _, .gen [] _ _ _ rfl (cf) rfl rfl rfl rfl rfl, ?_⟩
      | refine ⟨_, _, _, .gen [901,900] _ _ _ rfl (cd) rfl rfl rfl rfl rfl, ?_⟩
      | ((refine ⟨_, _, _, .gen [] _ _ _ rfl (.arg ?harg (cf)) rfl rfl rfl rfl rfl, ?_⟩); case harg => (repeat' (first | exact sm | apply And.intro)))
      | ((refine ⟨_, _, _, .gen [901,900] _ _ _ rfl (.arg ?harg (cd)) rfl rfl rfl rfl rfl, ?_⟩); case harg => (repeat' (first | exact sm | apply And.intro))) | (refine And.intro (fun hq => ?_) (fun hq => ?_) <;> first | exact cl1 | ((try simp only [bl] at hq); (try dsimp only at hq); first | exact cl2 | skip))
      | refine fun hq => ?_ | refine ob3 ?_ | fail) <;> conv => whnf)
      refine ⟨(j + 1, t1, m1, false), ⟨q3, by dsimp only; omega⟩, by dsimp only; omega, ?_⟩
      refine ⟨[], ?_⟩
      conv => whnf
      refine ⟨rfl, ?_, ?_⟩ <;> (repeat' (first | exact sm | apply And.intro))
     | true =>
      rw [Bool.true_and, decide_eq_true (rfl : (0 : Int) = 0), Bool.true_and] at q3
      conv => whnf
      repeat' ((first
      | refine ob ?_
      | refine ⟨_, _, _, .gen [] _ _ _ rfl (cf) rfl rfl rfl rfl rfl, ?_⟩
      | refine ⟨_, _, _, .gen [901,900] _ _ _ rfl (cd) rfl rfl rfl rfl rfl, ?_⟩
      | ((refine ⟨_, _, _, .gen [] _ _ _ rfl (.arg ?harg (cf)) rfl rfl rfl rfl rfl, ?_⟩); case harg => (repeat' (first | exact sm | apply And.intro)))
      | ((refine ⟨_, _, _, .gen [901,900] _ _ _ rfl (.arg ?harg (cd)) rfl rfl rfl rfl rfl, ?_⟩); case harg => (repeat' (first | exact sm | apply And.intro))) | (refine And.intro (fun hq => ?_) (fun hq => ?_) <;> first | exact cl1 | ((try simp only [bl] at hq); (try dsimp only at hq); first | exact cl2 | skip))
      | refine fun hq => ?_ | refine ob3 ?_ | fail) <;> conv => whnf)
      refine ⟨(j + 1, t1, m1, _), ⟨q3, by dsimp only; omega⟩, by dsimp only; omega, ?_⟩
      refine ⟨[], ?_⟩
      conv => whnf
      refine ⟨rfl, ?_, ?_⟩ <;> (repeat' (first | exact sm | apply And.intro))
    ·have ci := kInsert_ok d h1 h8 (delP d t m p).1 m p q.1.s hJ.kd hp
     rw [show chP d t m p = insP d (m.size.toNat + 1) (delP d t m p).1 m p 0 from if_neg e0] at q
     generalize insP d (m.size.toNat + 1) (delP d t m p).1 m p 0 = R at q ci
     generalize delP d t m p = D at q ci cd e0
     obtain ⟨t0, m0, e⟩ := D
     obtain ⟨t1, m1, f⟩ := R
     dsimp only [resK] at q cd ci e0
     have pk := Kd.kid_pos q.2.1.k
     dsimp only at pk
     have q3 := q.2.2
     cases g with
     | false =>
      rw [Bool.false_and] at q3
      conv => whnf
      repeat' ((first
      | refine ob ?_
      | refine ⟨_, _, _, .gen [] _ _ _ rfl (cf) rfl rfl rfl rfl rfl, ?_⟩
      | refine ⟨_, _, _, .gen [901,900] _ _ _ rfl (cd) rfl rfl rfl rfl rfl, ?_⟩
      | refine ⟨_, _, _, .gen [901,900] _ _ _ rfl (ci) rfl rfl rfl rfl rfl, ?_⟩
      | ((refine ⟨_, _, _, .gen [] _ _ _ rfl (.arg ?harg (cf)) rfl rfl rfl rfl rfl, ?_⟩); case harg => (repeat' (first | exact sm | apply And.intro)))
      | ((refine ⟨_, _, _, .gen [901,900] _ _ _ rfl (.arg ?harg (cd)) rfl rfl rfl rfl rfl, ?_⟩); case harg => (repeat' (first | exact sm | apply And.intro)))
      | ((refine ⟨_, _, _, .gen [901,900] _ _ _ rfl (.arg ?harg (ci)) rfl rfl rfl rfl rfl, ?_⟩); case harg => (repeat' (first | exact sm | apply And.intro))) | (refine And.intro (fun hq => ?_) (fun hq => ?_) <;> first | exact cl1 | ((try simp only [bl] at hq); (try dsimp only at hq); first | exact cl2 | skip))
      | refine fun hq => ?_ | refine ob3 ?_ | fail) <;> conv => whnf)
      refine ⟨(j + 1, t1, m1, false), ⟨q3, by dsimp only; omega⟩, by dsimp only; omega, ?_⟩
      refine ⟨[], ?_⟩
      conv => whnf
      refine ⟨rfl, ?_, ?_⟩ <;> (repeat' (first | exact sm | apply And.intro))
     | true =>
      by_cases f0 : f = 0
      ·subst f0
       rw [Bool.true_and, decide_eq_true (rfl : (0 : Int) = 0), Bool.true_and] at q3
       conv => whnf
       repeat' ((first
       | refine ob ?_
       | refine ⟨_, _, _, .gen [] _ _ _ rfl (cf) rfl rfl rfl rfl rfl, ?_⟩
       | refine ⟨_, _, _, .gen [901,900] _ _ _ rfl (cd) rfl rfl rfl rfl rfl, ?_⟩
       | refine ⟨_, _, _, .gen [901,900] _ _ _ rfl (ci) rfl rfl rfl rfl rfl, ?_⟩
       | ((refine ⟨_, _, _, .gen [] _ _ _ rfl (.arg ?harg (cf)) rfl rfl rfl rfl rfl, ?_⟩); case harg => (repeat' (first | exact sm | apply And.intro)))
       | ((refine ⟨_, _, _, .gen [901,900] _ _ _ rfl (.arg ?harg (cd)) rfl rfl rfl rfl rfl, ?_⟩); case harg => (repeat' (first | exact sm | apply And.intro)))
       | ((refine ⟨_, _, _, .gen [901,900] _ _ _ rfl (.arg ?harg (ci)) rfl rfl rfl rfl rfl, ?_⟩); case harg => (repeat' (first | exact sm | apply And.intro))) | (refine And.intro (fun hq => ?_) (fun hq => ?_) <;> first | exact cl1 | ((try simp only [bl] at hq); (try dsimp only at hq); first | exact cl2 | skip))
       | refine fun hq => ?_ | refine ob3 ?_ | fail) <;> conv => whnf)
       refine ⟨(j + 1, t1, m1, _), ⟨q3, by dsimp only; omega⟩, by dsimp only; omega, ?_⟩
       refine ⟨[], ?_⟩
       conv => whnf
       refine ⟨rfl, ?_, ?_⟩ <;> (repeat' (first | exact sm | apply And.intro))
      ·rw [Bool.true_and, decide_eq_false f0, Bool.false_and] at q3
       conv => whnf
       repeat' ((first
       | refine ob ?_
       | refine ⟨_, _, _, .gen [] _ _ _ rfl (cf) rfl rfl rfl rfl rfl, ?_⟩
       | refine ⟨_, _, _, .gen [901,900] _ _ _ rfl (cd) rfl rfl rfl rfl rfl, ?_⟩
       | refine ⟨_, _, _, .gen [901,900] _ _ _ rfl (ci) rfl rfl rfl rfl rfl, ?_⟩
       | ((refine ⟨_, _, _, .gen [] _ _ _ rfl (.arg ?harg (cf)) rfl rfl rfl rfl rfl, ?_⟩); case harg => (repeat' (first | exact sm | apply And.intro)))
       | ((refine ⟨_, _, _, .gen [901,900] _ _ _ rfl (.arg ?harg (cd)) rfl rfl rfl rfl rfl, ?_⟩); case harg => (repeat' (first | exact sm | apply And.intro)))
       | ((refine ⟨_, _, _, .gen [901,900] _ _ _ rfl (.arg ?harg (ci)) rfl rfl rfl rfl rfl, ?_⟩); case harg => (repeat' (first | exact sm | apply And.intro))) | (refine And.intro (fun hq => ?_) (fun hq => ?_) <;> first | exact cl1 | ((try simp only [bl] at hq); (try dsimp only at hq); first | exact cl2 | skip))
       | refine fun hq => ?_ | refine ob3 ?_ | fail) <;> conv => whnf)
       refine ⟨(j + 1, t1, m1, false), ⟨q3, by dsimp only; omega⟩, by dsimp only; omega, ?_⟩
       refine ⟨[], ?_⟩
       conv => whnf
       refine ⟨rfl, ?_, ?_⟩ <;> (repeat' (first | exact sm | apply And.intro))
   have cr2 := kRows_ok d h1 h8 t k hJ.st hI.kd
   have cc := cppclash t hJ.st
   obtain rfl : j = min b.length 20 := by omega
   clear hb2
   obtain ⟨co, hc⟩ : ∃ co, t.c = co := ⟨_, rfl⟩
   cases co with
   | some x =>
    rw [show t.c.isSome = true by rw [hc]; rfl] at cc
    cases hw2 : rowsP d t k with
    | none =>
     rw [hw2] at cr2
     conv => whnf
     repeat' ((first
     | refine ob ?_
     | refine ⟨_, _, _, .gen [901,900] _ _ _ rfl (cr2) rfl rfl rfl rfl rfl, ?_⟩
     | refine ⟨_, _, _, .gen [901,900] _ _ _ rfl (cc) rfl rfl rfl rfl rfl, ?_⟩
     | ((refine ⟨_, _, _, .gen [901,900] _ _ _ rfl (.arg ?harg (cr2)) rfl rfl rfl rfl rfl, ?_⟩); case harg => (repeat' (first | exact sm | apply And.intro)))
     | ((refine ⟨_, _, _, .gen [901,900] _ _ _ rfl (.arg ?harg (cc)) rfl rfl rfl rfl rfl, ?_⟩); case harg => (repeat' (first | exact sm | apply And.intro))) | (refine And.intro (fun hq => ?_) (fun hq => ?_) <;> first | exact cl1 | ((try simp only [bl] at hq); (try dsimp only at hq); first | exact cl2 | skip))
     | refine fun hq => ?_ | refine ob3 ?_ | fail) <;> conv => whnf)
     all_goals (repeat' (first | exact sm | apply And.intro))
    | some L2 =>
     rw [hw2] at cr2
     conv => whnf
     repeat' ((first
     | refine ob ?_
     | refine ⟨_, _, _, .gen [901,900] _ _ _ rfl (cr2) rfl rfl rfl rfl rfl, ?_⟩
     | refine ⟨_, _, _, .gen [901,900] _ _ _ rfl (cc) rfl rfl rfl rfl rfl, ?_⟩
     | ((refine ⟨_, _, _, .gen [901,900] _ _ _ rfl (.arg ?harg (cr2)) rfl rfl rfl rfl rfl, ?_⟩); case harg => (repeat' (first | exact sm | apply And.intro)))
     | ((refine ⟨_, _, _, .gen [901,900] _ _ _ rfl (.arg ?harg (cc)) rfl rfl rfl rfl rfl, ?_⟩); case harg => (repeat' (first | exact sm | apply And.intro))) | (refine And.intro (fun hq => ?_) (fun hq => ?_) <;> first | exact cl1 | ((try simp only [bl] at hq); (try dsimp only at hq); first | exact cl2 | skip))
     | refine fun hq => ?_ | refine ob3 ?_ | fail) <;> conv => whnf)
     all_goals (repeat' (first | exact sm | apply And.intro))
   | none =>
    rw [show t.c.isSome = false by rw [hc]; rfl] at cc
    obtain ⟨g1, L, w1, w2, w3, w4⟩ := Kd.keeps_end h1 h8 hI (by omega) hJ hc
    subst g1
    rw [hw] at w1
    obtain rfl := Option.some.inj w1
    rw [w2] at cr2
    have cs := ksamerows_ok L1 L1 (by omega) (fun i hi => by
     have := w4 (L1.getD i []) (by rw [List.getD_eq_getElem?_getD, List.getElem?_eq_getElem hi]; exact List.getElem_mem hi)
     omega)
    rw [decide_eq_true rfl] at cs
    conv => whnf
    repeat' ((first
    | refine ob ?_
    | refine ⟨_, _, _, .gen [901,900] _ _ _ rfl (cr2) rfl rfl rfl rfl rfl, ?_⟩
    | refine ⟨_, _, _, .gen [901,900] _ _ _ rfl (cc) rfl rfl rfl rfl rfl, ?_⟩
    | refine ⟨_, _, _, .flat _ _ rfl (cs) rfl, ?_⟩
    | ((refine ⟨_, _, _, .gen [901,900] _ _ _ rfl (.arg ?harg (cr2)) rfl rfl rfl rfl rfl, ?_⟩); case harg => (repeat' (first | exact sm | apply And.intro)))
    | ((refine ⟨_, _, _, .gen [901,900] _ _ _ rfl (.arg ?harg (cc)) rfl rfl rfl rfl rfl, ?_⟩); case harg => (repeat' (first | exact sm | apply And.intro)))
    | ((refine ⟨_, _, _, .flat _ _ rfl (.arg ?harg (cs)) rfl, ?_⟩); case harg => (repeat' (first | exact sm | apply And.intro))) | (refine And.intro (fun hq => ?_) (fun hq => ?_) <;> first | exact cl1 | ((try simp only [bl] at hq); (try dsimp only at hq); first | exact cl2 | skip))
    | refine fun hq => ?_ | refine ob3 ?_ | fail) <;> conv => whnf)
    all_goals (repeat' (first | exact sm | apply And.intro))
end Go.Proofs.YtedokpgkjcnoiaaGreat
