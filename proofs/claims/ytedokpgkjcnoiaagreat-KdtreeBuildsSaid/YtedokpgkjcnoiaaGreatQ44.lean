/- Nodes whose kids are a row of one's own: node.Decode, node.Get, the k-d tree's get. Nodes whose kids are a row of one's own: node.Get, the k-d tree's get. kdtree: live, anew. -/
import Derived.Test.YtedokpgkjcnoiaaGreatQ42
import Derived.Test.YtedokpgkjcnoiaaGreatQ43
set_option linter.unusedVariables false
set_option linter.unusedSimpArgs false
namespace Go.Proofs.YtedokpgkjcnoiaaGreat
open Go.RowKit
open Kd (nPut nGet forkN forkP tGet KidGood RwOk)
set_option maxRecDepth 100000
set_option maxHeartbeats 4000000
def resO (K : Nat) : Option NodeD → AV
 | some n => .tup [nodeO K n, exI .i64 0]
 | none => .tup [agD [.v (.int .u8 0), .v (.slice none 0 0), .v (.slice none 0 0)], exI .i64 21]
def heapO (K : Nat) : Option NodeD → OH
 | some n => kidsO K n.kids
 | none => []
theorem nencodeO_at (K : Nat) (n : NodeD) (d : Int) (h : NodeS n) (hr : nodeR n d = true) (hw : NodeW n) : ACall Tryz.prog 77 [nodeO K n, exI .i64 d] (kidsO K n.kids) (.tup [.d (byteL (Pl.nodeB n)), exI .i64 0]) (kidsO K n.kids) := by
    obtain ⟨σ, τ, hστ, e1⟩ := names1 903 K
    have q := (nencodeO_ok n d h hr hw).ren (σ := σ) (τ := τ) (δ := fun _ => 0) hστ (by intros; rfl)
    simpa [mapC, mapA, mapA1, rnA, rnH, rnO, nodeO, kidsO, entsL, e1] using q
theorem ndecodeO51 (d : Int) (b : List Nat) (hB : Pl.IsB b) (hb : b.length ≤ 1000000) : ACall Tryz.prog 57 [.d (byteL b), exI .i64 d] [] (resO 51 (decN d b)) (heapO 51 (decN d b)) := by
 have q0 := rnew 900 b (by omega)
 have q1 := rbyte 900 b 0
 have b1 := (Pl.take_suf 1 b 0).isB hB
 have hx := Pl.rByte_lt b 0 hB
 unfold decN Pl.rNode
 simp only []
 generalize Pl.rByte b 0 = x at q1 hx ⊢
 generalize (Pl.rTake 1 b 0).2 = s1 at q1 b1 ⊢
 obtain ⟨l1, e1⟩ := s1
 simp only [] at q1 b1 ⊢
 have q2 := rbyte 900 l1 e1
 have b2 := (Pl.take_suf 1 l1 e1).isB b1
 have hy := Pl.rByte_lt l1 e1 b1
 generalize Pl.rByte l1 e1 = y at q2 hy ⊢
 generalize (Pl.rTake 1 l1 e1).2 = s2 at q2 b2 ⊢
 obtain ⟨l2, e2⟩ := s2
 simp only [] at q2 b2 ⊢
 refine acall_on (mu := []) [(12, [.lay 50])] [] mixed Tryz.func57 rfl rfl rfl ?_
 conv => whnf
 repeat' ((first
 | refine ob ?_
 | refine ⟨_, _, _, .gen [] _ _ _ rfl (q0) rfl rfl rfl rfl rfl, ?_⟩
 | refine ⟨_, _, _, .gen [900] _ _ _ rfl (q1) rfl rfl rfl rfl rfl, ?_⟩
 | refine ⟨_, _, _, .gen [900] _ _ _ rfl (q2) rfl rfl rfl rfl rfl, ?_⟩
 | ((refine ⟨_, _, _, .gen [] _ _ _ rfl (.arg ?harg (q0)) rfl rfl rfl rfl rfl, ?_⟩); case harg => (repeat' (first | exact sm | apply And.intro)))
 | ((refine ⟨_, _, _, .gen [900] _ _ _ rfl (.arg ?harg (q1)) rfl rfl rfl rfl rfl, ?_⟩); case harg => (repeat' (first | exact sm | apply And.intro)))
 | ((refine ⟨_, _, _, .gen [900] _ _ _ rfl (.arg ?harg (q2)) rfl rfl rfl rfl rfl, ?_⟩); case harg => (repeat' (first | exact sm | apply And.intro))) | (refine And.intro (fun hq => ?_) (fun hq => ?_) <;> first | exact cl1 | exact cl3 | skip)
 | refine ob2 ?_ | refine ob4 ?_ | refine fun hq => ?_ | fail) <;> conv => whnf)
 refine ⟨[.virtC 7 1 50 77 2, .tell 50 (entF [])], ?_⟩
 conv => whnf
 refine ⟨Nat, fun i => i ≤ y, fun i => y - i, fun i => [(19, exI .i64 i)], fun i => (50, .row 77 2 0 false (Pl.rEnts d i l2 e2).1.length (entF (Pl.rEnts d i l2 e2).1)) :: (7, .box 73 [.d (.v (.int .u8 (x : Nat))), .own 50 0, .d (.v (.slice none 0 0))]) :: rdH 900 (Pl.rEnts d i l2 e2).2.1 (Pl.rEnts d i l2 e2).2.2, ⟨0, by omega, ?_⟩, ?_⟩
 ·skip
  refine ⟨[], ?_⟩
  conv => whnf
  refine ⟨rfl, ?_, ?_⟩ <;> (repeat' (first | exact sm | apply And.intro))
 intro i hi
 conv => whnf
 rcases Nat.lt_or_ge i y with hlt | hge
 ·have b3 := (Pl.ents_suf d l2 e2 i).isB b2
  have q3 := rtruth 900 (Pl.rEnts d i l2 e2).2.1 (Pl.rEnts d i l2 e2).2.2
  have b4 : Pl.IsB (Pl.rTruth (Pl.rEnts d i l2 e2).2.1 (Pl.rEnts d i l2 e2).2.2).2.1 := (Pl.take_suf 1 _ _).isB b3
  have q4 := rrow 900 d (Pl.rTruth (Pl.rEnts d i l2 e2).2.1 (Pl.rEnts d i l2 e2).2.2).2.1 (Pl.rTruth (Pl.rEnts d i l2 e2).2.1 (Pl.rEnts d i l2 e2).2.2).2.2 b4
  have hs : Pl.rEnts d (i + 1) l2 e2 = ((Pl.rEnts d i l2 e2).1 ++ [⟨(Pl.rRowI d (Pl.rTruth (Pl.rEnts d i l2 e2).2.1 (Pl.rEnts d i l2 e2).2.2).2.1 (Pl.rTruth (Pl.rEnts d i l2 e2).2.1 (Pl.rEnts d i l2 e2).2.2).2.2).1, (Pl.rTruth (Pl.rEnts d i l2 e2).2.1 (Pl.rEnts d i l2 e2).2.2).1⟩], (Pl.rRowI d (Pl.rTruth (Pl.rEnts d i l2 e2).2.1 (Pl.rEnts d i l2 e2).2.2).2.1 (Pl.rTruth (Pl.rEnts d i l2 e2).2.1 (Pl.rEnts d i l2 e2).2.2).2.2).2) := rfl
  have hlen := rEnts_leng d l2 e2 i
  generalize Pl.rEnts d i l2 e2 = S at q3 q4 hs hlen ⊢
  obtain ⟨r, m1, y1⟩ := S
  simp only [] at q3 q4 hs hlen ⊢
  generalize Pl.rTruth m1 y1 = U at q3 q4 hs
  obtain ⟨tv, m2, y2⟩ := U
  simp only [] at q3 q4 hs
  generalize Pl.rRowI d m2 y2 = V at q4 hs
  obtain ⟨rw3, m3, y3⟩ := V
  simp only [] at q4 hs
  conv => whnf
  repeat' ((first
  | refine ob ?_
  | refine ⟨_, _, _, .gen [900] _ _ _ rfl (q3) rfl rfl rfl rfl rfl, ?_⟩
  | refine ⟨_, _, _, .gen [900] _ _ _ rfl (q4) rfl rfl rfl rfl rfl, ?_⟩
  | ((refine ⟨_, _, _, .gen [900] _ _ _ rfl (.arg ?harg (q3)) rfl rfl rfl rfl rfl, ?_⟩); case harg => (repeat' (first | exact sm | apply And.intro)))
  | ((refine ⟨_, _, _, .gen [900] _ _ _ rfl (.arg ?harg (q4)) rfl rfl rfl rfl rfl, ?_⟩); case harg => (repeat' (first | exact sm | apply And.intro))) | (refine And.intro (fun hq => ?_) (fun hq => ?_) <;> first | exact cl1 | exact cl3 | skip)
  | refine ob2 ?_ | refine ob4 ?_ | refine fun hq => ?_ | fail) <;> conv => whnf)
  refine ⟨i + 1, by omega, by omega, ?_⟩
  rw [hs]
  refine ⟨[.regen 50 0], ?_⟩
  conv => whnf
  refine ⟨rfl, ?_, ?_⟩ <;> (repeat' (first | exact trivial | (exact app_ent r ⟨rw3, tv⟩) | ((simp; done)) | exact sm | apply And.intro))
 ·obtain rfl : i = y := by omega
  have hE := rEnts_leng d l2 e2 i
  have b3 := (Pl.ents_suf d l2 e2 i).isB b2
  have hEw := (Pl.rEnts_ok d (e := e2) b2 i).2
  generalize Pl.rEnts d i l2 e2 = S at hE hEw b3 ⊢
  obtain ⟨E, l3, e3⟩ := S
  simp only [] at hE hEw b3 ⊢
  have q3 := rbyte 900 l3 e3
  have b4 := (Pl.take_suf 1 l3 e3).isB b3
  have hz := Pl.rByte_lt l3 e3 b3
  generalize Pl.rByte l3 e3 = z at q3 hz ⊢
  generalize (Pl.rTake 1 l3 e3).2 = s4 at q3 b4 ⊢
  obtain ⟨l4, e4⟩ := s4
  simp only [] at q3 b4 ⊢
  conv => whnf
  repeat' ((first
  | refine ob ?_
  | refine ⟨_, _, _, .gen [900] _ _ _ rfl (q3) rfl rfl rfl rfl rfl, ?_⟩
  | ((refine ⟨_, _, _, .gen [900] _ _ _ rfl (.arg ?harg (q3)) rfl rfl rfl rfl rfl, ?_⟩); case harg => (repeat' (first | exact sm | apply And.intro))) | (refine And.intro (fun hq => ?_) (fun hq => ?_) <;> first | exact cl1 | exact cl3 | skip)
  | refine ob2 ?_ | refine ob4 ?_ | refine fun hq => ?_ | fail) <;> conv => whnf)
  refine ⟨[.virtC 7 2 51 36 37, .tell 51 (kidF [])], ?_⟩
  conv => whnf
  refine ⟨Nat, fun j => j ≤ z, fun j => z - j, fun j => [(37, exI .i64 j)], fun j => (51, .row 36 37 0 false (Pl.rKids d j l4 e4).1.length (kidF (Pl.rKids d j l4 e4).1)) :: (7, .box 73 [.d (.v (.int .u8 (x : Nat))), .own 50 0, .own 51 0]) :: rdH 900 (Pl.rKids d j l4 e4).2.1 (Pl.rKids d j l4 e4).2.2, ⟨0, by omega, ?_⟩, ?_⟩
  ·skip
   refine ⟨[], ?_⟩
   conv => whnf
   refine ⟨rfl, ?_, ?_⟩ <;> (repeat' (first | exact sm | apply And.intro))
  intro j hj
  conv => whnf
  rcases Nat.lt_or_ge j z with hlj | hgj
  ·have b5 := (Pl.kids_suf d l4 e4 j).isB b4
   have q4 := nkid d 900 (Pl.rKids d j l4 e4).2.1 (Pl.rKids d j l4 e4).2.2 b5
   have hs : Pl.rKids d (j + 1) l4 e4 = ((Pl.rKids d j l4 e4).1 ++ [(Pl.rKid d (Pl.rKids d j l4 e4).2.1 (Pl.rKids d j l4 e4).2.2).1], (Pl.rKid d (Pl.rKids d j l4 e4).2.1 (Pl.rKids d j l4 e4).2.2).2) := rfl
   have hlen := rKids_leng d l4 e4 j
   generalize Pl.rKids d j l4 e4 = S at q4 hs hlen ⊢
   obtain ⟨r, m1, y1⟩ := S
   simp only [] at q4 hs hlen ⊢
   generalize Pl.rKid d m1 y1 = U at q4 hs
   obtain ⟨tk, m2, y2⟩ := U
   simp only [] at q4 hs
   conv => whnf
   repeat' ((first
   | refine ob ?_
   | refine ⟨_, _, _, .gen [900] _ _ _ rfl (q4) rfl rfl rfl rfl rfl, ?_⟩
   | ((refine ⟨_, _, _, .gen [900] _ _ _ rfl (.arg ?harg (q4)) rfl rfl rfl rfl rfl, ?_⟩); case harg => (repeat' (first | exact sm | apply And.intro))) | (refine And.intro (fun hq => ?_) (fun hq => ?_) <;> first | exact cl1 | exact cl3 | skip)
   | refine ob2 ?_ | refine ob4 ?_ | refine fun hq => ?_ | fail) <;> conv => whnf)
   refine ⟨j + 1, by omega, by omega, ?_⟩
   rw [hs]
   refine ⟨[.regen 51 0], ?_⟩
   conv => whnf
   refine ⟨rfl, ?_, ?_⟩ <;> (repeat' (first | exact trivial | (exact app_kid r tk) | ((simp; done)) | exact sm | apply And.intro))
  ·obtain rfl : j = z := by omega
   have hK := rKids_leng d l4 e4 j
   have hKw := rKids_w d l4 e4 b4 j
   generalize Pl.rKids d j l4 e4 = S at hK hKw ⊢
   obtain ⟨K, l5, e5⟩ := S
   simp only [] at hK hKw ⊢
   have hNS : NodeS ⟨x, E, K⟩ := ⟨by dsimp only; omega, by dsimp only; omega, fun i hi => Nat.le_trans (hEw _ (Pl.getD_mem' hi)).2 (by decide), fun i hi => by
    have q := hKw _ (Pl.getD_mem' hi)
    exact ⟨Nat.le_trans q.lo.1 (by decide), Nat.le_trans q.hi.1 (by decide), Nat.le_trans q.key.1 (by decide)⟩⟩
   have q5 := nright_ok ⟨x, E, K⟩ d hNS
   have q6 := rend 900 l5 e5
   generalize Pl.rEnd l5 e5 = z at q6 ⊢
   by_cases hz0 : z = 0
   ·subst hz0
    cases hr : nodeR ⟨x, E, K⟩ d with
    | true =>
     rw [hr] at q5
     have hf := nodeR_few hr
     have hNW : NodeW ⟨x, E, K⟩ := ⟨by dsimp only; omega, hf.1, hf.2, fun i hi => ⟨(hEw _ (Pl.getD_mem' hi)).2, (hEw _ (Pl.getD_mem' hi)).1⟩, fun i hi => hKw _ (Pl.getD_mem' hi)⟩
     have q7 := nencodeO_at 51 ⟨x, E, K⟩ d hNS hr hNW
     have q8 := bequal_any (Pl.nodeB ⟨x, E, K⟩) b (by
      have := nodB_len _ hNW E.length (K.length + 1) (Nat.le_refl _) (Nat.le_refl _)
      have e9 := nodB_end ⟨x, E, K⟩
      dsimp only at e9 hf
      rw [e9] at this
      omega)
     by_cases hc : Pl.nodeB ⟨x, E, K⟩ = b
     ·rw [if_pos ⟨rfl, rfl, hc⟩]
      rw [decide_eq_true hc] at q8
      conv => whnf
      repeat' ((first
      | refine ob ?_
      | refine ⟨_, _, _, .gen [900] _ _ _ rfl (q6) rfl rfl rfl rfl rfl, ?_⟩
      | refine ⟨_, _, _, .flat _ _ rfl (q5) rfl, ?_⟩
      | refine ⟨_, _, _, .gen [51] _ _ _ rfl (q7) rfl rfl rfl rfl rfl, ?_⟩
      | refine ⟨_, _, _, .flat _ _ rfl (q8) rfl, ?_⟩
      | ((refine ⟨_, _, _, .gen [900] _ _ _ rfl (.arg ?harg (q6)) rfl rfl rfl rfl rfl, ?_⟩); case harg => (repeat' (first | exact sm | apply And.intro)))
      | ((refine ⟨_, _, _, .flat _ _ rfl (.arg ?harg (q5)) rfl, ?_⟩); case harg => (repeat' (first | exact sm | apply And.intro)))
      | ((refine ⟨_, _, _, .gen [51] _ _ _ rfl (.arg ?harg (q7)) rfl rfl rfl rfl rfl, ?_⟩); case harg => (repeat' (first | exact sm | apply And.intro)))
      | ((refine ⟨_, _, _, .flat _ _ rfl (.arg ?harg (q8)) rfl, ?_⟩); case harg => (repeat' (first | exact sm | apply And.intro))) | (refine And.intro (fun hq => ?_) (fun hq => ?_) <;> first | exact cl1 | exact cl3 | skip)
      | refine ob2 ?_ | refine ob4 ?_ | refine fun hq => ?_ | fail) <;> conv => whnf)
      all_goals (repeat' (first | exact sm | apply And.intro))
     ·rw [if_neg (fun h => hc h.2.2)]
      rw [decide_eq_false hc] at q8
      conv => whnf
      repeat' ((first
      | refine ob ?_
      | refine ⟨_, _, _, .gen [900] _ _ _ rfl (q6) rfl rfl rfl rfl rfl, ?_⟩
      | refine ⟨_, _, _, .flat _ _ rfl (q5) rfl, ?_⟩
      | refine ⟨_, _, _, .gen [51] _ _ _ rfl (q7) rfl rfl rfl rfl rfl, ?_⟩
      | refine ⟨_, _, _, .flat _ _ rfl (q8) rfl, ?_⟩
      | ((refine ⟨_, _, _, .gen [900] _ _ _ rfl (.arg ?harg (q6)) rfl rfl rfl rfl rfl, ?_⟩); case harg => (repeat' (first | exact sm | apply And.intro)))
      | ((refine ⟨_, _, _, .flat _ _ rfl (.arg ?harg (q5)) rfl, ?_⟩); case harg => (repeat' (first | exact sm | apply And.intro)))
      | ((refine ⟨_, _, _, .gen [51] _ _ _ rfl (.arg ?harg (q7)) rfl rfl rfl rfl rfl, ?_⟩); case harg => (repeat' (first | exact sm | apply And.intro)))
      | ((refine ⟨_, _, _, .flat _ _ rfl (.arg ?harg (q8)) rfl, ?_⟩); case harg => (repeat' (first | exact sm | apply And.intro))) | (refine And.intro (fun hq => ?_) (fun hq => ?_) <;> first | exact cl1 | exact cl3 | skip)
      | refine ob2 ?_ | refine ob4 ?_ | refine fun hq => ?_ | fail) <;> conv => whnf)
      all_goals (repeat' (first | exact sm | apply And.intro))
    | false =>
     rw [hr] at q5
     rw [if_neg (fun h => by cases h.2.1)]
     conv => whnf
     repeat' ((first
     | refine ob ?_
     | refine ⟨_, _, _, .gen [900] _ _ _ rfl (q6) rfl rfl rfl rfl rfl, ?_⟩
     | refine ⟨_, _, _, .flat _ _ rfl (q5) rfl, ?_⟩
     | ((refine ⟨_, _, _, .gen [900] _ _ _ rfl (.arg ?harg (q6)) rfl rfl rfl rfl rfl, ?_⟩); case harg => (repeat' (first | exact sm | apply And.intro)))
     | ((refine ⟨_, _, _, .flat _ _ rfl (.arg ?harg (q5)) rfl, ?_⟩); case harg => (repeat' (first | exact sm | apply And.intro))) | (refine And.intro (fun hq => ?_) (fun hq => ?_) <;> first | exact cl1 | exact cl3 | skip)
     | refine ob2 ?_ | refine ob4 ?_ | refine fun hq => ?_ | fail) <;> conv => whnf)
     all_goals (repeat' (first | exact sm | apply And.intro))
   ·rw [if_neg (fun h => hz0 h.1)]
    have hd : decide (z = 0) = false := decide_eq_false hz0
    conv => whnf
    repeat' ((first
    | refine ob ?_
    | refine ⟨_, _, _, .gen [900] _ _ _ rfl (q6) rfl rfl rfl rfl rfl, ?_⟩
    | ((refine ⟨_, _, _, .gen [900] _ _ _ rfl (.arg ?harg (q6)) rfl rfl rfl rfl rfl, ?_⟩); case harg => (repeat' (first | exact sm | apply And.intro))) | (refine And.intro (fun hq => ?_) (fun hq => ?_) <;> first | exact cl1 | exact cl3 | skip)
    | refine ob2 ?_ | refine ob4 ?_ | refine fun hq => ?_ | fail) <;> conv => whnf)
    all_goals (repeat' (first | exact sm | apply And.intro))
end Go.Proofs.YtedokpgkjcnoiaaGreat
namespace Go.Proofs.YtedokpgkjcnoiaaGreat
open Go.RowKit
open Kd (nPut nGet forkN forkP tGet KidGood RwOk)
set_option maxRecDepth 100000
set_option maxHeartbeats 4000000
theorem ndecodeO_51 (d : Int) (b : List Nat) (n : NodeD) (hB : Pl.IsB b) (hb : b.length ≤ 1000000) (h : Pl.readN d b = some n) : ACall Tryz.prog 57 [.d (byteL b), exI .i64 d] [] (.tup [nodeO 51 n, exI .i64 0]) (kidsO 51 n.kids) := by
 have q0 := ndecodeO51 d b hB hb
 rw [decN_eq hB, h] at q0
 exact q0
theorem ndecodeO_ok (K : Nat) (d : Int) (b : List Nat) (n : NodeD) (hB : Pl.IsB b) (hb : b.length ≤ 1000000) (h : Pl.readN d b = some n) : ACall Tryz.prog 57 [.d (byteL b), exI .i64 d] [] (.tup [nodeO K n, exI .i64 0]) (kidsO K n.kids) := by
    obtain ⟨σ, τ, hστ, e1⟩ := names1 51 K
    have q := (ndecodeO_51 d b n hB hb h).ren (σ := σ) (τ := τ) (δ := fun _ => 0) hστ (by intros; rfl)
    simpa [mapC, mapA, mapA1, rnA, rnH, rnO, nodeO, kidsO, entsL, byteL, e1] using q
def stoK (K : Nat) (s : Sto) (l : List KidD) : OH := stoH 900 901 s ++ kidsO K l
theorem ngetO_ok (s : Sto) (hs : StoOk s) (k : KidD) (d : Int) (h : Pl.KidOk k) (n : NodeD) (hn : nGet s k d = some n) : ACall Tryz.prog 31 [.ptr 900 0 0 0, agD (kidL k), exI .i64 d] (stoH 900 901 s) (.tup [nodeO 903 n, exI .i64 0]) (stoK 903 s n.kids) := by
 have q1 := cppget s hs k.sum h.s h.sB
 unfold nGet at hn
 cases hg : s.get k.sum with
 | none => rw [hg] at hn; cases hn
 | some b =>
  rw [hg] at hn q1
  obtain ⟨hm, _⟩ := Sto.get_some hg
  obtain ⟨hB, hl⟩ := hs.b b hm
  dsimp only at hn
  cases hd : Pl.readN d b with
  | none => rw [hd] at hn; cases hn
  | some m =>
   rw [hd] at hn
   dsimp only at hn
   by_cases hc : (Pl.sayN m).size ≤ 1048576 ∧ Pl.sayN m = k
   ·rw [if_pos hc] at hn
    obtain rfl := Option.some.inj hn
    have q2 := ndecodeO_ok 903 d b m hB (by omega) hd
    obtain ⟨hb, hr, hn⟩ := Pl.readN_inv hB hd
    obtain ⟨D, rfl, hrt⟩ := Pl.nodeR_rt hr
    have q3 := nsayO_ok m D hn hr
    have ho := Pl.sayN_ok hrt hn
    have q4 := nsame_any (Pl.sayN m) k ⟨ho.lo, ho.hi, ho.key⟩
    rw [kidS_eq ho.s h.s] at q4
    rw [if_pos hc.1] at q3
    rw [decide_eq_true hc.2] at q4
    refine acall_on (mu := []) [] [] mixed Tryz.func31 rfl rfl rfl ?_
    conv => whnf
    repeat' ((first
    | refine ob ?_
    | refine ⟨_, _, _, .gen [901,900] _ _ _ rfl (q1) rfl rfl rfl rfl rfl, ?_⟩
    | refine ⟨_, _, _, .gen [] _ _ _ rfl (q2) rfl rfl rfl rfl rfl, ?_⟩
    | refine ⟨_, _, _, .gen [903] _ _ _ rfl (q3) rfl rfl rfl rfl rfl, ?_⟩
    | refine ⟨_, _, _, .flat _ _ rfl (q4) rfl, ?_⟩
    | ((refine ⟨_, _, _, .gen [901,900] _ _ _ rfl (.arg ?harg (q1)) rfl rfl rfl rfl rfl, ?_⟩); case harg => (repeat' (first | exact sm | apply And.intro)))
    | ((refine ⟨_, _, _, .gen [] _ _ _ rfl (.arg ?harg (q2)) rfl rfl rfl rfl rfl, ?_⟩); case harg => (repeat' (first | exact sm | apply And.intro)))
    | ((refine ⟨_, _, _, .gen [903] _ _ _ rfl (.arg ?harg (q3)) rfl rfl rfl rfl rfl, ?_⟩); case harg => (repeat' (first | exact sm | apply And.intro)))
    | ((refine ⟨_, _, _, .flat _ _ rfl (.arg ?harg (q4)) rfl, ?_⟩); case harg => (repeat' (first | exact sm | apply And.intro))) | (refine And.intro (fun hq => ?_) (fun hq => ?_) <;> first | exact cl1 | ((try simp only [bl] at hq); (try dsimp only at hq); first | exact cl2 | skip))
    | refine fun hq => ?_ | refine ob2 ?_ | fail) <;> conv => whnf)
    all_goals (repeat' (first | exact sm | apply And.intro))
   ·rw [if_neg hc] at hn; cases hn
theorem kgetO_ok (d : Nat) (s : Sto) (hs : StoOk s) (k : KidD) (hk : KidGood d k) (x : EntD) (a b : KidD) (h : tGet s d k = some (x, a, b)) : ACall Tryz.prog 50 [treeA d, agD (kidL k)] (stoH 900 901 s) (.tup [agD (entL x), .own 903 0, exI .i64 0]) (stoK 903 s [a, b]) := by
 unfold tGet at h
 cases hn : nGet s k d with
 | none => rw [hn] at h; cases h
 | some n =>
  rw [hn] at h
  dsimp only at h
  by_cases h1 : n.kind = 1
  ·rw [if_pos h1] at h
   obtain ⟨e, hg⟩ := Kd.tGet_node hs hn h1
   have q := ngetO_ok s hs k d hk.o n hn
   obtain ⟨rfl, rfl, rfl⟩ : n.rows.getD 0 default = x ∧ n.kids.getD 0 default = a ∧ n.kids.getD 1 default = b := by
    have := Option.some.inj h; injection this with h1 h2; injection h2 with h2 h3; exact ⟨h1, h2, h3⟩
   generalize n.rows.getD 0 default = x at e hg ⊢
   generalize n.kids.getD 0 default = a at e hg ⊢
   generalize n.kids.getD 1 default = b at e hg ⊢
   subst e
   have r1 : (forkN x a b).rows.length = 1 := rfl
   have r2 : (forkN x a b).kids.length = 2 := rfl
   have r3 : ((forkN x a b).kind : Int) = 1 := rfl
   refine acall_on (mu := [2]) [] [] mixed Tryz.func50 rfl rfl rfl ?_
   conv => whnf
   repeat' ((first
   | refine ob ?_
   | refine ⟨_, _, _, .gen [901,900] _ _ _ rfl (q) rfl rfl rfl rfl rfl, ?_⟩
   | ((refine ⟨_, _, _, .gen [901,900] _ _ _ rfl (.arg ?harg (q)) rfl rfl rfl rfl rfl, ?_⟩); case harg => (repeat' (first | exact sm | apply And.intro))) | (refine And.intro (fun hq => ?_) (fun hq => ?_) <;> first | exact cl1 | ((try simp only [bl] at hq); (try dsimp only at hq); first | exact cl2 | skip))
   | refine fun hq => ?_ | refine ob3 ?_ | fail) <;> conv => whnf)
   all_goals (repeat' (first | exact sm | apply And.intro))
  ·rw [if_neg h1] at h; cases h
theorem kgetO_no (d : Nat) (s : Sto) (hs : StoOk s) (k : KidD) (hk : KidGood d k) (h : tGet s d k = none) : ACall Tryz.prog 50 [treeA d, agD (kidL k)] (stoH 900 901 s) (.tup [agD entZ, .d (.v (.slice none 0 0)), exI .i64 21]) (stoH 900 901 s) := by
 have q := kget_ok d s hs k hk
 rw [h] at q
 exact q
end Go.Proofs.YtedokpgkjcnoiaaGreat
namespace Go.Proofs.YtedokpgkjcnoiaaGreat
open Go.RowKit
open Kd (nPut nGet forkN forkP tGet KidGood RwOk layP thenP PGood liveP anewP)
set_option maxRecDepth 100000
set_option maxHeartbeats 4000000
def resL : Option (List Rw) → AV
 | some l => .tup [.d (rowL l), exI .i64 0]
 | none => .tup [.d (.v (.slice none 0 0)), exI .i64 21]
theorem app_rw (A D : List Rw) (n : Nat) (hn : n = D.length) (g : Nat → List DV) (hg : ∀ i, i < n → g i = rowF D i) : ∀ j, j < A.length + n → app A.length (rowF A) g j = rowF (A ++ D) j := fun j hj => by
 subst hn
 rcases Nat.lt_or_ge j A.length with q | q
 ·rw [app_lt q]; unfold rowF; rw [List.getD_eq_getElem?_getD, List.getD_eq_getElem?_getD, List.getElem?_append_left q]
 ·rw [app_ge q, hg _ (by omega)]; unfold rowF
  rw [List.getD_eq_getElem?_getD, List.getD_eq_getElem?_getD, List.getElem?_append_right q]
theorem app_rw1 (x : Rw) (g : Nat → List DV) (hg : g 0 = [i64L x]) : ∀ j, j < 0 + 1 → app 0 (rowF []) g j = rowF [x] j := fun j hj => by
 obtain rfl : j = 0 := by omega
 rw [app_ge (Nat.le_refl _), hg]; rfl
def combL (X : List Rw) : Option (List Rw) → Option (List Rw) → Option (List Rw)
 | some l1, some l2 => some (X ++ l1 ++ l2)
 | _, _ => none
theorem combL_no1 (X : List Rw) (o : Option (List Rw)) : combL X none o = none := by cases o <;> rfl
theorem combL_no2 (X : List Rw) (o : Option (List Rw)) : combL X o none = none := by cases o <;> rfl
theorem liveP_on {d f : Nat} {s : Sto} {k : KidD} {x : EntD} {a b : KidD} (h0 : ¬ k.live = 0) (hg : tGet s d k = some (x, a, b)) : liveP d (f + 1) s k = combL (if x.live = true then [x.row] else []) (liveP d f s a) (liveP d f s b) := by
 rw [liveP, if_neg h0, hg]
 dsimp only
 cases liveP d f s a with
 | none => rw [combL_no1]
 | some l1 =>
  cases liveP d f s b with
  | none => rfl
  | some l2 => rfl
theorem liveP_zero {d f : Nat} {s : Sto} {k : KidD} (h0 : k.live = 0) : liveP d (f + 1) s k = some [] := by rw [liveP, if_pos h0]
theorem liveP_no {d f : Nat} {s : Sto} {k : KidD} (h0 : ¬ k.live = 0) (hg : tGet s d k = none) : liveP d (f + 1) s k = none := by rw [liveP, if_neg h0, hg]
theorem klive_ok (d : Nat) (h1 : 1 ≤ d) (h8 : d ≤ 8) : ∀ (f : Nat) (s : Sto) (k : KidD), StoOk s → KidGood d k → k.size.toNat < f → ACall Tryz.prog 46 [treeA d, agD (kidL k)] (stoH 900 901 s) (resL (liveP d f s k)) (stoH 900 901 s)
 | 0, s, k, hs, hk, hf => by omega
 | f + 1, s, k, hs, hk, hf => by
  by_cases h0 : k.live = 0
  ·rw [liveP_zero h0]
   refine acall_on (mu := [2]) [] [] mixed Tryz.func46 rfl rfl rfl ?_
   conv => whnf
   repeat' ((first
   | refine ob ?_
   | (refine And.intro (fun hq => ?_) (fun hq => ?_) <;> first | exact cl1 | ((try simp only [bl] at hq); (try dsimp only at hq); first | exact cl2 | skip))
   | refine fun hq => ?_ | refine ob3 ?_ | fail) <;> conv => whnf)
   all_goals (repeat' (first | exact sm | apply And.intro))
  ·have c1 := kget_ok d s hs k hk
   cases hg : tGet s d k with
   | none =>
    rw [hg] at c1
    rw [liveP_no h0 hg]
    refine acall_on (mu := [2]) [] [] mixed Tryz.func46 rfl rfl rfl ?_
    conv => whnf
    repeat' ((first
    | refine ob ?_
    | refine ⟨_, _, _, .gen [901,900] _ _ _ rfl (c1) rfl rfl rfl rfl rfl, ?_⟩
    | ((refine ⟨_, _, _, .gen [901,900] _ _ _ rfl (.arg ?harg (c1)) rfl rfl rfl rfl rfl, ?_⟩); case harg => (repeat' (first | exact sm | apply And.intro))) | (refine And.intro (fun hq => ?_) (fun hq => ?_) <;> first | exact cl1 | ((try simp only [bl] at hq); (try dsimp only at hq); first | exact cl2 | skip))
    | refine fun hq => ?_ | refine ob3 ?_ | fail) <;> conv => whnf)
    all_goals (repeat' (first | exact sm | apply And.intro))
   | some R =>
    obtain ⟨x, a, b⟩ := R
    rw [hg] at c1
    rw [liveP_on h0 hg]
    have G := Kd.tGet_good hs hg
    have pa := Kd.kid_pos G.ga
    have pb := Kd.kid_pos G.gb
    have ia := klive_ok d h1 h8 f s a hs G.ga (by have := G.size; omega)
    have ib := klive_ok d h1 h8 f s b hs G.gb (by have := G.size; omega)
    have la := fun l h => (Kd.live_ok (d := d) f s a l hs h).2 G.ga
    have lb := fun l h => (Kd.live_ok (d := d) f s b l hs h).2 G.gb
    obtain ⟨lv, hlv⟩ : ∃ lv : Nat → Option (List Rw), ∀ i, lv i = liveP d f s ([a, b].getD i default) := ⟨_, fun _ => rfl⟩
    have e0 : liveP d f s a = lv 0 := (hlv 0).symm
    have e1 : liveP d f s b = lv 1 := (hlv 1).symm
    rw [e0, e1]
    rw [e0] at ia la
    rw [e1] at ib lb
    have hc : ∀ i, i < 2 → ACall Tryz.prog 46 [treeA d, agD (kidL ([a, b].getD i default))] (stoH 900 901 s) (resL (lv i)) (stoH 900 901 s) := fun i hi => by
     rcases i with _ | _ | i
     ·exact ia
     ·exact ib
     ·omega
    have hn : ∀ i, i < 2 → ∀ l, lv i = some l → l.length ≤ 1048576 := fun i hi l h => by
     rcases i with _ | _ | i
     ·have := la l h; omega
     ·have := lb l h; omega
     ·omega
    clear hlv e0 e1 ia ib la lb
    obtain ⟨row, lve⟩ := x
    obtain ⟨X, hX⟩ : ∃ X : List Rw, X = if lve = true then [row] else [] := ⟨_, rfl⟩
    have hXl : X.length ≤ 1 := by rw [hX]; split <;> simp
    dsimp only
    rw [← hX]
    obtain ⟨st, hst⟩ : ∃ st : Nat → List Rw, ∀ i, st i = if i = 0 then X else if i = 1 then X ++ (lv 0).getD [] else X ++ (lv 0).getD [] ++ (lv 1).getD [] := ⟨_, fun _ => rfl⟩
    have st0 : st 0 = X := hst 0
    have st2 : st 2 = X ++ (lv 0).getD [] ++ (lv 1).getD [] := hst 2
    have hs1 : ∀ i, i < 2 → ∀ l, lv i = some l → st (i + 1) = st i ++ l := fun i hi l h => by
     rcases i with _ | _ | i
     ·rw [st0, hst 1, h]; rfl
     ·rw [st2, hst 1, h]; rfl
     ·omega
    have hsl : ∀ i, i ≤ 2 → (st i).length ≤ 3000000 := fun i hi => by
     have l0 : ((lv 0).getD []).length ≤ 1048576 := by
      cases h : lv 0 with
      | none => simp
      | some l => exact hn 0 (by omega) l h
     have l1 : ((lv 1).getD []).length ≤ 1048576 := by
      cases h : lv 1 with
      | none => simp
      | some l => exact hn 1 (by omega) l h
     rcases i with _ | _ | _ | i
     ·rw [st0]; omega
     ·rw [hst 1, if_neg (by omega), if_pos rfl, List.length_append]; omega
     ·rw [st2, List.length_append, List.length_append]; omega
     ·omega
    obtain ⟨R, hR⟩ : ∃ R : Option (List Rw), R = combL X (lv 0) (lv 1) := ⟨_, rfl⟩
    rw [← hR]
    have hN : ∀ i, i < 2 → lv i = none → R = none := fun i hi h => by
     rcases i with _ | _ | i
     ·rw [hR, h, combL_no1]
     ·rw [hR, h, combL_no2]
     ·omega
    have hS : (∀ j, j < 2 → ∃ l, lv j = some l) → R = some (st 2) := fun h => by
     obtain ⟨l0, h0⟩ := h 0 (by omega)
     obtain ⟨l1, h1⟩ := h 1 (by omega)
     rw [hR, st2, h0, h1]; rfl
    clear hR st2 hst
    cases lve
    ·replace hX : X = [] := hX
     subst hX
     refine acall_on (mu := [2]) [(7, [.virt 9 910 26 1, .tell 910 (rowF [])]), (17, [.lay 910])] [] mixed Tryz.func46 rfl rfl rfl ?_
     conv => whnf
     repeat' ((first
     | refine ob ?_
     | refine ⟨_, _, _, .gen [901,900] _ _ _ rfl (c1) rfl rfl rfl rfl rfl, ?_⟩
     | ((refine ⟨_, _, _, .gen [901,900] _ _ _ rfl (.arg ?harg (c1)) rfl rfl rfl rfl rfl, ?_⟩); case harg => (repeat' (first | exact sm | apply And.intro))) | (refine And.intro (fun hq => ?_) (fun hq => ?_) <;> first | exact cl1 | ((try simp only [bl] at hq); (try dsimp only at hq); first | exact cl2 | skip))
     | refine fun hq => ?_ | refine ob3 ?_ | fail) <;> conv => whnf)
     refine ⟨[], ?_⟩
     conv => whnf
     refine ⟨Nat, fun i => i ≤ 2 ∧ ∀ j, j < i → ∃ l, lv j = some l, fun i => 2 - i, fun i => [(9, .own 910 0), (36, exI .i64 i)], fun i => [(910, .row 26 1 0 false (st i).length (rowF (st i)))], ⟨0, ⟨by omega, fun j hj => by omega⟩, ?_⟩, ?_⟩
     ·skip
      refine ⟨[], ?_⟩
      conv => whnf
      refine ⟨rfl, ?_, ?_⟩ <;> (repeat' (first | exact trivial | ((rw [st0]; done)) | ((rw [st0]; rfl)) | ((rw [st0]; exact app_rw1 _ _ rfl)) | ((intro i hi; rw [st0]; done)) | exact sm | apply And.intro))
     rintro i ⟨hi, hno⟩
     conv => whnf
     have hli := hsl i hi
     rcases Nat.lt_or_ge i 2 with hlt | hge
     ·have q := hc ((i : Int)).toNat (by omega)
      have ei : ((i : Int)).toNat = i := by omega
      cases hl : lv i with
      | none =>
       rw [show lv ((i : Int)).toNat = none by rw [ei]; exact hl] at q
       rw [hN i hlt hl]
       conv => whnf
       repeat' ((first
       | refine ob ?_
       | refine ⟨_, _, _, .gen [901,900] _ _ _ rfl (q) rfl rfl rfl rfl rfl, ?_⟩
       | ((refine ⟨_, _, _, .gen [901,900] _ _ _ rfl (.arg ?harg (q)) rfl rfl rfl rfl rfl, ?_⟩); case harg => (repeat' (first | exact sm | apply And.intro))) | (refine And.intro (fun hq => ?_) (fun hq => ?_) <;> first | exact cl1 | ((try simp only [bl] at hq); (try dsimp only at hq); first | exact cl2 | skip))
       | refine fun hq => ?_ | refine ob3 ?_ | fail) <;> conv => whnf)
       all_goals (repeat' (first | exact sm | apply And.intro))
      | some l =>
       have hs2 := hs1 i hlt l hl
       have hll := hn i hlt l hl
       rw [show lv ((i : Int)).toNat = some l by rw [ei]; exact hl] at q
       conv => whnf
       repeat' ((first
       | refine ob ?_
       | refine ⟨_, _, _, .gen [901,900] _ _ _ rfl (q) rfl rfl rfl rfl rfl, ?_⟩
       | ((refine ⟨_, _, _, .gen [901,900] _ _ _ rfl (.arg ?harg (q)) rfl rfl rfl rfl rfl, ?_⟩); case harg => (repeat' (first | exact sm | apply And.intro))) | (refine And.intro (fun hq => ?_) (fun hq => ?_) <;> first | exact cl1 | ((try simp only [bl] at hq); (try dsimp only at hq); first | exact cl2 | skip))
       | refine fun hq => ?_ | refine ob3 ?_ | fail) <;> conv => whnf)
       refine ⟨(by show _ * 24 ≤ _; omega), ?_⟩
       conv => whnf
       conv => whnf
       repeat' ((first
       | refine ob ?_
       | (refine And.intro (fun hq => ?_) (fun hq => ?_) <;> first | exact cl1 | ((try simp only [bl] at hq); (try dsimp only at hq); first | exact cl2 | skip))
       | refine fun hq => ?_ | refine ob3 ?_ | fail) <;> conv => whnf)
       refine ⟨i + 1, ⟨by omega, fun j hj => ?_⟩, by dsimp only; omega, ?_⟩
       ·rcases Nat.lt_or_ge j i with z | z
        ·exact hno j z
        ·obtain rfl : j = i := by omega
         exact ⟨l, hl⟩
       refine ⟨[.regen 910 0], ?_⟩
       conv => whnf
       refine ⟨rfl, ?_, ?_⟩ <;> (repeat' (first | exact trivial | ((rw [hs2]; exact app_rw (st i) l _ rfl _ (fun i hi => rfl))) | ((rw [hs2]; simp; done)) | exact sm | apply And.intro))
     ·obtain rfl : i = 2 := by omega
      rw [hS (fun j hj => hno j hj)]
      conv => whnf
      repeat' ((first
      | refine ob ?_
      | (refine And.intro (fun hq => ?_) (fun hq => ?_) <;> first | exact cl1 | ((try simp only [bl] at hq); (try dsimp only at hq); first | exact cl2 | skip))
      | refine fun hq => ?_ | refine ob3 ?_ | fail) <;> conv => whnf)
      all_goals (repeat' (first | exact sm | apply And.intro))
    ·replace hX : X = [row] := hX
     subst hX
     refine acall_on (mu := [2]) [(7, [.virt 9 910 26 1, .tell 910 (rowF [])]), (17, [.lay 910])] [] mixed Tryz.func46 rfl rfl rfl ?_
     conv => whnf
     repeat' ((first
     | refine ob ?_
     | refine ⟨_, _, _, .gen [901,900] _ _ _ rfl (c1) rfl rfl rfl rfl rfl, ?_⟩
     | ((refine ⟨_, _, _, .gen [901,900] _ _ _ rfl (.arg ?harg (c1)) rfl rfl rfl rfl rfl, ?_⟩); case harg => (repeat' (first | exact sm | apply And.intro))) | (refine And.intro (fun hq => ?_) (fun hq => ?_) <;> first | exact cl1 | ((try simp only [bl] at hq); (try dsimp only at hq); first | exact cl2 | skip))
     | refine fun hq => ?_ | refine ob3 ?_ | fail) <;> conv => whnf)
     refine ⟨[.drop 29, .drop 33, .regen 910 0], ?_⟩
     conv => whnf
     refine ⟨Nat, fun i => i ≤ 2 ∧ ∀ j, j < i → ∃ l, lv j = some l, fun i => 2 - i, fun i => [(9, .own 910 0), (36, exI .i64 i)], fun i => [(910, .row 26 1 0 false (st i).length (rowF (st i)))], ⟨0, ⟨by omega, fun j hj => by omega⟩, ?_⟩, ?_⟩
     ·skip
      refine ⟨[], ?_⟩
      conv => whnf
      refine ⟨rfl, ?_, ?_⟩ <;> (repeat' (first | exact trivial | ((rw [st0]; done)) | ((rw [st0]; rfl)) | ((rw [st0]; exact app_rw1 _ _ rfl)) | ((intro i hi; rw [st0]; done)) | exact sm | apply And.intro))
     rintro i ⟨hi, hno⟩
     conv => whnf
     have hli := hsl i hi
     rcases Nat.lt_or_ge i 2 with hlt | hge
     ·have q := hc ((i : Int)).toNat (by omega)
      have ei : ((i : Int)).toNat = i := by omega
      cases hl : lv i with
      | none =>
       rw [show lv ((i : Int)).toNat = none by rw [ei]; exact hl] at q
       rw [hN i hlt hl]
       conv => whnf
       repeat' ((first
       | refine ob ?_
       | refine ⟨_, _, _, .gen [901,900] _ _ _ rfl (q) rfl rfl rfl rfl rfl, ?_⟩
       | ((refine ⟨_, _, _, .gen [901,900] _ _ _ rfl (.arg ?harg (q)) rfl rfl rfl rfl rfl, ?_⟩); case harg => (repeat' (first | exact sm | apply And.intro))) | (refine And.intro (fun hq => ?_) (fun hq => ?_) <;> first | exact cl1 | ((try simp only [bl] at hq); (try dsimp only at hq); first | exact cl2 | skip))
       | refine fun hq => ?_ | refine ob3 ?_ | fail) <;> conv => whnf)
       all_goals (repeat' (first | exact sm | apply And.intro))
      | some l =>
       have hs2 := hs1 i hlt l hl
       have hll := hn i hlt l hl
       rw [show lv ((i : Int)).toNat = some l by rw [ei]; exact hl] at q
       conv => whnf
       repeat' ((first
       | refine ob ?_
       | refine ⟨_, _, _, .gen [901,900] _ _ _ rfl (q) rfl rfl rfl rfl rfl, ?_⟩
       | ((refine ⟨_, _, _, .gen [901,900] _ _ _ rfl (.arg ?harg (q)) rfl rfl rfl rfl rfl, ?_⟩); case harg => (repeat' (first | exact sm | apply And.intro))) | (refine And.intro (fun hq => ?_) (fun hq => ?_) <;> first | exact cl1 | ((try simp only [bl] at hq); (try dsimp only at hq); first | exact cl2 | skip))
       | refine fun hq => ?_ | refine ob3 ?_ | fail) <;> conv => whnf)
       refine ⟨(by show _ * 24 ≤ _; omega), ?_⟩
       conv => whnf
       conv => whnf
       repeat' ((first
       | refine ob ?_
       | (refine And.intro (fun hq => ?_) (fun hq => ?_) <;> first | exact cl1 | ((try simp only [bl] at hq); (try dsimp only at hq); first | exact cl2 | skip))
       | refine fun hq => ?_ | refine ob3 ?_ | fail) <;> conv => whnf)
       refine ⟨i + 1, ⟨by omega, fun j hj => ?_⟩, by dsimp only; omega, ?_⟩
       ·rcases Nat.lt_or_ge j i with z | z
        ·exact hno j z
        ·obtain rfl : j = i := by omega
         exact ⟨l, hl⟩
       refine ⟨[.regen 910 0], ?_⟩
       conv => whnf
       refine ⟨rfl, ?_, ?_⟩ <;> (repeat' (first | exact trivial | ((rw [hs2]; exact app_rw (st i) l _ rfl _ (fun i hi => rfl))) | ((rw [hs2]; simp; done)) | exact sm | apply And.intro))
     ·obtain rfl : i = 2 := by omega
      rw [hS (fun j hj => hno j hj)]
      conv => whnf
      repeat' ((first
      | refine ob ?_
      | (refine And.intro (fun hq => ?_) (fun hq => ?_) <;> first | exact cl1 | ((try simp only [bl] at hq); (try dsimp only at hq); first | exact cl2 | skip))
      | refine fun hq => ?_ | refine ob3 ?_ | fail) <;> conv => whnf)
      all_goals (repeat' (first | exact sm | apply And.intro))
end Go.Proofs.YtedokpgkjcnoiaaGreat
