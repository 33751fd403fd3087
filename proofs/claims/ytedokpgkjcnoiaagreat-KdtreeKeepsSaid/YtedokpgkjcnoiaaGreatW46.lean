/- kdtree: remove. -/
import Derived.Test.YtedokpgkjcnoiaaGreatW44
set_option linter.unusedVariables false
set_option linter.unusedSimpArgs false
namespace Go.Proofs.YtedokpgkjcnoiaaGreat
open Go.RowKit
open Kd (nPut nGet forkN forkP tGet KidGood RwOk layP thenP PGood liveP anewP againP insP remP)
set_option maxRecDepth 100000
set_option maxHeartbeats 4000000
section
open Kd
variable {d f : Nat} {s : Sto} {k : KidD} {p q : Rw} {dep : Nat} {x : EntD} {a b : KidD}
theorem remP_Z : remP d (f + 1) s Pl.kidZ p dep = (s, Pl.kidZ, 9) := if_pos rfl
theorem remP_none (hk : k ≠ Pl.kidZ) (hg : tGet s d k = none) : remP d (f + 1) s k p dep = (s, Pl.kidZ, 21) := by
 rw [remP, if_neg hk, hg]
theorem remP_hit (hk : k ≠ Pl.kidZ) (hg : tGet s d k = some (x, a, b)) (e : x.row = p) (hv : x.live = true) : remP d (f + 1) s k p dep = forkP d s ⟨x.row, false⟩ a b := by
 rw [remP, if_neg hk, hg]; exact (if_pos e).trans (if_pos hv)
theorem remP_gone (hk : k ≠ Pl.kidZ) (hg : tGet s d k = some (x, a, b)) (e : x.row = p) (hv : x.live = false) : remP d (f + 1) s k p dep = (s, Pl.kidZ, 9) := by
 rw [remP, if_neg hk, hg]; exact (if_pos e).trans (if_neg (fun z => by rw [hv] at z; cases z))
theorem remP_lt (hk : k ≠ Pl.kidZ) (hg : tGet s d k = some (x, a, b)) (e : x.row ≠ p) (hv : ltAt (dep % d) p x.row = true) : remP d (f + 1) s k p dep = thenP (remP d f s a p (dep + 1)) fun s1 k1 => forkP d s1 x k1 b := by
 rw [remP, if_neg hk, hg]; exact (if_neg e).trans (if_pos hv)
theorem remP_ge (hk : k ≠ Pl.kidZ) (hg : tGet s d k = some (x, a, b)) (e : x.row ≠ p) (hv : ltAt (dep % d) p x.row = false) : remP d (f + 1) s k p dep = thenP (remP d f s b p (dep + 1)) fun s1 k1 => forkP d s1 x a k1 := by
 rw [remP, if_neg hk, hg]; exact (if_neg e).trans (if_neg (fun z => by rw [hv] at z; cases z))
end
theorem kremove_ok (d : Nat) (h1 : 1 ≤ d) (h8 : d ≤ 8) : ∀ (f : Nat) (s : Sto) (k : KidD) (p : Rw) (dep : Nat), StoOk s → KidGood d k → RwOk d p → k.size.toNat < f → dep + f ≤ 100000000 → ACall Tryz.prog 48 [treeA d, agD (kidL k), .d (i64L p), exI .i64 dep] (stoH 900 901 s) (resK (remP d f s k p dep)) (stoH 900 901 (remP d f s k p dep).1)
 | 0, s, k, p, dep, hs, hk, hp, hf, hd => by omega
 | f + 1, s, k, p, dep, hs, hk, hp, hf, hd => by
  have q0 := nempty_any k ⟨hk.o.lo, hk.o.hi, hk.o.key⟩
  rw [kidS_zero hk.o.s] at q0
  have hpl := hp.1
  by_cases hz : k = Pl.kidZ
  ·subst hz
   rw [decide_eq_true rfl] at q0
   rw [remP_Z]
   refine acall_on (mu := [4]) [] [] mixed Tryz.func48 rfl rfl rfl ?_
   conv => whnf
   repeat' ((first
   | refine ob ?_
   | refine ⟨_, _, _, .flat _ _ rfl (q0) rfl, ?_⟩
   | ((refine ⟨_, _, _, .flat _ _ rfl (.arg ?harg (q0)) rfl, ?_⟩); case harg => (repeat' (first | exact sm | apply And.intro))) | (refine And.intro (fun hq => ?_) (fun hq => ?_) <;> first | exact cl1 | ((try simp only [bl] at hq); (try dsimp only at hq); first | exact cl2 | skip))
   | refine fun hq => ?_ | refine ob3 ?_ | fail) <;> conv => whnf)
   all_goals (repeat' (first | exact sm | apply And.intro))
  ·rw [decide_eq_false hz] at q0
   cases hg : tGet s d k with
   | none =>
    rw [remP_none hz hg]
    have c1 := kgetO_no d s hs k hk hg
    refine acall_on (mu := [4]) [] [] mixed Tryz.func48 rfl rfl rfl ?_
    conv => whnf
    repeat' ((first
    | refine ob ?_
    | refine ⟨_, _, _, .flat _ _ rfl (q0) rfl, ?_⟩
    | refine ⟨_, _, _, .gen [901,900] _ _ _ rfl (c1) rfl rfl rfl rfl rfl, ?_⟩
    | ((refine ⟨_, _, _, .flat _ _ rfl (.arg ?harg (q0)) rfl, ?_⟩); case harg => (repeat' (first | exact sm | apply And.intro)))
    | ((refine ⟨_, _, _, .gen [901,900] _ _ _ rfl (.arg ?harg (c1)) rfl rfl rfl rfl rfl, ?_⟩); case harg => (repeat' (first | exact sm | apply And.intro))) | (refine And.intro (fun hq => ?_) (fun hq => ?_) <;> first | exact cl1 | ((try simp only [bl] at hq); (try dsimp only at hq); first | exact cl2 | skip))
    | refine fun hq => ?_ | refine ob3 ?_ | fail) <;> conv => whnf)
    all_goals (repeat' (first | exact sm | apply And.intro))
   | some Q =>
    obtain ⟨x, a, b⟩ := Q
    have c1 := kgetO_ok d s hs k hk x a b hg
    have G := Kd.tGet_good hs hg
    have hxl := G.row.1
    have q1 := equal_any x.row p (by omega)
    have pa := Kd.kid_pos G.ga
    have pb := Kd.kid_pos G.gb
    have hl2 : [a, b].length = 2 := rfl
    by_cases e : x.row = p
    ·rw [decide_eq_true e] at q1
     cases hv : x.live with
     | false =>
      rw [remP_gone hz hg e hv]
      obtain ⟨row, lve⟩ := x
      obtain rfl : lve = false := hv
      refine acall_on (mu := [4]) [] [] mixed Tryz.func48 rfl rfl rfl ?_
      conv => whnf
      repeat' ((first
      | refine ob ?_
      | refine ⟨_, _, _, .flat _ _ rfl (q0) rfl, ?_⟩
      | refine ⟨_, _, _, .gen [901,900] _ _ _ rfl (c1) rfl rfl rfl rfl rfl, ?_⟩
      | refine ⟨_, _, _, .flat _ _ rfl (q1) rfl, ?_⟩
      | ((refine ⟨_, _, _, .flat _ _ rfl (.arg ?harg (q0)) rfl, ?_⟩); case harg => (repeat' (first | exact sm | apply And.intro)))
      | ((refine ⟨_, _, _, .gen [901,900] _ _ _ rfl (.arg ?harg (c1)) rfl rfl rfl rfl rfl, ?_⟩); case harg => (repeat' (first | exact sm | apply And.intro)))
      | ((refine ⟨_, _, _, .flat _ _ rfl (.arg ?harg (q1)) rfl, ?_⟩); case harg => (repeat' (first | exact sm | apply And.intro))) | (refine And.intro (fun hq => ?_) (fun hq => ?_) <;> first | exact cl1 | ((try simp only [bl] at hq); (try dsimp only at hq); first | exact cl2 | skip))
      | refine fun hq => ?_ | refine ob3 ?_ | fail) <;> conv => whnf)
      all_goals (repeat' (first | exact sm | apply And.intro))
     | true =>
      rw [remP_hit hz hg e hv]
      obtain ⟨row, lve⟩ := x
      obtain rfl : lve = true := hv
      have hs1 := hs
      have hx1 : RwOk d (EntD.mk row false).row := G.row
      have ha1 := G.ga
      have hb1 := G.gb
      have c4 := kfork_ok d s hs1 ⟨row,false⟩ a b hx1 h8 ha1 hb1
      generalize forkP d s ⟨row,false⟩ a b = F at c4 ⊢
      unfold resK at c4
      refine acall_on (mu := [4]) [] [] mixed Tryz.func48 rfl rfl rfl ?_
      conv => whnf
      repeat' ((first
      | refine ob ?_
      | refine ⟨_, _, _, .flat _ _ rfl (q0) rfl, ?_⟩
      | refine ⟨_, _, _, .gen [901,900] _ _ _ rfl (c1) rfl rfl rfl rfl rfl, ?_⟩
      | refine ⟨_, _, _, .flat _ _ rfl (q1) rfl, ?_⟩
      | refine ⟨_, _, _, .gen [901,900] _ _ _ rfl (c4) rfl rfl rfl rfl rfl, ?_⟩
      | ((refine ⟨_, _, _, .flat _ _ rfl (.arg ?harg (q0)) rfl, ?_⟩); case harg => (repeat' (first | exact sm | apply And.intro)))
      | ((refine ⟨_, _, _, .gen [901,900] _ _ _ rfl (.arg ?harg (c1)) rfl rfl rfl rfl rfl, ?_⟩); case harg => (repeat' (first | exact sm | apply And.intro)))
      | ((refine ⟨_, _, _, .flat _ _ rfl (.arg ?harg (q1)) rfl, ?_⟩); case harg => (repeat' (first | exact sm | apply And.intro)))
      | ((refine ⟨_, _, _, .gen [901,900] _ _ _ rfl (.arg ?harg (c4)) rfl rfl rfl rfl rfl, ?_⟩); case harg => (repeat' (first | exact sm | apply And.intro))) | (refine And.intro (fun hq => ?_) (fun hq => ?_) <;> first | exact cl1 | ((try simp only [bl] at hq); (try dsimp only at hq); first | exact cl2 | skip))
      | refine fun hq => ?_ | refine ob3 ?_ | fail) <;> conv => whnf)
      all_goals (repeat' (first | exact sm | apply And.intro))
    ·rw [decide_eq_false e] at q1
     have c2 := kside_ok d dep s h1 h8 (by omega) p x.row hpl hxl
     have gs := G.size
     cases hv : Kd.ltAt (dep % d) p x.row with
     | true =>
      rw [hv, if_pos rfl] at c2
      rw [remP_lt hz hg e hv]
      have c3 := kremove_ok d h1 h8 f s a p (dep + 1) hs G.ga hp (by omega) (by omega)
      have g1 := PGood.rem h1 h8 f s a p (dep + 1) hs
      generalize remP d f s a p (dep + 1) = R1 at c3 g1 ⊢
      obtain ⟨s1, k1, e1⟩ := R1
      by_cases he1 : e1 = 0
      ·subst he1
       rw [Kd.then_ok _ rfl]
       dsimp only at c3 g1 ⊢
       have hs1 := g1.s
       have hx1 := G.row
       have ha1 : KidGood d k1 := g1.k
       have hb1 := G.gb
       have pk := Kd.kid_pos ha1
       have c4 := kfork_ok d s1 hs1 x k1 b hx1 h8 ha1 hb1
       generalize forkP d s1 x k1 b = F at c4 ⊢
       unfold resK at c4
       refine acall_on (mu := [4]) [] [] mixed Tryz.func48 rfl rfl rfl ?_
       conv => whnf
       repeat' ((first
       | refine ob ?_
       | refine ⟨_, _, _, .flat _ _ rfl (q0) rfl, ?_⟩
       | refine ⟨_, _, _, .gen [901,900] _ _ _ rfl (c1) rfl rfl rfl rfl rfl, ?_⟩
       | refine ⟨_, _, _, .flat _ _ rfl (q1) rfl, ?_⟩
       | refine ⟨_, _, _, .gen [901,900] _ _ _ rfl (c2) rfl rfl rfl rfl rfl, ?_⟩
       | refine ⟨_, _, _, .gen [901,900] _ _ _ rfl (c3) rfl rfl rfl rfl rfl, ?_⟩
       | refine ⟨_, _, _, .gen [901,900] _ _ _ rfl (c4) rfl rfl rfl rfl rfl, ?_⟩
       | ((refine ⟨_, _, _, .flat _ _ rfl (.arg ?harg (q0)) rfl, ?_⟩); case harg => (repeat' (first | exact sm | apply And.intro)))
       | ((refine ⟨_, _, _, .gen [901,900] _ _ _ rfl (.arg ?harg (c1)) rfl rfl rfl rfl rfl, ?_⟩); case harg => (repeat' (first | exact sm | apply And.intro)))
       | ((refine ⟨_, _, _, .flat _ _ rfl (.arg ?harg (q1)) rfl, ?_⟩); case harg => (repeat' (first | exact sm | apply And.intro)))
       | ((refine ⟨_, _, _, .gen [901,900] _ _ _ rfl (.arg ?harg (c2)) rfl rfl rfl rfl rfl, ?_⟩); case harg => (repeat' (first | exact sm | apply And.intro)))
       | ((refine ⟨_, _, _, .gen [901,900] _ _ _ rfl (.arg ?harg (c3)) rfl rfl rfl rfl rfl, ?_⟩); case harg => (repeat' (first | exact sm | apply And.intro)))
       | ((refine ⟨_, _, _, .gen [901,900] _ _ _ rfl (.arg ?harg (c4)) rfl rfl rfl rfl rfl, ?_⟩); case harg => (repeat' (first | exact sm | apply And.intro))) | (refine And.intro (fun hq => ?_) (fun hq => ?_) <;> first | exact cl1 | ((try simp only [bl] at hq); (try dsimp only at hq); first | exact cl2 | skip))
       | refine fun hq => ?_ | refine ob3 ?_ | fail) <;> conv => whnf)
       all_goals (repeat' (first | exact sm | apply And.intro))
      ·rw [Kd.then_no _ rfl he1]
       dsimp only at c3 ⊢
       unfold resK at c3
       dsimp only at c3
       refine acall_on (mu := [4]) [] [] mixed Tryz.func48 rfl rfl rfl ?_
       conv => whnf
       repeat' ((first
       | refine ob ?_
       | refine ⟨_, _, _, .flat _ _ rfl (q0) rfl, ?_⟩
       | refine ⟨_, _, _, .gen [901,900] _ _ _ rfl (c1) rfl rfl rfl rfl rfl, ?_⟩
       | refine ⟨_, _, _, .flat _ _ rfl (q1) rfl, ?_⟩
       | refine ⟨_, _, _, .gen [901,900] _ _ _ rfl (c2) rfl rfl rfl rfl rfl, ?_⟩
       | refine ⟨_, _, _, .gen [901,900] _ _ _ rfl (c3) rfl rfl rfl rfl rfl, ?_⟩
       | ((refine ⟨_, _, _, .flat _ _ rfl (.arg ?harg (q0)) rfl, ?_⟩); case harg => (repeat' (first | exact sm | apply And.intro)))
       | ((refine ⟨_, _, _, .gen [901,900] _ _ _ rfl (.arg ?harg (c1)) rfl rfl rfl rfl rfl, ?_⟩); case harg => (repeat' (first | exact sm | apply And.intro)))
       | ((refine ⟨_, _, _, .flat _ _ rfl (.arg ?harg (q1)) rfl, ?_⟩); case harg => (repeat' (first | exact sm | apply And.intro)))
       | ((refine ⟨_, _, _, .gen [901,900] _ _ _ rfl (.arg ?harg (c2)) rfl rfl rfl rfl rfl, ?_⟩); case harg => (repeat' (first | exact sm | apply And.intro)))
       | ((refine ⟨_, _, _, .gen [901,900] _ _ _ rfl (.arg ?harg (c3)) rfl rfl rfl rfl rfl, ?_⟩); case harg => (repeat' (first | exact sm | apply And.intro))) | (refine And.intro (fun hq => ?_) (fun hq => ?_) <;> first | exact cl1 | ((try simp only [bl] at hq); (try dsimp only at hq); first | exact cl2 | skip))
       | refine fun hq => ?_ | refine ob3 ?_ | fail) <;> conv => whnf)
       all_goals (repeat' (first | exact sm | apply And.intro))
     | false =>
      rw [hv, if_neg (by decide)] at c2
      rw [remP_ge hz hg e hv]
      have c3 := kremove_ok d h1 h8 f s b p (dep + 1) hs G.gb hp (by omega) (by omega)
      have g1 := PGood.rem h1 h8 f s b p (dep + 1) hs
      generalize remP d f s b p (dep + 1) = R1 at c3 g1 ⊢
      obtain ⟨s1, k1, e1⟩ := R1
      by_cases he1 : e1 = 0
      ·subst he1
       rw [Kd.then_ok _ rfl]
       dsimp only at c3 g1 ⊢
       have hs1 := g1.s
       have hx1 := G.row
       have ha1 := G.ga
       have hb1 : KidGood d k1 := g1.k
       have pk := Kd.kid_pos hb1
       have c4 := kfork_ok d s1 hs1 x a k1 hx1 h8 ha1 hb1
       generalize forkP d s1 x a k1 = F at c4 ⊢
       unfold resK at c4
       refine acall_on (mu := [4]) [] [] mixed Tryz.func48 rfl rfl rfl ?_
       conv => whnf
       repeat' ((first
       | refine ob ?_
       | refine ⟨_, _, _, .flat _ _ rfl (q0) rfl, ?_⟩
       | refine ⟨_, _, _, .gen [901,900] _ _ _ rfl (c1) rfl rfl rfl rfl rfl, ?_⟩
       | refine ⟨_, _, _, .flat _ _ rfl (q1) rfl, ?_⟩
       | refine ⟨_, _, _, .gen [901,900] _ _ _ rfl (c2) rfl rfl rfl rfl rfl, ?_⟩
       | refine ⟨_, _, _, .gen [901,900] _ _ _ rfl (c3) rfl rfl rfl rfl rfl, ?_⟩
       | refine ⟨_, _, _, .gen [901,900] _ _ _ rfl (c4) rfl rfl rfl rfl rfl, ?_⟩
       | ((refine ⟨_, _, _, .flat _ _ rfl (.arg ?harg (q0)) rfl, ?_⟩); case harg => (repeat' (first | exact sm | apply And.intro)))
       | ((refine ⟨_, _, _, .gen [901,900] _ _ _ rfl (.arg ?harg (c1)) rfl rfl rfl rfl rfl, ?_⟩); case harg => (repeat' (first | exact sm | apply And.intro)))
       | ((refine ⟨_, _, _, .flat _ _ rfl (.arg ?harg (q1)) rfl, ?_⟩); case harg => (repeat' (first | exact sm | apply And.intro)))
       | ((refine ⟨_, _, _, .gen [901,900] _ _ _ rfl (.arg ?harg (c2)) rfl rfl rfl rfl rfl, ?_⟩); case harg => (repeat' (first | exact sm | apply And.intro)))
       | ((refine ⟨_, _, _, .gen [901,900] _ _ _ rfl (.arg ?harg (c3)) rfl rfl rfl rfl rfl, ?_⟩); case harg => (repeat' (first | exact sm | apply And.intro)))
       | ((refine ⟨_, _, _, .gen [901,900] _ _ _ rfl (.arg ?harg (c4)) rfl rfl rfl rfl rfl, ?_⟩); case harg => (repeat' (first | exact sm | apply And.intro))) | (refine And.intro (fun hq => ?_) (fun hq => ?_) <;> first | exact cl1 | ((try simp only [bl] at hq); (try dsimp only at hq); first | exact cl2 | skip))
       | refine fun hq => ?_ | refine ob3 ?_ | fail) <;> conv => whnf)
       all_goals (repeat' (first | exact sm | apply And.intro))
      ·rw [Kd.then_no _ rfl he1]
       dsimp only at c3 ⊢
       unfold resK at c3
       dsimp only at c3
       refine acall_on (mu := [4]) [] [] mixed Tryz.func48 rfl rfl rfl ?_
       conv => whnf
       repeat' ((first
       | refine ob ?_
       | refine ⟨_, _, _, .flat _ _ rfl (q0) rfl, ?_⟩
       | refine ⟨_, _, _, .gen [901,900] _ _ _ rfl (c1) rfl rfl rfl rfl rfl, ?_⟩
       | refine ⟨_, _, _, .flat _ _ rfl (q1) rfl, ?_⟩
       | refine ⟨_, _, _, .gen [901,900] _ _ _ rfl (c2) rfl rfl rfl rfl rfl, ?_⟩
       | refine ⟨_, _, _, .gen [901,900] _ _ _ rfl (c3) rfl rfl rfl rfl rfl, ?_⟩
       | ((refine ⟨_, _, _, .flat _ _ rfl (.arg ?harg (q0)) rfl, ?_⟩); case harg => (repeat' (first | exact sm | apply And.intro)))
       | ((refine ⟨_, _, _, .gen [901,900] _ _ _ rfl (.arg ?harg (c1)) rfl rfl rfl rfl rfl, ?_⟩); case harg => (repeat' (first | exact sm | apply And.intro)))
       | ((refine ⟨_, _, _, .flat _ _ rfl (.arg ?harg (q1)) rfl, ?_⟩); case harg => (repeat' (first | exact sm | apply And.intro)))
       | ((refine ⟨_, _, _, .gen [901,900] _ _ _ rfl (.arg ?harg (c2)) rfl rfl rfl rfl rfl, ?_⟩); case harg => (repeat' (first | exact sm | apply And.intro)))
       | ((refine ⟨_, _, _, .gen [901,900] _ _ _ rfl (.arg ?harg (c3)) rfl rfl rfl rfl rfl, ?_⟩); case harg => (repeat' (first | exact sm | apply And.intro))) | (refine And.intro (fun hq => ?_) (fun hq => ?_) <;> first | exact cl1 | ((try simp only [bl] at hq); (try dsimp only at hq); first | exact cl2 | skip))
       | refine fun hq => ?_ | refine ob3 ?_ | fail) <;> conv => whnf)
       all_goals (repeat' (first | exact sm | apply And.intro))
end Go.Proofs.YtedokpgkjcnoiaaGreat
