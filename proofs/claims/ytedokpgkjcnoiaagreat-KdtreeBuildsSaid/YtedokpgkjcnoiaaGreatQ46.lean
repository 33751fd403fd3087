/- kdtree: anew, insert, remove. -/
import Derived.Test.YtedokpgkjcnoiaaGreatQ44
set_option linter.unusedVariables false
set_option linter.unusedSimpArgs false
namespace Go.Proofs.YtedokpgkjcnoiaaGreat
open Go.RowKit
open Kd (nPut nGet forkN forkP tGet KidGood RwOk layP thenP PGood liveP anewP againP insP remP)
set_option maxRecDepth 100000
set_option maxHeartbeats 4000000
theorem kanew_ok (d : Nat) (h1 : 1 ≤ d) (h8 : d ≤ 8) (s : Sto) (k : KidD) (dep : Nat) (hs : StoOk s) (hk : KidGood d k) (hd : dep ≤ 100000000) : ACall Tryz.prog 49 [treeA d, agD (kidL k), exI .i64 dep] (stoH 900 901 s) (resK (anewP d s k dep)) (stoH 900 901 (anewP d s k dep).1) := by
 have c1 := klive_ok d h1 h8 (k.size.toNat + 1) s k hs hk (by omega)
 have hp := Kd.kid_pos hk
 unfold anewP
 cases hl : liveP d (k.size.toNat + 1) s k with
 | none =>
  rw [hl] at c1
  refine acall_on (mu := [3]) [] [] mixed Tryz.func49 rfl rfl rfl ?_
  conv => whnf
  repeat' ((first
  | refine ob ?_
  | refine ⟨_, _, _, .gen [901,900] _ _ _ rfl (c1) rfl rfl rfl rfl rfl, ?_⟩
  | ((refine ⟨_, _, _, .gen [901,900] _ _ _ rfl (.arg ?harg (c1)) rfl rfl rfl rfl rfl, ?_⟩); case harg => (repeat' (first | exact sm | apply And.intro))) | (refine And.intro (fun hq => ?_) (fun hq => ?_) <;> first | exact cl1 | ((try simp only [bl] at hq); (try dsimp only at hq); first | exact cl2 | skip))
  | refine fun hq => ?_ | refine ob3 ?_ | fail) <;> conv => whnf)
  all_goals (repeat' (first | exact sm | apply And.intro))
 | some l =>
  rw [hl] at c1
  obtain ⟨hr, hn⟩ := Kd.live_ok _ s k l hs hl
  have hn := hn hk
  have c2 := klay_ok d h1 h8 l.length s l dep hs (Nat.le_refl _) (by omega) (by omega) hr
  dsimp only
  generalize layP d l.length s l dep = R at c2 ⊢
  refine acall_on (mu := [3]) [] [] mixed Tryz.func49 rfl rfl rfl ?_
  conv => whnf
  repeat' ((first
  | refine ob ?_
  | refine ⟨_, _, _, .gen [901,900] _ _ _ rfl (c1) rfl rfl rfl rfl rfl, ?_⟩
  | refine ⟨_, _, _, .gen [901,900] _ _ _ rfl (c2) rfl rfl rfl rfl rfl, ?_⟩
  | ((refine ⟨_, _, _, .gen [901,900] _ _ _ rfl (.arg ?harg (c1)) rfl rfl rfl rfl rfl, ?_⟩); case harg => (repeat' (first | exact sm | apply And.intro)))
  | ((refine ⟨_, _, _, .gen [901,900] _ _ _ rfl (.arg ?harg (c2)) rfl rfl rfl rfl rfl, ?_⟩); case harg => (repeat' (first | exact sm | apply And.intro))) | (refine And.intro (fun hq => ?_) (fun hq => ?_) <;> first | exact cl1 | ((try simp only [bl] at hq); (try dsimp only at hq); first | exact cl2 | skip))
  | refine fun hq => ?_ | refine ob3 ?_ | fail) <;> conv => whnf)
  all_goals (repeat' (first | exact sm | apply And.intro))
theorem max_if (a b : Int) : max a b = if b > a then b else a := by
 rcases Int.lt_or_le a b with h | h
 ·rw [if_pos h, Int.max_eq_right (by omega)]
 ·rw [if_neg (by omega), Int.max_eq_left h]
theorem againP_no {d : Nat} {s : Sto} {x : EntD} {a b : KidD} {dep : Nat} (h : (forkP d s x a b).2.2 ≠ 0) : againP d s x a b dep = forkP d s x a b := if_neg (fun q => h q.1)
theorem againP_light {d : Nat} {s : Sto} {x : EntD} {a b : KidD} {dep : Nat} (h : ¬ (if b.size > a.size then b.size else a.size) > Int.tdiv (2 * (forkP d s x a b).2.1.size) 3 + 1) : againP d s x a b dep = forkP d s x a b := if_neg (fun q => h (by rw [← max_if]; exact q.2))
theorem againP_heavy {d : Nat} {s : Sto} {x : EntD} {a b : KidD} {dep : Nat} (h0 : (forkP d s x a b).2.2 = 0) (h : (if b.size > a.size then b.size else a.size) > Int.tdiv (2 * (forkP d s x a b).2.1.size) 3 + 1) : againP d s x a b dep = anewP d (forkP d s x a b).1 (forkP d s x a b).2.1 dep := if_pos ⟨h0, by rw [max_if]; exact h⟩
theorem kinsert_ok (d : Nat) (h1 : 1 ≤ d) (h8 : d ≤ 8) : ∀ (f : Nat) (s : Sto) (k : KidD) (p : Rw) (dep : Nat), StoOk s → KidGood d k → RwOk d p → k.size.toNat < f → dep + f ≤ 100000000 → ACall Tryz.prog 45 [treeA d, agD (kidL k), .d (i64L p), exI .i64 dep] (stoH 900 901 s) (resK (insP d f s k p dep)) (stoH 900 901 (insP d f s k p dep).1)
 | 0, s, k, p, dep, hs, hk, hp, hf, hd => by omega
 | f + 1, s, k, p, dep, hs, hk, hp, hf, hd => by
  have q0 := nempty_any k ⟨hk.o.lo, hk.o.hi, hk.o.key⟩
  rw [kidS_zero hk.o.s] at q0
  have hpl := hp.1
  by_cases hz : k = Pl.kidZ
  ·subst hz
   rw [decide_eq_true rfl] at q0
   rw [Kd.insP_Z]
   have c4 := kfork_ok d s hs ⟨p, true⟩ Pl.kidZ Pl.kidZ hp h8 hk hk
   generalize forkP d s ⟨p, true⟩ Pl.kidZ Pl.kidZ = F at c4 ⊢
   refine acall_on (mu := [4,5]) [] [] mixed Tryz.func45 rfl rfl rfl ?_
   conv => whnf
   repeat' ((first
   | refine ob ?_
   | refine ⟨_, _, _, .flat _ _ rfl (q0) rfl, ?_⟩
   | refine ⟨_, _, _, .gen [901,900] _ _ _ rfl (c4) rfl rfl rfl rfl rfl, ?_⟩
   | ((refine ⟨_, _, _, .flat _ _ rfl (.arg ?harg (q0)) rfl, ?_⟩); case harg => (repeat' (first | exact sm | apply And.intro)))
   | ((refine ⟨_, _, _, .gen [901,900] _ _ _ rfl (.arg ?harg (c4)) rfl rfl rfl rfl rfl, ?_⟩); case harg => (repeat' (first | exact sm | apply And.intro))) | (refine And.intro (fun hq => ?_) (fun hq => ?_) <;> first | exact cl1 | ((try simp only [bl] at hq); (try dsimp only at hq); first | exact cl2 | skip))
   | refine fun hq => ?_ | refine ob3 ?_ | fail) <;> conv => whnf)
   all_goals (repeat' (first | exact sm | apply And.intro))
  ·rw [decide_eq_false hz] at q0
   cases hg : tGet s d k with
   | none =>
    rw [Kd.insP_none hz hg]
    have c1 := kgetO_no d s hs k hk hg
    refine acall_on (mu := [4,5]) [] [] mixed Tryz.func45 rfl rfl rfl ?_
    conv => whnf
    repeat' ((first
    | refine ob ?_
    | refine ⟨_, _, _, .flat _ _ rfl (q0) rfl, ?_⟩
    | refine ⟨_, _, _, .gen [901,900] _ _ _ rfl (c1) rfl rfl rfl rfl rfl, ?_⟩
    | ((refine ⟨_, _, _, .flat _ _ rfl (.arg ?harg (q0)) rfl, ?_⟩); case harg => (repeat' (first | exact sm | apply And.intro)))
    | ((refine ⟨_, _, _, .gen [901,900] _ _ _ rfl (.arg ?harg (c1)) rfl rfl rfl rfl rfl, ?_⟩); case harg => (repeat' (first | exact sm | apply And.intro))) | (refine And.intro (fun hq => ?_) (fun hq => ?_) <;> first | exact cl1 | ((try simp only [bl] at hq); (try dsimp only at hq); first | exact cl2 | skip))
    | refine fun hq => ?_ | refine ob3 ?_ | fail) <;> conv => whnf)
    all_goals (repeat' (first | exact sm | apply And.intro))
   | some Q =>
    obtain ⟨x, a, b⟩ := Q
    have c1 := kgetO_ok d s hs k hk x a b hg
    have G := Kd.tGet_good hs hg
    have hxl := G.row.1
    have q1 := equal_any x.row p (by omega)
    have pa := Kd.kid_pos G.ga
    have pb := Kd.kid_pos G.gb
    have hl2 : [a, b].length = 2 := rfl
    by_cases e : x.row = p
    ·rw [decide_eq_true e] at q1
     cases hv : x.live with
     | true =>
      rw [Kd.insP_dup hz hg e hv]
      obtain ⟨row, lve⟩ := x
      obtain rfl : lve = true := hv
      refine acall_on (mu := [4,5]) [] [] mixed Tryz.func45 rfl rfl rfl ?_
      conv => whnf
      repeat' ((first
      | refine ob ?_
      | refine ⟨_, _, _, .flat _ _ rfl (q0) rfl, ?_⟩
      | refine ⟨_, _, _, .gen [901,900] _ _ _ rfl (c1) rfl rfl rfl rfl rfl, ?_⟩
      | refine ⟨_, _, _, .flat _ _ rfl (q1) rfl, ?_⟩
      | ((refine ⟨_, _, _, .flat _ _ rfl (.arg ?harg (q0)) rfl, ?_⟩); case harg => (repeat' (first | exact sm | apply And.intro)))
      | ((refine ⟨_, _, _, .gen [901,900] _ _ _ rfl (.arg ?harg (c1)) rfl rfl rfl rfl rfl, ?_⟩); case harg => (repeat' (first | exact sm | apply And.intro)))
      | ((refine ⟨_, _, _, .flat _ _ rfl (.arg ?harg (q1)) rfl, ?_⟩); case harg => (repeat' (first | exact sm | apply And.intro))) | (refine And.intro (fun hq => ?_) (fun hq => ?_) <;> first | exact cl1 | ((try simp only [bl] at hq); (try dsimp only at hq); first | exact cl2 | skip))
      | refine fun hq => ?_ | refine ob3 ?_ | fail) <;> conv => whnf)
      all_goals (repeat' (first | exact sm | apply And.intro))
     | false =>
      rw [Kd.insP_rev hz hg e hv]
      obtain ⟨row, lve⟩ := x
      obtain rfl : lve = false := hv
      have hs1 := hs
      have hx1 : RwOk d (EntD.mk row true).row := G.row
      have ha1 := G.ga
      have hb1 := G.gb
      have c4 := kfork_ok d s hs1 ⟨row,true⟩ a b hx1 h8 ha1 hb1
      have g4 := PGood.fork h1 h8 hs1 hx1 ha1 hb1
      have c5 := kanew_ok d h1 h8 (forkP d s ⟨row,true⟩ a b).1 (forkP d s ⟨row,true⟩ a b).2.1 dep g4.s g4.k (by omega)
      have pz := Kd.kid_pos g4.k
      have n1 := againP_no (d := d) (s := s) (x := ⟨row,true⟩) (a := a) (b := b) (dep := dep)
      have n2 := againP_light (d := d) (s := s) (x := ⟨row,true⟩) (a := a) (b := b) (dep := dep)
      have n3 := againP_heavy (d := d) (s := s) (x := ⟨row,true⟩) (a := a) (b := b) (dep := dep)
      generalize forkP d s ⟨row,true⟩ a b = F at c4 g4 c5 pz n1 n2 n3
      generalize againP d s ⟨row,true⟩ a b dep = R at n1 n2 n3 ⊢
      have tb : 0 ≤ Int.tdiv (2 * F.2.1.size) 3 ∧ Int.tdiv (2 * F.2.1.size) 3 ≤ 2000000 := by rw [Int.tdiv_eq_ediv_of_nonneg (by omega)]; omega
      unfold resK at c4
      by_cases he : F.2.2 = 0
      ·by_cases hm : (if (b).size > (a).size then (b).size else (a).size) > Int.tdiv (2 * F.2.1.size) 3 + 1
       ·obtain rfl := n3 he hm
        generalize anewP d F.1 F.2.1 dep = R5 at c5 ⊢
        refine acall_on (mu := [4,5]) [] [] mixed Tryz.func45 rfl rfl rfl ?_
        conv => whnf
        repeat' ((first
        | refine ob ?_
        | refine ⟨_, _, _, .flat _ _ rfl (q0) rfl, ?_⟩
        | refine ⟨_, _, _, .gen [901,900] _ _ _ rfl (c1) rfl rfl rfl rfl rfl, ?_⟩
        | refine ⟨_, _, _, .flat _ _ rfl (q1) rfl, ?_⟩
        | refine ⟨_, _, _, .gen [901,900] _ _ _ rfl (c4) rfl rfl rfl rfl rfl, ?_⟩
        | refine ⟨_, _, _, .gen [901,900] _ _ _ rfl (c5) rfl rfl rfl rfl rfl, ?_⟩
        | ((refine ⟨_, _, _, .flat _ _ rfl (.arg ?harg (q0)) rfl, ?_⟩); case harg => (repeat' (first | exact sm | apply And.intro)))
        | ((refine ⟨_, _, _, .gen [901,900] _ _ _ rfl (.arg ?harg (c1)) rfl rfl rfl rfl rfl, ?_⟩); case harg => (repeat' (first | exact sm | apply And.intro)))
        | ((refine ⟨_, _, _, .flat _ _ rfl (.arg ?harg (q1)) rfl, ?_⟩); case harg => (repeat' (first | exact sm | apply And.intro)))
        | ((refine ⟨_, _, _, .gen [901,900] _ _ _ rfl (.arg ?harg (c4)) rfl rfl rfl rfl rfl, ?_⟩); case harg => (repeat' (first | exact sm | apply And.intro)))
        | ((refine ⟨_, _, _, .gen [901,900] _ _ _ rfl (.arg ?harg (c5)) rfl rfl rfl rfl rfl, ?_⟩); case harg => (repeat' (first | exact sm | apply And.intro))) | (refine And.intro (fun hq => ?_) (fun hq => ?_) <;> first | exact cl1 | ((try simp only [bl] at hq); (try dsimp only at hq); first | exact cl2 | skip))
        | refine fun hq => ?_ | refine ob3 ?_ | fail) <;> conv => whnf)
        all_goals (repeat' (first | exact sm | apply And.intro))
       ·obtain rfl := n2 hm
        clear c5
        refine acall_on (mu := [4,5]) [] [] mixed Tryz.func45 rfl rfl rfl ?_
        conv => whnf
        repeat' ((first
        | refine ob ?_
        | refine ⟨_, _, _, .flat _ _ rfl (q0) rfl, ?_⟩
        | refine ⟨_, _, _, .gen [901,900] _ _ _ rfl (c1) rfl rfl rfl rfl rfl, ?_⟩
        | refine ⟨_, _, _, .flat _ _ rfl (q1) rfl, ?_⟩
        | refine ⟨_, _, _, .gen [901,900] _ _ _ rfl (c4) rfl rfl rfl rfl rfl, ?_⟩
        | ((refine ⟨_, _, _, .flat _ _ rfl (.arg ?harg (q0)) rfl, ?_⟩); case harg => (repeat' (first | exact sm | apply And.intro)))
        | ((refine ⟨_, _, _, .gen [901,900] _ _ _ rfl (.arg ?harg (c1)) rfl rfl rfl rfl rfl, ?_⟩); case harg => (repeat' (first | exact sm | apply And.intro)))
        | ((refine ⟨_, _, _, .flat _ _ rfl (.arg ?harg (q1)) rfl, ?_⟩); case harg => (repeat' (first | exact sm | apply And.intro)))
        | ((refine ⟨_, _, _, .gen [901,900] _ _ _ rfl (.arg ?harg (c4)) rfl rfl rfl rfl rfl, ?_⟩); case harg => (repeat' (first | exact sm | apply And.intro))) | (refine And.intro (fun hq => ?_) (fun hq => ?_) <;> first | exact cl1 | ((try simp only [bl] at hq); (try dsimp only at hq); first | exact cl2 | skip))
        | refine fun hq => ?_ | refine ob3 ?_ | fail) <;> conv => whnf)
        all_goals (repeat' (first | exact sm | apply And.intro))
      ·obtain rfl := n1 he
       clear c5
       refine acall_on (mu := [4,5]) [] [] mixed Tryz.func45 rfl rfl rfl ?_
       conv => whnf
       repeat' ((first
       | refine ob ?_
       | refine ⟨_, _, _, .flat _ _ rfl (q0) rfl, ?_⟩
       | refine ⟨_, _, _, .gen [901,900] _ _ _ rfl (c1) rfl rfl rfl rfl rfl, ?_⟩
       | refine ⟨_, _, _, .flat _ _ rfl (q1) rfl, ?_⟩
       | refine ⟨_, _, _, .gen [901,900] _ _ _ rfl (c4) rfl rfl rfl rfl rfl, ?_⟩
       | ((refine ⟨_, _, _, .flat _ _ rfl (.arg ?harg (q0)) rfl, ?_⟩); case harg => (repeat' (first | exact sm | apply And.intro)))
       | ((refine ⟨_, _, _, .gen [901,900] _ _ _ rfl (.arg ?harg (c1)) rfl rfl rfl rfl rfl, ?_⟩); case harg => (repeat' (first | exact sm | apply And.intro)))
       | ((refine ⟨_, _, _, .flat _ _ rfl (.arg ?harg (q1)) rfl, ?_⟩); case harg => (repeat' (first | exact sm | apply And.intro)))
       | ((refine ⟨_, _, _, .gen [901,900] _ _ _ rfl (.arg ?harg (c4)) rfl rfl rfl rfl rfl, ?_⟩); case harg => (repeat' (first | exact sm | apply And.intro))) | (refine And.intro (fun hq => ?_) (fun hq => ?_) <;> first | exact cl1 | ((try simp only [bl] at hq); (try dsimp only at hq); first | exact cl2 | skip))
       | refine fun hq => ?_ | refine ob3 ?_ | fail) <;> conv => whnf)
       all_goals (repeat' (first | exact sm | apply And.intro))
    ·rw [decide_eq_false e] at q1
     have c2 := kside_ok d dep s h1 h8 (by omega) p x.row hpl hxl
     have gs := G.size
     cases hv : Kd.ltAt (dep % d) p x.row with
     | true =>
      rw [hv, if_pos rfl] at c2
      rw [Kd.insP_lt hz hg e hv]
      have c3 := kinsert_ok d h1 h8 f s a p (dep + 1) hs G.ga hp (by omega) (by omega)
      have g1 := PGood.ins h1 h8 f s a p (dep + 1) hs hp
      generalize insP d f s a p (dep + 1) = R1 at c3 g1 ⊢
      obtain ⟨s1, k1, e1⟩ := R1
      by_cases he1 : e1 = 0
      ·subst he1
       rw [Kd.then_ok _ rfl]
       dsimp only at c3 g1 ⊢
       have hs1 := g1.s
       have hx1 := G.row
       have ha1 : KidGood d k1 := g1.k
       have hb1 := G.gb
       have pk := Kd.kid_pos ha1
       have c4 := kfork_ok d s1 hs1 x k1 b hx1 h8 ha1 hb1
       have g4 := PGood.fork h1 h8 hs1 hx1 ha1 hb1
       have c5 := kanew_ok d h1 h8 (forkP d s1 x k1 b).1 (forkP d s1 x k1 b).2.1 dep g4.s g4.k (by omega)
       have pz := Kd.kid_pos g4.k
       have n1 := againP_no (d := d) (s := s1) (x := x) (a := k1) (b := b) (dep := dep)
       have n2 := againP_light (d := d) (s := s1) (x := x) (a := k1) (b := b) (dep := dep)
       have n3 := againP_heavy (d := d) (s := s1) (x := x) (a := k1) (b := b) (dep := dep)
       generalize forkP d s1 x k1 b = F at c4 g4 c5 pz n1 n2 n3
       generalize againP d s1 x k1 b dep = R at n1 n2 n3 ⊢
       have tb : 0 ≤ Int.tdiv (2 * F.2.1.size) 3 ∧ Int.tdiv (2 * F.2.1.size) 3 ≤ 2000000 := by rw [Int.tdiv_eq_ediv_of_nonneg (by omega)]; omega
       unfold resK at c4
       by_cases he : F.2.2 = 0
       ·by_cases hm : (if (b).size > (k1).size then (b).size else (k1).size) > Int.tdiv (2 * F.2.1.size) 3 + 1
        ·obtain rfl := n3 he hm
         generalize anewP d F.1 F.2.1 dep = R5 at c5 ⊢
         refine acall_on (mu := [4,5]) [] [] mixed Tryz.func45 rfl rfl rfl ?_
         conv => whnf
         repeat' ((first
         | refine ob ?_
         | refine ⟨_, _, _, .flat _ _ rfl (q0) rfl, ?_⟩
         | refine ⟨_, _, _, .gen [901,900] _ _ _ rfl (c1) rfl rfl rfl rfl rfl, ?_⟩
         | refine ⟨_, _, _, .flat _ _ rfl (q1) rfl, ?_⟩
         | refine ⟨_, _, _, .gen [901,900] _ _ _ rfl (c2) rfl rfl rfl rfl rfl, ?_⟩
         | refine ⟨_, _, _, .gen [901,900] _ _ _ rfl (c3) rfl rfl rfl rfl rfl, ?_⟩
         | refine ⟨_, _, _, .gen [901,900] _ _ _ rfl (c4) rfl rfl rfl rfl rfl, ?_⟩
         | refine ⟨_, _, _, .gen [901,900] _ _ _ rfl (c5) rfl rfl rfl rfl rfl, ?_⟩
         | ((refine ⟨_, _, _, .flat _ _ rfl (.arg ?harg (q0)) rfl, ?_⟩); case harg => (repeat' (first | exact sm | apply And.intro)))
         | ((refine ⟨_, _, _, .gen [901,900] _ _ _ rfl (.arg ?harg (c1)) rfl rfl rfl rfl rfl, ?_⟩); case harg => (repeat' (first | exact sm | apply And.intro)))
         | ((refine ⟨_, _, _, .flat _ _ rfl (.arg ?harg (q1)) rfl, ?_⟩); case harg => (repeat' (first | exact sm | apply And.intro)))
         | ((refine ⟨_, _, _, .gen [901,900] _ _ _ rfl (.arg ?harg (c2)) rfl rfl rfl rfl rfl, ?_⟩); case harg => (repeat' (first | exact sm | apply And.intro)))
         | ((refine ⟨_, _, _, .gen [901,900] _ _ _ rfl (.arg ?harg (c3)) rfl rfl rfl rfl rfl, ?_⟩); case harg => (repeat' (first | exact sm | apply And.intro)))
         | ((refine ⟨_, _, _, .gen [901,900] _ _ _ rfl (.arg ?harg (c4)) rfl rfl rfl rfl rfl, ?_⟩); case harg => (repeat' (first | exact sm | apply And.intro)))
         | ((refine ⟨_, _, _, .gen [901,900] _ _ _ rfl (.arg ?harg (c5)) rfl rfl rfl rfl rfl, ?_⟩); case harg => (repeat' (first | exact sm | apply And.intro))) | (refine And.intro (fun hq => ?_) (fun hq => ?_) <;> first | exact cl1 | ((try simp only [bl] at hq); (try dsimp only at hq); first | exact cl2 | skip))
         | refine fun hq => ?_ | refine ob3 ?_ | fail) <;> conv => whnf)
         all_goals (repeat' (first | exact sm | apply And.intro))
        ·obtain rfl := n2 hm
         clear c5
         refine acall_on (mu := [4,5]) [] [] mixed Tryz.func45 rfl rfl rfl ?_
         conv => whnf
         repeat' ((first
         | refine ob ?_
         | refine ⟨_, _, _, .flat _ _ rfl (q0) rfl, ?_⟩
         | refine ⟨_, _, _, .gen [901,900] _ _ _ rfl (c1) rfl rfl rfl rfl rfl, ?_⟩
         | refine ⟨_, _, _, .flat _ _ rfl (q1) rfl, ?_⟩
         | refine ⟨_, _, _, .gen [901,900] _ _ _ rfl (c2) rfl rfl rfl rfl rfl, ?_⟩
         | refine ⟨_, _, _, .gen [901,900] _ _ _ rfl (c3) rfl rfl rfl rfl rfl, ?_⟩
         | refine ⟨_, _, _, .gen [901,900] _ _ _ rfl (c4) rfl rfl rfl rfl rfl, ?_⟩
         | ((refine ⟨_, _, _, .flat _ _ rfl (.arg ?harg (q0)) rfl, ?_⟩); case harg => (repeat' (first | exact sm | apply And.intro)))
         | ((refine ⟨_, _, _, .gen [901,900] _ _ _ rfl (.arg ?harg (c1)) rfl rfl rfl rfl rfl, ?_⟩); case harg => (repeat' (first | exact sm | apply And.intro)))
         | ((refine ⟨_, _, _, .flat _ _ rfl (.arg ?harg (q1)) rfl, ?_⟩); case harg => (repeat' (first | exact sm | apply And.intro)))
         | ((refine ⟨_, _, _, .gen [901,900] _ _ _ rfl (.arg ?harg (c2)) rfl rfl rfl rfl rfl, ?_⟩); case harg => (repeat' (first | exact sm | apply And.intro)))
         | ((refine ⟨_, _, _, .gen [901,900] _ _ _ rfl (.arg ?harg (c3)) rfl rfl rfl rfl rfl, ?_⟩); case harg => (repeat' (first | exact sm | apply And.intro)))
         | ((refine ⟨_, _, _, .gen [901,900] _ _ _ rfl (.arg ?harg (c4)) rfl rfl rfl rfl rfl, ?_⟩); case harg => (repeat' (first | exact sm | apply And.intro))) | (refine And.intro (fun hq => ?_) (fun hq => ?_) <;> first | exact cl1 | ((try simp only [bl] at hq); (try dsimp only at hq); first | exact cl2 | skip))
         | refine fun hq => ?_ | refine ob3 ?_ | fail) <;> conv => whnf)
         all_goals (repeat' (first | exact sm | apply And.intro))
       ·obtain rfl := n1 he
        clear c5
        refine acall_on (mu := [4,5]) [] [] mixed Tryz.func45 rfl rfl rfl ?_
        conv => whnf
        repeat' ((first
        | refine ob ?_
        | refine ⟨_, _, _, .flat _ _ rfl (q0) rfl, ?_⟩
        | refine ⟨_, _, _, .gen [901,900] _ _ _ rfl (c1) rfl rfl rfl rfl rfl, ?_⟩
        | refine ⟨_, _, _, .flat _ _ rfl (q1) rfl, ?_⟩
        | refine ⟨_, _, _, .gen [901,900] _ _ _ rfl (c2) rfl rfl rfl rfl rfl, ?_⟩
        | refine ⟨_, _, _, .gen [901,900] _ _ _ rfl (c3) rfl rfl rfl rfl rfl, ?_⟩
        | refine ⟨_, _, _, .gen [901,900] _ _ _ rfl (c4) rfl rfl rfl rfl rfl, ?_⟩
        | ((refine ⟨_, _, _, .flat _ _ rfl (.arg ?harg (q0)) rfl, ?_⟩); case harg => (repeat' (first | exact sm | apply And.intro)))
        | ((refine ⟨_, _, _, .gen [901,900] _ _ _ rfl (.arg ?harg (c1)) rfl rfl rfl rfl rfl, ?_⟩); case harg => (repeat' (first | exact sm | apply And.intro)))
        | ((refine ⟨_, _, _, .flat _ _ rfl (.arg ?harg (q1)) rfl, ?_⟩); case harg => (repeat' (first | exact sm | apply And.intro)))
        | ((refine ⟨_, _, _, .gen [901,900] _ _ _ rfl (.arg ?harg (c2)) rfl rfl rfl rfl rfl, ?_⟩); case harg => (repeat' (first | exact sm | apply And.intro)))
        | ((refine ⟨_, _, _, .gen [901,900] _ _ _ rfl (.arg ?harg (c3)) rfl rfl rfl rfl rfl, ?_⟩); case harg => (repeat' (first | exact sm | apply And.intro)))
        | ((refine ⟨_, _, _, .gen [901,900] _ _ _ rfl (.arg ?harg (c4)) rfl rfl rfl rfl rfl, ?_⟩); case harg => (repeat' (first | exact sm | apply And.intro))) | (refine And.intro (fun hq => ?_) (fun hq => ?_) <;> first | exact cl1 | ((try simp only [bl] at hq); (try dsimp only at hq); first | exact cl2 | skip))
        | refine fun hq => ?_ | refine ob3 ?_ | fail) <;> conv => whnf)
        all_goals (repeat' (first | exact sm | apply And.intro))
      ·rw [Kd.then_no _ rfl he1]
       dsimp only at c3 ⊢
       unfold resK at c3
       dsimp only at c3
       refine acall_on (mu := [4,5]) [] [] mixed Tryz.func45 rfl rfl rfl ?_
       conv => whnf
       repeat' ((first
       | refine ob ?_
       | refine ⟨_, _, _, .flat _ _ rfl (q0) rfl, ?_⟩
       | refine ⟨_, _, _, .gen [901,900] _ _ _ rfl (c1) rfl rfl rfl rfl rfl, ?_⟩
       | refine ⟨_, _, _, .flat _ _ rfl (q1) rfl, ?_⟩
       | refine ⟨_, _, _, .gen [901,900] _ _ _ rfl (c2) rfl rfl rfl rfl rfl, ?_⟩
       | refine ⟨_, _, _, .gen [901,900] _ _ _ rfl (c3) rfl rfl rfl rfl rfl, ?_⟩
       | ((refine ⟨_, _, _, .flat _ _ rfl (.arg ?harg (q0)) rfl, ?_⟩); case harg => (repeat' (first | exact sm | apply And.intro)))
       | ((refine ⟨_, _, _, .gen [901,900] _ _ _ rfl (.arg ?harg (c1)) rfl rfl rfl rfl rfl, ?_⟩); case harg => (repeat' (first | exact sm | apply And.intro)))
       | ((refine ⟨_, _, _, .flat _ _ rfl (.arg ?harg (q1)) rfl, ?_⟩); case harg => (repeat' (first | exact sm | apply And.intro)))
       | ((refine ⟨_, _, _, .gen [901,900] _ _ _ rfl (.arg ?harg (c2)) rfl rfl rfl rfl rfl, ?_⟩); case harg => (repeat' (first | exact sm | apply And.intro)))
       | ((refine ⟨_, _, _, .gen [901,900] _ _ _ rfl (.arg ?harg (c3)) rfl rfl rfl rfl rfl, ?_⟩); case harg => (repeat' (first | exact sm | apply And.intro))) | (refine And.intro (fun hq => ?_) (fun hq => ?_) <;> first | exact cl1 | ((try simp only [bl] at hq); (try dsimp only at hq); first | exact cl2 | skip))
       | refine fun hq => ?_ | refine ob3 ?_ | fail) <;> conv => whnf)
       all_goals (repeat' (first | exact sm | apply And.intro))
     | false =>
      rw [hv, if_neg (by decide)] at c2
      rw [Kd.insP_ge hz hg e hv]
      have c3 := kinsert_ok d h1 h8 f s b p (dep + 1) hs G.gb hp (by omega) (by omega)
      have g1 := PGood.ins h1 h8 f s b p (dep + 1) hs hp
      generalize insP d f s b p (dep + 1) = R1 at c3 g1 ⊢
      obtain ⟨s1, k1, e1⟩ := R1
      by_cases he1 : e1 = 0
      ·subst he1
       rw [Kd.then_ok _ rfl]
       dsimp only at c3 g1 ⊢
       have hs1 := g1.s
       have hx1 := G.row
       have ha1 := G.ga
       have hb1 : KidGood d k1 := g1.k
       have pk := Kd.kid_pos hb1
       have c4 := kfork_ok d s1 hs1 x a k1 hx1 h8 ha1 hb1
       have g4 := PGood.fork h1 h8 hs1 hx1 ha1 hb1
       have c5 := kanew_ok d h1 h8 (forkP d s1 x a k1).1 (forkP d s1 x a k1).2.1 dep g4.s g4.k (by omega)
       have pz := Kd.kid_pos g4.k
       have n1 := againP_no (d := d) (s := s1) (x := x) (a := a) (b := k1) (dep := dep)
       have n2 := againP_light (d := d) (s := s1) (x := x) (a := a) (b := k1) (dep := dep)
       have n3 := againP_heavy (d := d) (s := s1) (x := x) (a := a) (b := k1) (dep := dep)
       generalize forkP d s1 x a k1 = F at c4 g4 c5 pz n1 n2 n3
       generalize againP d s1 x a k1 dep = R at n1 n2 n3 ⊢
       have tb : 0 ≤ Int.tdiv (2 * F.2.1.size) 3 ∧ Int.tdiv (2 * F.2.1.size) 3 ≤ 2000000 := by rw [Int.tdiv_eq_ediv_of_nonneg (by omega)]; omega
       unfold resK at c4
       by_cases he : F.2.2 = 0
       ·by_cases hm : (if (k1).size > (a).size then (k1).size else (a).size) > Int.tdiv (2 * F.2.1.size) 3 + 1
        ·obtain rfl := n3 he hm
         generalize anewP d F.1 F.2.1 dep = R5 at c5 ⊢
         refine acall_on (mu := [4,5]) [] [] mixed Tryz.func45 rfl rfl rfl ?_
         conv => whnf
         repeat' ((first
         | refine ob ?_
         | refine ⟨_, _, _, .flat _ _ rfl (q0) rfl, ?_⟩
         | refine ⟨_, _, _, .gen [901,900] _ _ _ rfl (c1) rfl rfl rfl rfl rfl, ?_⟩
         | refine ⟨_, _, _, .flat _ _ rfl (q1) rfl, ?_⟩
         | refine ⟨_, _, _, .gen [901,900] _ _ _ rfl (c2) rfl rfl rfl rfl rfl, ?_⟩
         | refine ⟨_, _, _, .gen [901,900] _ _ _ rfl (c3) rfl rfl rfl rfl rfl, ?_⟩
         | refine ⟨_, _, _, .gen [901,900] _ _ _ rfl (c4) rfl rfl rfl rfl rfl, ?_⟩
         | refine ⟨_, _, _, .gen [901,900] _ _ _ rfl (c5) rfl rfl rfl rfl rfl, ?_⟩
         | ((refine ⟨_, _, _, .flat _ _ rfl (.arg ?harg (q0)) rfl, ?_⟩); case harg => (repeat' (first | exact sm | apply And.intro)))
         | ((refine ⟨_, _, _, .gen [901,900] _ _ _ rfl (.arg ?harg (c1)) rfl rfl rfl rfl rfl, ?_⟩); case harg => (repeat' (first | exact sm | apply And.intro)))
         | ((refine ⟨_, _, _, .flat _ _ rfl (.arg ?harg (q1)) rfl, ?_⟩); case harg => (repeat' (first | exact sm | apply And.intro)))
         | ((refine ⟨_, _, _, .gen [901,900] _ _ _ rfl (.arg ?harg (c2)) rfl rfl rfl rfl rfl, ?_⟩); case harg => (repeat' (first | exact sm | apply And.intro)))
         | ((refine ⟨_, _, _, .gen [901,900] _ _ _ rfl (.arg ?harg (c3)) rfl rfl rfl rfl rfl, ?_⟩); case harg => (repeat' (first | exact sm | apply And.intro)))
         | ((refine ⟨_, _, _, .gen [901,900] _ _ _ rfl (.arg ?harg (c4)) rfl rfl rfl rfl rfl, ?_⟩); case harg => (repeat' (first | exact sm | apply And.intro)))
         | ((refine ⟨_, _, _, .gen [901,900] _ _ _ rfl (.arg ?harg (c5)) rfl rfl rfl rfl rfl, ?_⟩); case harg => (repeat' (first | exact sm | apply And.intro))) | (refine And.intro (fun hq => ?_) (fun hq => ?_) <;> first | exact cl1 | ((try simp only [bl] at hq); (try dsimp only at hq); first | exact cl2 | skip))
         | refine fun hq => ?_ | refine ob3 ?_ | fail) <;> conv => whnf)
         all_goals (repeat' (first | exact sm | apply And.intro))
        ·obtain rfl := n2 hm
         clear c5
         refine acall_on (mu := [4,5]) [] [] mixed Tryz.func45 rfl rfl rfl ?_
         conv => whnf
         repeat' ((first
         | refine ob ?_
         | refine ⟨_, _, _, .flat _ _ rfl (q0) rfl, ?_⟩
         | refine ⟨_, _, _, .gen [901,900] _ _ _ rfl (c1) rfl rfl rfl rfl rfl, ?_⟩
         | refine ⟨_, _, _, .flat _ _ rfl (q1) rfl, ?_⟩
         | refine ⟨_, _, _, .gen [901,900] _ _ _ rfl (c2) rfl rfl rfl rfl rfl, ?_⟩
         | refine ⟨_, _, _, .gen [901,900] _ _ _ rfl (c3) rfl rfl rfl rfl rfl, ?_⟩
         | refine ⟨_, _, _, .gen [901,900] _ _ _ rfl (c4) rfl rfl rfl rfl rfl, ?_⟩
         | ((refine ⟨_, _, _, .flat _ _ rfl (.arg ?harg (q0)) rfl, ?_⟩); case harg => (repeat' (first | exact sm | apply And.intro)))
         | ((refine ⟨_, _, _, .gen [901,900] _ _ _ rfl (.arg ?harg (c1)) rfl rfl rfl rfl rfl, ?_⟩); case harg => (repeat' (first | exact sm | apply And.intro)))
         | ((refine ⟨_, _, _, .flat _ _ rfl (.arg ?harg (q1)) rfl, ?_⟩); case harg => (repeat' (first | exact sm | apply And.intro)))
         | ((refine ⟨_, _, _, .gen [901,900] _ _ _ rfl (.arg ?harg (c2)) rfl rfl rfl rfl rfl, ?_⟩); case harg => (repeat' (first | exact sm | apply And.intro)))
         | ((refine ⟨_, _, _, .gen [901,900] _ _ _ rfl (.arg ?harg (c3)) rfl rfl rfl rfl rfl, ?_⟩); case harg => (repeat' (first | exact sm | apply And.intro)))
         | ((refine ⟨_, _, _, .gen [901,900] _ _ _ rfl (.arg ?harg (c4)) rfl rfl rfl rfl rfl, ?_⟩); case harg => (repeat' (first | exact sm | apply And.intro))) | (refine And.intro (fun hq => ?_) (fun hq => ?_) <;> first | exact cl1 | ((try simp only [bl] at hq); (try dsimp only at hq); first | exact cl2 | skip))
         | refine fun hq => ?_ | refine ob3 ?_ | fail) <;> conv => whnf)
         all_goals (repeat' (first | exact sm | apply And.intro))
       ·obtain rfl := n1 he
        clear c5
        refine acall_on (mu := [4,5]) [] [] mixed Tryz.func45 rfl rfl rfl ?_
        conv => whnf
        repeat' ((first
        | refine ob ?_
        | refine ⟨_, _, _, .flat _ _ rfl (q0) rfl, ?_⟩
        | refine ⟨_, _, _, .gen [901,900] _ _ _ rfl (c1) rfl rfl rfl rfl rfl, ?_⟩
        | refine ⟨_, _, _, .flat _ _ rfl (q1) rfl, ?_⟩
        | refine ⟨_, _, _, .gen [901,900] _ _ _ rfl (c2) rfl rfl rfl rfl rfl, ?_⟩
        | refine ⟨_, _, _, .gen [901,900] _ _ _ rfl (c3) rfl rfl rfl rfl rfl, ?_⟩
        | refine ⟨_, _, _, .gen [901,900] _ _ _ rfl (c4) rfl rfl rfl rfl rfl, ?_⟩
        | ((refine ⟨_, _, _, .flat _ _ rfl (.arg ?harg (q0)) rfl, ?_⟩); case harg => (repeat' (first | exact sm | apply And.intro)))
        | ((refine ⟨_, _, _, .gen [901,900] _ _ _ rfl (.arg ?harg (c1)) rfl rfl rfl rfl rfl, ?_⟩); case harg => (repeat' (first | exact sm | apply And.intro)))
        | ((refine ⟨_, _, _, .flat _ _ rfl (.arg ?harg (q1)) rfl, ?_⟩); case harg => (repeat' (first | exact sm | apply And.intro)))
        | ((refine ⟨_, _, _, .gen [901,900] _ _ _ rfl (.arg ?harg (c2)) rfl rfl rfl rfl rfl, ?_⟩); case harg => (repeat' (first | exact sm | apply And.intro)))
        | ((refine ⟨_, _, _, .gen [901,900] _ _ _ rfl (.arg ?harg (c3)) rfl rfl rfl rfl rfl, ?_⟩); case harg => (repeat' (first | exact sm | apply And.intro)))
        | ((refine ⟨_, _, _, .gen [901,900] _ _ _ rfl (.arg ?harg (c4)) rfl rfl rfl rfl rfl, ?_⟩); case harg => (repeat' (first | exact sm | apply And.intro))) | (refine And.intro (fun hq => ?_) (fun hq => ?_) <;> first | exact cl1 | ((try simp only [bl] at hq); (try dsimp only at hq); first | exact cl2 | skip))
        | refine fun hq => ?_ | refine ob3 ?_ | fail) <;> conv => whnf)
        all_goals (repeat' (first | exact sm | apply And.intro))
      ·rw [Kd.then_no _ rfl he1]
       dsimp only at c3 ⊢
       unfold resK at c3
       dsimp only at c3
       refine acall_on (mu := [4,5]) [] [] mixed Tryz.func45 rfl rfl rfl ?_
       conv => whnf
       repeat' ((first
       | refine ob ?_
       | refine ⟨_, _, _, .flat _ _ rfl (q0) rfl, ?_⟩
       | refine ⟨_, _, _, .gen [901,900] _ _ _ rfl (c1) rfl rfl rfl rfl rfl, ?_⟩
       | refine ⟨_, _, _, .flat _ _ rfl (q1) rfl, ?_⟩
       | refine ⟨_, _, _, .gen [901,900] _ _ _ rfl (c2) rfl rfl rfl rfl rfl, ?_⟩
       | refine ⟨_, _, _, .gen [901,900] _ _ _ rfl (c3) rfl rfl rfl rfl rfl, ?_⟩
       | ((refine ⟨_, _, _, .flat _ _ rfl (.arg ?harg (q0)) rfl, ?_⟩); case harg => (repeat' (first | exact sm | apply And.intro)))
       | ((refine ⟨_, _, _, .gen [901,900] _ _ _ rfl (.arg ?harg (c1)) rfl rfl rfl rfl rfl, ?_⟩); case harg => (repeat' (first | exact sm | apply And.intro)))
       | ((refine ⟨_, _, _, .flat _ _ rfl (.arg ?harg (q1)) rfl, ?_⟩); case harg => (repeat' (first | exact sm | apply And.intro)))
       | ((refine ⟨_, _, _, .gen [901,900] _ _ _ rfl (.arg ?harg (c2)) rfl rfl rfl rfl rfl, ?_⟩); case harg => (repeat' (first | exact sm | apply And.intro)))
       | ((refine ⟨_, _, _, .gen [901,900] _ _ _ rfl (.arg ?harg (c3)) rfl rfl rfl rfl rfl, ?_⟩); case harg => (repeat' (first | exact sm | apply And.intro))) | (refine And.intro (fun hq => ?_) (fun hq => ?_) <;> first | exact cl1 | ((try simp only [bl] at hq); (try dsimp only at hq); first | exact cl2 | skip))
       | refine fun hq => ?_ | refine ob3 ?_ | fail) <;> conv => whnf)
       all_goals (repeat' (first | exact sm | apply And.intro))
end Go.Proofs.YtedokpgkjcnoiaaGreat
