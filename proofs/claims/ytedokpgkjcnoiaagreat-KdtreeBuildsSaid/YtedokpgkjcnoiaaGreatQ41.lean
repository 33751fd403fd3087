/- kdtree: right, fork, get, order, side; the tree's orders as closures. The reference's SameRow, Same of boxes, Same of kids. Lists of rows compared by the document's SameRows. -/
import Derived.Test.YtedokpgkjcnoiaaGreatQ21
import Derived.Test.YtedokpgkjcnoiaaGreatQ23
import Derived.Test.YtedokpgkjcnoiaaGreatQ39
import Derived.Test.YtedokpgkjcnoiaaGreatQ40
set_option linter.unusedVariables false
set_option linter.unusedSimpArgs false
namespace Go.Proofs.YtedokpgkjcnoiaaGreat
open Go.RowKit
open Kd (nPut nGet forkN forkP tGet KidGood RwOk)
set_option maxRecDepth 100000
set_option maxHeartbeats 4000000
def rowL (L : List Rw) : DV := .sl 1 L.length (rowF L)
def treeA (d : Nat) : AV := .agg [.ptr 900 0 0 0, exI .i64 d]
/-! ### right -/
theorem kright1 (p : Rw) (d : Int) : ACall Tryz.prog 60 [.d (i64L p), .dp [.v (.int .i64 d)]] [] (exB (!decide ((p.length : Int) = d))) [] := by
 refine acall_of (mu := []) mixed Tryz.func60 rfl rfl rfl ?_
 conv => whnf
 repeat' ((first
 | refine ob ?_
 | (refine And.intro (fun hq => ?_) (fun hq => ?_) <;> first | exact cl1 | ((try simp only [bl] at hq); (try dsimp only at hq); first | exact cl2 | skip))
 | refine fun hq => ?_ | refine ob3 ?_ | fail) <;> conv => whnf)
 all_goals (repeat' (first | exact sm | apply And.intro))
theorem ixrw_at (L : List Rw) (hL : L.length ≤ 1000000) (f : Nat) (c : DV) (p : Rw → Bool) (k : Nat) (hk : k < L.length) (hc : ∀ i, i < L.length → ACall Tryz.prog f [.d (i64L (L.getD i [])), .dp [c]] [] (exB (p (L.getD i []))) []) (h1 : ∀ i, i < k → p (L.getD i []) = false) (h2 : p (L.getD k []) = true) :
    ACall Tryz.prog 83 [.d (rowL L), .fn (.func f) [] [.dp [c]]] [] (exI .i64 k) [] := by
  refine acall_of (mu := []) mixed Tryz.func83 rfl rfl rfl ?_
  conv => whnf
  repeat' ((first
   | refine ob ?_
   | (refine And.intro (fun hq => ?_) (fun hq => ?_) <;> first | exact cl1 | ((try simp only [bl] at hq); (try dsimp only at hq); first | exact cl2 | skip))
   | refine fun hq => ?_ | refine ob3 ?_ | fail) <;> conv => whnf)
  refine ⟨[], ?_⟩
  conv => whnf
  refine ⟨Nat, fun i => i ≤ k, fun i => k - i, fun i => [(4, exI .i64 0), (8, exI .i64 i)], fun _ => [], ⟨0, by omega, ?_⟩, ?_⟩
  · skip
    refine ⟨[], ?_⟩
    conv => whnf
    refine ⟨rfl, ?_, ?_⟩ <;> (repeat' (first | exact sm | apply And.intro))
  intro i hi
  conv => whnf
  have q := hc ((i : Int)).toNat (by omega)
  have ei : ((i : Int)).toNat = i := by omega
  rcases Nat.lt_or_ge i k with hlt | hge
  · rw [show p (L.getD ((i : Int)).toNat []) = false by rw [ei]; exact h1 i hlt] at q
    conv => whnf
    repeat' ((first
     | refine ob ?_
     | refine ⟨_, _, _, .flat _ _ rfl (q) rfl, ?_⟩
     | ((refine ⟨_, _, _, .flat _ _ rfl (.arg ?harg (q)) rfl, ?_⟩); case harg => (repeat' (first | exact sm | apply And.intro))) | (refine And.intro (fun hq => ?_) (fun hq => ?_) <;> first | exact cl1 | ((try simp only [bl] at hq); (try dsimp only at hq); first | exact cl2 | skip))
     | refine fun hq => ?_ | refine ob3 ?_ | fail) <;> conv => whnf)
    refine ⟨i + 1, by omega, by dsimp only; omega, ?_⟩
    refine ⟨[], ?_⟩
    conv => whnf
    refine ⟨rfl, ?_, ?_⟩ <;> (repeat' (first | exact sm | apply And.intro))
  · obtain rfl : i = k := by omega
    rw [show p (L.getD ((i : Int)).toNat []) = true by rw [ei]; exact h2] at q
    conv => whnf
    repeat' ((first
     | refine ob ?_
     | refine ⟨_, _, _, .flat _ _ rfl (q) rfl, ?_⟩
     | ((refine ⟨_, _, _, .flat _ _ rfl (.arg ?harg (q)) rfl, ?_⟩); case harg => (repeat' (first | exact sm | apply And.intro))) | (refine And.intro (fun hq => ?_) (fun hq => ?_) <;> first | exact cl1 | ((try simp only [bl] at hq); (try dsimp only at hq); first | exact cl2 | skip))
     | refine fun hq => ?_ | refine ob3 ?_ | fail) <;> conv => whnf)
    all_goals (repeat' (first | exact sm | apply And.intro))
theorem ixrw_no (L : List Rw) (hL : L.length ≤ 1000000) (f : Nat) (c : DV) (p : Rw → Bool) (hc : ∀ i, i < L.length → ACall Tryz.prog f [.d (i64L (L.getD i [])), .dp [c]] [] (exB (p (L.getD i []))) []) (h1 : ∀ i, i < L.length → p (L.getD i []) = false) :
    ACall Tryz.prog 83 [.d (rowL L), .fn (.func f) [] [.dp [c]]] [] (exI .i64 (-1)) [] := by
  refine acall_of (mu := []) mixed Tryz.func83 rfl rfl rfl ?_
  conv => whnf
  repeat' ((first
   | refine ob ?_
   | (refine And.intro (fun hq => ?_) (fun hq => ?_) <;> first | exact cl1 | ((try simp only [bl] at hq); (try dsimp only at hq); first | exact cl2 | skip))
   | refine fun hq => ?_ | refine ob3 ?_ | fail) <;> conv => whnf)
  refine ⟨[], ?_⟩
  conv => whnf
  refine ⟨Nat, fun i => i ≤ L.length, fun i => L.length - i, fun i => [(4, exI .i64 0), (8, exI .i64 i)], fun _ => [], ⟨0, by omega, ?_⟩, ?_⟩
  · skip
    refine ⟨[], ?_⟩
    conv => whnf
    refine ⟨rfl, ?_, ?_⟩ <;> (repeat' (first | exact sm | apply And.intro))
  intro i hi
  conv => whnf
  rcases Nat.lt_or_ge i L.length with hlt | hge
  · have q := hc ((i : Int)).toNat (by omega)
    have ei : ((i : Int)).toNat = i := by omega
    rw [show p (L.getD ((i : Int)).toNat []) = false by rw [ei]; exact h1 i hlt] at q
    conv => whnf
    repeat' ((first
     | refine ob ?_
     | refine ⟨_, _, _, .flat _ _ rfl (q) rfl, ?_⟩
     | ((refine ⟨_, _, _, .flat _ _ rfl (.arg ?harg (q)) rfl, ?_⟩); case harg => (repeat' (first | exact sm | apply And.intro))) | (refine And.intro (fun hq => ?_) (fun hq => ?_) <;> first | exact cl1 | ((try simp only [bl] at hq); (try dsimp only at hq); first | exact cl2 | skip))
     | refine fun hq => ?_ | refine ob3 ?_ | fail) <;> conv => whnf)
    refine ⟨i + 1, by omega, by dsimp only; omega, ?_⟩
    refine ⟨[], ?_⟩
    conv => whnf
    refine ⟨rfl, ?_, ?_⟩ <;> (repeat' (first | exact sm | apply And.intro))
  · obtain rfl : i = L.length := by omega
    conv => whnf
    repeat' ((first
     | refine ob ?_
     | (refine And.intro (fun hq => ?_) (fun hq => ?_) <;> first | exact cl1 | ((try simp only [bl] at hq); (try dsimp only at hq); first | exact cl2 | skip))
     | refine fun hq => ?_ | refine ob3 ?_ | fail) <;> conv => whnf)
    all_goals (repeat' (first | exact sm | apply And.intro))
theorem firstRw (L : List Rw) (p : Rw → Bool) : (∃ k, k < L.length ∧ (∀ i, i < k → p (L.getD i []) = false) ∧ p (L.getD k []) = true ∧ L.any p = true) ∨ ((∀ i, i < L.length → p (L.getD i []) = false) ∧ L.any p = false) := by
 induction L with
 | nil => right; exact ⟨fun i hi => (by cases hi), rfl⟩
 | cons x L ih =>
  cases hx : p x with
  | true => left; exact ⟨0, by simp, fun i hi => by omega, by simpa using hx, by simp [hx]⟩
  | false =>
   rcases ih with ⟨k, h1, h2, h3, h4⟩ | ⟨h1, h2⟩
   ·left
    refine ⟨k + 1, by simpa using h1, fun i hi => ?_, by simpa using h3, by simp [hx, h4]⟩
    rcases i with _ | i
    ·simpa using hx
    ·simpa using h2 i (by omega)
   ·right
    refine ⟨fun i hi => ?_, by simp [hx, h2]⟩
    rcases i with _ | i
    ·simpa using hx
    ·simpa using h1 i (by simpa using hi)
theorem hasrw_ok (L : List Rw) (hL : L.length ≤ 1000000) (f : Nat) (c : DV) (p : Rw → Bool) (hc : ∀ i, i < L.length → ACall Tryz.prog f [.d (i64L (L.getD i [])), .dp [c]] [] (exB (p (L.getD i []))) []) :
    ACall Tryz.prog 59 [.d (rowL L), .fn (.func f) [] [.dp [c]]] [] (exB (L.any p)) [] := by
  refine acall_of (mu := []) mixed Tryz.func59 rfl rfl rfl ?_
  rcases firstRw L p with ⟨k, h1, h2, h3, h4⟩ | ⟨h1, h2⟩
  · rw [h4]
    conv => whnf
    repeat' ((first
     | refine ob ?_
     | refine ⟨_, _, _, .flat _ _ rfl (ixrw_at L hL f c p k h1 hc h2 h3) rfl, ?_⟩
     | ((refine ⟨_, _, _, .flat _ _ rfl (.arg ?harg (ixrw_at L hL f c p k h1 hc h2 h3)) rfl, ?_⟩); case harg => (repeat' (first | exact sm | apply And.intro))) | (refine And.intro (fun hq => ?_) (fun hq => ?_) <;> first | exact cl1 | ((try simp only [bl] at hq); (try dsimp only at hq); first | exact cl2 | skip))
     | refine fun hq => ?_ | refine ob3 ?_ | fail) <;> conv => whnf)
    all_goals first
      | exact trivial
      | (refine And.intro (congrArg Value.bool ?_) trivial; grind)
      | (refine And.intro (congrArg Value.bool ?_) trivial; simp_all []; done)
      | (refine And.intro (congrArg Value.bool ?_) trivial; simp [] at *; omega)
      | skip
  · rw [h2]
    conv => whnf
    repeat' ((first
     | refine ob ?_
     | refine ⟨_, _, _, .flat _ _ rfl (ixrw_no L hL f c p hc h1) rfl, ?_⟩
     | ((refine ⟨_, _, _, .flat _ _ rfl (.arg ?harg (ixrw_no L hL f c p hc h1)) rfl, ?_⟩); case harg => (repeat' (first | exact sm | apply And.intro))) | (refine And.intro (fun hq => ?_) (fun hq => ?_) <;> first | exact cl1 | ((try simp only [bl] at hq); (try dsimp only at hq); first | exact cl2 | skip))
     | refine fun hq => ?_ | refine ob3 ?_ | fail) <;> conv => whnf)
    all_goals (repeat' (first | exact sm | apply And.intro))
def rightD (d : Int) (L : List Rw) : Bool := decide (1 ≤ d) && (decide (d ≤ 8) && L.all fun p => decide ((p.length : Int) = d))
theorem kright_ok (d : Int) (L : List Rw) (hL : L.length ≤ 1000000) : ACall Tryz.prog 32 [exI .i64 d, .d (rowL L)] [] (exB (rightD d L)) [] := by
 have q := hasrw_ok L hL 60 (.v (.int .i64 d)) (fun p => !decide ((p.length : Int) = d)) (fun i hi => kright1 _ d)
 have e : (L.any fun p => !decide ((p.length : Int) = d)) = !(L.all fun p => decide ((p.length : Int) = d)) := by rw [List.not_all_eq_any_not]
 rw [e] at q
 unfold rightD
 generalize (L.all fun p => decide ((p.length : Int) = d)) = A at q ⊢
 refine acall_of (mu := []) mixed Tryz.func32 rfl rfl rfl ?_
 by_cases h1 : 1 ≤ d
 ·by_cases h8 : d ≤ 8
  ·rw [decide_eq_true h1, decide_eq_true h8]
   conv => whnf
   repeat' ((first
   | refine ob ?_
   | refine ⟨_, _, _, .flat _ _ rfl (q) rfl, ?_⟩
   | ((refine ⟨_, _, _, .flat _ _ rfl (.arg ?harg (q)) rfl, ?_⟩); case harg => (repeat' (first | exact sm | apply And.intro))) | (refine And.intro (fun hq => ?_) (fun hq => ?_) <;> first | exact cl1 | ((try simp only [bl] at hq); (try dsimp only at hq); first | exact cl2 | skip))
   | refine fun hq => ?_ | refine ob3 ?_ | fail) <;> conv => whnf)
   all_goals first
    | exact trivial
    | (refine And.intro (congrArg Value.bool ?_) trivial; grind)
    | (refine And.intro (congrArg Value.bool ?_) trivial; simp_all []; done)
    | (refine And.intro (congrArg Value.bool ?_) trivial; simp [] at *; omega)
    | skip
  ·rw [decide_eq_true h1, decide_eq_false h8]
   conv => whnf
   repeat' ((first
   | refine ob ?_
   | refine ⟨_, _, _, .flat _ _ rfl (q) rfl, ?_⟩
   | ((refine ⟨_, _, _, .flat _ _ rfl (.arg ?harg (q)) rfl, ?_⟩); case harg => (repeat' (first | exact sm | apply And.intro))) | (refine And.intro (fun hq => ?_) (fun hq => ?_) <;> first | exact cl1 | ((try simp only [bl] at hq); (try dsimp only at hq); first | exact cl2 | skip))
   | refine fun hq => ?_ | refine ob3 ?_ | fail) <;> conv => whnf)
   all_goals first
    | exact trivial
    | (refine And.intro (congrArg Value.bool ?_) trivial; grind)
    | (refine And.intro (congrArg Value.bool ?_) trivial; simp_all []; done)
    | (refine And.intro (congrArg Value.bool ?_) trivial; simp [] at *; omega)
    | skip
 ·rw [decide_eq_false h1]
  conv => whnf
  repeat' ((first
  | refine ob ?_
  | refine ⟨_, _, _, .flat _ _ rfl (q) rfl, ?_⟩
  | ((refine ⟨_, _, _, .flat _ _ rfl (.arg ?harg (q)) rfl, ?_⟩); case harg => (repeat' (first | exact sm | apply And.intro))) | (refine And.intro (fun hq => ?_) (fun hq => ?_) <;> first | exact cl1 | ((try simp only [bl] at hq); (try dsimp only at hq); first | exact cl2 | skip))
  | refine fun hq => ?_ | refine ob3 ?_ | fail) <;> conv => whnf)
  all_goals first
   | exact trivial
   | (refine And.intro (congrArg Value.bool ?_) trivial; grind)
   | (refine And.intro (congrArg Value.bool ?_) trivial; simp_all []; done)
   | (refine And.intro (congrArg Value.bool ?_) trivial; simp [] at *; omega)
   | skip
/-! ### fork, get -/
theorem kfork_ok (d : Nat) (s : Sto) (hs : StoOk s) (x : EntD) (a b : KidD) (hx : RwOk d x.row) (h8 : d ≤ 8) (ha : KidGood d a) (hb : KidGood d b) : ACall Tryz.prog 65 [treeA d, agD (entL x), agD (kidL a), agD (kidL b)] (stoH 900 901 s) (resK (forkP d s x a b)) (stoH 900 901 (forkP d s x a b).1) := by
 have q := nput_ok s hs (forkN x a b) d (Kd.fork_ok hx.2 (by have := hx.1; omega) ha.o hb.o)
 unfold forkP
 generalize nPut s (forkN x a b) d = R at q ⊢
 refine acall_on (mu := [4]) [] [] mixed Tryz.func65 rfl rfl rfl ?_
 conv => whnf
 repeat' ((first
 | refine ob ?_
 | (refine ⟨_, _, _, .gen [901,900] _ _ _ rfl (ACall.deep ?hdeep (q)) rfl rfl rfl rfl rfl, ?_⟩; case hdeep => (repeat' (first | exact AvT.nil | exact AvL.nil | exact DvL.nil | refine AvT.cons ?_ ?_ | refine AvL.cons ?_ ?_ | refine DvL.cons ?_ ?_ | exact AvA.one (.refl _) | exact AvE.refl _ | exact DvE.refl _ | exact DvE.nil _ _ _ _ | refine AvA.agg ?_ | refine AvA.one (.d ?_) | refine AvA.one (.dp ?_) | refine AvE.d ?_ | refine AvE.dp ?_ | refine DvE.sl' ?_ | refine DvE.p' ?_ | (intro k hk; rcases k with _ | _ | _ | _ | _ | _ | k <;> first | (exfalso; omega) | skip)))) | (refine And.intro (fun hq => ?_) (fun hq => ?_) <;> first | exact cl1 | ((try simp only [bl] at hq); (try dsimp only at hq); first | exact cl2 | skip))
 | refine fun hq => ?_ | refine ob3 ?_ | fail) <;> conv => whnf)
 all_goals (repeat' (first | exact sm | apply And.intro))
def entZ : List DV := [.v (.slice none 0 0), .v (.bool false)]
def resT : Option (EntD × KidD × KidD) → AV
 | some (x, a, b) => .tup [agD (entL x), .d (kidsL [a, b]), exI .i64 0]
 | none => .tup [agD entZ, .d (.v (.slice none 0 0)), exI .i64 21]
theorem kget_ok (d : Nat) (s : Sto) (hs : StoOk s) (k : KidD) (hk : KidGood d k) : ACall Tryz.prog 50 [treeA d, agD (kidL k)] (stoH 900 901 s) (resT (tGet s d k)) (stoH 900 901 s) := by
 have q := nget_ok s hs k d hk.o
 unfold tGet
 cases hn : nGet s k d with
 | none =>
  rw [hn] at q
  refine acall_on (mu := [2]) [] [] mixed Tryz.func50 rfl rfl rfl ?_
  conv => whnf
  repeat' ((first
  | refine ob ?_
  | refine ⟨_, _, _, .gen [901,900] _ _ _ rfl (q) rfl rfl rfl rfl rfl, ?_⟩
  | ((refine ⟨_, _, _, .gen [901,900] _ _ _ rfl (.arg ?harg (q)) rfl rfl rfl rfl rfl, ?_⟩); case harg => (repeat' (first | exact sm | apply And.intro))) | (refine And.intro (fun hq => ?_) (fun hq => ?_) <;> first | exact cl1 | ((try simp only [bl] at hq); (try dsimp only at hq); first | exact cl2 | skip))
  | refine fun hq => ?_ | refine ob3 ?_ | fail) <;> conv => whnf)
  all_goals (repeat' (first | exact sm | apply And.intro))
 | some n =>
  rw [hn] at q
  dsimp only
  by_cases h1 : n.kind = 1
  ·rw [if_pos h1]
   obtain ⟨e, hg⟩ := Kd.tGet_node hs hn h1
   generalize n.rows.getD 0 default = x at e hg ⊢
   generalize n.kids.getD 0 default = a at e hg ⊢
   generalize n.kids.getD 1 default = b at e hg ⊢
   subst e
   have r1 : (forkN x a b).rows.length = 1 := rfl
   have r2 : (forkN x a b).kids.length = 2 := rfl
   have r3 : ((forkN x a b).kind : Int) = 1 := rfl
   refine acall_on (mu := [2]) [] [] mixed Tryz.func50 rfl rfl rfl ?_
   conv => whnf
   repeat' ((first
   | refine ob ?_
   | refine ⟨_, _, _, .gen [901,900] _ _ _ rfl (q) rfl rfl rfl rfl rfl, ?_⟩
   | ((refine ⟨_, _, _, .gen [901,900] _ _ _ rfl (.arg ?harg (q)) rfl rfl rfl rfl rfl, ?_⟩); case harg => (repeat' (first | exact sm | apply And.intro))) | (refine And.intro (fun hq => ?_) (fun hq => ?_) <;> first | exact cl1 | ((try simp only [bl] at hq); (try dsimp only at hq); first | exact cl2 | skip))
   | refine fun hq => ?_ | refine ob3 ?_ | fail) <;> conv => whnf)
   all_goals (repeat' (first | exact sm | apply And.intro))
  ·rw [if_neg h1]
   refine acall_on (mu := [2]) [] [] mixed Tryz.func50 rfl rfl rfl ?_
   conv => whnf
   repeat' ((first
   | refine ob ?_
   | refine ⟨_, _, _, .gen [901,900] _ _ _ rfl (q) rfl rfl rfl rfl rfl, ?_⟩
   | ((refine ⟨_, _, _, .gen [901,900] _ _ _ rfl (.arg ?harg (q)) rfl rfl rfl rfl rfl, ?_⟩); case harg => (repeat' (first | exact sm | apply And.intro))) | (refine And.intro (fun hq => ?_) (fun hq => ?_) <;> first | exact cl1 | ((try simp only [bl] at hq); (try dsimp only at hq); first | exact cl2 | skip))
   | refine fun hq => ?_ | refine ob3 ?_ | fail) <;> conv => whnf)
   all_goals (repeat' (first | exact sm | apply And.intro))
end Go.Proofs.YtedokpgkjcnoiaaGreat
namespace Go.Proofs.YtedokpgkjcnoiaaGreat
open Go.RowKit
set_option maxRecDepth 100000
set_option maxHeartbeats 1000000
theorem rsamerow_ok (l m : List Int) (h : l.length ≤ 1000000) : ACall Tryz.prog 10 [.d (i64L l), .d (i64L m)] [] (exB (decide (l = m))) [] := by
 refine acall_of (mu := []) mixed Tryz.func10 rfl rfl rfl ?_
 conv => whnf
 refine ⟨fun a => ?_, fun b => ?_⟩
 ·have hne : l ≠ m := fun e => by subst e; simp at a
  rw [decide_eq_false hne]
  conv => whnf
  all_goals (repeat' (first | exact sm | apply And.intro))
 ·have hl : l.length = m.length := by simp at b; omega
  conv => whnf
  refine ⟨[], ?_⟩
  conv => whnf
  refine ⟨Nat, fun k => k ≤ l.length ∧ ∀ i, i < k → l.getD i 0 = m.getD i 0, fun k => l.length - k, fun k => [(4, exB false), (5, exI .i64 k)], fun _ => [], ⟨0, ⟨by omega, fun i hi => by omega⟩, ?_⟩, ?_⟩
  ·skip
   refine ⟨[], ?_⟩
   conv => whnf
   refine ⟨rfl, ?_, ?_⟩ <;> (repeat' (first | exact sm | apply And.intro))
  intro k ⟨hk, hn⟩
  conv => whnf
  repeat
   first
    | refine And.intro (by omega) ?_
    | refine And.intro rfl ?_
   conv => whnf
  refine ⟨fun hlt => ?_, fun hge => ?_⟩
  ·have hlt : k < l.length := by simpa using hlt
   conv => whnf
   repeat
    first
     | refine And.intro (by omega) ?_
     | refine And.intro rfl ?_
    conv => whnf
   refine ⟨fun he => ?_, fun he => ?_⟩
   ·have hne : l ≠ m := fun e => by subst e; simp at he
    rw [decide_eq_false hne]
    conv => whnf
    all_goals (repeat' (first | exact sm | apply And.intro))
   ·skip
    conv => whnf
    repeat
     first
      | refine And.intro (by omega) ?_
      | refine And.intro rfl ?_
     conv => whnf
    refine ⟨k + 1, ⟨by omega, fun i hi => ?_⟩, by dsimp only; omega, ?_⟩
    ·rcases Nat.lt_or_ge i k with q | q
     ·exact hn i q
     ·obtain rfl : i = k := by omega
      simpa using he
    ·skip
     refine ⟨[], ?_⟩
     conv => whnf
     refine ⟨rfl, ?_, ?_⟩ <;> (repeat' (first | exact sm | apply And.intro))
  ·have hge : ¬ k < l.length := by simpa using hge
   rw [decide_eq_true (list_eq hl fun i hi => hn i (by omega))]
   conv => whnf
   all_goals (repeat' (first | exact sm | apply And.intro))
theorem rboxsame_ok (a b : BoxD) (h1 : a.lo.length ≤ 1000000) (h2 : a.hi.length ≤ 1000000) : ACall Tryz.prog 42 [agD (boxL a), agD (boxL b)] [] (exB (decide (a.lo = b.lo) && decide (a.hi = b.hi))) [] := by
 refine acall_of (mu := []) mixed Tryz.func42 rfl rfl rfl ?_
 conv => whnf
 repeat' ((first
 | refine ob ?_
 | refine ⟨_, _, _, .flat _ _ rfl (rsamerow_ok a.lo b.lo h1) rfl, ?_⟩
 | refine ⟨_, _, _, .flat _ _ rfl (rsamerow_ok a.hi b.hi h2) rfl, ?_⟩
 | ((refine ⟨_, _, _, .flat _ _ rfl (.arg ?harg (rsamerow_ok a.lo b.lo h1)) rfl, ?_⟩); case harg => (repeat' (first | exact sm | apply And.intro)))
 | ((refine ⟨_, _, _, .flat _ _ rfl (.arg ?harg (rsamerow_ok a.hi b.hi h2)) rfl, ?_⟩); case harg => (repeat' (first | exact sm | apply And.intro))) | (refine And.intro (fun hq => ?_) (fun hq => ?_) <;> first | exact cl1 | exact cl3 | skip)
 | refine ob2 ?_ | refine ob4 ?_ | refine fun hq => ?_ | fail) <;> conv => whnf)
 all_goals first
  | exact trivial
  | (refine And.intro (congrArg Value.bool ?_) trivial; grind [boxR])
  | (refine And.intro (congrArg Value.bool ?_) trivial; simp_all [boxR]; done)
  | (refine And.intro (congrArg Value.bool ?_) trivial; simp [boxR] at *; omega)
  | skip
theorem rksame_ok (a b : KidD) (h : a.small) : ACall Tryz.prog 18 [agD (kidL a), agD (kidL b)] [] (exB (kidS a b)) [] := by
 obtain ⟨h1, h2, h3⟩ := h
 refine acall_of (mu := []) mixed Tryz.func18 rfl rfl rfl ?_
 conv => whnf
 refine ⟨fun h => ?_, fun h => ?_⟩
 ·replace h : dgq a.sum b.sum = true := h
  conv => whnf
  repeat' ((first
  | refine ob ?_
  | refine ⟨_, _, _, .flat _ _ rfl (rboxsame_ok a.bx b.bx h1 h2) rfl, ?_⟩
  | refine ⟨_, _, _, .flat _ _ rfl (rsamerow_ok a.key b.key h3) rfl, ?_⟩
  | ((refine ⟨_, _, _, .flat _ _ rfl (.arg ?harg (rboxsame_ok a.bx b.bx h1 h2)) rfl, ?_⟩); case harg => (repeat' (first | exact sm | apply And.intro)))
  | ((refine ⟨_, _, _, .flat _ _ rfl (.arg ?harg (rsamerow_ok a.key b.key h3)) rfl, ?_⟩); case harg => (repeat' (first | exact sm | apply And.intro))) | (refine And.intro (fun hq => ?_) (fun hq => ?_) <;> first | exact cl1 | exact cl3 | skip)
  | refine ob2 ?_ | refine ob4 ?_ | refine fun hq => ?_ | fail) <;> conv => whnf)
  all_goals first
   | exact trivial
   | (refine And.intro (congrArg Value.bool ?_) trivial; grind [kidS, KidD.bx])
   | (refine And.intro (congrArg Value.bool ?_) trivial; simp_all [kidS, KidD.bx]; done)
   | (refine And.intro (congrArg Value.bool ?_) trivial; simp [kidS, KidD.bx] at *; omega)
   | skip
 ·replace h : dgq a.sum b.sum = false := h
  conv => whnf
  repeat' ((first
  | refine ob ?_
  | refine ⟨_, _, _, .flat _ _ rfl (rboxsame_ok a.bx b.bx h1 h2) rfl, ?_⟩
  | refine ⟨_, _, _, .flat _ _ rfl (rsamerow_ok a.key b.key h3) rfl, ?_⟩
  | ((refine ⟨_, _, _, .flat _ _ rfl (.arg ?harg (rboxsame_ok a.bx b.bx h1 h2)) rfl, ?_⟩); case harg => (repeat' (first | exact sm | apply And.intro)))
  | ((refine ⟨_, _, _, .flat _ _ rfl (.arg ?harg (rsamerow_ok a.key b.key h3)) rfl, ?_⟩); case harg => (repeat' (first | exact sm | apply And.intro))) | (refine And.intro (fun hq => ?_) (fun hq => ?_) <;> first | exact cl1 | exact cl3 | skip)
  | refine ob2 ?_ | refine ob4 ?_ | refine fun hq => ?_ | fail) <;> conv => whnf)
  all_goals first
   | exact trivial
   | (refine And.intro (congrArg Value.bool ?_) trivial; grind [kidS])
   | (refine And.intro (congrArg Value.bool ?_) trivial; simp_all [kidS]; done)
   | (refine And.intro (congrArg Value.bool ?_) trivial; simp [kidS] at *; omega)
   | skip
end Go.Proofs.YtedokpgkjcnoiaaGreat
namespace Go.Proofs.YtedokpgkjcnoiaaGreat
open Go.RowKit
open Kd (Rw)
set_option maxRecDepth 100000
set_option maxHeartbeats 4000000
end Go.Proofs.YtedokpgkjcnoiaaGreat
