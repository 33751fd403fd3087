/- Nodes, in the new way: entries, node.every, node.Right. -/
import Derived.Test.YtedokpgkjcnoiaaGreatQ22
import Derived.Test.YtedokpgkjcnoiaaGreatQ23
set_option linter.unusedVariables false
set_option linter.unusedSimpArgs false
namespace Go.Proofs.YtedokpgkjcnoiaaGreat
open Go.RowKit
set_option maxRecDepth 100000
set_option maxHeartbeats 4000000
def entL (e : EntD) : List DV := [i64L e.row, .v (.bool e.live)]
def entsL (l : List EntD) : DV := .sl 2 l.length (fun i => entL (l.getD i default))
def kidsL (l : List KidD) : DV := .sl 37 l.length (fun i => kidL (l.getD i default))
def nodeL (n : NodeD) : List DV := [.v (.int .u8 (n.kind : Nat)), entsL n.rows, kidsL n.kids]
theorem firstP {α : Type} [Inhabited α] (L : List α) (p : α → Bool) : (∃ k, k < L.length ∧ (∀ i, i < k → p (L.getD i default) = false) ∧ p (L.getD k default) = true ∧ L.any p = true) ∨ ((∀ i, i < L.length → p (L.getD i default) = false) ∧ L.any p = false) := by
 induction L with
 | nil => right; exact ⟨fun i hi => (by cases hi), rfl⟩
 | cons x L ih =>
  cases hx : p x with
  | true => left; exact ⟨0, by simp, fun i hi => by omega, by simpa using hx, by simp [hx]⟩
  | false =>
   rcases ih with ⟨k, h1, h2, h3, h4⟩ | ⟨h1, h2⟩
   ·left
    refine ⟨k + 1, by simpa using h1, fun i hi => ?_, by simpa using h3, by simp [hx, h4]⟩
    rcases i with _ | i
    ·simpa using hx
    ·simpa using h2 i (by omega)
   ·right
    refine ⟨fun i hi => ?_, by simp [hx, h2]⟩
    rcases i with _ | i
    ·simpa using hx
    ·simpa using h1 i (by simpa using hi)
theorem ixent_at (l : List EntD) (hL : l.length ≤ 1000000) (f : Nat) (c : Fn) (cs : List DV) (p : EntD → Bool) (k : Nat) (hk : k < l.length) (hc : ∀ i, i < l.length → ACall Tryz.prog f [agD (entL (l.getD i default)), .dp [.fn c cs]] [] (exB (p (l.getD i default))) []) (h1 : ∀ i, i < k → p (l.getD i default) = false) (h2 : p (l.getD k default) = true) :
    ACall Tryz.prog 152 [.d (entsL l), .fn (.func f) [] [.dp [.fn c cs]]] [] (exI .i64 k) [] := by
  refine acall_of (mu := []) mixed Tryz.func152 rfl rfl rfl ?_
  conv => whnf
  repeat' ((first
   | refine ob ?_
   | (refine And.intro (fun hq => ?_) (fun hq => ?_) <;> first | exact cl1 | ((try simp only [bl] at hq); (try dsimp only at hq); first | exact cl2 | skip))
   | refine fun hq => ?_ | refine ob2 ?_ | fail) <;> conv => whnf)
  refine ⟨[], ?_⟩
  conv => whnf
  refine ⟨Nat, fun i => i ≤ k, fun i => k - i, fun i => [(4, exI .i64 0), (8, exI .i64 i)], fun _ => [], ⟨0, by omega, ?_⟩, ?_⟩
  · skip
    refine ⟨[], ?_⟩
    conv => whnf
    refine ⟨rfl, ?_, ?_⟩ <;> (repeat' (first | exact sm | apply And.intro))
  intro i hi
  conv => whnf
  have q := hc ((i : Int)).toNat (by omega)
  have ei : ((i : Int)).toNat = i := by omega
  rcases Nat.lt_or_ge i k with hlt | hge
  · rw [show p (l.getD ((i : Int)).toNat default) = false by rw [ei]; exact h1 i hlt] at q
    conv => whnf
    repeat' ((first
     | refine ob ?_
     | refine ⟨_, _, _, .flat _ _ rfl (q) rfl, ?_⟩
     | ((refine ⟨_, _, _, .flat _ _ rfl (.arg ?harg (q)) rfl, ?_⟩); case harg => (repeat' (first | exact sm | apply And.intro))) | (refine And.intro (fun hq => ?_) (fun hq => ?_) <;> first | exact cl1 | ((try simp only [bl] at hq); (try dsimp only at hq); first | exact cl2 | skip))
     | refine fun hq => ?_ | refine ob2 ?_ | fail) <;> conv => whnf)
    refine ⟨i + 1, by omega, by dsimp only; omega, ?_⟩
    refine ⟨[], ?_⟩
    conv => whnf
    refine ⟨rfl, ?_, ?_⟩ <;> (repeat' (first | exact sm | apply And.intro))
  · obtain rfl : i = k := by omega
    rw [show p (l.getD ((i : Int)).toNat default) = true by rw [ei]; exact h2] at q
    conv => whnf
    repeat' ((first
     | refine ob ?_
     | refine ⟨_, _, _, .flat _ _ rfl (q) rfl, ?_⟩
     | ((refine ⟨_, _, _, .flat _ _ rfl (.arg ?harg (q)) rfl, ?_⟩); case harg => (repeat' (first | exact sm | apply And.intro))) | (refine And.intro (fun hq => ?_) (fun hq => ?_) <;> first | exact cl1 | ((try simp only [bl] at hq); (try dsimp only at hq); first | exact cl2 | skip))
     | refine fun hq => ?_ | refine ob2 ?_ | fail) <;> conv => whnf)
    all_goals (repeat' (first | exact sm | apply And.intro))
theorem ixent_no (l : List EntD) (hL : l.length ≤ 1000000) (f : Nat) (c : Fn) (cs : List DV) (p : EntD → Bool) (hc : ∀ i, i < l.length → ACall Tryz.prog f [agD (entL (l.getD i default)), .dp [.fn c cs]] [] (exB (p (l.getD i default))) []) (h1 : ∀ i, i < l.length → p (l.getD i default) = false) :
    ACall Tryz.prog 152 [.d (entsL l), .fn (.func f) [] [.dp [.fn c cs]]] [] (exI .i64 (-1)) [] := by
  refine acall_of (mu := []) mixed Tryz.func152 rfl rfl rfl ?_
  conv => whnf
  repeat' ((first
   | refine ob ?_
   | (refine And.intro (fun hq => ?_) (fun hq => ?_) <;> first | exact cl1 | ((try simp only [bl] at hq); (try dsimp only at hq); first | exact cl2 | skip))
   | refine fun hq => ?_ | refine ob2 ?_ | fail) <;> conv => whnf)
  refine ⟨[], ?_⟩
  conv => whnf
  refine ⟨Nat, fun i => i ≤ l.length, fun i => l.length - i, fun i => [(4, exI .i64 0), (8, exI .i64 i)], fun _ => [], ⟨0, by omega, ?_⟩, ?_⟩
  · skip
    refine ⟨[], ?_⟩
    conv => whnf
    refine ⟨rfl, ?_, ?_⟩ <;> (repeat' (first | exact sm | apply And.intro))
  intro i hi
  conv => whnf
  rcases Nat.lt_or_ge i l.length with hlt | hge
  · have q := hc ((i : Int)).toNat (by omega)
    have ei : ((i : Int)).toNat = i := by omega
    rw [show p (l.getD ((i : Int)).toNat default) = false by rw [ei]; exact h1 i hlt] at q
    conv => whnf
    repeat' ((first
     | refine ob ?_
     | refine ⟨_, _, _, .flat _ _ rfl (q) rfl, ?_⟩
     | ((refine ⟨_, _, _, .flat _ _ rfl (.arg ?harg (q)) rfl, ?_⟩); case harg => (repeat' (first | exact sm | apply And.intro))) | (refine And.intro (fun hq => ?_) (fun hq => ?_) <;> first | exact cl1 | ((try simp only [bl] at hq); (try dsimp only at hq); first | exact cl2 | skip))
     | refine fun hq => ?_ | refine ob2 ?_ | fail) <;> conv => whnf)
    refine ⟨i + 1, by omega, by dsimp only; omega, ?_⟩
    refine ⟨[], ?_⟩
    conv => whnf
    refine ⟨rfl, ?_, ?_⟩ <;> (repeat' (first | exact sm | apply And.intro))
  · obtain rfl : i = l.length := by omega
    conv => whnf
    repeat' ((first
     | refine ob ?_
     | (refine And.intro (fun hq => ?_) (fun hq => ?_) <;> first | exact cl1 | ((try simp only [bl] at hq); (try dsimp only at hq); first | exact cl2 | skip))
     | refine fun hq => ?_ | refine ob2 ?_ | fail) <;> conv => whnf)
    all_goals (repeat' (first | exact sm | apply And.intro))
theorem hasent_ok (l : List EntD) (hL : l.length ≤ 1000000) (f : Nat) (c : Fn) (cs : List DV) (p : EntD → Bool) (hc : ∀ i, i < l.length → ACall Tryz.prog f [agD (entL (l.getD i default)), .dp [.fn c cs]] [] (exB (p (l.getD i default))) []) :
    ACall Tryz.prog 137 [.d (entsL l), .fn (.func f) [] [.dp [.fn c cs]]] [] (exB (l.any p)) [] := by
  refine acall_of (mu := []) mixed Tryz.func137 rfl rfl rfl ?_
  rcases firstP l p with ⟨k, h1, h2, h3, h4⟩ | ⟨h1, h2⟩
  · rw [h4]
    conv => whnf
    repeat' ((first
     | refine ob ?_
     | refine ⟨_, _, _, .flat _ _ rfl (ixent_at l hL f c cs p k h1 hc h2 h3) rfl, ?_⟩
     | ((refine ⟨_, _, _, .flat _ _ rfl (.arg ?harg (ixent_at l hL f c cs p k h1 hc h2 h3)) rfl, ?_⟩); case harg => (repeat' (first | exact sm | apply And.intro))) | (refine And.intro (fun hq => ?_) (fun hq => ?_) <;> first | exact cl1 | ((try simp only [bl] at hq); (try dsimp only at hq); first | exact cl2 | skip))
     | refine fun hq => ?_ | refine ob2 ?_ | fail) <;> conv => whnf)
    all_goals first
      | exact trivial
      | (refine And.intro (congrArg Value.bool ?_) trivial; grind)
      | (refine And.intro (congrArg Value.bool ?_) trivial; simp_all []; done)
      | (refine And.intro (congrArg Value.bool ?_) trivial; simp [] at *; omega)
      | skip
  · rw [h2]
    conv => whnf
    repeat' ((first
     | refine ob ?_
     | refine ⟨_, _, _, .flat _ _ rfl (ixent_no l hL f c cs p hc h1) rfl, ?_⟩
     | ((refine ⟨_, _, _, .flat _ _ rfl (.arg ?harg (ixent_no l hL f c cs p hc h1)) rfl, ?_⟩); case harg => (repeat' (first | exact sm | apply And.intro))) | (refine And.intro (fun hq => ?_) (fun hq => ?_) <;> first | exact cl1 | ((try simp only [bl] at hq); (try dsimp only at hq); first | exact cl2 | skip))
     | refine fun hq => ?_ | refine ob2 ?_ | fail) <;> conv => whnf)
    all_goals (repeat' (first | exact sm | apply And.intro))
theorem ixentZ_at (l : List EntD) (hL : l.length ≤ 1000000) (f : Nat) (u : Value) (p : EntD → Bool) (k : Nat) (hk : k < l.length) (hc : ∀ i, i < l.length → ACall Tryz.prog f [agD (entL (l.getD i default)), .dp [.v u]] [] (exB (p (l.getD i default))) []) (h1 : ∀ i, i < k → p (l.getD i default) = false) (h2 : p (l.getD k default) = true) :
    ACall Tryz.prog 152 [.d (entsL l), .fn (.func f) [] [.dp [.v u]]] [] (exI .i64 k) [] := by
  refine acall_of (mu := []) mixed Tryz.func152 rfl rfl rfl ?_
  conv => whnf
  repeat' ((first
   | refine ob ?_
   | (refine And.intro (fun hq => ?_) (fun hq => ?_) <;> first | exact cl1 | ((try simp only [bl] at hq); (try dsimp only at hq); first | exact cl2 | skip))
   | refine fun hq => ?_ | refine ob2 ?_ | fail) <;> conv => whnf)
  refine ⟨[], ?_⟩
  conv => whnf
  refine ⟨Nat, fun i => i ≤ k, fun i => k - i, fun i => [(4, exI .i64 0), (8, exI .i64 i)], fun _ => [], ⟨0, by omega, ?_⟩, ?_⟩
  · skip
    refine ⟨[], ?_⟩
    conv => whnf
    refine ⟨rfl, ?_, ?_⟩ <;> (repeat' (first | exact sm | apply And.intro))
  intro i hi
  conv => whnf
  have q := hc ((i : Int)).toNat (by omega)
  have ei : ((i : Int)).toNat = i := by omega
  rcases Nat.lt_or_ge i k with hlt | hge
  · rw [show p (l.getD ((i : Int)).toNat default) = false by rw [ei]; exact h1 i hlt] at q
    conv => whnf
    repeat' ((first
     | refine ob ?_
     | refine ⟨_, _, _, .flat _ _ rfl (q) rfl, ?_⟩
     | ((refine ⟨_, _, _, .flat _ _ rfl (.arg ?harg (q)) rfl, ?_⟩); case harg => (repeat' (first | exact sm | apply And.intro))) | (refine And.intro (fun hq => ?_) (fun hq => ?_) <;> first | exact cl1 | ((try simp only [bl] at hq); (try dsimp only at hq); first | exact cl2 | skip))
     | refine fun hq => ?_ | refine ob2 ?_ | fail) <;> conv => whnf)
    refine ⟨i + 1, by omega, by dsimp only; omega, ?_⟩
    refine ⟨[], ?_⟩
    conv => whnf
    refine ⟨rfl, ?_, ?_⟩ <;> (repeat' (first | exact sm | apply And.intro))
  · obtain rfl : i = k := by omega
    rw [show p (l.getD ((i : Int)).toNat default) = true by rw [ei]; exact h2] at q
    conv => whnf
    repeat' ((first
     | refine ob ?_
     | refine ⟨_, _, _, .flat _ _ rfl (q) rfl, ?_⟩
     | ((refine ⟨_, _, _, .flat _ _ rfl (.arg ?harg (q)) rfl, ?_⟩); case harg => (repeat' (first | exact sm | apply And.intro))) | (refine And.intro (fun hq => ?_) (fun hq => ?_) <;> first | exact cl1 | ((try simp only [bl] at hq); (try dsimp only at hq); first | exact cl2 | skip))
     | refine fun hq => ?_ | refine ob2 ?_ | fail) <;> conv => whnf)
    all_goals (repeat' (first | exact sm | apply And.intro))
theorem ixentZ_no (l : List EntD) (hL : l.length ≤ 1000000) (f : Nat) (u : Value) (p : EntD → Bool) (hc : ∀ i, i < l.length → ACall Tryz.prog f [agD (entL (l.getD i default)), .dp [.v u]] [] (exB (p (l.getD i default))) []) (h1 : ∀ i, i < l.length → p (l.getD i default) = false) :
    ACall Tryz.prog 152 [.d (entsL l), .fn (.func f) [] [.dp [.v u]]] [] (exI .i64 (-1)) [] := by
  refine acall_of (mu := []) mixed Tryz.func152 rfl rfl rfl ?_
  conv => whnf
  repeat' ((first
   | refine ob ?_
   | (refine And.intro (fun hq => ?_) (fun hq => ?_) <;> first | exact cl1 | ((try simp only [bl] at hq); (try dsimp only at hq); first | exact cl2 | skip))
   | refine fun hq => ?_ | refine ob2 ?_ | fail) <;> conv => whnf)
  refine ⟨[], ?_⟩
  conv => whnf
  refine ⟨Nat, fun i => i ≤ l.length, fun i => l.length - i, fun i => [(4, exI .i64 0), (8, exI .i64 i)], fun _ => [], ⟨0, by omega, ?_⟩, ?_⟩
  · skip
    refine ⟨[], ?_⟩
    conv => whnf
    refine ⟨rfl, ?_, ?_⟩ <;> (repeat' (first | exact sm | apply And.intro))
  intro i hi
  conv => whnf
  rcases Nat.lt_or_ge i l.length with hlt | hge
  · have q := hc ((i : Int)).toNat (by omega)
    have ei : ((i : Int)).toNat = i := by omega
    rw [show p (l.getD ((i : Int)).toNat default) = false by rw [ei]; exact h1 i hlt] at q
    conv => whnf
    repeat' ((first
     | refine ob ?_
     | refine ⟨_, _, _, .flat _ _ rfl (q) rfl, ?_⟩
     | ((refine ⟨_, _, _, .flat _ _ rfl (.arg ?harg (q)) rfl, ?_⟩); case harg => (repeat' (first | exact sm | apply And.intro))) | (refine And.intro (fun hq => ?_) (fun hq => ?_) <;> first | exact cl1 | ((try simp only [bl] at hq); (try dsimp only at hq); first | exact cl2 | skip))
     | refine fun hq => ?_ | refine ob2 ?_ | fail) <;> conv => whnf)
    refine ⟨i + 1, by omega, by dsimp only; omega, ?_⟩
    refine ⟨[], ?_⟩
    conv => whnf
    refine ⟨rfl, ?_, ?_⟩ <;> (repeat' (first | exact sm | apply And.intro))
  · obtain rfl : i = l.length := by omega
    conv => whnf
    repeat' ((first
     | refine ob ?_
     | (refine And.intro (fun hq => ?_) (fun hq => ?_) <;> first | exact cl1 | ((try simp only [bl] at hq); (try dsimp only at hq); first | exact cl2 | skip))
     | refine fun hq => ?_ | refine ob2 ?_ | fail) <;> conv => whnf)
    all_goals (repeat' (first | exact sm | apply And.intro))
theorem hasentZ_ok (l : List EntD) (hL : l.length ≤ 1000000) (f : Nat) (u : Value) (p : EntD → Bool) (hc : ∀ i, i < l.length → ACall Tryz.prog f [agD (entL (l.getD i default)), .dp [.v u]] [] (exB (p (l.getD i default))) []) :
    ACall Tryz.prog 137 [.d (entsL l), .fn (.func f) [] [.dp [.v u]]] [] (exB (l.any p)) [] := by
  refine acall_of (mu := []) mixed Tryz.func137 rfl rfl rfl ?_
  rcases firstP l p with ⟨k, h1, h2, h3, h4⟩ | ⟨h1, h2⟩
  · rw [h4]
    conv => whnf
    repeat' ((first
     | refine ob ?_
     | refine ⟨_, _, _, .flat _ _ rfl (ixentZ_at l hL f u p k h1 hc h2 h3) rfl, ?_⟩
     | ((refine ⟨_, _, _, .flat _ _ rfl (.arg ?harg (ixentZ_at l hL f u p k h1 hc h2 h3)) rfl, ?_⟩); case harg => (repeat' (first | exact sm | apply And.intro))) | (refine And.intro (fun hq => ?_) (fun hq => ?_) <;> first | exact cl1 | ((try simp only [bl] at hq); (try dsimp only at hq); first | exact cl2 | skip))
     | refine fun hq => ?_ | refine ob2 ?_ | fail) <;> conv => whnf)
    all_goals first
      | exact trivial
      | (refine And.intro (congrArg Value.bool ?_) trivial; grind)
      | (refine And.intro (congrArg Value.bool ?_) trivial; simp_all []; done)
      | (refine And.intro (congrArg Value.bool ?_) trivial; simp [] at *; omega)
      | skip
  · rw [h2]
    conv => whnf
    repeat' ((first
     | refine ob ?_
     | refine ⟨_, _, _, .flat _ _ rfl (ixentZ_no l hL f u p hc h1) rfl, ?_⟩
     | ((refine ⟨_, _, _, .flat _ _ rfl (.arg ?harg (ixentZ_no l hL f u p hc h1)) rfl, ?_⟩); case harg => (repeat' (first | exact sm | apply And.intro))) | (refine And.intro (fun hq => ?_) (fun hq => ?_) <;> first | exact cl1 | ((try simp only [bl] at hq); (try dsimp only at hq); first | exact cl2 | skip))
     | refine fun hq => ?_ | refine ob2 ?_ | fail) <;> conv => whnf)
    all_goals (repeat' (first | exact sm | apply And.intro))
theorem event_one (e : EntD) (g : Nat) (a : DV) (b : Bool) (h : ACall Tryz.prog g [agD (entL e), .dp [a]] [] (exB b) []) : ACall Tryz.prog 138 [agD (entL e), .dp [.fn (.func g) [.p [a]]]] [] (exB (!b)) [] := by
 refine acall_of (mu := []) mixed Tryz.func138 rfl rfl rfl ?_
 conv => whnf
 repeat' ((first
 | refine ob ?_
 | refine ⟨_, _, _, .flat _ _ rfl (h) rfl, ?_⟩
 | ((refine ⟨_, _, _, .flat _ _ rfl (.arg ?harg (h)) rfl, ?_⟩); case harg => (repeat' (first | exact sm | apply And.intro))) | (refine And.intro (fun hq => ?_) (fun hq => ?_) <;> first | exact cl1 | ((try simp only [bl] at hq); (try dsimp only at hq); first | exact cl2 | skip))
 | refine fun hq => ?_ | refine ob2 ?_ | fail) <;> conv => whnf)
 all_goals (repeat' (first | exact sm | apply And.intro))
theorem event_ok (l : List EntD) (hL : l.length ≤ 1000000) (g : Nat) (z : Int) (p : EntD → Bool) (hc : ∀ i, i < l.length → ACall Tryz.prog g [agD (entL (l.getD i default)), .dp [.v (.int .i64 z)]] [] (exB (p (l.getD i default))) []) :
    ACall Tryz.prog 109 [.d (entsL l), .fn (.func g) [] [.dp [.v (.int .i64 z)]]] [] (exB (l.all p)) [] := by
  refine acall_of (mu := []) mixed Tryz.func109 rfl rfl rfl ?_
  have q := hasent_ok l hL 138 (.func g) [.p [.v (.int .i64 z)]] (fun x => !p x) (fun i hi => event_one _ g _ _ (hc i hi))
  rw [show l.all p = !(l.any fun x => !p x) by rw [List.not_any_eq_all_not]; simp]
  conv => whnf
  repeat' ((first
   | refine ob ?_
   | refine ⟨_, _, _, .flat _ _ rfl (q) rfl, ?_⟩
   | ((refine ⟨_, _, _, .flat _ _ rfl (.arg ?harg (q)) rfl, ?_⟩); case harg => (repeat' (first | exact sm | apply And.intro))) | (refine And.intro (fun hq => ?_) (fun hq => ?_) <;> first | exact cl1 | ((try simp only [bl] at hq); (try dsimp only at hq); first | exact cl2 | skip))
   | refine fun hq => ?_ | refine ob2 ?_ | fail) <;> conv => whnf)
  all_goals (repeat' (first | exact sm | apply And.intro))
theorem event_one0 (e : EntD) (g : Nat) (b : Bool) (h : ACall Tryz.prog g [agD (entL e)] [] (exB b) []) : ACall Tryz.prog 138 [agD (entL e), .dp [.v (.func (.func g) #[] #[])]] [] (exB (!b)) [] := by
 refine acall_of (mu := []) mixed Tryz.func138 rfl rfl rfl ?_
 conv => whnf
 repeat' ((first
 | refine ob ?_
 | refine ⟨_, _, _, .flat _ _ rfl (h) rfl, ?_⟩
 | ((refine ⟨_, _, _, .flat _ _ rfl (.arg ?harg (h)) rfl, ?_⟩); case harg => (repeat' (first | exact sm | apply And.intro))) | (refine And.intro (fun hq => ?_) (fun hq => ?_) <;> first | exact cl1 | ((try simp only [bl] at hq); (try dsimp only at hq); first | exact cl2 | skip))
 | refine fun hq => ?_ | refine ob2 ?_ | fail) <;> conv => whnf)
 all_goals (repeat' (first | exact sm | apply And.intro))
theorem event_ok0 (l : List EntD) (hL : l.length ≤ 1000000) (g : Nat) (p : EntD → Bool) (hc : ∀ i, i < l.length → ACall Tryz.prog g [agD (entL (l.getD i default))] [] (exB (p (l.getD i default))) []) :
    ACall Tryz.prog 109 [.d (entsL l), .d (.v (.func (.func g) #[] #[]))] [] (exB (l.all p)) [] := by
  refine acall_of (mu := []) mixed Tryz.func109 rfl rfl rfl ?_
  have q := hasentZ_ok l hL 138 (.func (.func g) #[] #[]) (fun x => !p x) (fun i hi => event_one0 _ g _ (hc i hi))
  rw [show l.all p = !(l.any fun x => !p x) by rw [List.not_any_eq_all_not]; simp]
  conv => whnf
  repeat' ((first
   | refine ob ?_
   | refine ⟨_, _, _, .flat _ _ rfl (q) rfl, ?_⟩
   | ((refine ⟨_, _, _, .flat _ _ rfl (.arg ?harg (q)) rfl, ?_⟩); case harg => (repeat' (first | exact sm | apply And.intro))) | (refine And.intro (fun hq => ?_) (fun hq => ?_) <;> first | exact cl1 | ((try simp only [bl] at hq); (try dsimp only at hq); first | exact cl2 | skip))
   | refine fun hq => ?_ | refine ob2 ?_ | fail) <;> conv => whnf)
  all_goals (repeat' (first | exact sm | apply And.intro))
theorem ixkid_at (l : List KidD) (hL : l.length ≤ 1000000) (f : Nat) (c : Fn) (cs : List DV) (p : KidD → Bool) (k : Nat) (hk : k < l.length) (hc : ∀ i, i < l.length → ACall Tryz.prog f [agD (kidL (l.getD i default)), .dp [.fn c cs]] [] (exB (p (l.getD i default))) []) (h1 : ∀ i, i < k → p (l.getD i default) = false) (h2 : p (l.getD k default) = true) :
    ACall Tryz.prog 153 [.d (kidsL l), .fn (.func f) [] [.dp [.fn c cs]]] [] (exI .i64 k) [] := by
  refine acall_of (mu := []) mixed Tryz.func153 rfl rfl rfl ?_
  conv => whnf
  repeat' ((first
   | refine ob ?_
   | (refine And.intro (fun hq => ?_) (fun hq => ?_) <;> first | exact cl1 | ((try simp only [bl] at hq); (try dsimp only at hq); first | exact cl2 | skip))
   | refine fun hq => ?_ | refine ob2 ?_ | fail) <;> conv => whnf)
  refine ⟨[], ?_⟩
  conv => whnf
  refine ⟨Nat, fun i => i ≤ k, fun i => k - i, fun i => [(4, exI .i64 0), (8, exI .i64 i)], fun _ => [], ⟨0, by omega, ?_⟩, ?_⟩
  · skip
    refine ⟨[], ?_⟩
    conv => whnf
    refine ⟨rfl, ?_, ?_⟩ <;> (repeat' (first | exact sm | apply And.intro))
  intro i hi
  conv => whnf
  have q := hc ((i : Int)).toNat (by omega)
  have ei : ((i : Int)).toNat = i := by omega
  rcases Nat.lt_or_ge i k with hlt | hge
  · rw [show p (l.getD ((i : Int)).toNat default) = false by rw [ei]; exact h1 i hlt] at q
    conv => whnf
    repeat' ((first
     | refine ob ?_
     | refine ⟨_, _, _, .flat _ _ rfl (q) rfl, ?_⟩
     | ((refine ⟨_, _, _, .flat _ _ rfl (.arg ?harg (q)) rfl, ?_⟩); case harg => (repeat' (first | exact sm | apply And.intro))) | (refine And.intro (fun hq => ?_) (fun hq => ?_) <;> first | exact cl1 | ((try simp only [bl] at hq); (try dsimp only at hq); first | exact cl2 | skip))
     | refine fun hq => ?_ | refine ob2 ?_ | fail) <;> conv => whnf)
    refine ⟨i + 1, by omega, by dsimp only; omega, ?_⟩
    refine ⟨[], ?_⟩
    conv => whnf
    refine ⟨rfl, ?_, ?_⟩ <;> (repeat' (first | exact sm | apply And.intro))
  · obtain rfl : i = k := by omega
    rw [show p (l.getD ((i : Int)).toNat default) = true by rw [ei]; exact h2] at q
    conv => whnf
    repeat' ((first
     | refine ob ?_
     | refine ⟨_, _, _, .flat _ _ rfl (q) rfl, ?_⟩
     | ((refine ⟨_, _, _, .flat _ _ rfl (.arg ?harg (q)) rfl, ?_⟩); case harg => (repeat' (first | exact sm | apply And.intro))) | (refine And.intro (fun hq => ?_) (fun hq => ?_) <;> first | exact cl1 | ((try simp only [bl] at hq); (try dsimp only at hq); first | exact cl2 | skip))
     | refine fun hq => ?_ | refine ob2 ?_ | fail) <;> conv => whnf)
    all_goals (repeat' (first | exact sm | apply And.intro))
theorem ixkid_no (l : List KidD) (hL : l.length ≤ 1000000) (f : Nat) (c : Fn) (cs : List DV) (p : KidD → Bool) (hc : ∀ i, i < l.length → ACall Tryz.prog f [agD (kidL (l.getD i default)), .dp [.fn c cs]] [] (exB (p (l.getD i default))) []) (h1 : ∀ i, i < l.length → p (l.getD i default) = false) :
    ACall Tryz.prog 153 [.d (kidsL l), .fn (.func f) [] [.dp [.fn c cs]]] [] (exI .i64 (-1)) [] := by
  refine acall_of (mu := []) mixed Tryz.func153 rfl rfl rfl ?_
  conv => whnf
  repeat' ((first
   | refine ob ?_
   | (refine And.intro (fun hq => ?_) (fun hq => ?_) <;> first | exact cl1 | ((try simp only [bl] at hq); (try dsimp only at hq); first | exact cl2 | skip))
   | refine fun hq => ?_ | refine ob2 ?_ | fail) <;> conv => whnf)
  refine ⟨[], ?_⟩
  conv => whnf
  refine ⟨Nat, fun i => i ≤ l.length, fun i => l.length - i, fun i => [(4, exI .i64 0), (8, exI .i64 i)], fun _ => [], ⟨0, by omega, ?_⟩, ?_⟩
  · skip
    refine ⟨[], ?_⟩
    conv => whnf
    refine ⟨rfl, ?_, ?_⟩ <;> (repeat' (first | exact sm | apply And.intro))
  intro i hi
  conv => whnf
  rcases Nat.lt_or_ge i l.length with hlt | hge
  · have q := hc ((i : Int)).toNat (by omega)
    have ei : ((i : Int)).toNat = i := by omega
    rw [show p (l.getD ((i : Int)).toNat default) = false by rw [ei]; exact h1 i hlt] at q
    conv => whnf
    repeat' ((first
     | refine ob ?_
     | refine ⟨_, _, _, .flat _ _ rfl (q) rfl, ?_⟩
     | ((refine ⟨_, _, _, .flat _ _ rfl (.arg ?harg (q)) rfl, ?_⟩); case harg => (repeat' (first | exact sm | apply And.intro))) | (refine And.intro (fun hq => ?_) (fun hq => ?_) <;> first | exact cl1 | ((try simp only [bl] at hq); (try dsimp only at hq); first | exact cl2 | skip))
     | refine fun hq => ?_ | refine ob2 ?_ | fail) <;> conv => whnf)
    refine ⟨i + 1, by omega, by dsimp only; omega, ?_⟩
    refine ⟨[], ?_⟩
    conv => whnf
    refine ⟨rfl, ?_, ?_⟩ <;> (repeat' (first | exact sm | apply And.intro))
  · obtain rfl : i = l.length := by omega
    conv => whnf
    repeat' ((first
     | refine ob ?_
     | (refine And.intro (fun hq => ?_) (fun hq => ?_) <;> first | exact cl1 | ((try simp only [bl] at hq); (try dsimp only at hq); first | exact cl2 | skip))
     | refine fun hq => ?_ | refine ob2 ?_ | fail) <;> conv => whnf)
    all_goals (repeat' (first | exact sm | apply And.intro))
theorem haskid_ok (l : List KidD) (hL : l.length ≤ 1000000) (f : Nat) (c : Fn) (cs : List DV) (p : KidD → Bool) (hc : ∀ i, i < l.length → ACall Tryz.prog f [agD (kidL (l.getD i default)), .dp [.fn c cs]] [] (exB (p (l.getD i default))) []) :
    ACall Tryz.prog 139 [.d (kidsL l), .fn (.func f) [] [.dp [.fn c cs]]] [] (exB (l.any p)) [] := by
  refine acall_of (mu := []) mixed Tryz.func139 rfl rfl rfl ?_
  rcases firstP l p with ⟨k, h1, h2, h3, h4⟩ | ⟨h1, h2⟩
  · rw [h4]
    conv => whnf
    repeat' ((first
     | refine ob ?_
     | refine ⟨_, _, _, .flat _ _ rfl (ixkid_at l hL f c cs p k h1 hc h2 h3) rfl, ?_⟩
     | ((refine ⟨_, _, _, .flat _ _ rfl (.arg ?harg (ixkid_at l hL f c cs p k h1 hc h2 h3)) rfl, ?_⟩); case harg => (repeat' (first | exact sm | apply And.intro))) | (refine And.intro (fun hq => ?_) (fun hq => ?_) <;> first | exact cl1 | ((try simp only [bl] at hq); (try dsimp only at hq); first | exact cl2 | skip))
     | refine fun hq => ?_ | refine ob2 ?_ | fail) <;> conv => whnf)
    all_goals first
      | exact trivial
      | (refine And.intro (congrArg Value.bool ?_) trivial; grind)
      | (refine And.intro (congrArg Value.bool ?_) trivial; simp_all []; done)
      | (refine And.intro (congrArg Value.bool ?_) trivial; simp [] at *; omega)
      | skip
  · rw [h2]
    conv => whnf
    repeat' ((first
     | refine ob ?_
     | refine ⟨_, _, _, .flat _ _ rfl (ixkid_no l hL f c cs p hc h1) rfl, ?_⟩
     | ((refine ⟨_, _, _, .flat _ _ rfl (.arg ?harg (ixkid_no l hL f c cs p hc h1)) rfl, ?_⟩); case harg => (repeat' (first | exact sm | apply And.intro))) | (refine And.intro (fun hq => ?_) (fun hq => ?_) <;> first | exact cl1 | ((try simp only [bl] at hq); (try dsimp only at hq); first | exact cl2 | skip))
     | refine fun hq => ?_ | refine ob2 ?_ | fail) <;> conv => whnf)
    all_goals (repeat' (first | exact sm | apply And.intro))
theorem ixkidZ_at (l : List KidD) (hL : l.length ≤ 1000000) (f : Nat) (u : Value) (p : KidD → Bool) (k : Nat) (hk : k < l.length) (hc : ∀ i, i < l.length → ACall Tryz.prog f [agD (kidL (l.getD i default)), .dp [.v u]] [] (exB (p (l.getD i default))) []) (h1 : ∀ i, i < k → p (l.getD i default) = false) (h2 : p (l.getD k default) = true) :
    ACall Tryz.prog 153 [.d (kidsL l), .fn (.func f) [] [.dp [.v u]]] [] (exI .i64 k) [] := by
  refine acall_of (mu := []) mixed Tryz.func153 rfl rfl rfl ?_
  conv => whnf
  repeat' ((first
   | refine ob ?_
   | (refine And.intro (fun hq => ?_) (fun hq => ?_) <;> first | exact cl1 | ((try simp only [bl] at hq); (try dsimp only at hq); first | exact cl2 | skip))
   | refine fun hq => ?_ | refine ob2 ?_ | fail) <;> conv => whnf)
  refine ⟨[], ?_⟩
  conv => whnf
  refine ⟨Nat, fun i => i ≤ k, fun i => k - i, fun i => [(4, exI .i64 0), (8, exI .i64 i)], fun _ => [], ⟨0, by omega, ?_⟩, ?_⟩
  · skip
    refine ⟨[], ?_⟩
    conv => whnf
    refine ⟨rfl, ?_, ?_⟩ <;> (repeat' (first | exact sm | apply And.intro))
  intro i hi
  conv => whnf
  have q := hc ((i : Int)).toNat (by omega)
  have ei : ((i : Int)).toNat = i := by omega
  rcases Nat.lt_or_ge i k with hlt | hge
  · rw [show p (l.getD ((i : Int)).toNat default) = false by rw [ei]; exact h1 i hlt] at q
    conv => whnf
    repeat' ((first
     | refine ob ?_
     | refine ⟨_, _, _, .flat _ _ rfl (q) rfl, ?_⟩
     | ((refine ⟨_, _, _, .flat _ _ rfl (.arg ?harg (q)) rfl, ?_⟩); case harg => (repeat' (first | exact sm | apply And.intro))) | (refine And.intro (fun hq => ?_) (fun hq => ?_) <;> first | exact cl1 | ((try simp only [bl] at hq); (try dsimp only at hq); first | exact cl2 | skip))
     | refine fun hq => ?_ | refine ob2 ?_ | fail) <;> conv => whnf)
    refine ⟨i + 1, by omega, by dsimp only; omega, ?_⟩
    refine ⟨[], ?_⟩
    conv => whnf
    refine ⟨rfl, ?_, ?_⟩ <;> (repeat' (first | exact sm | apply And.intro))
  · obtain rfl : i = k := by omega
    rw [show p (l.getD ((i : Int)).toNat default) = true by rw [ei]; exact h2] at q
    conv => whnf
    repeat' ((first
     | refine ob ?_
     | refine ⟨_, _, _, .flat _ _ rfl (q) rfl, ?_⟩
     | ((refine ⟨_, _, _, .flat _ _ rfl (.arg ?harg (q)) rfl, ?_⟩); case harg => (repeat' (first | exact sm | apply And.intro))) | (refine And.intro (fun hq => ?_) (fun hq => ?_) <;> first | exact cl1 | ((try simp only [bl] at hq); (try dsimp only at hq); first | exact cl2 | skip))
     | refine fun hq => ?_ | refine ob2 ?_ | fail) <;> conv => whnf)
    all_goals (repeat' (first | exact sm | apply And.intro))
theorem ixkidZ_no (l : List KidD) (hL : l.length ≤ 1000000) (f : Nat) (u : Value) (p : KidD → Bool) (hc : ∀ i, i < l.length → ACall Tryz.prog f [agD (kidL (l.getD i default)), .dp [.v u]] [] (exB (p (l.getD i default))) []) (h1 : ∀ i, i < l.length → p (l.getD i default) = false) :
    ACall Tryz.prog 153 [.d (kidsL l), .fn (.func f) [] [.dp [.v u]]] [] (exI .i64 (-1)) [] := by
  refine acall_of (mu := []) mixed Tryz.func153 rfl rfl rfl ?_
  conv => whnf
  repeat' ((first
   | refine ob ?_
   | (refine And.intro (fun hq => ?_) (fun hq => ?_) <;> first | exact cl1 | ((try simp only [bl] at hq); (try dsimp only at hq); first | exact cl2 | skip))
   | refine fun hq => ?_ | refine ob2 ?_ | fail) <;> conv => whnf)
  refine ⟨[], ?_⟩
  conv => whnf
  refine ⟨Nat, fun i => i ≤ l.length, fun i => l.length - i, fun i => [(4, exI .i64 0), (8, exI .i64 i)], fun _ => [], ⟨0, by omega, ?_⟩, ?_⟩
  · skip
    refine ⟨[], ?_⟩
    conv => whnf
    refine ⟨rfl, ?_, ?_⟩ <;> (repeat' (first | exact sm | apply And.intro))
  intro i hi
  conv => whnf
  rcases Nat.lt_or_ge i l.length with hlt | hge
  · have q := hc ((i : Int)).toNat (by omega)
    have ei : ((i : Int)).toNat = i := by omega
    rw [show p (l.getD ((i : Int)).toNat default) = false by rw [ei]; exact h1 i hlt] at q
    conv => whnf
    repeat' ((first
     | refine ob ?_
     | refine ⟨_, _, _, .flat _ _ rfl (q) rfl, ?_⟩
     | ((refine ⟨_, _, _, .flat _ _ rfl (.arg ?harg (q)) rfl, ?_⟩); case harg => (repeat' (first | exact sm | apply And.intro))) | (refine And.intro (fun hq => ?_) (fun hq => ?_) <;> first | exact cl1 | ((try simp only [bl] at hq); (try dsimp only at hq); first | exact cl2 | skip))
     | refine fun hq => ?_ | refine ob2 ?_ | fail) <;> conv => whnf)
    refine ⟨i + 1, by omega, by dsimp only; omega, ?_⟩
    refine ⟨[], ?_⟩
    conv => whnf
    refine ⟨rfl, ?_, ?_⟩ <;> (repeat' (first | exact sm | apply And.intro))
  · obtain rfl : i = l.length := by omega
    conv => whnf
    repeat' ((first
     | refine ob ?_
     | (refine And.intro (fun hq => ?_) (fun hq => ?_) <;> first | exact cl1 | ((try simp only [bl] at hq); (try dsimp only at hq); first | exact cl2 | skip))
     | refine fun hq => ?_ | refine ob2 ?_ | fail) <;> conv => whnf)
    all_goals (repeat' (first | exact sm | apply And.intro))
theorem haskidZ_ok (l : List KidD) (hL : l.length ≤ 1000000) (f : Nat) (u : Value) (p : KidD → Bool) (hc : ∀ i, i < l.length → ACall Tryz.prog f [agD (kidL (l.getD i default)), .dp [.v u]] [] (exB (p (l.getD i default))) []) :
    ACall Tryz.prog 139 [.d (kidsL l), .fn (.func f) [] [.dp [.v u]]] [] (exB (l.any p)) [] := by
  refine acall_of (mu := []) mixed Tryz.func139 rfl rfl rfl ?_
  rcases firstP l p with ⟨k, h1, h2, h3, h4⟩ | ⟨h1, h2⟩
  · rw [h4]
    conv => whnf
    repeat' ((first
     | refine ob ?_
     | refine ⟨_, _, _, .flat _ _ rfl (ixkidZ_at l hL f u p k h1 hc h2 h3) rfl, ?_⟩
     | ((refine ⟨_, _, _, .flat _ _ rfl (.arg ?harg (ixkidZ_at l hL f u p k h1 hc h2 h3)) rfl, ?_⟩); case harg => (repeat' (first | exact sm | apply And.intro))) | (refine And.intro (fun hq => ?_) (fun hq => ?_) <;> first | exact cl1 | ((try simp only [bl] at hq); (try dsimp only at hq); first | exact cl2 | skip))
     | refine fun hq => ?_ | refine ob2 ?_ | fail) <;> conv => whnf)
    all_goals first
      | exact trivial
      | (refine And.intro (congrArg Value.bool ?_) trivial; grind)
      | (refine And.intro (congrArg Value.bool ?_) trivial; simp_all []; done)
      | (refine And.intro (congrArg Value.bool ?_) trivial; simp [] at *; omega)
      | skip
  · rw [h2]
    conv => whnf
    repeat' ((first
     | refine ob ?_
     | refine ⟨_, _, _, .flat _ _ rfl (ixkidZ_no l hL f u p hc h1) rfl, ?_⟩
     | ((refine ⟨_, _, _, .flat _ _ rfl (.arg ?harg (ixkidZ_no l hL f u p hc h1)) rfl, ?_⟩); case harg => (repeat' (first | exact sm | apply And.intro))) | (refine And.intro (fun hq => ?_) (fun hq => ?_) <;> first | exact cl1 | ((try simp only [bl] at hq); (try dsimp only at hq); first | exact cl2 | skip))
     | refine fun hq => ?_ | refine ob2 ?_ | fail) <;> conv => whnf)
    all_goals (repeat' (first | exact sm | apply And.intro))
theorem evkid_one (e : KidD) (g : Nat) (a : DV) (b : Bool) (h : ACall Tryz.prog g [agD (kidL e), .dp [a]] [] (exB b) []) : ACall Tryz.prog 140 [agD (kidL e), .dp [.fn (.func g) [.p [a]]]] [] (exB (!b)) [] := by
 refine acall_of (mu := []) mixed Tryz.func140 rfl rfl rfl ?_
 conv => whnf
 repeat' ((first
 | refine ob ?_
 | refine ⟨_, _, _, .flat _ _ rfl (h) rfl, ?_⟩
 | ((refine ⟨_, _, _, .flat _ _ rfl (.arg ?harg (h)) rfl, ?_⟩); case harg => (repeat' (first | exact sm | apply And.intro))) | (refine And.intro (fun hq => ?_) (fun hq => ?_) <;> first | exact cl1 | ((try simp only [bl] at hq); (try dsimp only at hq); first | exact cl2 | skip))
 | refine fun hq => ?_ | refine ob2 ?_ | fail) <;> conv => whnf)
 all_goals (repeat' (first | exact sm | apply And.intro))
theorem evkid_ok (l : List KidD) (hL : l.length ≤ 1000000) (g : Nat) (z : Int) (p : KidD → Bool) (hc : ∀ i, i < l.length → ACall Tryz.prog g [agD (kidL (l.getD i default)), .dp [.v (.int .i64 z)]] [] (exB (p (l.getD i default))) []) :
    ACall Tryz.prog 111 [.d (kidsL l), .fn (.func g) [] [.dp [.v (.int .i64 z)]]] [] (exB (l.all p)) [] := by
  refine acall_of (mu := []) mixed Tryz.func111 rfl rfl rfl ?_
  have q := haskid_ok l hL 140 (.func g) [.p [.v (.int .i64 z)]] (fun x => !p x) (fun i hi => evkid_one _ g _ _ (hc i hi))
  rw [show l.all p = !(l.any fun x => !p x) by rw [List.not_any_eq_all_not]; simp]
  conv => whnf
  repeat' ((first
   | refine ob ?_
   | refine ⟨_, _, _, .flat _ _ rfl (q) rfl, ?_⟩
   | ((refine ⟨_, _, _, .flat _ _ rfl (.arg ?harg (q)) rfl, ?_⟩); case harg => (repeat' (first | exact sm | apply And.intro))) | (refine And.intro (fun hq => ?_) (fun hq => ?_) <;> first | exact cl1 | ((try simp only [bl] at hq); (try dsimp only at hq); first | exact cl2 | skip))
   | refine fun hq => ?_ | refine ob2 ?_ | fail) <;> conv => whnf)
  all_goals (repeat' (first | exact sm | apply And.intro))
theorem evkid_one0 (e : KidD) (g : Nat) (b : Bool) (h : ACall Tryz.prog g [agD (kidL e)] [] (exB b) []) : ACall Tryz.prog 140 [agD (kidL e), .dp [.v (.func (.func g) #[] #[])]] [] (exB (!b)) [] := by
 refine acall_of (mu := []) mixed Tryz.func140 rfl rfl rfl ?_
 conv => whnf
 repeat' ((first
 | refine ob ?_
 | refine ⟨_, _, _, .flat _ _ rfl (h) rfl, ?_⟩
 | ((refine ⟨_, _, _, .flat _ _ rfl (.arg ?harg (h)) rfl, ?_⟩); case harg => (repeat' (first | exact sm | apply And.intro))) | (refine And.intro (fun hq => ?_) (fun hq => ?_) <;> first | exact cl1 | ((try simp only [bl] at hq); (try dsimp only at hq); first | exact cl2 | skip))
 | refine fun hq => ?_ | refine ob2 ?_ | fail) <;> conv => whnf)
 all_goals (repeat' (first | exact sm | apply And.intro))
theorem evkid_ok0 (l : List KidD) (hL : l.length ≤ 1000000) (g : Nat) (p : KidD → Bool) (hc : ∀ i, i < l.length → ACall Tryz.prog g [agD (kidL (l.getD i default))] [] (exB (p (l.getD i default))) []) :
    ACall Tryz.prog 111 [.d (kidsL l), .d (.v (.func (.func g) #[] #[]))] [] (exB (l.all p)) [] := by
  refine acall_of (mu := []) mixed Tryz.func111 rfl rfl rfl ?_
  have q := haskidZ_ok l hL 140 (.func (.func g) #[] #[]) (fun x => !p x) (fun i hi => evkid_one0 _ g _ (hc i hi))
  rw [show l.all p = !(l.any fun x => !p x) by rw [List.not_any_eq_all_not]; simp]
  conv => whnf
  repeat' ((first
   | refine ob ?_
   | refine ⟨_, _, _, .flat _ _ rfl (q) rfl, ?_⟩
   | ((refine ⟨_, _, _, .flat _ _ rfl (.arg ?harg (q)) rfl, ?_⟩); case harg => (repeat' (first | exact sm | apply And.intro))) | (refine And.intro (fun hq => ?_) (fun hq => ?_) <;> first | exact cl1 | ((try simp only [bl] at hq); (try dsimp only at hq); first | exact cl2 | skip))
   | refine fun hq => ?_ | refine ob2 ?_ | fail) <;> conv => whnf)
  all_goals (repeat' (first | exact sm | apply And.intro))
/-! ### node.Right -/
def nodeK (n : NodeD) (d : Int) : Bool := if n.kind = 1 then decide (n.rows.length = 1) && (decide (n.kids.length = 2) && n.kids.all fun k => decide (k.key.length = 0))
 else if n.kind = 2 then decide (1 ≤ n.rows.length) && (decide (n.rows.length ≤ 4) && (decide (n.kids.length = 0) && n.rows.all fun e => e.live))
 else if n.kind = 3 then decide (n.rows.length = 0) && (decide (2 ≤ n.kids.length) && (decide (n.kids.length ≤ 4) && n.kids.all fun k => decide ((k.key.length : Int) = d) && !kidS k kid0))
 else false
def nodeR (n : NodeD) (d : Int) : Bool := decide (1 ≤ d) && (decide (d ≤ 8) && (n.rows.all (fun e => decide ((e.row.length : Int) = d)) && (n.kids.all (fun k => kidR k d) && nodeK n d)))
structure NodeS (n : NodeD) : Prop where
 rows : n.rows.length ≤ 1000000
 kids : n.kids.length ≤ 1000000
 row : ∀ i, i < n.rows.length → (n.rows.getD i default).row.length ≤ 1000000
 kid : ∀ i, i < n.kids.length → (n.kids.getD i default).small
theorem nr1_ok (e : EntD) (d : Int) : ACall Tryz.prog 110 [agD (entL e), .dp [.v (.int .i64 d)]] [] (exB (decide ((e.row.length : Int) = d))) [] := by
 refine acall_of (mu := []) mixed Tryz.func110 rfl rfl rfl ?_
 conv => whnf
 repeat' ((first
 | refine ob ?_
 | (refine And.intro (fun hq => ?_) (fun hq => ?_) <;> first | exact cl1 | ((try simp only [bl] at hq); (try dsimp only at hq); first | exact cl2 | skip))
 | refine fun hq => ?_ | refine ob2 ?_ | fail) <;> conv => whnf)
 all_goals (repeat' (first | exact sm | apply And.intro))
theorem nr2_ok (k : KidD) (d : Int) (h : k.small) : ACall Tryz.prog 112 [agD (kidL k), .dp [.v (.int .i64 d)]] [] (exB (kidR k d)) [] := by
 refine acall_of (mu := []) mixed Tryz.func112 rfl rfl rfl ?_
 conv => whnf
 repeat' ((first
 | refine ob ?_
 | refine ⟨_, _, _, .flat _ _ rfl (kright_any k d h) rfl, ?_⟩
 | ((refine ⟨_, _, _, .flat _ _ rfl (.arg ?harg (kright_any k d h)) rfl, ?_⟩); case harg => (repeat' (first | exact sm | apply And.intro))) | (refine And.intro (fun hq => ?_) (fun hq => ?_) <;> first | exact cl1 | ((try simp only [bl] at hq); (try dsimp only at hq); first | exact cl2 | skip))
 | refine fun hq => ?_ | refine ob2 ?_ | fail) <;> conv => whnf)
 all_goals (repeat' (first | exact sm | apply And.intro))
theorem nr3_ok (k : KidD) : ACall Tryz.prog 114 [agD (kidL k)] [] (exB (decide (k.key.length = 0))) [] := by
 refine acall_of (mu := []) mixed Tryz.func114 rfl rfl rfl ?_
 conv => whnf
 repeat' ((first
 | refine ob ?_
 | (refine And.intro (fun hq => ?_) (fun hq => ?_) <;> first | exact cl1 | ((try simp only [bl] at hq); (try dsimp only at hq); first | exact cl2 | skip))
 | refine fun hq => ?_ | refine ob2 ?_ | fail) <;> conv => whnf)
 all_goals first
  | exact trivial
  | (refine And.intro (congrArg Value.bool ?_) trivial; grind)
  | (refine And.intro (congrArg Value.bool ?_) trivial; simp_all []; done)
  | (refine And.intro (congrArg Value.bool ?_) trivial; simp [] at *; omega)
  | skip
theorem nr4_ok (e : EntD) : ACall Tryz.prog 115 [agD (entL e)] [] (exB e.live) [] := by
 refine acall_of (mu := []) mixed Tryz.func115 rfl rfl rfl ?_
 conv => whnf
 repeat' ((first
 | refine ob ?_
 | (refine And.intro (fun hq => ?_) (fun hq => ?_) <;> first | exact cl1 | ((try simp only [bl] at hq); (try dsimp only at hq); first | exact cl2 | skip))
 | refine fun hq => ?_ | refine ob2 ?_ | fail) <;> conv => whnf)
 all_goals (repeat' (first | exact sm | apply And.intro))
theorem nr5_ok (k : KidD) (d : Int) (h : k.small) : ACall Tryz.prog 116 [agD (kidL k), .dp [.v (.int .i64 d)]] [] (exB (decide ((k.key.length : Int) = d) && !kidS k kid0)) [] := by
 refine acall_of (mu := []) mixed Tryz.func116 rfl rfl rfl ?_
 conv => whnf
 repeat' ((first
 | refine ob ?_
 | refine ⟨_, _, _, .flat _ _ rfl (nempty_any k h) rfl, ?_⟩
 | ((refine ⟨_, _, _, .flat _ _ rfl (.arg ?harg (nempty_any k h)) rfl, ?_⟩); case harg => (repeat' (first | exact sm | apply And.intro))) | (refine And.intro (fun hq => ?_) (fun hq => ?_) <;> first | exact cl1 | ((try simp only [bl] at hq); (try dsimp only at hq); first | exact cl2 | skip))
 | refine fun hq => ?_ | refine ob2 ?_ | fail) <;> conv => whnf)
 all_goals first
  | exact trivial
  | (refine And.intro (congrArg Value.bool ?_) trivial; grind)
  | (refine And.intro (congrArg Value.bool ?_) trivial; simp_all []; done)
  | (refine And.intro (congrArg Value.bool ?_) trivial; simp [] at *; omega)
  | skip
theorem nright_ok (n : NodeD) (d : Int) (h : NodeS n) : ACall Tryz.prog 76 [agD (nodeL n), exI .i64 d] [] (exB (nodeR n d)) [] := by
  have c1 := event_ok n.rows h.rows 110 d (fun e => decide ((e.row.length : Int) = d)) (fun i hi => nr1_ok _ d)
  have c2 := evkid_ok n.kids h.kids 112 d (fun k => kidR k d) (fun i hi => nr2_ok _ d (h.kid i hi))
  have c3 := evkid_ok0 n.kids h.kids 114 (fun k => decide (k.key.length = 0)) (fun i hi => nr3_ok _)
  have c4 := event_ok0 n.rows h.rows 115 (fun e => e.live) (fun i hi => nr4_ok _)
  have c5 := evkid_ok n.kids h.kids 116 d (fun k => decide ((k.key.length : Int) = d) && !kidS k kid0) (fun i hi => nr5_ok _ d (h.kid i hi))
  refine acall_of (mu := []) mixed Tryz.func76 rfl rfl rfl ?_
  unfold nodeR
  by_cases hd : 1 ≤ d ∧ d ≤ 8
  · rw [decide_eq_true hd.1, decide_eq_true hd.2, Bool.true_and, Bool.true_and]
    cases e1 : n.rows.all (fun e => decide ((e.row.length : Int) = d))
    · rw [e1] at c1
      conv => whnf
      repeat' ((first
       | refine ob ?_
       | refine ⟨_, _, _, .flat _ _ rfl (c1) rfl, ?_⟩
       | ((refine ⟨_, _, _, .flat _ _ rfl (.arg ?harg (c1)) rfl, ?_⟩); case harg => (repeat' (first | exact sm | apply And.intro))) | (refine And.intro (fun hq => ?_) (fun hq => ?_) <;> first | exact cl1 | ((try simp only [bl] at hq); (try dsimp only at hq); first | exact cl2 | skip))
       | refine fun hq => ?_ | refine ob2 ?_ | fail) <;> conv => whnf)
      all_goals (repeat' (first | exact sm | apply And.intro))
    · rw [e1] at c1
      cases e2 : n.kids.all (fun k => kidR k d)
      · rw [e2] at c2
        conv => whnf
        repeat' ((first
         | refine ob ?_
         | refine ⟨_, _, _, .flat _ _ rfl (c1) rfl, ?_⟩
         | refine ⟨_, _, _, .flat _ _ rfl (c2) rfl, ?_⟩
         | ((refine ⟨_, _, _, .flat _ _ rfl (.arg ?harg (c1)) rfl, ?_⟩); case harg => (repeat' (first | exact sm | apply And.intro)))
         | ((refine ⟨_, _, _, .flat _ _ rfl (.arg ?harg (c2)) rfl, ?_⟩); case harg => (repeat' (first | exact sm | apply And.intro))) | (refine And.intro (fun hq => ?_) (fun hq => ?_) <;> first | exact cl1 | ((try simp only [bl] at hq); (try dsimp only at hq); first | exact cl2 | skip))
         | refine fun hq => ?_ | refine ob2 ?_ | fail) <;> conv => whnf)
        all_goals (repeat' (first | exact sm | apply And.intro))
      · rw [e2] at c2
        rw [Bool.true_and, Bool.true_and]
        unfold nodeK
        conv => whnf
        repeat' ((first
         | refine ob ?_
         | refine ⟨_, _, _, .flat _ _ rfl (c1) rfl, ?_⟩
         | refine ⟨_, _, _, .flat _ _ rfl (c2) rfl, ?_⟩
         | refine ⟨_, _, _, .flat _ _ rfl (c3) rfl, ?_⟩
         | refine ⟨_, _, _, .flat _ _ rfl (c4) rfl, ?_⟩
         | refine ⟨_, _, _, .flat _ _ rfl (c5) rfl, ?_⟩
         | ((refine ⟨_, _, _, .flat _ _ rfl (.arg ?harg (c1)) rfl, ?_⟩); case harg => (repeat' (first | exact sm | apply And.intro)))
         | ((refine ⟨_, _, _, .flat _ _ rfl (.arg ?harg (c2)) rfl, ?_⟩); case harg => (repeat' (first | exact sm | apply And.intro)))
         | ((refine ⟨_, _, _, .flat _ _ rfl (.arg ?harg (c3)) rfl, ?_⟩); case harg => (repeat' (first | exact sm | apply And.intro)))
         | ((refine ⟨_, _, _, .flat _ _ rfl (.arg ?harg (c4)) rfl, ?_⟩); case harg => (repeat' (first | exact sm | apply And.intro)))
         | ((refine ⟨_, _, _, .flat _ _ rfl (.arg ?harg (c5)) rfl, ?_⟩); case harg => (repeat' (first | exact sm | apply And.intro))) | (refine And.intro (fun hq => ?_) (fun hq => ?_) <;> first | exact cl1 | ((try simp only [bl] at hq); (try dsimp only at hq); first | exact cl2 | skip))
         | refine fun hq => ?_ | refine ob2 ?_ | fail) <;> conv => whnf)
        all_goals (refine And.intro (show Value.bool _ = Value.bool _ from congrArg Value.bool ?_) trivial)
        all_goals (clear c1 c2 c3 c4 c5 e1 e2; generalize (n.kids.all fun k => decide (k.key.length = 0)) = A at *; generalize (n.rows.all fun e => e.live) = B at *; generalize (n.kids.all fun k => decide ((k.key.length : Int) = d) && !kidS k kid0) = C at *; generalize n.rows.length = a at *; generalize n.kids.length = b at *; generalize n.kind = kd at *)
        all_goals simp only [show (kd = 1) = ((kd : Int) = 1) from propext (by omega), show (kd = 2) = ((kd : Int) = 2) from propext (by omega), show (kd = 3) = ((kd : Int) = 3) from propext (by omega), show decide (a = 1) = decide ((a : Int) = 1) from decide_eq_decide.mpr (by omega), show decide (b = 2) = decide ((b : Int) = 2) from decide_eq_decide.mpr (by omega), show decide (1 ≤ a) = decide (1 ≤ (a : Int)) from decide_eq_decide.mpr (by omega), show decide (a ≤ 4) = decide ((a : Int) ≤ 4) from decide_eq_decide.mpr (by omega), show decide (b = 0) = decide ((b : Int) = 0) from decide_eq_decide.mpr (by omega), show decide (a = 0) = decide ((a : Int) = 0) from decide_eq_decide.mpr (by omega), show decide (2 ≤ b) = decide (2 ≤ (b : Int)) from decide_eq_decide.mpr (by omega), show decide (b ≤ 4) = decide ((b : Int) ≤ 4) from decide_eq_decide.mpr (by omega)]
        all_goals (clear h hd)
        all_goals (simp only [*, if_true, if_false, decide_true, decide_false, Bool.true_and, Bool.false_and, cond_true, cond_false])
        all_goals (try (revert hq; generalize (kd : Int) = kd'; intro hq; subst hq; simp))
  · rw [show (decide (1 ≤ d) && (decide (d ≤ 8) && (n.rows.all (fun e => decide ((e.row.length : Int) = d)) && (n.kids.all (fun k => kidR k d) && nodeK n d)))) = false by
      by_cases h1 : 1 ≤ d
      · rw [decide_eq_false (show ¬ d ≤ 8 by omega)]; simp
      · rw [decide_eq_false h1]; rfl]
    conv => whnf
    repeat' ((first
     | refine ob ?_
     | (refine And.intro (fun hq => ?_) (fun hq => ?_) <;> first | exact cl1 | ((try simp only [bl] at hq); (try dsimp only at hq); first | exact cl2 | skip))
     | refine fun hq => ?_ | refine ob2 ?_ | fail) <;> conv => whnf)
    all_goals (repeat' (first | exact sm | apply And.intro))
end Go.Proofs.YtedokpgkjcnoiaaGreat
