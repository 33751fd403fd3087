/- The reference's less, Sort of rows (indentureref11), in the new way. The reference's trees as data: Height, Node, Kid, Lay (indentureref11). -/
import Derived.Test.YtedokpgkjcnoiaaGreatQ19
import Derived.Test.YtedokpgkjcnoiaaGreatQ41
import Derived.Test.YtedokpgkjcnoiaaGreatQ43
import Derived.Test.YtedokpgkjcnoiaaGreatQ48
set_option linter.unusedVariables false
set_option linter.unusedSimpArgs false
namespace Go.Proofs.YtedokpgkjcnoiaaGreat
open Go.RowKit
open Kd (Rw)
set_option maxRecDepth 100000
set_option maxHeartbeats 4000000
theorem lex_drop {p q : List Int} {i : Nat} (h : p.length = q.length) (hi : i < p.length) : Kd.lexLt (p.drop i) (q.drop i) = (decide (p.getD i 0 < q.getD i 0) || (decide (p.getD i 0 = q.getD i 0) && Kd.lexLt (p.drop (i + 1)) (q.drop (i + 1)))) := by
 rw [List.drop_eq_getElem_cons hi, List.drop_eq_getElem_cons (show i < q.length by omega), List.getD_eq_getElem?_getD, List.getD_eq_getElem?_getD, List.getElem?_eq_getElem hi, List.getElem?_eq_getElem (show i < q.length by omega)]
 rfl
theorem ins1_at {α : Type} {lt : α → α → Bool} {x : α} (z : α) : ∀ (O : List α) (k : Nat), k ≤ O.length → (∀ j, j < k → lt (O.getD j z) x = true) → (k = O.length ∨ lt (O.getD k z) x = false) → Kd.ins1 lt x O = O.take k ++ x :: O.drop k
 | [], k, h, _, _ => by
  obtain rfl : k = 0 := by simpa using h
  rfl
 | y :: O, 0, h, _, e => by
  have : lt y x = false := by simpa using e
  simp [Kd.ins1, this]
 | y :: O, k + 1, h, hj, e => by
  have : lt y x = true := by simpa using hj 0 (by omega)
  unfold Kd.ins1
  rw [if_pos this, ins1_at z O k (by simpa using h) (fun j hjk => by simpa using hj (j + 1) (by omega)) (by simpa using e)]
  rfl
theorem rless_ok (p q : Rw) (a d : Nat) (hp : p.length = d) (hq : q.length = d) (ha : a < d) (hd : d ≤ 8) : ACall Tryz.prog 53 [.d (i64L p), .d (i64L q), exI .i64 a] [] (exB (Kd.ltAt a p q)) [] := by
 by_cases he : p.getD ((a : Int)).toNat 0 = q.getD ((a : Int)).toNat 0
 ·obtain ⟨B, hB⟩ : ∃ B, B = Kd.ltAt a p q := ⟨_, rfl⟩
  rw [← hB]
  have h0 : B = Kd.lexLt (p.drop 0) (q.drop 0) := by
   have he' : p.getD a 0 = q.getD a 0 := he
   rw [hB]; unfold Kd.ltAt; rw [he']; simp
  clear hB
  refine acall_on (mu := []) [] [] mixed Tryz.func53 rfl rfl rfl ?_
  conv => whnf
  repeat' ((first
  | refine ob ?_
  | (refine And.intro (fun hq => ?_) (fun hq => ?_) <;> first | exact cl1 | ((try simp only [bl] at hq); (try dsimp only at hq); first | exact cl2 | skip))
  | refine fun hq => ?_ | refine ob3 ?_ | fail) <;> conv => whnf)
  refine ⟨[], ?_⟩
  conv => whnf
  refine ⟨Nat, fun k => k ≤ d ∧ B = Kd.lexLt (p.drop k) (q.drop k), fun k => d - k, fun k => [(6, exB false), (7, exI .i64 k)], fun _ => [], ⟨0, ⟨by omega, h0⟩, ?_⟩, ?_⟩
  ·skip
   refine ⟨[], ?_⟩
   conv => whnf
   refine ⟨rfl, ?_, ?_⟩ <;> (repeat' (first | exact sm | apply And.intro))
  intro k ⟨hk, hb⟩
  conv => whnf
  rcases Nat.lt_or_ge k d with hlt | hge
  ·have hs := lex_drop (p := p) (q := q) (i := k) (by omega) (by omega)
   by_cases hk2 : p.getD ((k : Int)).toNat 0 = q.getD ((k : Int)).toNat 0
   ·have hk3 : p.getD k 0 = q.getD k 0 := hk2
    rw [hk3] at hs
    simp only [Int.lt_irrefl, decide_false, decide_true, Bool.false_or, Bool.true_and] at hs
    conv => whnf
    repeat' ((first
    | refine ob ?_
    | (refine And.intro (fun hq => ?_) (fun hq => ?_) <;> first | exact cl1 | ((try simp only [bl] at hq); (try dsimp only at hq); first | exact cl2 | skip))
    | refine fun hq => ?_ | refine ob3 ?_ | fail) <;> conv => whnf)
    refine ⟨k + 1, ⟨by omega, by rw [hb, hs]⟩, by dsimp only; omega, ?_⟩
    refine ⟨[], ?_⟩
    conv => whnf
    refine ⟨rfl, ?_, ?_⟩ <;> (repeat' (first | exact sm | apply And.intro))
   ·have hk3 : ¬ p.getD k 0 = q.getD k 0 := hk2
    rw [decide_eq_false hk3, Bool.false_and, Bool.or_false] at hs
    rw [hb, hs]
    conv => whnf
    repeat' ((first
    | refine ob ?_
    | (refine And.intro (fun hq => ?_) (fun hq => ?_) <;> first | exact cl1 | ((try simp only [bl] at hq); (try dsimp only at hq); first | exact cl2 | skip))
    | refine fun hq => ?_ | refine ob3 ?_ | fail) <;> conv => whnf)
    all_goals (repeat' (first | exact sm | apply And.intro))
  ·obtain rfl : k = d := by omega
   have hn : B = false := by rw [hb, List.drop_eq_nil_of_le (by omega), List.drop_eq_nil_of_le (by omega)]; rfl
   rw [hn]
   conv => whnf
   repeat' ((first
   | refine ob ?_
   | (refine And.intro (fun hq => ?_) (fun hq => ?_) <;> first | exact cl1 | ((try simp only [bl] at hq); (try dsimp only at hq); first | exact cl2 | skip))
   | refine fun hq => ?_ | refine ob3 ?_ | fail) <;> conv => whnf)
   all_goals (repeat' (first | exact sm | apply And.intro))
 ·have he' : ¬ p.getD a 0 = q.getD a 0 := he
  rw [show Kd.ltAt a p q = decide (p.getD a 0 < q.getD a 0) by unfold Kd.ltAt; rw [decide_eq_false he', Bool.false_and, Bool.or_false]]
  refine acall_on (mu := []) [] [] mixed Tryz.func53 rfl rfl rfl ?_
  conv => whnf
  repeat' ((first
  | refine ob ?_
  | (refine And.intro (fun hq => ?_) (fun hq => ?_) <;> first | exact cl1 | ((try simp only [bl] at hq); (try dsimp only at hq); first | exact cl2 | skip))
  | refine fun hq => ?_ | refine ob3 ?_ | fail) <;> conv => whnf)
  all_goals (repeat' (first | exact sm | apply And.intro))
def srtL (lt : Rw → Rw → Bool) (L : List Rw) (i : Nat) : List Rw := (L.take i).foldl (fun a x => Kd.ins1 lt x a) []
theorem srtL_succ (lt : Rw → Rw → Bool) (L : List Rw) (i : Nat) (h : i < L.length) : srtL lt L (i + 1) = Kd.ins1 lt (L.getD i []) (srtL lt L i) := by
 unfold srtL
 rw [List.take_add_one, List.foldl_append, List.getElem?_eq_getElem h, List.getD_eq_getElem?_getD, List.getElem?_eq_getElem h]; rfl
theorem srtL_perm (lt : Rw → Rw → Bool) (L : List Rw) (i : Nat) : (srtL lt L i).Perm (L.take i) := by
 unfold srtL; simpa using Kd.fold_perm (lt := lt) (L.take i) []
theorem srtL_end (lt : Rw → Rw → Bool) (L : List Rw) : srtL lt L L.length = Kd.isort lt L := by unfold srtL Kd.isort; rw [List.take_length]
theorem app_put (O : List Rw) (x : Rw) (k n : Nat) (hk : k ≤ O.length) (g : Nat → List DV) (hg : ∀ j, j < n → g j = rowF O (k + j)) (hn : n = O.length - k) : ∀ j, j < k + 1 + n → app (k + 1) (app k (rowF O) (chop 1 [i64L x])) g j = rowF (O.take k ++ x :: O.drop k) j := fun j hj => by
 show _ = [i64L ((O.take k ++ x :: O.drop k).getD j [])]
 rcases Nat.lt_or_ge j (k + 1) with q | q
 ·rw [app_lt q]
  rcases Nat.lt_or_ge j k with q2 | q2
  ·rw [app_lt q2, rowF]
   rw [List.getD_eq_getElem?_getD, List.getD_eq_getElem?_getD, List.getElem?_append_left (by rw [List.length_take]; omega), List.getElem?_take, if_pos q2]
  ·obtain rfl : j = k := by omega
   rw [app_ge (Nat.le_refl _), Nat.sub_self, List.getD_eq_getElem?_getD, List.getElem?_append_right (by rw [List.length_take]; omega), List.length_take, Nat.min_eq_left hk, Nat.sub_self]
   rfl
 ·rw [app_ge q, hg _ (by omega), rowF]
  rw [List.getD_eq_getElem?_getD, List.getD_eq_getElem?_getD, List.getElem?_append_right (by rw [List.length_take]; omega), List.length_take, Nat.min_eq_left hk, show j - k = (j - (k + 1)) + 1 by omega, List.getElem?_cons_succ, List.getElem?_drop, show k + (j - (k + 1)) = k + (j - k - 1) by omega]
theorem app_next (O : List Rw) (k : Nat) : ∀ j, j < k + 1 → app k (rowF O) (chop 1 [i64L (O.getD k [])]) j = rowF O j := fun j hj => by
 rcases Nat.lt_or_ge j k with q | q
 ·rw [app_lt q]
 ·obtain rfl : j = k := by omega
  rw [app_ge (Nat.le_refl _), Nat.sub_self]; rfl
theorem rsort11_ok (L : List Rw) (a d : Nat) (hL : L.length ≤ 1000000) (hr : ∀ p ∈ L, p.length = d) (ha : a < d) (hd : d ≤ 8) : ACall Tryz.prog 28 [.d (rowL L), exI .i64 a] [] (.d (rowL (Kd.isort (Kd.ltAt a) L))) [] := by
 obtain ⟨out, hout⟩ : ∃ out : Nat → List Rw, ∀ i, out i = srtL (Kd.ltAt a) L i := ⟨_, fun _ => rfl⟩
 have z0 : out 0 = [] := by rw [hout]; rfl
 have hsucc : ∀ i, i < L.length → out (i + 1) = Kd.ins1 (Kd.ltAt a) (L.getD i []) (out i) := fun i h => by rw [hout, hout]; exact srtL_succ _ _ _ h
 have hlen : ∀ i, i ≤ L.length → (out i).length = i := fun i h => by rw [hout, (srtL_perm _ _ _).length_eq, List.length_take]; omega
 have hmem : ∀ i, ∀ p ∈ out i, p.length = d := fun i p h => by rw [hout] at h; exact hr p (List.mem_of_mem_take ((srtL_perm _ _ _).mem_iff.1 h))
 have hend : out L.length = Kd.isort (Kd.ltAt a) L := by rw [hout]; exact srtL_end _ _
 rw [← hend]
 clear hend hout
 refine acall_on (mu := []) [] [] mixed Tryz.func28 rfl rfl rfl ?_
 conv => whnf
 repeat' ((first
 | refine ob ?_
 | (refine And.intro (fun hq => ?_) (fun hq => ?_) <;> first | exact cl1 | ((try simp only [bl] at hq); (try dsimp only at hq); first | exact cl2 | skip))
 | refine fun hq => ?_ | refine ob3 ?_ | fail) <;> conv => whnf)
 refine ⟨[.virt 5 77 26 1, .tell 77 (rowF []), .lay 77], ?_⟩
 conv => whnf
 refine ⟨Nat, fun i => i ≤ L.length, fun i => L.length - i, fun i => [(5, .d (rowL (out i))), (6, exI .i64 i)], fun _ => [], ⟨0, by omega, ?_⟩, ?_⟩
 ·skip
  refine ⟨[], ?_⟩
  conv => whnf
  refine ⟨rfl, ?_, ?_⟩ <;> (repeat' (first | exact trivial | ((try intro k_ hk_); rw [z0]; first | done | rfl) | exact sm | apply And.intro))
 intro i hi
 conv => whnf
 have hli := hlen i hi
 rcases Nat.lt_or_ge i L.length with hlt | hge
 ·have hs := hsucc i hlt
  have hx : (L.getD ((i : Int)).toNat []).length = d := hr _ (by rw [show ((i : Int)).toNat = i by omega, List.getD_eq_getElem?_getD, List.getElem?_eq_getElem hlt]; exact List.getElem_mem hlt)
  have hm := hmem i
  have hl2 := hlen (i + 1) hlt
  generalize out i = O at hli hs hm ⊢
  have hO : ∀ k, k < O.length → (O.getD k []).length = d := fun k hk => hm _ (by rw [List.getD_eq_getElem?_getD, List.getElem?_eq_getElem hk]; exact List.getElem_mem hk)
  conv => whnf
  repeat' ((first
  | refine ob ?_
  | (refine And.intro (fun hq => ?_) (fun hq => ?_) <;> first | exact cl1 | ((try simp only [bl] at hq); (try dsimp only at hq); first | exact cl2 | skip))
  | refine fun hq => ?_ | refine ob3 ?_ | fail) <;> conv => whnf)
  refine ⟨[.virt 7 78 26 1, .tell 78 (rowF O)], ?_⟩
  conv => whnf
  refine ⟨Nat, fun k => k ≤ O.length ∧ ∀ j, j < k → Kd.ltAt a (O.getD j []) (L.getD i []) = true, fun k => O.length - k, fun k => [(7, .own 78 0), (8, exI .i64 k)], fun k => [(78, .row 26 1 0 false k (rowF O))], ⟨0, ⟨by omega, fun j hj => by omega⟩, ?_⟩, ?_⟩
  ·skip
   refine ⟨[], ?_⟩
   conv => whnf
   refine ⟨rfl, ?_, ?_⟩ <;> (repeat' (first | exact sm | apply And.intro))
  intro k ⟨hk, hj⟩
  conv => whnf
  rcases Nat.lt_or_ge k O.length with hkl | hkg
  ·have c1 := rless_ok (O.getD ((k : Int)).toNat []) (L.getD ((i : Int)).toNat []) a d (hO _ (by omega)) hx ha hd
   cases hb : Kd.ltAt a (O.getD k []) (L.getD i []) with
   | true =>
    rw [show Kd.ltAt a (O.getD ((k : Int)).toNat []) (L.getD ((i : Int)).toNat []) = true from hb] at c1
    conv => whnf
    repeat' ((first
    | refine ob ?_
    | refine ⟨_, _, _, .flat _ _ rfl (c1) rfl, ?_⟩
    | ((refine ⟨_, _, _, .flat _ _ rfl (.arg ?harg (c1)) rfl, ?_⟩); case harg => (repeat' (first | exact sm | apply And.intro))) | (refine And.intro (fun hq => ?_) (fun hq => ?_) <;> first | exact cl1 | ((try simp only [bl] at hq); (try dsimp only at hq); first | exact cl2 | skip))
    | refine fun hq => ?_ | refine ob2 ?_ | fail) <;> conv => whnf)
    refine ⟨k + 1, ⟨by omega, fun j hj2 => ?_⟩, by dsimp only; omega, ?_⟩
    ·rcases Nat.lt_or_ge j k with q | q
     ·exact hj j q
     ·obtain rfl : j = k := by omega
      exact hb
    ·skip
     refine ⟨[.regen 78 0], ?_⟩
     conv => whnf
     refine ⟨rfl, ?_, ?_⟩ <;> (repeat' (first | exact trivial | (exact app_next O k) | exact sm | apply And.intro))
   | false =>
    rw [show Kd.ltAt a (O.getD ((k : Int)).toNat []) (L.getD ((i : Int)).toNat []) = false from hb] at c1
    rw [ins1_at [] O k hk hj (.inr hb)] at hs
    conv => whnf
    repeat' ((first
    | refine ob ?_
    | refine ⟨_, _, _, .flat _ _ rfl (c1) rfl, ?_⟩
    | ((refine ⟨_, _, _, .flat _ _ rfl (.arg ?harg (c1)) rfl, ?_⟩); case harg => (repeat' (first | exact sm | apply And.intro))) | (refine And.intro (fun hq => ?_) (fun hq => ?_) <;> first | exact cl1 | ((try simp only [bl] at hq); (try dsimp only at hq); first | exact cl2 | skip))
    | refine fun hq => ?_ | refine ob2 ?_ | fail) <;> conv => whnf)
    refine ⟨i + 1, by omega, by dsimp only; omega, ?_⟩
    refine ⟨[.lay 78], ?_⟩
    conv => whnf
    refine ⟨rfl, ?_, ?_⟩ <;> (repeat' (first | exact trivial | ((rw [hs]; exact app_put O _ k _ hk _ (fun j hj => rfl) (by omega))) | ((rw [hl2]; omega)) | exact sm | apply And.intro))
  ·rw [ins1_at [] O k hk hj (.inl (by omega))] at hs
   conv => whnf
   repeat' ((first
   | refine ob ?_
   | (refine And.intro (fun hq => ?_) (fun hq => ?_) <;> first | exact cl1 | ((try simp only [bl] at hq); (try dsimp only at hq); first | exact cl2 | skip))
   | refine fun hq => ?_ | refine ob2 ?_ | fail) <;> conv => whnf)
   refine ⟨i + 1, by omega, by dsimp only; omega, ?_⟩
   refine ⟨[.lay 78], ?_⟩
   conv => whnf
   refine ⟨rfl, ?_, ?_⟩ <;> (repeat' (first | exact trivial | ((rw [hs]; exact app_put O _ k _ hk _ (fun j hj => rfl) (by omega))) | ((rw [hl2]; omega)) | exact sm | apply And.intro))
 ·obtain rfl : i = L.length := by omega
  conv => whnf
  repeat' ((first
  | refine ob ?_
  | (refine And.intro (fun hq => ?_) (fun hq => ?_) <;> first | exact cl1 | ((try simp only [bl] at hq); (try dsimp only at hq); first | exact cl2 | skip))
  | refine fun hq => ?_ | refine ob3 ?_ | fail) <;> conv => whnf)
  all_goals (repeat' (first | exact sm | apply And.intro))
end Go.Proofs.YtedokpgkjcnoiaaGreat
namespace Go.Proofs.YtedokpgkjcnoiaaGreat
open Go.RowKit
open Kd (Rw TreeD RwOk okT layT kidT nodeT)
set_option maxRecDepth 100000
set_option maxHeartbeats 4000000
def treeV : TreeD → DV
 | .nil => .v (.pointer none)
 | .node p v l r => .p [i64L p, .v (.bool v), treeV l, treeV r]
def trA : TreeD → AV
 | .nil => .d (.v (.pointer none))
 | .node p v l r => .dp [i64L p, .v (.bool v), treeV l, treeV r]
theorem trh_le : ∀ t : TreeD, t.height ≤ t.size
 | .nil => Nat.le_refl _
 | .node p v l r => by
  have := trh_le l
  have := trh_le r
  simp only [TreeD.height, TreeD.size]; omega
theorem rheight_ok : ∀ t : TreeD, t.size ≤ 1000000 → ACall Tryz.prog 20 [trA t] [] (exI .i64 (t.height : Nat)) []
 | .nil, _ => by
  refine acall_on (mu := []) [] [] mixed Tryz.func20 rfl rfl rfl ?_
  conv => whnf
  repeat' ((first
  | refine ob ?_
  | (refine And.intro (fun hq => ?_) (fun hq => ?_) <;> first | exact cl1 | ((try simp only [bl] at hq); (try dsimp only at hq); first | exact cl2 | skip))
  | refine fun hq => ?_ | refine ob3 ?_ | fail) <;> conv => whnf)
  all_goals (repeat' (first | exact sm | apply And.intro))
 | .node p v l r, h => by
  rw [Kd.size_node] at h
  have q1 := rheight_ok l (by omega)
  have q2 := rheight_ok r (by omega)
  have e1 := trh_le l
  have e2 := trh_le r
  have hm : ((TreeD.node p v l r).height : Int) = 1 + max (l.height : Int) (r.height : Int) := by simp only [TreeD.height]; omega
  rw [hm]
  clear hm
  have hif : ∀ x y : Int, 1 + (if y > x then y else x) = 1 + max x y := fun x y => by split <;> omega
  cases l <;> cases r
  all_goals
   refine acall_on (mu := []) [] [] mixed Tryz.func20 rfl rfl rfl ?_
   conv => whnf
   repeat' ((first
   | refine ob ?_
   | refine ⟨_, _, _, .flat _ _ rfl (q1) rfl, ?_⟩
   | refine ⟨_, _, _, .flat _ _ rfl (q2) rfl, ?_⟩
   | ((refine ⟨_, _, _, .flat _ _ rfl (.arg ?harg (q1)) rfl, ?_⟩); case harg => (repeat' (first | exact sm | apply And.intro)))
   | ((refine ⟨_, _, _, .flat _ _ rfl (.arg ?harg (q2)) rfl, ?_⟩); case harg => (repeat' (first | exact sm | apply And.intro))) | (refine And.intro (fun hq => ?_) (fun hq => ?_) <;> first | exact cl1 | ((try simp only [bl] at hq); (try dsimp only at hq); first | exact cl2 | skip))
   | refine fun hq => ?_ | refine ob3 ?_ | fail) <;> conv => whnf)
   all_goals (repeat' (first | exact trivial | (exact congrArg (Value.int .i64) (hif _ _)) | exact sm | apply And.intro))
theorem rkid_ok (d : Nat) (h1 : 1 ≤ d) (h8 : d ≤ 8) : ∀ t : TreeD, okT d t → t.size ≤ 1000000 → ACall Tryz.prog 19 [trA t] [] (agD (kidL (kidT t))) []
 | .nil, _, _ => by
  refine acall_on (mu := []) [] [] mixed Tryz.func19 rfl rfl rfl ?_
  conv => whnf
  repeat' ((first
  | refine ob ?_
  | (refine And.intro (fun hq => ?_) (fun hq => ?_) <;> first | exact cl1 | ((try simp only [bl] at hq); (try dsimp only at hq); first | exact cl2 | skip))
  | refine fun hq => ?_ | refine ob3 ?_ | fail) <;> conv => whnf)
  all_goals (repeat' (first | exact sm | apply And.intro))
 | .node p v l r, hok, h => by
  have hk := Kd.kidT_facts d h1 h8 _ hok (by omega)
  obtain ⟨hp, hl, hr⟩ := Kd.okT_node.1 hok
  rw [Kd.size_node] at h
  have q1 := rkid_ok d h1 h8 l hl (by omega)
  have q2 := rkid_ok d h1 h8 r hr (by omega)
  have f1 := Kd.kidT_facts d h1 h8 l hl (by omega)
  have f2 := Kd.kidT_facts d h1 h8 r hr (by omega)
  have hf := Kd.KidGood.fork (e := ⟨p, v⟩) h1 h8 hp f1.1 f2.1
  have hz : (kidT (.node p v l r)).size ≤ 1048576 := by rw [hk.2.1, Kd.size_node]; omega
  have cn : ACall Tryz.prog 44 [trA (.node p v l r)] [] (agD (nodeL (nodeT p v l r))) [] := by
   unfold nodeT
   obtain ⟨a, ka⟩ : ∃ a, a = kidT l := ⟨_, rfl⟩
   obtain ⟨b, kb⟩ : ∃ b, b = kidT r := ⟨_, rfl⟩
   rw [← ka] at q1
   rw [← kb] at q2
   rw [← ka, ← kb]
   have hab : l = .nil → r = .nil → b = a := fun e1 e2 => by rw [ka, kb, e1, e2]
   clear hk f1 f2 hf hz hl hr hok ka kb
   cases l <;> cases r
   all_goals
    try obtain rfl := hab rfl rfl
    refine acall_on (mu := []) [] [] mixed Tryz.func44 rfl rfl rfl ?_
    conv => whnf
    repeat' ((first
    | refine ob ?_
    | refine ⟨_, _, _, .gen [] _ _ _ rfl (q1) rfl rfl rfl rfl rfl, ?_⟩
    | refine ⟨_, _, _, .gen [] _ _ _ rfl (q2) rfl rfl rfl rfl rfl, ?_⟩
    | ((refine ⟨_, _, _, .gen [] _ _ _ rfl (.arg ?harg (q1)) rfl rfl rfl rfl rfl, ?_⟩); case harg => (repeat' (first | exact sm | apply And.intro)))
    | ((refine ⟨_, _, _, .gen [] _ _ _ rfl (.arg ?harg (q2)) rfl rfl rfl rfl rfl, ?_⟩); case harg => (repeat' (first | exact sm | apply And.intro))) | (refine And.intro (fun hq => ?_) (fun hq => ?_) <;> first | exact cl1 | ((try simp only [bl] at hq); (try dsimp only at hq); first | exact cl2 | skip))
    | refine fun hq => ?_ | refine ob3 ?_ | fail) <;> conv => whnf)
    all_goals (repeat' (first | exact sm | apply And.intro))
  have cs := r10say_ok (nodeT p v l r) d hf.2.1 hf.1 rfl hz
  rw [show Pl.sayN (nodeT p v l r) = kidT (.node p v l r) from rfl] at cs
  generalize nodeT p v l r = n at cn cs
  generalize kidT (.node p v l r) = k at cs
  refine acall_on (mu := []) [] [] mixed Tryz.func19 rfl rfl rfl ?_
  conv => whnf
  repeat' ((first
  | refine ob ?_
  | refine ⟨_, _, _, .gen [] _ _ _ rfl (cn) rfl rfl rfl rfl rfl, ?_⟩
  | refine ⟨_, _, _, .gen [] _ _ _ rfl (cs) rfl rfl rfl rfl rfl, ?_⟩
  | ((refine ⟨_, _, _, .gen [] _ _ _ rfl (.arg ?harg (cn)) rfl rfl rfl rfl rfl, ?_⟩); case harg => (repeat' (first | exact sm | apply And.intro)))
  | ((refine ⟨_, _, _, .gen [] _ _ _ rfl (.arg ?harg (cs)) rfl rfl rfl rfl rfl, ?_⟩); case harg => (repeat' (first | exact sm | apply And.intro))) | (refine And.intro (fun hq => ?_) (fun hq => ?_) <;> first | exact cl1 | ((try simp only [bl] at hq); (try dsimp only at hq); first | exact cl2 | skip))
  | refine fun hq => ?_ | refine ob3 ?_ | fail) <;> conv => whnf)
  all_goals (repeat' (first | exact sm | apply And.intro))
theorem rlay_ok (d : Nat) (h1 : 1 ≤ d) (h8 : d ≤ 8) : ∀ (f : Nat) (L : List Rw) (dep : Nat), L.length ≤ f → L.length ≤ 100000 → dep + f ≤ 1000000000 → (∀ p ∈ L, p.length = d) → ACall Tryz.prog 16 [.d (rowL L), exI .i64 dep] [] (trA (layT d f L dep)) [] := by
 intro f
 induction f with
 | zero =>
  intro L dep hf hz hd hl
  obtain rfl : L = [] := List.eq_nil_of_length_eq_zero (by omega)
  refine acall_on (mu := []) [] [] mixed Tryz.func16 rfl rfl rfl ?_
  conv => whnf
  repeat' ((first
  | refine ob ?_
  | (refine And.intro (fun hq => ?_) (fun hq => ?_) <;> first | exact cl1 | ((try simp only [bl] at hq); (try dsimp only at hq); first | exact cl2 | skip))
  | refine fun hq => ?_ | refine ob3 ?_ | fail) <;> conv => whnf)
  all_goals (repeat' (first | exact sm | apply And.intro))
 | succ f ih =>
  intro L dep hf hz hd hl
  unfold layT
  by_cases hne : L = []
  ·rw [if_pos hne]; subst hne
   refine acall_on (mu := []) [] [] mixed Tryz.func16 rfl rfl rfl ?_
   conv => whnf
   repeat' ((first
   | refine ob ?_
   | (refine And.intro (fun hq => ?_) (fun hq => ?_) <;> first | exact cl1 | ((try simp only [bl] at hq); (try dsimp only at hq); first | exact cl2 | skip))
   | refine fun hq => ?_ | refine ob3 ?_ | fail) <;> conv => whnf)
   all_goals (repeat' (first | exact sm | apply And.intro))
  rw [if_neg hne]
  have h0 : 0 < L.length := List.length_pos_iff.2 hne
  have hl0 : (L.getD (Int.toNat 0) []).length = d := hl _ (by rw [show Int.toNat 0 = 0 from rfl, List.getD_eq_getElem?_getD, List.getElem?_eq_getElem h0]; exact List.getElem_mem h0)
  have hm : dep % d < d := Nat.mod_lt _ (by omega)
  have em : Int.tmod (dep : Int) ((L.getD (Int.toNat 0) []).length : Int) = ((dep % d : Nat) : Int) := by rw [hl0]; exact (Int.ofNat_tmod dep d).symm
  have c1 := rsort11_ok L (dep % d) d (by omega) hl hm h8
  have hlen := Kd.isort_len (lt := Kd.ltAt (dep % d)) L
  have hM : ∀ p ∈ Kd.isort (Kd.ltAt (dep % d)) L, p.length = d := fun p hp => hl p (Kd.isort_mem.1 hp)
  generalize Kd.isort (Kd.ltAt (dep % d)) L = M at c1 hlen hM ⊢
  have t1 : (M.take (L.length / 2)).length = L.length / 2 := by rw [List.length_take]; omega
  have t2 : (M.drop (L.length / 2 + 1)).length = L.length - (L.length / 2 + 1) := by rw [List.length_drop]; omega
  have i1 := ih (M.take (L.length / 2)) (dep + 1) (by omega) (by omega) (by omega) fun p hp => hM p (List.mem_of_mem_take hp)
  have i2 := ih (M.drop (L.length / 2 + 1)) (dep + 1) (by omega) (by omega) (by omega) fun p hp => hM p (List.mem_of_mem_drop hp)
  have e1 := row_take M (L.length / 2)
  have e2 := row_drop M (L.length / 2 + 1)
  generalize layT d f (M.take (L.length / 2)) (dep + 1) = T1 at i1 ⊢
  generalize layT d f (M.drop (L.length / 2 + 1)) (dep + 1) = T2 at i2 ⊢
  cases T1 <;> cases T2
  all_goals
   refine acall_on (mu := []) [] [] mixed Tryz.func16 rfl rfl rfl ?_
   conv => whnf
   repeat' ((first
   | refine ob ?_
   | (refine And.intro (fun hq => ?_) (fun hq => ?_) <;> first | exact cl1 | ((try simp only [bl] at hq); (try dsimp only at hq); first | exact cl2 | skip))
   | refine fun hq => ?_ | refine ob3 ?_ | fail) <;> conv => whnf)
   rw [em]
   conv => whnf
   repeat' ((first
   | refine ob ?_
   | refine ⟨_, _, _, .gen [] _ _ _ rfl (c1) rfl rfl rfl rfl rfl, ?_⟩
   | ((refine ⟨_, _, _, .gen [] _ _ _ rfl (.arg ?harg (c1)) rfl rfl rfl rfl rfl, ?_⟩); case harg => (repeat' (first | exact sm | apply And.intro))) | (refine And.intro (fun hq => ?_) (fun hq => ?_) <;> first | exact cl1 | ((try simp only [bl] at hq); (try dsimp only at hq); first | exact cl2 | skip))
   | refine fun hq => ?_ | refine ob3 ?_ | fail) <;> conv => whnf)
   rw [tdiv2, hlen]
   conv => whnf
   repeat' ((first
   | refine ob ?_
   | refine ⟨_, _, _, .gen [] _ _ _ rfl (i1) rfl rfl rfl rfl rfl, ?_⟩
   | refine ⟨_, _, _, .gen [] _ _ _ rfl (i2) rfl rfl rfl rfl rfl, ?_⟩
   | ((refine ⟨_, _, _, .gen [] _ _ _ rfl (.arg ?harg (i1)) rfl rfl rfl rfl rfl, ?_⟩); case harg => (repeat' (first | exact trivial | (exact e1) | (exact e2 _) | (exact t1.symm) | (exact t2.symm) | exact sm | apply And.intro)))
   | ((refine ⟨_, _, _, .gen [] _ _ _ rfl (.arg ?harg (i2)) rfl rfl rfl rfl rfl, ?_⟩); case harg => (repeat' (first | exact trivial | (exact e1) | (exact e2 _) | (exact t1.symm) | (exact t2.symm) | exact sm | apply And.intro))) | (refine And.intro (fun hq => ?_) (fun hq => ?_) <;> first | exact cl1 | ((try simp only [bl] at hq); (try dsimp only at hq); first | exact cl2 | skip))
   | refine fun hq => ?_ | refine ob3 ?_ | fail) <;> conv => whnf)
   all_goals (repeat' (first | exact sm | apply And.intro))
end Go.Proofs.YtedokpgkjcnoiaaGreat
