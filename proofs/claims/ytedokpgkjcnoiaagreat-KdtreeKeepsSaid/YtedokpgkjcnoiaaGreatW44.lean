/- kdtree: live, anew. -/
import Derived.Test.YtedokpgkjcnoiaaGreatW43
set_option linter.unusedVariables false
set_option linter.unusedSimpArgs false
namespace Go.Proofs.YtedokpgkjcnoiaaGreat
open Go.RowKit
open Kd (nPut nGet forkN forkP tGet KidGood RwOk layP thenP PGood liveP anewP)
set_option maxRecDepth 100000
set_option maxHeartbeats 4000000
def resL : Option (List Rw) → AV
 | some l => .tup [.d (rowL l), exI .i64 0]
 | none => .tup [.d (.v (.slice none 0 0)), exI .i64 21]
theorem app_rw (A D : List Rw) (n : Nat) (hn : n = D.length) (g : Nat → List DV) (hg : ∀ i, i < n → g i = rowF D i) : ∀ j, j < A.length + n → app A.length (rowF A) g j = rowF (A ++ D) j := fun j hj => by
 subst hn
 rcases Nat.lt_or_ge j A.length with q | q
 ·rw [app_lt q]; unfold rowF; rw [List.getD_eq_getElem?_getD, List.getD_eq_getElem?_getD, List.getElem?_append_left q]
 ·rw [app_ge q, hg _ (by omega)]; unfold rowF
  rw [List.getD_eq_getElem?_getD, List.getD_eq_getElem?_getD, List.getElem?_append_right q]
theorem app_rw1 (x : Rw) (g : Nat → List DV) (hg : g 0 = [i64L x]) : ∀ j, j < 0 + 1 → app 0 (rowF []) g j = rowF [x] j := fun j hj => by
 obtain rfl : j = 0 := by omega
 rw [app_ge (Nat.le_refl _), hg]; rfl
def combL (X : List Rw) : Option (List Rw) → Option (List Rw) → Option (List Rw)
 | some l1, some l2 => some (X ++ l1 ++ l2)
 | _, _ => none
theorem combL_no1 (X : List Rw) (o : Option (List Rw)) : combL X none o = none := by cases o <;> rfl
theorem combL_no2 (X : List Rw) (o : Option (List Rw)) : combL X o none = none := by cases o <;> rfl
theorem liveP_on {d f : Nat} {s : Sto} {k : KidD} {x : EntD} {a b : KidD} (h0 : ¬ k.live = 0) (hg : tGet s d k = some (x, a, b)) : liveP d (f + 1) s k = combL (if x.live = true then [x.row] else []) (liveP d f s a) (liveP d f s b) := by
 rw [liveP, if_neg h0, hg]
 dsimp only
 cases liveP d f s a with
 | none => rw [combL_no1]
 | some l1 =>
  cases liveP d f s b with
  | none => rfl
  | some l2 => rfl
theorem liveP_zero {d f : Nat} {s : Sto} {k : KidD} (h0 : k.live = 0) : liveP d (f + 1) s k = some [] := by rw [liveP, if_pos h0]
theorem liveP_no {d f : Nat} {s : Sto} {k : KidD} (h0 : ¬ k.live = 0) (hg : tGet s d k = none) : liveP d (f + 1) s k = none := by rw [liveP, if_neg h0, hg]
theorem klive_zero (d : Nat) (s : Sto) (k : KidD) (h : k.live = 0) : ACall Tryz.prog 46 [treeA d, agD (kidL k)] (stoH 900 901 s) (.tup [.d (.v (.slice none 0 0)), exI .i64 0]) (stoH 900 901 s) := by
 refine acall_on (mu := [2]) [] [] mixed Tryz.func46 rfl rfl rfl ?_
 conv => whnf
 repeat' ((first
 | refine ob ?_
 | (refine And.intro (fun hq => ?_) (fun hq => ?_) <;> first | exact cl1 | ((try simp only [bl] at hq); (try dsimp only at hq); first | exact cl2 | skip))
 | refine fun hq => ?_ | refine ob3 ?_ | fail) <;> conv => whnf)
 all_goals (repeat' (first | exact sm | apply And.intro))
theorem klive_ok (d : Nat) (h1 : 1 ≤ d) (h8 : d ≤ 8) : ∀ (f : Nat) (s : Sto) (k : KidD), StoOk s → KidGood d k → k.size.toNat < f → ACall Tryz.prog 46 [treeA d, agD (kidL k)] (stoH 900 901 s) (resL (liveP d f s k)) (stoH 900 901 s)
 | 0, s, k, hs, hk, hf => by omega
 | f + 1, s, k, hs, hk, hf => by
  by_cases h0 : k.live = 0
  ·rw [liveP_zero h0]
   refine acall_on (mu := [2]) [] [] mixed Tryz.func46 rfl rfl rfl ?_
   conv => whnf
   repeat' ((first
   | refine ob ?_
   | (refine And.intro (fun hq => ?_) (fun hq => ?_) <;> first | exact cl1 | ((try simp only [bl] at hq); (try dsimp only at hq); first | exact cl2 | skip))
   | refine fun hq => ?_ | refine ob3 ?_ | fail) <;> conv => whnf)
   all_goals (repeat' (first | exact sm | apply And.intro))
  ·have c1 := kget_ok d s hs k hk
   cases hg : tGet s d k with
   | none =>
    rw [hg] at c1
    rw [liveP_no h0 hg]
    refine acall_on (mu := [2]) [] [] mixed Tryz.func46 rfl rfl rfl ?_
    conv => whnf
    repeat' ((first
    | refine ob ?_
    | refine ⟨_, _, _, .gen [901,900] _ _ _ rfl (c1) rfl rfl rfl rfl rfl, ?_⟩
    | ((refine ⟨_, _, _, .gen [901,900] _ _ _ rfl (.arg ?harg (c1)) rfl rfl rfl rfl rfl, ?_⟩); case harg => (repeat' (first | exact sm | apply And.intro))) | (refine And.intro (fun hq => ?_) (fun hq => ?_) <;> first | exact cl1 | ((try simp only [bl] at hq); (try dsimp only at hq); first | exact cl2 | skip))
    | refine fun hq => ?_ | refine ob3 ?_ | fail) <;> conv => whnf)
    all_goals (repeat' (first | exact sm | apply And.intro))
   | some R =>
    obtain ⟨x, a, b⟩ := R
    rw [hg] at c1
    rw [liveP_on h0 hg]
    have G := Kd.tGet_good hs hg
    have pa := Kd.kid_pos G.ga
    have pb := Kd.kid_pos G.gb
    have ia := klive_ok d h1 h8 f s a hs G.ga (by have := G.size; omega)
    have ib := klive_ok d h1 h8 f s b hs G.gb (by have := G.size; omega)
    have la := fun l h => (Kd.live_ok (d := d) f s a l hs h).2 G.ga
    have lb := fun l h => (Kd.live_ok (d := d) f s b l hs h).2 G.gb
    obtain ⟨lv, hlv⟩ : ∃ lv : Nat → Option (List Rw), ∀ i, lv i = liveP d f s ([a, b].getD i default) := ⟨_, fun _ => rfl⟩
    have e0 : liveP d f s a = lv 0 := (hlv 0).symm
    have e1 : liveP d f s b = lv 1 := (hlv 1).symm
    rw [e0, e1]
    rw [e0] at ia la
    rw [e1] at ib lb
    have hc : ∀ i, i < 2 → ACall Tryz.prog 46 [treeA d, agD (kidL ([a, b].getD i default))] (stoH 900 901 s) (resL (lv i)) (stoH 900 901 s) := fun i hi => by
     rcases i with _ | _ | i
     ·exact ia
     ·exact ib
     ·omega
    have hn : ∀ i, i < 2 → ∀ l, lv i = some l → l.length ≤ 1048576 := fun i hi l h => by
     rcases i with _ | _ | i
     ·have := la l h; omega
     ·have := lb l h; omega
     ·omega
    clear hlv e0 e1 ia ib la lb
    obtain ⟨row, lve⟩ := x
    obtain ⟨X, hX⟩ : ∃ X : List Rw, X = if lve = true then [row] else [] := ⟨_, rfl⟩
    have hXl : X.length ≤ 1 := by rw [hX]; split <;> simp
    dsimp only
    rw [← hX]
    obtain ⟨st, hst⟩ : ∃ st : Nat → List Rw, ∀ i, st i = if i = 0 then X else if i = 1 then X ++ (lv 0).getD [] else X ++ (lv 0).getD [] ++ (lv 1).getD [] := ⟨_, fun _ => rfl⟩
    have st0 : st 0 = X := hst 0
    have st2 : st 2 = X ++ (lv 0).getD [] ++ (lv 1).getD [] := hst 2
    have hs1 : ∀ i, i < 2 → ∀ l, lv i = some l → st (i + 1) = st i ++ l := fun i hi l h => by
     rcases i with _ | _ | i
     ·rw [st0, hst 1, h]; rfl
     ·rw [st2, hst 1, h]; rfl
     ·omega
    have hsl : ∀ i, i ≤ 2 → (st i).length ≤ 3000000 := fun i hi => by
     have l0 : ((lv 0).getD []).length ≤ 1048576 := by
      cases h : lv 0 with
      | none => simp
      | some l => exact hn 0 (by omega) l h
     have l1 : ((lv 1).getD []).length ≤ 1048576 := by
      cases h : lv 1 with
      | none => simp
      | some l => exact hn 1 (by omega) l h
     rcases i with _ | _ | _ | i
     ·rw [st0]; omega
     ·rw [hst 1, if_neg (by omega), if_pos rfl, List.length_append]; omega
     ·rw [st2, List.length_append, List.length_append]; omega
     ·omega
    obtain ⟨R, hR⟩ : ∃ R : Option (List Rw), R = combL X (lv 0) (lv 1) := ⟨_, rfl⟩
    rw [← hR]
    have hN : ∀ i, i < 2 → lv i = none → R = none := fun i hi h => by
     rcases i with _ | _ | i
     ·rw [hR, h, combL_no1]
     ·rw [hR, h, combL_no2]
     ·omega
    have hS : (∀ j, j < 2 → ∃ l, lv j = some l) → R = some (st 2) := fun h => by
     obtain ⟨l0, h0⟩ := h 0 (by omega)
     obtain ⟨l1, h1⟩ := h 1 (by omega)
     rw [hR, st2, h0, h1]; rfl
    clear hR st2 hst
    cases lve
    ·replace hX : X = [] := hX
     subst hX
     refine acall_on (mu := [2]) [(7, [.virt 9 910 26 1, .tell 910 (rowF [])]), (17, [.lay 910])] [] mixed Tryz.func46 rfl rfl rfl ?_
     conv => whnf
     repeat' ((first
     | refine ob ?_
     | refine ⟨_, _, _, .gen [901,900] _ _ _ rfl (c1) rfl rfl rfl rfl rfl, ?_⟩
     | ((refine ⟨_, _, _, .gen [901,900] _ _ _ rfl (.arg ?harg (c1)) rfl rfl rfl rfl rfl, ?_⟩); case harg => (repeat' (first | exact sm | apply And.intro))) | (refine And.intro (fun hq => ?_) (fun hq => ?_) <;> first | exact cl1 | ((try simp only [bl] at hq); (try dsimp only at hq); first | exact cl2 | skip))
     | refine fun hq => ?_ | refine ob3 ?_ | fail) <;> conv => whnf)
     refine ⟨[], ?_⟩
     conv => whnf
     refine ⟨Nat, fun i => i ≤ 2 ∧ ∀ j, j < i → ∃ l, lv j = some l, fun i => 2 - i, fun i => [(9, .own 910 0), (36, exI .i64 i)], fun i => [(910, .row 26 1 0 false (st i).length (rowF (st i)))], ⟨0, ⟨by omega, fun j hj => by omega⟩, ?_⟩, ?_⟩
     ·skip
      refine ⟨[], ?_⟩
      conv => whnf
      refine ⟨rfl, ?_, ?_⟩ <;> (repeat' (first | exact trivial | ((rw [st0]; done)) | ((rw [st0]; rfl)) | ((rw [st0]; exact app_rw1 _ _ rfl)) | ((intro i hi; rw [st0]; done)) | exact sm | apply And.intro))
     rintro i ⟨hi, hno⟩
     conv => whnf
     have hli := hsl i hi
     rcases Nat.lt_or_ge i 2 with hlt | hge
     ·have q := hc ((i : Int)).toNat (by omega)
      have ei : ((i : Int)).toNat = i := by omega
      cases hl : lv i with
      | none =>
       rw [show lv ((i : Int)).toNat = none by rw [ei]; exact hl] at q
       rw [hN i hlt hl]
       conv => whnf
       repeat' ((first
       | refine ob ?_
       | refine ⟨_, _, _, .gen [901,900] _ _ _ rfl (q) rfl rfl rfl rfl rfl, ?_⟩
       | ((refine ⟨_, _, _, .gen [901,900] _ _ _ rfl (.arg ?harg (q)) rfl rfl rfl rfl rfl, ?_⟩); case harg => (repeat' (first | exact sm | apply And.intro))) | (refine And.intro (fun hq => ?_) (fun hq => ?_) <;> first | exact cl1 | ((try simp only [bl] at hq); (try dsimp only at hq); first | exact cl2 | skip))
       | refine fun hq => ?_ | refine ob3 ?_ | fail) <;> conv => whnf)
       all_goals (repeat' (first | exact sm | apply And.intro))
      | some l =>
       have hs2 := hs1 i hlt l hl
       have hll := hn i hlt l hl
       rw [show lv ((i : Int)).toNat = some l by rw [ei]; exact hl] at q
       conv => whnf
       repeat' ((first
       | refine ob ?_
       | refine ⟨_, _, _, .gen [901,900] _ _ _ rfl (q) rfl rfl rfl rfl rfl, ?_⟩
       | ((refine ⟨_, _, _, .gen [901,900] _ _ _ rfl (.arg ?harg (q)) rfl rfl rfl rfl rfl, ?_⟩); case harg => (repeat' (first | exact sm | apply And.intro))) | (refine And.intro (fun hq => ?_) (fun hq => ?_) <;> first | exact cl1 | ((try simp only [bl] at hq); (try dsimp only at hq); first | exact cl2 | skip))
       | refine fun hq => ?_ | refine ob3 ?_ | fail) <;> conv => whnf)
       refine ⟨(by show _ * 24 ≤ _; omega), ?_⟩
       conv => whnf
       conv => whnf
       repeat' ((first
       | refine ob ?_
       | (refine And.intro (fun hq => ?_) (fun hq => ?_) <;> first | exact cl1 | ((try simp only [bl] at hq); (try dsimp only at hq); first | exact cl2 | skip))
       | refine fun hq => ?_ | refine ob3 ?_ | fail) <;> conv => whnf)
       refine ⟨i + 1, ⟨by omega, fun j hj => ?_⟩, by dsimp only; omega, ?_⟩
       ·rcases Nat.lt_or_ge j i with z | z
        ·exact hno j z
        ·obtain rfl : j = i := by omega
         exact ⟨l, hl⟩
       refine ⟨[.regen 910 0], ?_⟩
       conv => whnf
       refine ⟨rfl, ?_, ?_⟩ <;> (repeat' (first | exact trivial | ((rw [hs2]; exact app_rw (st i) l _ rfl _ (fun i hi => rfl))) | ((rw [hs2]; simp; done)) | exact sm | apply And.intro))
     ·obtain rfl : i = 2 := by omega
      rw [hS (fun j hj => hno j hj)]
      conv => whnf
      repeat' ((first
      | refine ob ?_
      | (refine And.intro (fun hq => ?_) (fun hq => ?_) <;> first | exact cl1 | ((try simp only [bl] at hq); (try dsimp only at hq); first | exact cl2 | skip))
      | refine fun hq => ?_ | refine ob3 ?_ | fail) <;> conv => whnf)
      all_goals (repeat' (first | exact sm | apply And.intro))
    ·replace hX : X = [row] := hX
     subst hX
     refine acall_on (mu := [2]) [(7, [.virt 9 910 26 1, .tell 910 (rowF [])]), (17, [.lay 910])] [] mixed Tryz.func46 rfl rfl rfl ?_
     conv => whnf
     repeat' ((first
     | refine ob ?_
     | refine ⟨_, _, _, .gen [901,900] _ _ _ rfl (c1) rfl rfl rfl rfl rfl, ?_⟩
     | ((refine ⟨_, _, _, .gen [901,900] _ _ _ rfl (.arg ?harg (c1)) rfl rfl rfl rfl rfl, ?_⟩); case harg => (repeat' (first | exact sm | apply And.intro))) | (refine And.intro (fun hq => ?_) (fun hq => ?_) <;> first | exact cl1 | ((try simp only [bl] at hq); (try dsimp only at hq); first | exact cl2 | skip))
     | refine fun hq => ?_ | refine ob3 ?_ | fail) <;> conv => whnf)
     refine ⟨[.drop 29, .drop 33, .regen 910 0], ?_⟩
     conv => whnf
     refine ⟨Nat, fun i => i ≤ 2 ∧ ∀ j, j < i → ∃ l, lv j = some l, fun i => 2 - i, fun i => [(9, .own 910 0), (36, exI .i64 i)], fun i => [(910, .row 26 1 0 false (st i).length (rowF (st i)))], ⟨0, ⟨by omega, fun j hj => by omega⟩, ?_⟩, ?_⟩
     ·skip
      refine ⟨[], ?_⟩
      conv => whnf
      refine ⟨rfl, ?_, ?_⟩ <;> (repeat' (first | exact trivial | ((rw [st0]; done)) | ((rw [st0]; rfl)) | ((rw [st0]; exact app_rw1 _ _ rfl)) | ((intro i hi; rw [st0]; done)) | exact sm | apply And.intro))
     rintro i ⟨hi, hno⟩
     conv => whnf
     have hli := hsl i hi
     rcases Nat.lt_or_ge i 2 with hlt | hge
     ·have q := hc ((i : Int)).toNat (by omega)
      have ei : ((i : Int)).toNat = i := by omega
      cases hl : lv i with
      | none =>
       rw [show lv ((i : Int)).toNat = none by rw [ei]; exact hl] at q
       rw [hN i hlt hl]
       conv => whnf
       repeat' ((first
       | refine ob ?_
       | refine ⟨_, _, _, .gen [901,900] _ _ _ rfl (q) rfl rfl rfl rfl rfl, ?_⟩
       | ((refine ⟨_, _, _, .gen [901,900] _ _ _ rfl (.arg ?harg (q)) rfl rfl rfl rfl rfl, ?_⟩); case harg => (repeat' (first | exact sm | apply And.intro))) | (refine And.intro (fun hq => ?_) (fun hq => ?_) <;> first | exact cl1 | ((try simp only [bl] at hq); (try dsimp only at hq); first | exact cl2 | skip))
       | refine fun hq => ?_ | refine ob3 ?_ | fail) <;> conv => whnf)
       all_goals (repeat' (first | exact sm | apply And.intro))
      | some l =>
       have hs2 := hs1 i hlt l hl
       have hll := hn i hlt l hl
       rw [show lv ((i : Int)).toNat = some l by rw [ei]; exact hl] at q
       conv => whnf
       repeat' ((first
       | refine ob ?_
       | refine ⟨_, _, _, .gen [901,900] _ _ _ rfl (q) rfl rfl rfl rfl rfl, ?_⟩
       | ((refine ⟨_, _, _, .gen [901,900] _ _ _ rfl (.arg ?harg (q)) rfl rfl rfl rfl rfl, ?_⟩); case harg => (repeat' (first | exact sm | apply And.intro))) | (refine And.intro (fun hq => ?_) (fun hq => ?_) <;> first | exact cl1 | ((try simp only [bl] at hq); (try dsimp only at hq); first | exact cl2 | skip))
       | refine fun hq => ?_ | refine ob3 ?_ | fail) <;> conv => whnf)
       refine ⟨(by show _ * 24 ≤ _; omega), ?_⟩
       conv => whnf
       conv => whnf
       repeat' ((first
       | refine ob ?_
       | (refine And.intro (fun hq => ?_) (fun hq => ?_) <;> first | exact cl1 | ((try simp only [bl] at hq); (try dsimp only at hq); first | exact cl2 | skip))
       | refine fun hq => ?_ | refine ob3 ?_ | fail) <;> conv => whnf)
       refine ⟨i + 1, ⟨by omega, fun j hj => ?_⟩, by dsimp only; omega, ?_⟩
       ·rcases Nat.lt_or_ge j i with z | z
        ·exact hno j z
        ·obtain rfl : j = i := by omega
         exact ⟨l, hl⟩
       refine ⟨[.regen 910 0], ?_⟩
       conv => whnf
       refine ⟨rfl, ?_, ?_⟩ <;> (repeat' (first | exact trivial | ((rw [hs2]; exact app_rw (st i) l _ rfl _ (fun i hi => rfl))) | ((rw [hs2]; simp; done)) | exact sm | apply And.intro))
     ·obtain rfl : i = 2 := by omega
      rw [hS (fun j hj => hno j hj)]
      conv => whnf
      repeat' ((first
      | refine ob ?_
      | (refine And.intro (fun hq => ?_) (fun hq => ?_) <;> first | exact cl1 | ((try simp only [bl] at hq); (try dsimp only at hq); first | exact cl2 | skip))
      | refine fun hq => ?_ | refine ob3 ?_ | fail) <;> conv => whnf)
      all_goals (repeat' (first | exact sm | apply And.intro))
theorem klive_own (d : Nat) (h1 : 1 ≤ d) (h8 : d ≤ 8) (f : Nat) (s : Sto) (k : KidD) (hs : StoOk s) (hk : KidGood d k) (hf : k.size.toNat < f + 1) (h0 : ¬ k.live = 0) (L : List Rw) (hL : liveP d (f + 1) s k = some L) : ACall Tryz.prog 46 [treeA d, agD (kidL k)] (stoH 900 901 s) (.tup [.own 910 0, exI .i64 0]) (stoH 900 901 s ++ [(910, .row 26 1 0 false L.length (rowF L))]) := by
 have c1 := kget_ok d s hs k hk
 cases hg : tGet s d k with
 | none => rw [liveP_no h0 hg] at hL; cases hL
 | some R =>
  obtain ⟨x, a, b⟩ := R
  rw [hg] at c1
  rw [liveP_on h0 hg] at hL
  have G := Kd.tGet_good hs hg
  have pa := Kd.kid_pos G.ga
  have pb := Kd.kid_pos G.gb
  have ia := klive_ok d h1 h8 f s a hs G.ga (by have := G.size; omega)
  have ib := klive_ok d h1 h8 f s b hs G.gb (by have := G.size; omega)
  have la := fun l h => (Kd.live_ok (d := d) f s a l hs h).2 G.ga
  have lb := fun l h => (Kd.live_ok (d := d) f s b l hs h).2 G.gb
  obtain ⟨lv, hlv⟩ : ∃ lv : Nat → Option (List Rw), ∀ i, lv i = liveP d f s ([a, b].getD i default) := ⟨_, fun _ => rfl⟩
  have e0 : liveP d f s a = lv 0 := (hlv 0).symm
  have e1 : liveP d f s b = lv 1 := (hlv 1).symm
  rw [e0, e1] at hL
  rw [e0] at ia la
  rw [e1] at ib lb
  have hc : ∀ i, i < 2 → ACall Tryz.prog 46 [treeA d, agD (kidL ([a, b].getD i default))] (stoH 900 901 s) (resL (lv i)) (stoH 900 901 s) := fun i hi => by
   rcases i with _ | _ | i
   ·exact ia
   ·exact ib
   ·omega
  have hn : ∀ i, i < 2 → ∀ l, lv i = some l → l.length ≤ 1048576 := fun i hi l h => by
   rcases i with _ | _ | i
   ·have := la l h; omega
   ·have := lb l h; omega
   ·omega
  clear hlv e0 e1 ia ib la lb
  obtain ⟨row, lve⟩ := x
  obtain ⟨X, hX⟩ : ∃ X : List Rw, X = if lve = true then [row] else [] := ⟨_, rfl⟩
  have hXl : X.length ≤ 1 := by rw [hX]; split <;> simp
  dsimp only at hL
  rw [← hX] at hL
  obtain ⟨st, hst⟩ : ∃ st : Nat → List Rw, ∀ i, st i = if i = 0 then X else if i = 1 then X ++ (lv 0).getD [] else X ++ (lv 0).getD [] ++ (lv 1).getD [] := ⟨_, fun _ => rfl⟩
  have st0 : st 0 = X := hst 0
  have st2 : st 2 = X ++ (lv 0).getD [] ++ (lv 1).getD [] := hst 2
  have hs1 : ∀ i, i < 2 → ∀ l, lv i = some l → st (i + 1) = st i ++ l := fun i hi l h => by
   rcases i with _ | _ | i
   ·rw [st0, hst 1, h]; rfl
   ·rw [st2, hst 1, h]; rfl
   ·omega
  have hsl : ∀ i, i ≤ 2 → (st i).length ≤ 3000000 := fun i hi => by
   have l0 : ((lv 0).getD []).length ≤ 1048576 := by
    cases h : lv 0 with
    | none => simp
    | some l => exact hn 0 (by omega) l h
   have l1 : ((lv 1).getD []).length ≤ 1048576 := by
    cases h : lv 1 with
    | none => simp
    | some l => exact hn 1 (by omega) l h
   rcases i with _ | _ | _ | i
   ·rw [st0]; omega
   ·rw [hst 1, if_neg (by omega), if_pos rfl, List.length_append]; omega
   ·rw [st2, List.length_append, List.length_append]; omega
   ·omega
  have hN : ∀ i, i < 2 → lv i ≠ none := fun i hi h => by
   rcases i with _ | _ | i
   ·rw [h, combL_no1] at hL; cases hL
   ·rw [h, combL_no2] at hL; cases hL
   ·omega
  have hS : L = st 2 := by
   rw [st2]
   cases h : lv 0 with
   | none => exact absurd h (hN 0 (by omega))
   | some l0 =>
    cases h' : lv 1 with
    | none => exact absurd h' (hN 1 (by omega))
    | some l1 => rw [h, h'] at hL; exact (Option.some.inj hL).symm
  clear st2 hst hL
  cases lve
  ·replace hX : X = [] := hX
   subst hX
   refine acall_on (mu := [2]) [(7, [.virt 9 910 26 1, .tell 910 (rowF [])])] [] mixed Tryz.func46 rfl rfl rfl ?_
   conv => whnf
   repeat' ((first
   | refine ob ?_
   | refine ⟨_, _, _, .gen [901,900] _ _ _ rfl (c1) rfl rfl rfl rfl rfl, ?_⟩
   | ((refine ⟨_, _, _, .gen [901,900] _ _ _ rfl (.arg ?harg (c1)) rfl rfl rfl rfl rfl, ?_⟩); case harg => (repeat' (first | exact sm | apply And.intro))) | (refine And.intro (fun hq => ?_) (fun hq => ?_) <;> first | exact cl1 | ((try simp only [bl] at hq); (try dsimp only at hq); first | exact cl2 | skip))
   | refine fun hq => ?_ | refine ob3 ?_ | fail) <;> conv => whnf)
   refine ⟨[], ?_⟩
   conv => whnf
   refine ⟨Nat, fun i => i ≤ 2 ∧ ∀ j, j < i → ∃ l, lv j = some l, fun i => 2 - i, fun i => [(9, .own 910 0), (36, exI .i64 i)], fun i => [(910, .row 26 1 0 false (st i).length (rowF (st i)))], ⟨0, ⟨by omega, fun j hj => by omega⟩, ?_⟩, ?_⟩
   ·skip
    refine ⟨[], ?_⟩
    conv => whnf
    refine ⟨rfl, ?_, ?_⟩ <;> (repeat' (first | exact trivial | ((rw [st0]; done)) | ((rw [st0]; rfl)) | ((rw [st0]; exact app_rw1 _ _ rfl)) | ((intro i hi; rw [st0]; done)) | exact sm | apply And.intro))
   rintro i ⟨hi, hno⟩
   conv => whnf
   have hli := hsl i hi
   rcases Nat.lt_or_ge i 2 with hlt | hge
   ·have q := hc ((i : Int)).toNat (by omega)
    have ei : ((i : Int)).toNat = i := by omega
    cases hl : lv i with
    | none =>
     exact absurd hl (hN i hlt)
    | some l =>
     have hs2 := hs1 i hlt l hl
     have hll := hn i hlt l hl
     rw [show lv ((i : Int)).toNat = some l by rw [ei]; exact hl] at q
     conv => whnf
     repeat' ((first
     | refine ob ?_
     | refine ⟨_, _, _, .gen [901,900] _ _ _ rfl (q) rfl rfl rfl rfl rfl, ?_⟩
     | ((refine ⟨_, _, _, .gen [901,900] _ _ _ rfl (.arg ?harg (q)) rfl rfl rfl rfl rfl, ?_⟩); case harg => (repeat' (first | exact sm | apply And.intro))) | (refine And.intro (fun hq => ?_) (fun hq => ?_) <;> first | exact cl1 | ((try simp only [bl] at hq); (try dsimp only at hq); first | exact cl2 | skip))
     | refine fun hq => ?_ | refine ob3 ?_ | fail) <;> conv => whnf)
     refine ⟨(by show _ * 24 ≤ _; omega), ?_⟩
     conv => whnf
     conv => whnf
     repeat' ((first
     | refine ob ?_
     | (refine And.intro (fun hq => ?_) (fun hq => ?_) <;> first | exact cl1 | ((try simp only [bl] at hq); (try dsimp only at hq); first | exact cl2 | skip))
     | refine fun hq => ?_ | refine ob3 ?_ | fail) <;> conv => whnf)
     refine ⟨i + 1, ⟨by omega, fun j hj => ?_⟩, by dsimp only; omega, ?_⟩
     ·rcases Nat.lt_or_ge j i with z | z
      ·exact hno j z
      ·obtain rfl : j = i := by omega
       exact ⟨l, hl⟩
     refine ⟨[.regen 910 0], ?_⟩
     conv => whnf
     refine ⟨rfl, ?_, ?_⟩ <;> (repeat' (first | exact trivial | ((rw [hs2]; exact app_rw (st i) l _ rfl _ (fun i hi => rfl))) | ((rw [hs2]; simp; done)) | exact sm | apply And.intro))
   ·obtain rfl : i = 2 := by omega
    rw [hS]
    conv => whnf
    repeat' ((first
    | refine ob ?_
    | (refine And.intro (fun hq => ?_) (fun hq => ?_) <;> first | exact cl1 | ((try simp only [bl] at hq); (try dsimp only at hq); first | exact cl2 | skip))
    | refine fun hq => ?_ | refine ob3 ?_ | fail) <;> conv => whnf)
    all_goals (repeat' (first | exact sm | apply And.intro))
  ·replace hX : X = [row] := hX
   subst hX
   refine acall_on (mu := [2]) [(7, [.virt 9 910 26 1, .tell 910 (rowF [])])] [] mixed Tryz.func46 rfl rfl rfl ?_
   conv => whnf
   repeat' ((first
   | refine ob ?_
   | refine ⟨_, _, _, .gen [901,900] _ _ _ rfl (c1) rfl rfl rfl rfl rfl, ?_⟩
   | ((refine ⟨_, _, _, .gen [901,900] _ _ _ rfl (.arg ?harg (c1)) rfl rfl rfl rfl rfl, ?_⟩); case harg => (repeat' (first | exact sm | apply And.intro))) | (refine And.intro (fun hq => ?_) (fun hq => ?_) <;> first | exact cl1 | ((try simp only [bl] at hq); (try dsimp only at hq); first | exact cl2 | skip))
   | refine fun hq => ?_ | refine ob3 ?_ | fail) <;> conv => whnf)
   refine ⟨[.drop 29, .drop 33, .regen 910 0], ?_⟩
   conv => whnf
   refine ⟨Nat, fun i => i ≤ 2 ∧ ∀ j, j < i → ∃ l, lv j = some l, fun i => 2 - i, fun i => [(9, .own 910 0), (36, exI .i64 i)], fun i => [(910, .row 26 1 0 false (st i).length (rowF (st i)))], ⟨0, ⟨by omega, fun j hj => by omega⟩, ?_⟩, ?_⟩
   ·skip
    refine ⟨[], ?_⟩
    conv => whnf
    refine ⟨rfl, ?_, ?_⟩ <;> (repeat' (first | exact trivial | ((rw [st0]; done)) | ((rw [st0]; rfl)) | ((rw [st0]; exact app_rw1 _ _ rfl)) | ((intro i hi; rw [st0]; done)) | exact sm | apply And.intro))
   rintro i ⟨hi, hno⟩
   conv => whnf
   have hli := hsl i hi
   rcases Nat.lt_or_ge i 2 with hlt | hge
   ·have q := hc ((i : Int)).toNat (by omega)
    have ei : ((i : Int)).toNat = i := by omega
    cases hl : lv i with
    | none =>
     exact absurd hl (hN i hlt)
    | some l =>
     have hs2 := hs1 i hlt l hl
     have hll := hn i hlt l hl
     rw [show lv ((i : Int)).toNat = some l by rw [ei]; exact hl] at q
     conv => whnf
     repeat' ((first
     | refine ob ?_
     | refine ⟨_, _, _, .gen [901,900] _ _ _ rfl (q) rfl rfl rfl rfl rfl, ?_⟩
     | ((refine ⟨_, _, _, .gen [901,900] _ _ _ rfl (.arg ?harg (q)) rfl rfl rfl rfl rfl, ?_⟩); case harg => (repeat' (first | exact sm | apply And.intro))) | (refine And.intro (fun hq => ?_) (fun hq => ?_) <;> first | exact cl1 | ((try simp only [bl] at hq); (try dsimp only at hq); first | exact cl2 | skip))
     | refine fun hq => ?_ | refine ob3 ?_ | fail) <;> conv => whnf)
     refine ⟨(by show _ * 24 ≤ _; omega), ?_⟩
     conv => whnf
     conv => whnf
     repeat' ((first
     | refine ob ?_
     | (refine And.intro (fun hq => ?_) (fun hq => ?_) <;> first | exact cl1 | ((try simp only [bl] at hq); (try dsimp only at hq); first | exact cl2 | skip))
     | refine fun hq => ?_ | refine ob3 ?_ | fail) <;> conv => whnf)
     refine ⟨i + 1, ⟨by omega, fun j hj => ?_⟩, by dsimp only; omega, ?_⟩
     ·rcases Nat.lt_or_ge j i with z | z
      ·exact hno j z
      ·obtain rfl : j = i := by omega
       exact ⟨l, hl⟩
     refine ⟨[.regen 910 0], ?_⟩
     conv => whnf
     refine ⟨rfl, ?_, ?_⟩ <;> (repeat' (first | exact trivial | ((rw [hs2]; exact app_rw (st i) l _ rfl _ (fun i hi => rfl))) | ((rw [hs2]; simp; done)) | exact sm | apply And.intro))
   ·obtain rfl : i = 2 := by omega
    rw [hS]
    conv => whnf
    repeat' ((first
    | refine ob ?_
    | (refine And.intro (fun hq => ?_) (fun hq => ?_) <;> first | exact cl1 | ((try simp only [bl] at hq); (try dsimp only at hq); first | exact cl2 | skip))
    | refine fun hq => ?_ | refine ob3 ?_ | fail) <;> conv => whnf)
    all_goals (repeat' (first | exact sm | apply And.intro))
end Go.Proofs.YtedokpgkjcnoiaaGreat
