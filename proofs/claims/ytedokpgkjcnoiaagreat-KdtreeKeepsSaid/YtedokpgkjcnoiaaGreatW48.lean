/- kdtree: Rows, Build. Chapter 11: its examples, walked; Dims, fit. -/
import Derived.Test.YtedokpgkjcnoiaaGreatW22
import Derived.Test.YtedokpgkjcnoiaaGreatW44
import Derived.Test.YtedokpgkjcnoiaaGreatW47
set_option linter.unusedVariables false
set_option linter.unusedSimpArgs false
namespace Go.Proofs.YtedokpgkjcnoiaaGreat
open Go.RowKit
open Kd (nPut nGet forkN forkP tGet KidGood RwOk layP thenP PGood liveP anewP rowsP)
set_option maxRecDepth 100000
set_option maxHeartbeats 4000000
theorem live_len {d : Nat} : ∀ (f : Nat) (s : Sto) (k : KidD) (l : List Rw), StoOk s → KidGood d k → liveP d f s k = some l → (l.length : Int) = k.live
 | 0, s, k, l, hs, hk, e => by cases e
 | f + 1, s, k, l, hs, hk, e => by
  by_cases h0 : k.live = 0
  ·rw [liveP_zero h0] at e; cases e; rw [h0]; rfl
  ·cases hg : tGet s d k with
   | none => rw [liveP_no h0 hg] at e; cases e
   | some Q =>
    obtain ⟨x, a, b⟩ := Q
    have G := Kd.tGet_good hs hg
    rw [liveP_on h0 hg] at e
    have ia := live_len (d := d) f s a
    have ib := live_len (d := d) f s b
    cases h1 : liveP d f s a with
    | none => rw [h1, combL_no1] at e; cases e
    | some m1 =>
     cases h2 : liveP d f s b with
     | none => rw [h2, combL_no2] at e; cases e
     | some m2 =>
      rw [h1, h2] at e
      have e : (if x.live = true then [x.row] else []) ++ m1 ++ m2 = l := Option.some.inj e
      have j1 := ia m1 hs G.ga h1
      have j2 := ib m2 hs G.gb h2
      have j3 := G.live
      rw [← e, List.length_append, List.length_append]
      by_cases hx : x.live = true
      ·rw [if_pos hx] at j3 ⊢; simp; omega
      ·rw [if_neg hx] at j3 ⊢; simp; omega
theorem kRows_ok (d : Nat) (h1 : 1 ≤ d) (h8 : d ≤ 8) (s : Sto) (k : KidD) (hs : StoOk s) (hk : KidGood d k) : ACall Tryz.prog 22 [.ptr 900 0 0 0, agD (kidL k), exI .i64 d] (stoH 900 901 s) (resL (rowsP d s k)) (stoH 900 901 s) := by
 have cr := kright_ok d [] (by simp)
 rw [show rightD (d : Int) [] = true by unfold rightD; simp; omega] at cr
 have hkp := Kd.kid_pos hk
 unfold rowsP
 by_cases h0 : k.live = 0
 ·rw [liveP_zero h0]
  have c1 := klive_zero d s k h0
  have c2 := sortnil_v rowsV
  unfold rowsV at c2
  refine acall_on (mu := []) [] [] mixed Tryz.func22 rfl rfl rfl ?_
  conv => whnf
  repeat' ((first
  | refine ob ?_
  | refine ⟨_, _, _, .gen [901,900] _ _ _ rfl (c1) rfl rfl rfl rfl rfl, ?_⟩
  | refine ⟨_, _, _, .flat _ _ rfl (c2) rfl, ?_⟩
  | (refine ⟨_, _, _, .flat _ _ rfl (ACall.deep ?hdeep (cr)) rfl, ?_⟩; case hdeep => (repeat' (first | exact AvT.nil | exact AvL.nil | exact DvL.nil | refine AvT.cons ?_ ?_ | refine AvL.cons ?_ ?_ | refine DvL.cons ?_ ?_ | exact AvA.one (.refl _) | exact AvE.refl _ | exact DvE.refl _ | exact DvE.nil _ _ _ _ | refine AvA.agg ?_ | refine AvA.one (.d ?_) | refine AvA.one (.dp ?_) | refine AvE.d ?_ | refine AvE.dp ?_ | refine DvE.sl' ?_ | refine DvE.p' ?_ | (intro k hk; rcases k with _ | _ | _ | _ | _ | _ | k <;> first | (exfalso; omega) | skip))))
  | ((refine ⟨_, _, _, .gen [901,900] _ _ _ rfl (.arg ?harg (c1)) rfl rfl rfl rfl rfl, ?_⟩); case harg => (repeat' (first | exact sm | apply And.intro)))
  | ((refine ⟨_, _, _, .flat _ _ rfl (.arg ?harg (c2)) rfl, ?_⟩); case harg => (repeat' (first | exact sm | apply And.intro))) | (refine And.intro (fun hq => ?_) (fun hq => ?_) <;> first | exact cl1 | ((try simp only [bl] at hq); (try dsimp only at hq); first | exact cl2 | skip))
  | refine fun hq => ?_ | refine ob3 ?_ | fail) <;> conv => whnf)
  all_goals (repeat' (first | exact sm | apply And.intro))
 ·cases hl : liveP d (k.size.toNat + 1) s k with
  | none =>
   have c1 := klive_ok d h1 h8 (k.size.toNat + 1) s k hs hk (by omega)
   rw [hl] at c1
   refine acall_on (mu := []) [] [] mixed Tryz.func22 rfl rfl rfl ?_
   conv => whnf
   repeat' ((first
   | refine ob ?_
   | refine ⟨_, _, _, .gen [901,900] _ _ _ rfl (c1) rfl rfl rfl rfl rfl, ?_⟩
   | (refine ⟨_, _, _, .flat _ _ rfl (ACall.deep ?hdeep (cr)) rfl, ?_⟩; case hdeep => (repeat' (first | exact AvT.nil | exact AvL.nil | exact DvL.nil | refine AvT.cons ?_ ?_ | refine AvL.cons ?_ ?_ | refine DvL.cons ?_ ?_ | exact AvA.one (.refl _) | exact AvE.refl _ | exact DvE.refl _ | exact DvE.nil _ _ _ _ | refine AvA.agg ?_ | refine AvA.one (.d ?_) | refine AvA.one (.dp ?_) | refine AvE.d ?_ | refine AvE.dp ?_ | refine DvE.sl' ?_ | refine DvE.p' ?_ | (intro k hk; rcases k with _ | _ | _ | _ | _ | _ | k <;> first | (exfalso; omega) | skip))))
   | ((refine ⟨_, _, _, .gen [901,900] _ _ _ rfl (.arg ?harg (c1)) rfl rfl rfl rfl rfl, ?_⟩); case harg => (repeat' (first | exact sm | apply And.intro))) | (refine And.intro (fun hq => ?_) (fun hq => ?_) <;> first | exact cl1 | ((try simp only [bl] at hq); (try dsimp only at hq); first | exact cl2 | skip))
   | refine fun hq => ?_ | refine ob3 ?_ | fail) <;> conv => whnf)
   all_goals (repeat' (first | exact sm | apply And.intro))
  | some l =>
   have c1 := klive_own d h1 h8 k.size.toNat s k hs hk (by omega) h0 l hl
   have hlen := live_len _ s k l hs hk hl
   obtain ⟨hr, _⟩ := Kd.live_ok (d := d) _ s k l hs hl
   have hne : l ≠ [] := fun e => by rw [e] at hlen; simp at hlen; omega
   have c2 := sort_orows1 910 0 d (by omega) l hne (by omega) (fun r hr' => (hr r hr').1)
   unfold rowsV at c2
   have hil := Kd.isort_len (lt := Kd.lexLt) l
   show ACall _ _ _ _ (resL (some (Kd.isort Kd.lexLt l))) _
   generalize Kd.isort Kd.lexLt l = M at c2 hil ⊢
   refine acall_on (mu := []) [(7, [.lay 910])] [] mixed Tryz.func22 rfl rfl rfl ?_
   conv => whnf
   repeat' ((first
   | refine ob ?_
   | refine ⟨_, _, _, .gen [901,900] _ _ _ rfl (c1) rfl rfl rfl rfl rfl, ?_⟩
   | refine ⟨_, _, _, .gen [910] _ _ _ rfl (c2) rfl rfl rfl rfl rfl, ?_⟩
   | (refine ⟨_, _, _, .flat _ _ rfl (ACall.deep ?hdeep (cr)) rfl, ?_⟩; case hdeep => (repeat' (first | exact AvT.nil | exact AvL.nil | exact DvL.nil | refine AvT.cons ?_ ?_ | refine AvL.cons ?_ ?_ | refine DvL.cons ?_ ?_ | exact AvA.one (.refl _) | exact AvE.refl _ | exact DvE.refl _ | exact DvE.nil _ _ _ _ | refine AvA.agg ?_ | refine AvA.one (.d ?_) | refine AvA.one (.dp ?_) | refine AvE.d ?_ | refine AvE.dp ?_ | refine DvE.sl' ?_ | refine DvE.p' ?_ | (intro k hk; rcases k with _ | _ | _ | _ | _ | _ | k <;> first | (exfalso; omega) | skip))))
   | ((refine ⟨_, _, _, .gen [901,900] _ _ _ rfl (.arg ?harg (c1)) rfl rfl rfl rfl rfl, ?_⟩); case harg => (repeat' (first | exact sm | apply And.intro)))
   | ((refine ⟨_, _, _, .gen [910] _ _ _ rfl (.arg ?harg (c2)) rfl rfl rfl rfl rfl, ?_⟩); case harg => (repeat' (first | exact sm | apply And.intro))) | (refine And.intro (fun hq => ?_) (fun hq => ?_) <;> first | exact cl1 | ((try simp only [bl] at hq); (try dsimp only at hq); first | exact cl2 | skip))
   | refine fun hq => ?_ | refine ob3 ?_ | fail) <;> conv => whnf)
   all_goals (repeat' (first | exact trivial | (exact hil.symm) | (exact hil) | exact sm | apply And.intro))
def dupM (M : List Rw) : Prop := ∃ i, 1 ≤ i ∧ i < M.length ∧ M.getD i [] = M.getD (i - 1) []
open Classical in
noncomputable def buildP (d : Nat) (s : Sto) (L : List Rw) : Sto × KidD × Int := if dupM (Kd.isort Kd.lexLt L) then (s, Pl.kidZ, 8) else layP d L.length s (Kd.isort Kd.lexLt L) 0
open Classical in
theorem kBuild_ok (d : Nat) (h1 : 1 ≤ d) (h8 : d ≤ 8) (s : Sto) (L : List Rw) (hs : StoOk s) (hL : L.length ≤ 1000000) (hr : ∀ p ∈ L, RwOk d p) : ACall Tryz.prog 12 [.ptr 900 0 0 0, .d (rowL L), exI .i64 d] (stoH 900 901 s) (resK (buildP d s L)) (stoH 900 901 (buildP d s L).1) := by
 have cr := kright_ok d L hL
 rw [show rightD (d : Int) L = true by
  unfold rightD
  simp only [Bool.and_eq_true, decide_eq_true_eq, List.all_eq_true]
  exact ⟨by omega, by omega, fun p hp => by have := (hr p hp).1; omega⟩] at cr
 by_cases hne : L = []
 ·subst hne
  rw [show buildP d s [] = (s, Pl.kidZ, 0) from by
   unfold buildP
   rw [if_neg (fun ⟨i, h1, h2, _⟩ => by simp [Kd.isort] at h2)]; rfl]
  have c1 := rwclone0
  have c2 := sortnil_ok buildV
  unfold buildV at c2
  have c3 := klay_nil d s 0
  refine acall_on (mu := []) [] [] mixed Tryz.func12 rfl rfl rfl ?_
  conv => whnf
  repeat' ((first
  | refine ob ?_
  | refine ⟨_, _, _, .flat _ _ rfl (cr) rfl, ?_⟩
  | refine ⟨_, _, _, .gen [] _ _ _ rfl (c1) rfl rfl rfl rfl rfl, ?_⟩
  | refine ⟨_, _, _, .flat _ _ rfl (c2) rfl, ?_⟩
  | ((refine ⟨_, _, _, .flat _ _ rfl (.arg ?harg (cr)) rfl, ?_⟩); case harg => (repeat' (first | exact sm | apply And.intro)))
  | ((refine ⟨_, _, _, .gen [] _ _ _ rfl (.arg ?harg (c1)) rfl rfl rfl rfl rfl, ?_⟩); case harg => (repeat' (first | exact sm | apply And.intro)))
  | ((refine ⟨_, _, _, .flat _ _ rfl (.arg ?harg (c2)) rfl, ?_⟩); case harg => (repeat' (first | exact sm | apply And.intro))) | (refine And.intro (fun hq => ?_) (fun hq => ?_) <;> first | exact cl1 | ((try simp only [bl] at hq); (try dsimp only at hq); first | exact cl2 | skip))
  | refine fun hq => ?_ | refine ob3 ?_ | fail) <;> conv => whnf)
  refine ⟨[], ?_⟩
  conv => whnf
  refine ⟨Unit, fun _ => True, fun _ => 0, fun _ => [(9, exI .i64 1)], fun _ => [], ⟨(), trivial, ?_⟩, ?_⟩
  ·skip
   refine ⟨[], ?_⟩
   conv => whnf
   refine ⟨rfl, ?_, ?_⟩ <;> (repeat' (first | exact sm | apply And.intro))
  rintro _ _
  conv => whnf
  conv => whnf
  repeat' ((first
  | refine ob ?_
  | refine ⟨_, _, _, .gen [901,900] _ _ _ rfl (c3) rfl rfl rfl rfl rfl, ?_⟩
  | ((refine ⟨_, _, _, .gen [901,900] _ _ _ rfl (.arg ?harg (c3)) rfl rfl rfl rfl rfl, ?_⟩); case harg => (repeat' (first | exact sm | apply And.intro))) | (refine And.intro (fun hq => ?_) (fun hq => ?_) <;> first | exact cl1 | ((try simp only [bl] at hq); (try dsimp only at hq); first | exact cl2 | skip))
  | refine fun hq => ?_ | refine ob3 ?_ | fail) <;> conv => whnf)
  all_goals (repeat' (first | exact sm | apply And.intro))
 ·have h0 : 0 < L.length := List.length_pos_iff.2 hne
  have c1 := rwcloneO 902 L h0 (by omega)
  have c2 := sort_obuild1 902 1 d (by omega) L hne (by omega) (fun r hr' => (hr r hr').1)
  unfold buildV at c2
  have hlen := Kd.isort_len (lt := Kd.lexLt) L
  have hM : ∀ p ∈ Kd.isort Kd.lexLt L, RwOk d p := fun p hp => hr p (Kd.isort_mem.1 hp)
  unfold buildP
  generalize Kd.isort Kd.lexLt L = M at c2 hlen hM ⊢
  have c3 := klay_ok d h1 h8 L.length s M 0 hs (by omega) (by omega) (by omega) hM
  unfold rowL at c3
  rw [hlen] at c3
  have hMi : ∀ i, i < M.length → (M.getD i []).length = d := fun i hi => (Kd.getD_rw hM hi).1
  obtain ⟨R, hR⟩ : ∃ R, R = (if dupM M then (s, Pl.kidZ, 8) else layP d L.length s M 0) := ⟨_, rfl⟩
  rw [← hR]
  have hR1 : ∀ i, 1 ≤ i → i < M.length → M.getD i [] = M.getD (i - 1) [] → R = (s, Pl.kidZ, 8) := fun i a b c => hR.trans (if_pos ⟨i, a, b, c⟩)
  have hR2 : (∀ i, 1 ≤ i → i < M.length → M.getD i [] ≠ M.getD (i - 1) []) → R = layP d L.length s M 0 := fun h => hR.trans (if_neg (fun ⟨i, a, b, c⟩ => h i a b c))
  clear hR
  generalize layP d L.length s M 0 = R3 at c3 hR2
  refine acall_on (mu := []) [] [] mixed Tryz.func12 rfl rfl rfl ?_
  conv => whnf
  repeat' ((first
  | refine ob ?_
  | refine ⟨_, _, _, .flat _ _ rfl (cr) rfl, ?_⟩
  | refine ⟨_, _, _, .gen [] _ _ _ rfl (c1) rfl rfl rfl rfl rfl, ?_⟩
  | refine ⟨_, _, _, .gen [902] _ _ _ rfl (c2) rfl rfl rfl rfl rfl, ?_⟩
  | ((refine ⟨_, _, _, .flat _ _ rfl (.arg ?harg (cr)) rfl, ?_⟩); case harg => (repeat' (first | exact sm | apply And.intro)))
  | ((refine ⟨_, _, _, .gen [] _ _ _ rfl (.arg ?harg (c1)) rfl rfl rfl rfl rfl, ?_⟩); case harg => (repeat' (first | exact sm | apply And.intro)))
  | ((refine ⟨_, _, _, .gen [902] _ _ _ rfl (.arg ?harg (c2)) rfl rfl rfl rfl rfl, ?_⟩); case harg => (repeat' (first | exact sm | apply And.intro))) | (refine And.intro (fun hq => ?_) (fun hq => ?_) <;> first | exact cl1 | ((try simp only [bl] at hq); (try dsimp only at hq); first | exact cl2 | skip))
  | refine fun hq => ?_ | refine ob3 ?_ | fail) <;> conv => whnf)
  refine ⟨[], ?_⟩
  conv => whnf
  refine ⟨Nat, fun i => 1 ≤ i ∧ i ≤ L.length ∧ ∀ j, 1 ≤ j → j < i → M.getD j [] ≠ M.getD (j - 1) [], fun i => L.length - i, fun i => [(9, exI .i64 i)], fun _ => [], ⟨1, ⟨by omega, by omega, fun j a b => by omega⟩, ?_⟩, ?_⟩
  ·skip
   refine ⟨[], ?_⟩
   conv => whnf
   refine ⟨rfl, ?_, ?_⟩ <;> (repeat' (first | exact sm | apply And.intro))
  rintro i ⟨hi1, hi, hno⟩
  conv => whnf
  rcases Nat.lt_or_ge i L.length with hlt | hge
  ·have ei : ((i : Int)).toNat = i := by omega
   have ej : ((i : Int) - 1).toNat = i - 1 := by omega
   have q := equal_any (M.getD ((i : Int)).toNat []) (M.getD ((i : Int) - 1).toNat []) (by rw [ei, hMi i (by omega)]; omega)
   by_cases hdu : M.getD i [] = M.getD (i - 1) []
   ·rw [show decide (M.getD ((i : Int)).toNat [] = M.getD ((i : Int) - 1).toNat []) = true by rw [ei, ej]; exact decide_eq_true hdu] at q
    obtain rfl := hR1 i hi1 (by omega) hdu
    conv => whnf
    repeat' ((first
    | refine ob ?_
    | refine ⟨_, _, _, .flat _ _ rfl (q) rfl, ?_⟩
    | ((refine ⟨_, _, _, .flat _ _ rfl (.arg ?harg (q)) rfl, ?_⟩); case harg => (repeat' (first | exact sm | apply And.intro))) | (refine And.intro (fun hq => ?_) (fun hq => ?_) <;> first | exact cl1 | ((try simp only [bl] at hq); (try dsimp only at hq); first | exact cl2 | skip))
    | refine fun hq => ?_ | refine ob3 ?_ | fail) <;> conv => whnf)
    all_goals (repeat' (first | exact sm | apply And.intro))
   ·rw [show decide (M.getD ((i : Int)).toNat [] = M.getD ((i : Int) - 1).toNat []) = false by rw [ei, ej]; exact decide_eq_false hdu] at q
    conv => whnf
    repeat' ((first
    | refine ob ?_
    | refine ⟨_, _, _, .flat _ _ rfl (q) rfl, ?_⟩
    | ((refine ⟨_, _, _, .flat _ _ rfl (.arg ?harg (q)) rfl, ?_⟩); case harg => (repeat' (first | exact sm | apply And.intro))) | (refine And.intro (fun hq => ?_) (fun hq => ?_) <;> first | exact cl1 | ((try simp only [bl] at hq); (try dsimp only at hq); first | exact cl2 | skip))
    | refine fun hq => ?_ | refine ob3 ?_ | fail) <;> conv => whnf)
    refine ⟨i + 1, ⟨by omega, by omega, fun j a b => ?_⟩, by dsimp only; omega, ?_⟩
    ·rcases Nat.lt_or_ge j i with z | z
     ·exact hno j a z
     ·obtain rfl : j = i := by omega
      exact hdu
    refine ⟨[], ?_⟩
    conv => whnf
    refine ⟨rfl, ?_, ?_⟩ <;> (repeat' (first | exact sm | apply And.intro))
  ·obtain rfl : i = L.length := by omega
   obtain rfl := hR2 (fun j a b => hno j a (by omega))
   conv => whnf
   repeat' ((first
   | refine ob ?_
   | refine ⟨_, _, _, .gen [901,900] _ _ _ rfl (c3) rfl rfl rfl rfl rfl, ?_⟩
   | ((refine ⟨_, _, _, .gen [901,900] _ _ _ rfl (.arg ?harg (c3)) rfl rfl rfl rfl rfl, ?_⟩); case harg => (repeat' (first | exact sm | apply And.intro))) | (refine And.intro (fun hq => ?_) (fun hq => ?_) <;> first | exact cl1 | ((try simp only [bl] at hq); (try dsimp only at hq); first | exact cl2 | skip))
   | refine fun hq => ?_ | refine ob3 ?_ | fail) <;> conv => whnf)
   all_goals (repeat' (first | exact sm | apply And.intro))
end Go.Proofs.YtedokpgkjcnoiaaGreat
namespace Go.Proofs.YtedokpgkjcnoiaaGreat
open Go.RowKit
open Kd (nPut nGet forkN forkP tGet KidGood RwOk layP insP heightP kT2 kT1 kT3 kU4 kV4 kW4)
set_option maxRecDepth 100000
set_option maxHeartbeats 4000000
theorem rwok_one (x : Int) (h : -9223372036854775808 ≤ x ∧ x ≤ 9223372036854775807) : RwOk 1 [x] := ⟨rfl, fun i => by rcases i with _ | i <;> simp <;> omega⟩
theorem alive11 : ACall Tryz.prog 7 [] [] (exB true) [] := by
 obtain ⟨s3, s4, s6, s9, e3, eg, e4, e6, e9, eh, o3, o4, o6, o9⟩ := Kd.alive11P
 have cn := cppnew
 have gT : KidGood 1 kT2 := by rw [← Kd.kidT2]; exact (Kd.kidT_facts 1 (by decide) (by decide) _ Kd.okT2 (by decide)).1
 have gU : KidGood 1 kU4 := by rw [← Kd.kidU4]; exact (Kd.kidT_facts 1 (by decide) (by decide) _ Kd.okU4 (by decide)).1
 have gV : KidGood 1 kV4 := by rw [← Kd.kidV4]; exact (Kd.kidT_facts 1 (by decide) (by decide) _ Kd.okV4 (by decide)).1
 have gW : KidGood 1 kW4 := by rw [← Kd.kidW4]; exact (Kd.kidT_facts 1 (by decide) (by decide) _ Kd.okW4 (by decide)).1
 have c1 := kBuild_ok 1 (by decide) (by decide) Sto.new [[3], [1], [2]] StoOk.new (by simp) (fun p hp => by
  simp only [List.mem_cons, List.not_mem_nil, or_false] at hp
  rcases hp with rfl | rfl | rfl <;> exact rwok_one _ (by omega))
 rw [show buildP 1 Sto.new [[3], [1], [2]] = (s3, kT2, 0) from by
  have e : Kd.isort Kd.lexLt [[3], [1], [2]] = [[1], [2], [3]] := by decide
  unfold buildP
  rw [e, if_neg]
  ·exact e3
  ·rintro ⟨i, h1, h2, h3⟩
   have h2 : i < 3 := h2
   obtain rfl | rfl : i = 1 ∨ i = 2 := by omega
   ·revert h3; decide
   ·revert h3; decide] at c1
 have c2 := nget_ok s3 o3 kT2 1 gT.o
 rw [show nGet s3 kT2 1 = some (forkN ⟨[2], true⟩ kT1 kT3) from eg] at c2
 obtain ⟨st, hst⟩ : ∃ st : Nat → Sto, ∀ j, st j = if j = 0 then s3 else if j = 1 then s4 else if j = 2 then s6 else s9 := ⟨_, fun _ => rfl⟩
 obtain ⟨kk, hkk⟩ : ∃ kk : Nat → KidD, ∀ j, kk j = if j = 0 then Pl.kidZ else if j = 1 then kU4 else if j = 2 then kV4 else kW4 := ⟨_, fun _ => rfl⟩
 have st0 : st 0 = s3 := hst 0
 have st3 : st 3 = s9 := hst 3
 have kk0 : kk 0 = Pl.kidZ := hkk 0
 have kk3 : kk 3 = kW4 := hkk 3
 have q : ∀ j, j < 3 → ACall Tryz.prog 21 [.ptr 900 0 0 0, agD (kidL (kk j)), .d (i64L [((4 + j : Nat) : Int)]), exI .i64 1] (stoH 900 901 (st j)) (.tup [agD (kidL (kk (j + 1))), exI .i64 0]) (stoH 900 901 (st (j + 1))) := fun j hj => by
  rcases j with _ | _ | _ | j
  ·have c := kInsert_ok 1 (by decide) (by decide) s3 Pl.kidZ [4] o3 (KidGood.zero 1) (rwok_one _ (by omega))
   rw [show insP 1 (Pl.kidZ.size.toNat + 1) s3 Pl.kidZ [4] 0 = (s4, kU4, 0) from e4] at c
   rw [hst, hst, hkk, hkk]; exact c
  ·have c := kInsert_ok 1 (by decide) (by decide) s4 kU4 [5] o4 gU (rwok_one _ (by omega))
   rw [show insP 1 (kU4.size.toNat + 1) s4 kU4 [5] 0 = (s6, kV4, 0) from e6] at c
   rw [hst, hst, hkk, hkk]; exact c
  ·have c := kInsert_ok 1 (by decide) (by decide) s6 kV4 [6] o6 gV (rwok_one _ (by omega))
   rw [show insP 1 (kV4.size.toNat + 1) s6 kV4 [6] 0 = (s9, kW4, 0) from e9] at c
   rw [hst, hst, hkk, hkk]; exact c
  ·omega
 have c3 := kHeight_ok 1 (by decide) (by decide) s9 kW4 o9 gW
 rw [show heightP 1 (kW4.size.toNat + 1) s9 kW4 = some 3 from eh] at c3
 have l1 : kT2.size = 3 := rfl
 have l2 : kW4.live = 3 := rfl
 have r1 : (forkN ⟨[2], true⟩ kT1 kT3).rows.length = 1 := rfl
 have r2 : ((forkN ⟨[2], true⟩ kT1 kT3).rows.getD (Int.toNat 0) default).row.length = 1 := rfl
 have r3 : ((forkN ⟨[2], true⟩ kT1 kT3).rows.getD (Int.toNat 0) default).row.getD (Int.toNat 0) 0 = 2 := rfl
 generalize forkN ⟨[2], true⟩ kT1 kT3 = n at c2 r1 r2 r3
 have kz : kidL (kk 0) = kidL Pl.kidZ := by rw [kk0]
 clear hst hkk e3 eg e4 e6 e9 eh o3 o4 o6 o9 gT gU gV gW
 generalize hT : kT2 = T at c1 c2 l1
 generalize hW : kW4 = W at c3 l2 kk3
 refine acall_on (mu := []) [] [] mixed Tryz.func7 rfl rfl rfl ?_
 conv => whnf
 repeat' ((first
 | refine ob ?_
 | refine ⟨_, _, _, .gen [] _ _ _ rfl (cn) rfl rfl rfl rfl rfl, ?_⟩
 | refine ⟨_, _, _, .gen [901,900] _ _ _ rfl (c2) rfl rfl rfl rfl rfl, ?_⟩
 | ((refine ⟨_, _, _, .gen [] _ _ _ rfl (.arg ?harg (cn)) rfl rfl rfl rfl rfl, ?_⟩); case harg => (repeat' (first | exact sm | apply And.intro))) | (refine ⟨_, _, _, .gen [901,900] _ _ _ rfl (ACall.deep ?hdeep (c1)) rfl rfl rfl rfl rfl, ?_⟩; case hdeep => (repeat' (first | exact AvT.nil | exact AvL.nil | exact DvL.nil | refine AvT.cons ?_ ?_ | refine AvL.cons ?_ ?_ | refine DvL.cons ?_ ?_ | exact AvA.one (.refl _) | exact AvE.refl _ | exact DvE.refl _ | exact DvE.nil _ _ _ _ | refine AvA.agg ?_ | refine AvA.one (.d ?_) | refine AvA.one (.dp ?_) | refine AvE.d ?_ | refine AvE.dp ?_ | refine DvE.sl' ?_ | refine DvE.p' ?_ | (intro k hk; rcases k with _ | _ | _ | _ | _ | _ | k <;> first | (exfalso; omega) | skip))))
 | ((refine ⟨_, _, _, .gen [901,900] _ _ _ rfl (.arg ?harg (c2)) rfl rfl rfl rfl rfl, ?_⟩); case harg => (repeat' (first | exact sm | apply And.intro))) | (refine And.intro (fun hq => ?_) (fun hq => ?_) <;> first | exact cl1 | ((try simp only [bl] at hq); (try dsimp only at hq); first | exact cl2 | skip))
 | refine fun hq => ?_ | refine ob3 ?_ | fail) <;> conv => whnf)
 refine ⟨[], ?_⟩
 conv => whnf
 refine ⟨Nat, fun j => j ≤ 3, fun j => 3 - j, fun j => [(7, exI .i64 ((4 + j : Nat) : Int))], fun j => (6, .box 36 ((kidL (kk j)).map .d)) :: stoH 900 901 (st j), ⟨0, by omega, ?_⟩, ?_⟩
 ·skip
  refine ⟨[], ?_⟩
  conv => whnf
  refine ⟨rfl, ?_, ?_⟩ <;> (repeat' (first | exact trivial | ((try intro k_ hk_); rw [st0]; first | done | rfl) | ((try intro k_ hk_); rw [kk0]; first | done | rfl) | exact sm | apply And.intro))
 intro j hj
 conv => whnf
 rcases Nat.lt_or_ge j 3 with hlt | hge
 ·have q := q j hlt
  conv => whnf
  repeat' ((first
  | refine ob ?_
  | (refine ⟨_, _, _, .gen [901,900] _ _ _ rfl (ACall.deep ?hdeep (q)) rfl rfl rfl rfl rfl, ?_⟩; case hdeep => (repeat' (first | exact AvT.nil | exact AvL.nil | exact DvL.nil | refine AvT.cons ?_ ?_ | refine AvL.cons ?_ ?_ | refine DvL.cons ?_ ?_ | exact AvA.one (.refl _) | exact AvE.refl _ | exact DvE.refl _ | exact DvE.nil _ _ _ _ | refine AvA.agg ?_ | refine AvA.one (.d ?_) | refine AvA.one (.dp ?_) | refine AvE.d ?_ | refine AvE.dp ?_ | refine DvE.sl' ?_ | refine DvE.p' ?_ | (intro k hk; rcases k with _ | _ | _ | _ | _ | _ | k <;> first | (exfalso; omega) | skip)))) | (refine And.intro (fun hq => ?_) (fun hq => ?_) <;> first | exact cl1 | ((try simp only [bl] at hq); (try dsimp only at hq); first | exact cl2 | skip))
  | refine fun hq => ?_ | refine ob3 ?_ | fail) <;> conv => whnf)
  refine ⟨j + 1, by omega, by dsimp only; omega, ?_⟩
  refine ⟨[], ?_⟩
  conv => whnf
  refine ⟨rfl, ?_, ?_⟩ <;> (repeat' (first | exact sm | apply And.intro))
 ·obtain rfl : j = 3 := by omega
  rw [st3, kk3]
  conv => whnf
  repeat' ((first
  | refine ob ?_
  | refine ⟨_, _, _, .gen [901,900] _ _ _ rfl (c3) rfl rfl rfl rfl rfl, ?_⟩
  | ((refine ⟨_, _, _, .gen [901,900] _ _ _ rfl (.arg ?harg (c3)) rfl rfl rfl rfl rfl, ?_⟩); case harg => (repeat' (first | exact sm | apply And.intro))) | (refine And.intro (fun hq => ?_) (fun hq => ?_) <;> first | exact cl1 | ((try simp only [bl] at hq); (try dsimp only at hq); first | exact cl2 | skip))
  | refine fun hq => ?_ | refine ob3 ?_ | fail) <;> conv => whnf)
  rw [l2]
  conv => whnf
  all_goals (repeat' (first | exact sm | apply And.intro))
end Go.Proofs.YtedokpgkjcnoiaaGreat
