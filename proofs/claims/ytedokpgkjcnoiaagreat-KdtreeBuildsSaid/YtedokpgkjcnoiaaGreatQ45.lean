/- slices.SortFunc of rows by their order: Build's and Rows' comparisons; of no rows. kdtree: Rows, Build. kdtree: remove. kdtree: Delete, Has, height, Height. -/
import Derived.Shelf.SlSortCmp.NoneTotal
import Derived.Test.YtedokpgkjcnoiaaGreatQ43
import Derived.Test.YtedokpgkjcnoiaaGreatQ44
set_option linter.unusedVariables false
set_option linter.unusedSimpArgs false
namespace Go.Proofs.YtedokpgkjcnoiaaGreat
open Go.RowKit Go.Shelf
theorem acall_sort0 {P : Program} {ρ : Go.Shelf.Ren} (Ly : Go.Proofs.SlLaysF.n6 P ρ) (hE : Enters P (ρ.f 6)) (A : Option Addr) (c : Nat) (fv : AV) : ACall P (ρ.f 6) [.d (.v (.slice A 0 c)), fv] [] (.tup []) [] := by
 refine ⟨hE, fun A' W vl vs G hl hv => ?_⟩
 obtain ⟨v0, v1, rfl⟩ : ∃ v0 v1, vs = [v0, v1] := by
  match vs, hl with
  | [a, b], _ => exact ⟨a, b, rfl⟩
 obtain rfl := rv_ex_inv (hv 0 (by simp))
 refine (Go.Proofs.AnyF.slices_SortFunc_none (P := P) (ρ := ρ) { Ly with } A c v1 W).mono ?_
 rintro e W' ⟨rfl, rfl⟩
 exact ⟨.tuple #[], ⟨_, W', [], vl⟩, rfl, rfl, rfl, rfl, Fr.refl _, G, ⟨[], rfl, rfl, fun j hj => by cases hj⟩⟩
set_option maxRecDepth 100000
set_option maxHeartbeats 4000000
theorem sortnil_ok (fv : AV) : ACall Tryz.prog 34 [.d (rowL []), fv] [] (.tup []) [] :=
 ACall.none0 (pre := []) (post := [fv]) (fun A c => acall_sort0 Tryz.sort34 (enters_of Tryz.func34 rfl rfl) A c fv)
theorem obuild1 (A B : Option Addr) (l m : List Int) (c d Z : Nat) (w : World) (hA : Arr w Z A l.length (i64s l)) (hB : Arr w Z B m.length (i64s m)) (hlm : m.length = l.length) (h1 : l.length ≤ 1000000) :
    Calls Tryz.prog 35 #[.slice A l.length c, .slice B m.length d] w fun e w' => e = .returned (.int .i64 (Kd.cmpL Kd.lexLt l m)) ∧ ∃ q, w' = w.drewN q := by
  have hcm := hideP (ocompare A B l m c d Z w hA hB hlm h1)
  generalize Kd.cmpL Kd.lexLt l m = RS at hcm ⊢
  generalize l.length = n at hcm ⊢
  generalize m.length = n2 at hcm ⊢
  clear hA hB hlm h1
  go_enter Tryz.func35, Tryz.ntmps35
  go_wp2_with (go_at_call 36; refine (hcm.out).mono ?_; rintro e w' ⟨rfl, rfl⟩)
  go_ret
  exact ⟨rfl, 0, rfl⟩
def buildV : AV := .d (.v (.func (.func 35) #[] #[]))
theorem cmps_obuild1 (d : Nat) (hd : d ≤ 1000000) : Cmps Tryz.prog 35 d Kd.lexLt buildV := fun C v hv => by
 obtain rfl := rv_ex_inv hv
 refine ⟨#[], rfl, fun W hW A B l m c e Z hl hm hA hB => ?_⟩
 exact obuild1 A B l m c e Z W hA hB (by omega) (by omega)
theorem sort_obuild1 (K g d : Nat) (hd : d ≤ 1000000) (L : List Rw) (hne : L ≠ []) (hL : L.length ≤ 2000000) (hr : ∀ r ∈ L, r.length = d) :
    ACall Tryz.prog 34 [.own K g, buildV] [(K, .row 26 1 g false L.length (rowF L))] (.tup []) [(K, .row 26 1 g false L.length (rowF (Kd.isort Kd.lexLt L)))] := by
  have q := acall_sort Tryz.sort34 (enters_of Tryz.func34 rfl rfl) Kd.lexLt d 35 ⟨fun x y z _ _ _ => Kd.lexLt_totl.tr x y z trivial trivial trivial, Kd.lexLt_totl.ir, fun x y _ _ => Kd.lexLt_totl.tot x y trivial trivial⟩ (enters_of Tryz.func35 rfl rfl) buildV (cmps_obuild1 d hd) 26 L hne hL hr
  obtain ⟨σ, τ, hστ, e1⟩ := names1 901 K
  have q := q.ren (σ := σ) (τ := τ) (δ := fun x => if x = 901 then g else 0) hστ (by
    intro x ob hx hr
    by_cases ex : x = 901
    · subst ex; rcases hx with hx | hx <;> (simp [look] at hx; subst hx; cases hr)
    · simp [ex])
  simp [mapC, mapA, mapA1, rnA, rnH, rnO, buildV, e1] at q ⊢
  exact q
end Go.Proofs.YtedokpgkjcnoiaaGreat
namespace Go.Proofs.YtedokpgkjcnoiaaGreat
open Go.RowKit
open Kd (nPut nGet forkN forkP tGet KidGood RwOk layP thenP PGood liveP anewP rowsP)
set_option maxRecDepth 100000
set_option maxHeartbeats 4000000
def dupM (M : List Rw) : Prop := ∃ i, 1 ≤ i ∧ i < M.length ∧ M.getD i [] = M.getD (i - 1) []
open Classical in
noncomputable def buildP (d : Nat) (s : Sto) (L : List Rw) : Sto × KidD × Int := if dupM (Kd.isort Kd.lexLt L) then (s, Pl.kidZ, 8) else layP d L.length s (Kd.isort Kd.lexLt L) 0
open Classical in
theorem kBuild_ok (d : Nat) (h1 : 1 ≤ d) (h8 : d ≤ 8) (s : Sto) (L : List Rw) (hs : StoOk s) (hL : L.length ≤ 1000000) (hr : ∀ p ∈ L, RwOk d p) : ACall Tryz.prog 12 [.ptr 900 0 0 0, .d (rowL L), exI .i64 d] (stoH 900 901 s) (resK (buildP d s L)) (stoH 900 901 (buildP d s L).1) := by
 have cr := kright_ok d L hL
 rw [show rightD (d : Int) L = true by
  unfold rightD
  simp only [Bool.and_eq_true, decide_eq_true_eq, List.all_eq_true]
  exact ⟨by omega, by omega, fun p hp => by have := (hr p hp).1; omega⟩] at cr
 by_cases hne : L = []
 ·subst hne
  rw [show buildP d s [] = (s, Pl.kidZ, 0) from by
   unfold buildP
   rw [if_neg (fun ⟨i, h1, h2, _⟩ => by simp [Kd.isort] at h2)]; rfl]
  have c1 := rwclone0
  have c2 := sortnil_ok buildV
  unfold buildV at c2
  have c3 := klay_nil d s 0
  refine acall_on (mu := []) [] [] mixed Tryz.func12 rfl rfl rfl ?_
  conv => whnf
  repeat' ((first
  | refine ob ?_
  | refine ⟨_, _, _, .flat _ _ rfl (cr) rfl, ?_⟩
  | refine ⟨_, _, _, .gen [] _ _ _ rfl (c1) rfl rfl rfl rfl rfl, ?_⟩
  | refine ⟨_, _, _, .flat _ _ rfl (c2) rfl, ?_⟩
  | ((refine ⟨_, _, _, .flat _ _ rfl (.arg ?harg (cr)) rfl, ?_⟩); case harg => (repeat' (first | exact sm | apply And.intro)))
  | ((refine ⟨_, _, _, .gen [] _ _ _ rfl (.arg ?harg (c1)) rfl rfl rfl rfl rfl, ?_⟩); case harg => (repeat' (first | exact sm | apply And.intro)))
  | ((refine ⟨_, _, _, .flat _ _ rfl (.arg ?harg (c2)) rfl, ?_⟩); case harg => (repeat' (first | exact sm | apply And.intro))) | (refine And.intro (fun hq => ?_) (fun hq => ?_) <;> first | exact cl1 | ((try simp only [bl] at hq); (try dsimp only at hq); first | exact cl2 | skip))
  | refine fun hq => ?_ | refine ob3 ?_ | fail) <;> conv => whnf)
  refine ⟨[], ?_⟩
  conv => whnf
  refine ⟨Unit, fun _ => True, fun _ => 0, fun _ => [(9, exI .i64 1)], fun _ => [], ⟨(), trivial, ?_⟩, ?_⟩
  ·skip
   refine ⟨[], ?_⟩
   conv => whnf
   refine ⟨rfl, ?_, ?_⟩ <;> (repeat' (first | exact sm | apply And.intro))
  rintro _ _
  conv => whnf
  conv => whnf
  repeat' ((first
  | refine ob ?_
  | refine ⟨_, _, _, .gen [901,900] _ _ _ rfl (c3) rfl rfl rfl rfl rfl, ?_⟩
  | ((refine ⟨_, _, _, .gen [901,900] _ _ _ rfl (.arg ?harg (c3)) rfl rfl rfl rfl rfl, ?_⟩); case harg => (repeat' (first | exact sm | apply And.intro))) | (refine And.intro (fun hq => ?_) (fun hq => ?_) <;> first | exact cl1 | ((try simp only [bl] at hq); (try dsimp only at hq); first | exact cl2 | skip))
  | refine fun hq => ?_ | refine ob3 ?_ | fail) <;> conv => whnf)
  all_goals (repeat' (first | exact sm | apply And.intro))
 ·have h0 : 0 < L.length := List.length_pos_iff.2 hne
  have c1 := rwcloneO 902 L h0 (by omega)
  have c2 := sort_obuild1 902 1 d (by omega) L hne (by omega) (fun r hr' => (hr r hr').1)
  unfold buildV at c2
  have hlen := Kd.isort_len (lt := Kd.lexLt) L
  have hM : ∀ p ∈ Kd.isort Kd.lexLt L, RwOk d p := fun p hp => hr p (Kd.isort_mem.1 hp)
  unfold buildP
  generalize Kd.isort Kd.lexLt L = M at c2 hlen hM ⊢
  have c3 := klay_ok d h1 h8 L.length s M 0 hs (by omega) (by omega) (by omega) hM
  unfold rowL at c3
  rw [hlen] at c3
  have hMi : ∀ i, i < M.length → (M.getD i []).length = d := fun i hi => (Kd.getD_rw hM hi).1
  obtain ⟨R, hR⟩ : ∃ R, R = (if dupM M then (s, Pl.kidZ, 8) else layP d L.length s M 0) := ⟨_, rfl⟩
  rw [← hR]
  have hR1 : ∀ i, 1 ≤ i → i < M.length → M.getD i [] = M.getD (i - 1) [] → R = (s, Pl.kidZ, 8) := fun i a b c => hR.trans (if_pos ⟨i, a, b, c⟩)
  have hR2 : (∀ i, 1 ≤ i → i < M.length → M.getD i [] ≠ M.getD (i - 1) []) → R = layP d L.length s M 0 := fun h => hR.trans (if_neg (fun ⟨i, a, b, c⟩ => h i a b c))
  clear hR
  generalize layP d L.length s M 0 = R3 at c3 hR2
  refine acall_on (mu := []) [] [] mixed Tryz.func12 rfl rfl rfl ?_
  conv => whnf
  repeat' ((first
  | refine ob ?_
  | refine ⟨_, _, _, .flat _ _ rfl (cr) rfl, ?_⟩
  | refine ⟨_, _, _, .gen [] _ _ _ rfl (c1) rfl rfl rfl rfl rfl, ?_⟩
  | refine ⟨_, _, _, .gen [902] _ _ _ rfl (c2) rfl rfl rfl rfl rfl, ?_⟩
  | ((refine ⟨_, _, _, .flat _ _ rfl (.arg ?harg (cr)) rfl, ?_⟩); case harg => (repeat' (first | exact sm | apply And.intro)))
  | ((refine ⟨_, _, _, .gen [] _ _ _ rfl (.arg ?harg (c1)) rfl rfl rfl rfl rfl, ?_⟩); case harg => (repeat' (first | exact sm | apply And.intro)))
  | ((refine ⟨_, _, _, .gen [902] _ _ _ rfl (.arg ?harg (c2)) rfl rfl rfl rfl rfl, ?_⟩); case harg => (repeat' (first | exact sm | apply And.intro))) | (refine And.intro (fun hq => ?_) (fun hq => ?_) <;> first | exact cl1 | ((try simp only [bl] at hq); (try dsimp only at hq); first | exact cl2 | skip))
  | refine fun hq => ?_ | refine ob3 ?_ | fail) <;> conv => whnf)
  refine ⟨[], ?_⟩
  conv => whnf
  refine ⟨Nat, fun i => 1 ≤ i ∧ i ≤ L.length ∧ ∀ j, 1 ≤ j → j < i → M.getD j [] ≠ M.getD (j - 1) [], fun i => L.length - i, fun i => [(9, exI .i64 i)], fun _ => [], ⟨1, ⟨by omega, by omega, fun j a b => by omega⟩, ?_⟩, ?_⟩
  ·skip
   refine ⟨[], ?_⟩
   conv => whnf
   refine ⟨rfl, ?_, ?_⟩ <;> (repeat' (first | exact sm | apply And.intro))
  rintro i ⟨hi1, hi, hno⟩
  conv => whnf
  rcases Nat.lt_or_ge i L.length with hlt | hge
  ·have ei : ((i : Int)).toNat = i := by omega
   have ej : ((i : Int) - 1).toNat = i - 1 := by omega
   have q := equal_any (M.getD ((i : Int)).toNat []) (M.getD ((i : Int) - 1).toNat []) (by rw [ei, hMi i (by omega)]; omega)
   by_cases hdu : M.getD i [] = M.getD (i - 1) []
   ·rw [show decide (M.getD ((i : Int)).toNat [] = M.getD ((i : Int) - 1).toNat []) = true by rw [ei, ej]; exact decide_eq_true hdu] at q
    obtain rfl := hR1 i hi1 (by omega) hdu
    conv => whnf
    repeat' ((first
    | refine ob ?_
    | refine ⟨_, _, _, .flat _ _ rfl (q) rfl, ?_⟩
    | ((refine ⟨_, _, _, .flat _ _ rfl (.arg ?harg (q)) rfl, ?_⟩); case harg => (repeat' (first | exact sm | apply And.intro))) | (refine And.intro (fun hq => ?_) (fun hq => ?_) <;> first | exact cl1 | ((try simp only [bl] at hq); (try dsimp only at hq); first | exact cl2 | skip))
    | refine fun hq => ?_ | refine ob3 ?_ | fail) <;> conv => whnf)
    all_goals (repeat' (first | exact sm | apply And.intro))
   ·rw [show decide (M.getD ((i : Int)).toNat [] = M.getD ((i : Int) - 1).toNat []) = false by rw [ei, ej]; exact decide_eq_false hdu] at q
    conv => whnf
    repeat' ((first
    | refine ob ?_
    | refine ⟨_, _, _, .flat _ _ rfl (q) rfl, ?_⟩
    | ((refine ⟨_, _, _, .flat _ _ rfl (.arg ?harg (q)) rfl, ?_⟩); case harg => (repeat' (first | exact sm | apply And.intro))) | (refine And.intro (fun hq => ?_) (fun hq => ?_) <;> first | exact cl1 | ((try simp only [bl] at hq); (try dsimp only at hq); first | exact cl2 | skip))
    | refine fun hq => ?_ | refine ob3 ?_ | fail) <;> conv => whnf)
    refine ⟨i + 1, ⟨by omega, by omega, fun j a b => ?_⟩, by dsimp only; omega, ?_⟩
    ·rcases Nat.lt_or_ge j i with z | z
     ·exact hno j a z
     ·obtain rfl : j = i := by omega
      exact hdu
    refine ⟨[], ?_⟩
    conv => whnf
    refine ⟨rfl, ?_, ?_⟩ <;> (repeat' (first | exact sm | apply And.intro))
  ·obtain rfl : i = L.length := by omega
   obtain rfl := hR2 (fun j a b => hno j a (by omega))
   conv => whnf
   repeat' ((first
   | refine ob ?_
   | refine ⟨_, _, _, .gen [901,900] _ _ _ rfl (c3) rfl rfl rfl rfl rfl, ?_⟩
   | ((refine ⟨_, _, _, .gen [901,900] _ _ _ rfl (.arg ?harg (c3)) rfl rfl rfl rfl rfl, ?_⟩); case harg => (repeat' (first | exact sm | apply And.intro))) | (refine And.intro (fun hq => ?_) (fun hq => ?_) <;> first | exact cl1 | ((try simp only [bl] at hq); (try dsimp only at hq); first | exact cl2 | skip))
   | refine fun hq => ?_ | refine ob3 ?_ | fail) <;> conv => whnf)
   all_goals (repeat' (first | exact sm | apply And.intro))
end Go.Proofs.YtedokpgkjcnoiaaGreat
namespace Go.Proofs.YtedokpgkjcnoiaaGreat
open Go.RowKit
open Kd (nPut nGet forkN forkP tGet KidGood RwOk layP thenP PGood liveP anewP againP insP remP)
set_option maxRecDepth 100000
set_option maxHeartbeats 4000000
section
open Kd
variable {d f : Nat} {s : Sto} {k : KidD} {p q : Rw} {dep : Nat} {x : EntD} {a b : KidD}
end
end Go.Proofs.YtedokpgkjcnoiaaGreat
namespace Go.Proofs.YtedokpgkjcnoiaaGreat
open Go.RowKit
open Kd (nPut nGet forkN forkP tGet KidGood RwOk layP thenP PGood liveP anewP againP insP remP hasP heightP)
set_option maxRecDepth 100000
set_option maxHeartbeats 4000000
section
variable {d f : Nat} {s : Sto} {k : KidD} {p q : Rw} {dep : Nat} {x : EntD} {a b : KidD}
end
def combH : Option Nat → Option Nat → Option Nat
 | some h1, some h2 => some (1 + max h1 h2)
 | _, _ => none
theorem combH_no1 (o : Option Nat) : combH none o = none := by cases o <;> rfl
theorem combH_no2 (o : Option Nat) : combH o none = none := by cases o <;> rfl
theorem heightP_Z {d f : Nat} {s : Sto} : heightP d (f + 1) s Pl.kidZ = some 0 := if_pos rfl
theorem heightP_none {d f : Nat} {s : Sto} {k : KidD} (hk : k ≠ Pl.kidZ) (hg : tGet s d k = none) : heightP d (f + 1) s k = none := by rw [heightP, if_neg hk, hg]
theorem heightP_on {d f : Nat} {s : Sto} {k : KidD} {x : EntD} {a b : KidD} (hk : k ≠ Pl.kidZ) (hg : tGet s d k = some (x, a, b)) : heightP d (f + 1) s k = combH (heightP d f s a) (heightP d f s b) := by
 rw [heightP, if_neg hk, hg]
 dsimp only
 cases heightP d f s a with
 | none => rw [combH_no1]
 | some l1 =>
  cases heightP d f s b with
  | none => rfl
  | some l2 => rfl
theorem height_le {d : Nat} : ∀ (f : Nat) (s : Sto) (k : KidD) (h : Nat), heightP d f s k = some h → h ≤ f
 | 0, s, k, h, e => by cases e
 | f + 1, s, k, h, e => by
  by_cases hz : k = Pl.kidZ
  ·subst hz; rw [heightP_Z] at e; cases e; omega
  ·cases hg : tGet s d k with
   | none => rw [heightP_none hz hg] at e; cases e
   | some Q =>
    obtain ⟨x, a, b⟩ := Q
    rw [heightP_on hz hg] at e
    have ia := height_le (d := d) f s a
    have ib := height_le (d := d) f s b
    cases h1 : heightP d f s a with
    | none => rw [h1, combH_no1] at e; cases e
    | some m1 =>
     cases h2 : heightP d f s b with
     | none => rw [h2, combH_no2] at e; cases e
     | some m2 =>
      rw [h1, h2] at e
      have e : 1 + max m1 m2 = h := Option.some.inj e
      have := ia m1 h1; have := ib m2 h2
      omega
def resH : Option Nat → AV
 | some h => .tup [exI .i64 h, exI .i64 0]
 | none => .tup [exI .i64 0, exI .i64 21]
theorem kheight_ok (d : Nat) (h1 : 1 ≤ d) (h8 : d ≤ 8) : ∀ (f : Nat) (s : Sto) (k : KidD), StoOk s → KidGood d k → k.size.toNat < f → f ≤ 100000000 → ACall Tryz.prog 41 [treeA d, agD (kidL k)] (stoH 900 901 s) (resH (heightP d f s k)) (stoH 900 901 s)
 | 0, s, k, hs, hk, hf, hd => by omega
 | f + 1, s, k, hs, hk, hf, hd => by
  have q0 := nempty_any k ⟨hk.o.lo, hk.o.hi, hk.o.key⟩
  rw [kidS_zero hk.o.s] at q0
  by_cases hz : k = Pl.kidZ
  ·subst hz
   rw [decide_eq_true rfl] at q0
   rw [heightP_Z]
   refine acall_on (mu := [2]) [] [] mixed Tryz.func41 rfl rfl rfl ?_
   conv => whnf
   repeat' ((first
   | refine ob ?_
   | refine ⟨_, _, _, .flat _ _ rfl (q0) rfl, ?_⟩
   | ((refine ⟨_, _, _, .flat _ _ rfl (.arg ?harg (q0)) rfl, ?_⟩); case harg => (repeat' (first | exact sm | apply And.intro))) | (refine And.intro (fun hq => ?_) (fun hq => ?_) <;> first | exact cl1 | ((try simp only [bl] at hq); (try dsimp only at hq); first | exact cl2 | skip))
   | refine fun hq => ?_ | refine ob3 ?_ | fail) <;> conv => whnf)
   all_goals (repeat' (first | exact sm | apply And.intro))
  ·rw [decide_eq_false hz] at q0
   have c1 := kget_ok d s hs k hk
   cases hg : tGet s d k with
   | none =>
    rw [hg] at c1
    rw [heightP_none hz hg]
    refine acall_on (mu := [2]) [] [] mixed Tryz.func41 rfl rfl rfl ?_
    conv => whnf
    repeat' ((first
    | refine ob ?_
    | refine ⟨_, _, _, .flat _ _ rfl (q0) rfl, ?_⟩
    | refine ⟨_, _, _, .gen [901,900] _ _ _ rfl (c1) rfl rfl rfl rfl rfl, ?_⟩
    | ((refine ⟨_, _, _, .flat _ _ rfl (.arg ?harg (q0)) rfl, ?_⟩); case harg => (repeat' (first | exact sm | apply And.intro)))
    | ((refine ⟨_, _, _, .gen [901,900] _ _ _ rfl (.arg ?harg (c1)) rfl rfl rfl rfl rfl, ?_⟩); case harg => (repeat' (first | exact sm | apply And.intro))) | (refine And.intro (fun hq => ?_) (fun hq => ?_) <;> first | exact cl1 | ((try simp only [bl] at hq); (try dsimp only at hq); first | exact cl2 | skip))
    | refine fun hq => ?_ | refine ob3 ?_ | fail) <;> conv => whnf)
    all_goals (repeat' (first | exact sm | apply And.intro))
   | some Q =>
    obtain ⟨x, a, b⟩ := Q
    rw [hg] at c1
    rw [heightP_on hz hg]
    have G := Kd.tGet_good hs hg
    have pa := Kd.kid_pos G.ga
    have pb := Kd.kid_pos G.gb
    have ia := kheight_ok d h1 h8 f s a hs G.ga (by have := G.size; omega) (by omega)
    have ib := kheight_ok d h1 h8 f s b hs G.gb (by have := G.size; omega) (by omega)
    have la := height_le (d := d) f s a
    have lb := height_le (d := d) f s b
    obtain ⟨lv, hlv⟩ : ∃ lv : Nat → Option Nat, ∀ i, lv i = heightP d f s ([a, b].getD i default) := ⟨_, fun _ => rfl⟩
    have e0 : heightP d f s a = lv 0 := (hlv 0).symm
    have e1 : heightP d f s b = lv 1 := (hlv 1).symm
    rw [e0, e1]
    rw [e0] at ia la
    rw [e1] at ib lb
    have hc : ∀ i, i < 2 → ACall Tryz.prog 41 [treeA d, agD (kidL ([a, b].getD i default))] (stoH 900 901 s) (resH (lv i)) (stoH 900 901 s) := fun i hi => by
     rcases i with _ | _ | i
     ·exact ia
     ·exact ib
     ·omega
    have hn : ∀ i, i < 2 → ∀ l, lv i = some l → l ≤ 100000000 := fun i hi l h => by
     rcases i with _ | _ | i
     ·have := la l h; omega
     ·have := lb l h; omega
     ·omega
    clear hlv e0 e1 ia ib la lb
    obtain ⟨st, hst⟩ : ∃ st : Nat → Nat, ∀ i, st i = if i = 0 then 0 else if i = 1 then (lv 0).getD 0 else max ((lv 0).getD 0) ((lv 1).getD 0) := ⟨_, fun _ => rfl⟩
    have st0 : st 0 = 0 := hst 0
    have st1 : st 1 = (lv 0).getD 0 := hst 1
    have st2 : st 2 = max ((lv 0).getD 0) ((lv 1).getD 0) := hst 2
    have hs1 : ∀ i, i < 2 → ∀ l : Nat, lv i = some l → ((st (i + 1) : Nat) : Int) = if (l : Int) > (st i : Int) then (l : Int) else (st i : Int) := fun i hi l h => by
     rcases i with _ | _ | i
     ·rw [st0, st1, h]; simp only [Option.getD_some]; split <;> omega
     ·rw [st1, st2, h]; simp only [Option.getD_some]; split <;> omega
     ·omega
    have hsl : ∀ i, i ≤ 2 → st i ≤ 100000000 := fun i hi => by
     have l0 : (lv 0).getD 0 ≤ 100000000 := by
      cases h : lv 0 with
      | none => simp
      | some l => exact hn 0 (by omega) l h
     have l1 : (lv 1).getD 0 ≤ 100000000 := by
      cases h : lv 1 with
      | none => simp
      | some l => exact hn 1 (by omega) l h
     rcases i with _ | _ | _ | i
     ·rw [st0]; omega
     ·rw [st1]; omega
     ·rw [st2]; omega
     ·omega
    obtain ⟨R, hR⟩ : ∃ R : Option Nat, R = combH (lv 0) (lv 1) := ⟨_, rfl⟩
    rw [← hR]
    have hN : ∀ i, i < 2 → lv i = none → R = none := fun i hi h => by
     rcases i with _ | _ | i
     ·rw [hR, h, combH_no1]
     ·rw [hR, h, combH_no2]
     ·omega
    have hS : (∀ j, j < 2 → ∃ l, lv j = some l) → R = some (1 + st 2) := fun h => by
     obtain ⟨l0, h0⟩ := h 0 (by omega)
     obtain ⟨l1, h1⟩ := h 1 (by omega)
     rw [hR, st2, h0, h1]; rfl
    clear hR st2 st1 hst
    refine acall_on (mu := [2]) [] [] mixed Tryz.func41 rfl rfl rfl ?_
    conv => whnf
    repeat' ((first
    | refine ob ?_
    | refine ⟨_, _, _, .flat _ _ rfl (q0) rfl, ?_⟩
    | refine ⟨_, _, _, .gen [901,900] _ _ _ rfl (c1) rfl rfl rfl rfl rfl, ?_⟩
    | ((refine ⟨_, _, _, .flat _ _ rfl (.arg ?harg (q0)) rfl, ?_⟩); case harg => (repeat' (first | exact sm | apply And.intro)))
    | ((refine ⟨_, _, _, .gen [901,900] _ _ _ rfl (.arg ?harg (c1)) rfl rfl rfl rfl rfl, ?_⟩); case harg => (repeat' (first | exact sm | apply And.intro))) | (refine And.intro (fun hq => ?_) (fun hq => ?_) <;> first | exact cl1 | ((try simp only [bl] at hq); (try dsimp only at hq); first | exact cl2 | skip))
    | refine fun hq => ?_ | refine ob3 ?_ | fail) <;> conv => whnf)
    refine ⟨[], ?_⟩
    conv => whnf
    refine ⟨Nat, fun i => i ≤ 2 ∧ ∀ j, j < i → ∃ l, lv j = some l, fun i => 2 - i, fun i => [(9, exI .i64 (st i)), (28, exI .i64 i)], fun i => [], ⟨0, ⟨by omega, fun j hj => by omega⟩, ?_⟩, ?_⟩
    ·skip
     refine ⟨[], ?_⟩
     conv => whnf
     refine ⟨rfl, ?_, ?_⟩ <;> (repeat' (first | exact trivial | ((rw [st0]; done)) | ((rw [st0]; rfl)) | exact sm | apply And.intro))
    rintro i ⟨hi, hno⟩
    conv => whnf
    have hli := hsl i hi
    rcases Nat.lt_or_ge i 2 with hlt | hge
    ·have q := hc ((i : Int)).toNat (by omega)
     have ei : ((i : Int)).toNat = i := by omega
     cases hl : lv i with
     | none =>
      rw [show lv ((i : Int)).toNat = none by rw [ei]; exact hl] at q
      rw [hN i hlt hl]
      conv => whnf
      repeat' ((first
      | refine ob ?_
      | refine ⟨_, _, _, .gen [901,900] _ _ _ rfl (q) rfl rfl rfl rfl rfl, ?_⟩
      | ((refine ⟨_, _, _, .gen [901,900] _ _ _ rfl (.arg ?harg (q)) rfl rfl rfl rfl rfl, ?_⟩); case harg => (repeat' (first | exact sm | apply And.intro))) | (refine And.intro (fun hq => ?_) (fun hq => ?_) <;> first | exact cl1 | ((try simp only [bl] at hq); (try dsimp only at hq); first | exact cl2 | skip))
      | refine fun hq => ?_ | refine ob3 ?_ | fail) <;> conv => whnf)
      all_goals (repeat' (first | exact sm | apply And.intro))
     | some l =>
      have hs2 := hs1 i hlt l hl
      have hll := hn i hlt l hl
      rw [show lv ((i : Int)).toNat = some l by rw [ei]; exact hl] at q
      conv => whnf
      repeat' ((first
      | refine ob ?_
      | refine ⟨_, _, _, .gen [901,900] _ _ _ rfl (q) rfl rfl rfl rfl rfl, ?_⟩
      | ((refine ⟨_, _, _, .gen [901,900] _ _ _ rfl (.arg ?harg (q)) rfl rfl rfl rfl rfl, ?_⟩); case harg => (repeat' (first | exact sm | apply And.intro))) | (refine And.intro (fun hq => ?_) (fun hq => ?_) <;> first | exact cl1 | ((try simp only [bl] at hq); (try dsimp only at hq); first | exact cl2 | skip))
      | refine fun hq => ?_ | refine ob3 ?_ | fail) <;> conv => whnf)
      refine ⟨i + 1, ⟨by omega, fun j hj => ?_⟩, by dsimp only; omega, ?_⟩
      ·rcases Nat.lt_or_ge j i with z | z
       ·exact hno j z
       ·obtain rfl : j = i := by omega
        exact ⟨l, hl⟩
      refine ⟨[], ?_⟩
      conv => whnf
      refine ⟨rfl, ?_, ?_⟩ <;> (repeat' (first | exact trivial | ((rw [hs2]; done)) | ((rw [hs2]; rfl)) | exact sm | apply And.intro))
    ·obtain rfl : i = 2 := by omega
     rw [hS (fun j hj => hno j hj)]
     conv => whnf
     repeat' ((first
     | refine ob ?_
     | (refine And.intro (fun hq => ?_) (fun hq => ?_) <;> first | exact cl1 | ((try simp only [bl] at hq); (try dsimp only at hq); first | exact cl2 | skip))
     | refine fun hq => ?_ | refine ob3 ?_ | fail) <;> conv => whnf)
     all_goals (repeat' (first | exact sm | apply And.intro))
theorem kHeight_ok (d : Nat) (h1 : 1 ≤ d) (h8 : d ≤ 8) (s : Sto) (k : KidD) (hs : StoOk s) (hk : KidGood d k) : ACall Tryz.prog 17 [.ptr 900 0 0 0, agD (kidL k), exI .i64 d] (stoH 900 901 s) (resH (heightP d (k.size.toNat + 1) s k)) (stoH 900 901 s) := by
 have cr := kright_ok d [] (by simp)
 rw [show rightD (d : Int) [] = true by unfold rightD; simp; omega] at cr
 have c1 := kheight_ok d h1 h8 (k.size.toNat + 1) s k hs hk (by omega) (by have := Kd.kid_pos hk; omega)
 cases hr : heightP d (k.size.toNat + 1) s k with
 | none =>
  rw [hr] at c1
  refine acall_on (mu := []) [] [] mixed Tryz.func17 rfl rfl rfl ?_
  conv => whnf
  repeat' ((first
  | refine ob ?_
  | refine ⟨_, _, _, .gen [901,900] _ _ _ rfl (c1) rfl rfl rfl rfl rfl, ?_⟩
  | (refine ⟨_, _, _, .flat _ _ rfl (ACall.deep ?hdeep (cr)) rfl, ?_⟩; case hdeep => (repeat' (first | exact AvT.nil | exact AvL.nil | exact DvL.nil | refine AvT.cons ?_ ?_ | refine AvL.cons ?_ ?_ | refine DvL.cons ?_ ?_ | exact AvA.one (.refl _) | exact AvE.refl _ | exact DvE.refl _ | exact DvE.nil _ _ _ _ | refine AvA.agg ?_ | refine AvA.one (.d ?_) | refine AvA.one (.dp ?_) | refine AvE.d ?_ | refine AvE.dp ?_ | refine DvE.sl' ?_ | refine DvE.p' ?_ | (intro k hk; rcases k with _ | _ | _ | _ | _ | _ | k <;> first | (exfalso; omega) | skip))))
  | ((refine ⟨_, _, _, .gen [901,900] _ _ _ rfl (.arg ?harg (c1)) rfl rfl rfl rfl rfl, ?_⟩); case harg => (repeat' (first | exact sm | apply And.intro))) | (refine And.intro (fun hq => ?_) (fun hq => ?_) <;> first | exact cl1 | ((try simp only [bl] at hq); (try dsimp only at hq); first | exact cl2 | skip))
  | refine fun hq => ?_ | refine ob3 ?_ | fail) <;> conv => whnf)
  all_goals (repeat' (first | exact sm | apply And.intro))
 | some h =>
  rw [hr] at c1
  refine acall_on (mu := []) [] [] mixed Tryz.func17 rfl rfl rfl ?_
  conv => whnf
  repeat' ((first
  | refine ob ?_
  | refine ⟨_, _, _, .gen [901,900] _ _ _ rfl (c1) rfl rfl rfl rfl rfl, ?_⟩
  | (refine ⟨_, _, _, .flat _ _ rfl (ACall.deep ?hdeep (cr)) rfl, ?_⟩; case hdeep => (repeat' (first | exact AvT.nil | exact AvL.nil | exact DvL.nil | refine AvT.cons ?_ ?_ | refine AvL.cons ?_ ?_ | refine DvL.cons ?_ ?_ | exact AvA.one (.refl _) | exact AvE.refl _ | exact DvE.refl _ | exact DvE.nil _ _ _ _ | refine AvA.agg ?_ | refine AvA.one (.d ?_) | refine AvA.one (.dp ?_) | refine AvE.d ?_ | refine AvE.dp ?_ | refine DvE.sl' ?_ | refine DvE.p' ?_ | (intro k hk; rcases k with _ | _ | _ | _ | _ | _ | k <;> first | (exfalso; omega) | skip))))
  | ((refine ⟨_, _, _, .gen [901,900] _ _ _ rfl (.arg ?harg (c1)) rfl rfl rfl rfl rfl, ?_⟩); case harg => (repeat' (first | exact sm | apply And.intro))) | (refine And.intro (fun hq => ?_) (fun hq => ?_) <;> first | exact cl1 | ((try simp only [bl] at hq); (try dsimp only at hq); first | exact cl2 | skip))
  | refine fun hq => ?_ | refine ob3 ?_ | fail) <;> conv => whnf)
  all_goals (repeat' (first | exact sm | apply And.intro))
end Go.Proofs.YtedokpgkjcnoiaaGreat
