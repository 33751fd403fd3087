/- kdtree: Insert, Delete. slices.SortFunc of rows by their order: Build's and Rows' comparisons; of no rows. -/
import Derived.Shelf.SlSortCmp.NoneTotal
import Derived.Test.YtedokpgkjcnoiaaGreatV41
import Derived.Test.YtedokpgkjcnoiaaGreatV44
import Derived.Test.YtedokpgkjcnoiaaGreatV46
set_option linter.unusedVariables false
set_option linter.unusedSimpArgs false
namespace Go.Proofs.YtedokpgkjcnoiaaGreat
open Go.RowKit
open Kd (nPut nGet forkN forkP tGet KidGood RwOk layP thenP PGood liveP anewP insP remP delP)
set_option maxRecDepth 100000
set_option maxHeartbeats 4000000
theorem right_one {d : Nat} {p : Rw} (h1 : 1 ≤ d) (h8 : d ≤ 8) (hp : p.length = d) : rightD (d : Int) [p] = true := by unfold rightD; simp [hp]; omega
theorem kInsert_no (d : Int) (s : Sto) (k : KidD) (p : Rw) (h : rightD d [p] = false) : ACall Tryz.prog 21 [.ptr 900 0 0 0, agD (kidL k), .d (i64L p), exI .i64 d] (stoH 900 901 s) (.tup [agD (kidL Pl.kidZ), exI .i64 1]) (stoH 900 901 s) := by
 have cr := kright_ok d [p] (by simp)
 rw [h] at cr
 refine acall_on (mu := []) [] [] mixed Tryz.func21 rfl rfl rfl ?_
 conv => whnf
 repeat' ((first
 | refine ob ?_
 | (refine ⟨_, _, _, .flat _ _ rfl (ACall.deep ?hdeep (cr)) rfl, ?_⟩; case hdeep => (repeat' (first | exact AvT.nil | exact AvL.nil | exact DvL.nil | refine AvT.cons ?_ ?_ | refine AvL.cons ?_ ?_ | refine DvL.cons ?_ ?_ | exact AvA.one (.refl _) | exact AvE.refl _ | exact DvE.refl _ | exact DvE.nil _ _ _ _ | refine AvA.agg ?_ | refine AvA.one (.d ?_) | refine AvA.one (.dp ?_) | refine AvE.d ?_ | refine AvE.dp ?_ | refine DvE.sl' ?_ | refine DvE.p' ?_ | (intro k hk; rcases k with _ | _ | _ | _ | _ | _ | k <;> first | (exfalso; omega) | skip)))) | (refine And.intro (fun hq => ?_) (fun hq => ?_) <;> first | exact cl1 | ((try simp only [bl] at hq); (try dsimp only at hq); first | exact cl2 | skip))
 | refine fun hq => ?_ | refine ob3 ?_ | fail) <;> conv => whnf)
 all_goals (repeat' (first | exact sm | apply And.intro))
theorem kInsert_ok (d : Nat) (h1 : 1 ≤ d) (h8 : d ≤ 8) (s : Sto) (k : KidD) (p : Rw) (hs : StoOk s) (hk : KidGood d k) (hp : RwOk d p) : ACall Tryz.prog 21 [.ptr 900 0 0 0, agD (kidL k), .d (i64L p), exI .i64 d] (stoH 900 901 s) (resK (insP d (k.size.toNat + 1) s k p 0)) (stoH 900 901 (insP d (k.size.toNat + 1) s k p 0).1) := by
 have cr := kright_ok d [p] (by simp)
 rw [right_one h1 h8 hp.1] at cr
 have c1 := kinsert_ok d h1 h8 (k.size.toNat + 1) s k p 0 hs hk hp (by omega) (by have := Kd.kid_pos hk; omega)
 generalize insP d (k.size.toNat + 1) s k p 0 = R at c1 ⊢
 unfold resK at c1
 refine acall_on (mu := []) [] [] mixed Tryz.func21 rfl rfl rfl ?_
 conv => whnf
 repeat' ((first
 | refine ob ?_
 | refine ⟨_, _, _, .gen [901,900] _ _ _ rfl (c1) rfl rfl rfl rfl rfl, ?_⟩
 | (refine ⟨_, _, _, .flat _ _ rfl (ACall.deep ?hdeep (cr)) rfl, ?_⟩; case hdeep => (repeat' (first | exact AvT.nil | exact AvL.nil | exact DvL.nil | refine AvT.cons ?_ ?_ | refine AvL.cons ?_ ?_ | refine DvL.cons ?_ ?_ | exact AvA.one (.refl _) | exact AvE.refl _ | exact DvE.refl _ | exact DvE.nil _ _ _ _ | refine AvA.agg ?_ | refine AvA.one (.d ?_) | refine AvA.one (.dp ?_) | refine AvE.d ?_ | refine AvE.dp ?_ | refine DvE.sl' ?_ | refine DvE.p' ?_ | (intro k hk; rcases k with _ | _ | _ | _ | _ | _ | k <;> first | (exfalso; omega) | skip))))
 | ((refine ⟨_, _, _, .gen [901,900] _ _ _ rfl (.arg ?harg (c1)) rfl rfl rfl rfl rfl, ?_⟩); case harg => (repeat' (first | exact sm | apply And.intro))) | (refine And.intro (fun hq => ?_) (fun hq => ?_) <;> first | exact cl1 | ((try simp only [bl] at hq); (try dsimp only at hq); first | exact cl2 | skip))
 | refine fun hq => ?_ | refine ob3 ?_ | fail) <;> conv => whnf)
 all_goals (repeat' (first | exact sm | apply And.intro))
theorem kDelete_no (d : Int) (s : Sto) (k : KidD) (p : Rw) (h : rightD d [p] = false) : ACall Tryz.prog 23 [.ptr 900 0 0 0, agD (kidL k), .d (i64L p), exI .i64 d] (stoH 900 901 s) (.tup [agD (kidL Pl.kidZ), exI .i64 1]) (stoH 900 901 s) := by
 have cr := kright_ok d [p] (by simp)
 rw [h] at cr
 refine acall_on (mu := []) [] [] mixed Tryz.func23 rfl rfl rfl ?_
 conv => whnf
 repeat' ((first
 | refine ob ?_
 | (refine ⟨_, _, _, .flat _ _ rfl (ACall.deep ?hdeep (cr)) rfl, ?_⟩; case hdeep => (repeat' (first | exact AvT.nil | exact AvL.nil | exact DvL.nil | refine AvT.cons ?_ ?_ | refine AvL.cons ?_ ?_ | refine DvL.cons ?_ ?_ | exact AvA.one (.refl _) | exact AvE.refl _ | exact DvE.refl _ | exact DvE.nil _ _ _ _ | refine AvA.agg ?_ | refine AvA.one (.d ?_) | refine AvA.one (.dp ?_) | refine AvE.d ?_ | refine AvE.dp ?_ | refine DvE.sl' ?_ | refine DvE.p' ?_ | (intro k hk; rcases k with _ | _ | _ | _ | _ | _ | k <;> first | (exfalso; omega) | skip)))) | (refine And.intro (fun hq => ?_) (fun hq => ?_) <;> first | exact cl1 | ((try simp only [bl] at hq); (try dsimp only at hq); first | exact cl2 | skip))
 | refine fun hq => ?_ | refine ob3 ?_ | fail) <;> conv => whnf)
 all_goals (repeat' (first | exact sm | apply And.intro))
theorem kDelete_ok (d : Nat) (h1 : 1 ≤ d) (h8 : d ≤ 8) (s : Sto) (k : KidD) (p : Rw) (hs : StoOk s) (hk : KidGood d k) (hp : RwOk d p) : ACall Tryz.prog 23 [.ptr 900 0 0 0, agD (kidL k), .d (i64L p), exI .i64 d] (stoH 900 901 s) (resK (delP d s k p)) (stoH 900 901 (delP d s k p).1) := by
 have cr := kright_ok d [p] (by simp)
 rw [right_one h1 h8 hp.1] at cr
 have c1 := kremove_ok d h1 h8 (k.size.toNat + 1) s k p 0 hs hk hp (by omega) (by have := Kd.kid_pos hk; omega)
 have g1 := PGood.rem h1 h8 (k.size.toNat + 1) s k p 0 hs
 have c2 := kanew_ok d h1 h8 (remP d (k.size.toNat + 1) s k p 0).1 (remP d (k.size.toNat + 1) s k p 0).2.1 0 g1.s g1.k (by omega)
 unfold delP
 generalize remP d (k.size.toNat + 1) s k p 0 = R at c1 g1 c2 ⊢
 have pz := Kd.kid_pos g1.k
 unfold resK at c1
 by_cases he : R.2.2 = 0
 ·by_cases hm : 2 * R.2.1.live < R.2.1.size
  ·rw [if_pos ⟨he, hm⟩]
   generalize anewP d R.1 R.2.1 0 = R5 at c2 ⊢
   refine acall_on (mu := [5,10]) [] [] mixed Tryz.func23 rfl rfl rfl ?_
   conv => whnf
   repeat' ((first
   | refine ob ?_
   | refine ⟨_, _, _, .gen [901,900] _ _ _ rfl (c1) rfl rfl rfl rfl rfl, ?_⟩
   | refine ⟨_, _, _, .gen [901,900] _ _ _ rfl (c2) rfl rfl rfl rfl rfl, ?_⟩
   | (refine ⟨_, _, _, .flat _ _ rfl (ACall.deep ?hdeep (cr)) rfl, ?_⟩; case hdeep => (repeat' (first | exact AvT.nil | exact AvL.nil | exact DvL.nil | refine AvT.cons ?_ ?_ | refine AvL.cons ?_ ?_ | refine DvL.cons ?_ ?_ | exact AvA.one (.refl _) | exact AvE.refl _ | exact DvE.refl _ | exact DvE.nil _ _ _ _ | refine AvA.agg ?_ | refine AvA.one (.d ?_) | refine AvA.one (.dp ?_) | refine AvE.d ?_ | refine AvE.dp ?_ | refine DvE.sl' ?_ | refine DvE.p' ?_ | (intro k hk; rcases k with _ | _ | _ | _ | _ | _ | k <;> first | (exfalso; omega) | skip))))
   | ((refine ⟨_, _, _, .gen [901,900] _ _ _ rfl (.arg ?harg (c1)) rfl rfl rfl rfl rfl, ?_⟩); case harg => (repeat' (first | exact sm | apply And.intro)))
   | ((refine ⟨_, _, _, .gen [901,900] _ _ _ rfl (.arg ?harg (c2)) rfl rfl rfl rfl rfl, ?_⟩); case harg => (repeat' (first | exact sm | apply And.intro))) | (refine And.intro (fun hq => ?_) (fun hq => ?_) <;> first | exact cl1 | ((try simp only [bl] at hq); (try dsimp only at hq); first | exact cl2 | skip))
   | refine fun hq => ?_ | refine ob3 ?_ | fail) <;> conv => whnf)
   all_goals (repeat' (first | exact sm | apply And.intro))
  ·rw [if_neg (fun q => hm q.2)]
   clear c2
   refine acall_on (mu := [5,10]) [] [] mixed Tryz.func23 rfl rfl rfl ?_
   conv => whnf
   repeat' ((first
   | refine ob ?_
   | refine ⟨_, _, _, .gen [901,900] _ _ _ rfl (c1) rfl rfl rfl rfl rfl, ?_⟩
   | (refine ⟨_, _, _, .flat _ _ rfl (ACall.deep ?hdeep (cr)) rfl, ?_⟩; case hdeep => (repeat' (first | exact AvT.nil | exact AvL.nil | exact DvL.nil | refine AvT.cons ?_ ?_ | refine AvL.cons ?_ ?_ | refine DvL.cons ?_ ?_ | exact AvA.one (.refl _) | exact AvE.refl _ | exact DvE.refl _ | exact DvE.nil _ _ _ _ | refine AvA.agg ?_ | refine AvA.one (.d ?_) | refine AvA.one (.dp ?_) | refine AvE.d ?_ | refine AvE.dp ?_ | refine DvE.sl' ?_ | refine DvE.p' ?_ | (intro k hk; rcases k with _ | _ | _ | _ | _ | _ | k <;> first | (exfalso; omega) | skip))))
   | ((refine ⟨_, _, _, .gen [901,900] _ _ _ rfl (.arg ?harg (c1)) rfl rfl rfl rfl rfl, ?_⟩); case harg => (repeat' (first | exact sm | apply And.intro))) | (refine And.intro (fun hq => ?_) (fun hq => ?_) <;> first | exact cl1 | ((try simp only [bl] at hq); (try dsimp only at hq); first | exact cl2 | skip))
   | refine fun hq => ?_ | refine ob3 ?_ | fail) <;> conv => whnf)
   all_goals (repeat' (first | exact sm | apply And.intro))
 ·rw [if_neg (fun q => he q.1)]
  clear c2
  refine acall_on (mu := [5,10]) [] [] mixed Tryz.func23 rfl rfl rfl ?_
  conv => whnf
  repeat' ((first
  | refine ob ?_
  | refine ⟨_, _, _, .gen [901,900] _ _ _ rfl (c1) rfl rfl rfl rfl rfl, ?_⟩
  | (refine ⟨_, _, _, .flat _ _ rfl (ACall.deep ?hdeep (cr)) rfl, ?_⟩; case hdeep => (repeat' (first | exact AvT.nil | exact AvL.nil | exact DvL.nil | refine AvT.cons ?_ ?_ | refine AvL.cons ?_ ?_ | refine DvL.cons ?_ ?_ | exact AvA.one (.refl _) | exact AvE.refl _ | exact DvE.refl _ | exact DvE.nil _ _ _ _ | refine AvA.agg ?_ | refine AvA.one (.d ?_) | refine AvA.one (.dp ?_) | refine AvE.d ?_ | refine AvE.dp ?_ | refine DvE.sl' ?_ | refine DvE.p' ?_ | (intro k hk; rcases k with _ | _ | _ | _ | _ | _ | k <;> first | (exfalso; omega) | skip))))
  | ((refine ⟨_, _, _, .gen [901,900] _ _ _ rfl (.arg ?harg (c1)) rfl rfl rfl rfl rfl, ?_⟩); case harg => (repeat' (first | exact sm | apply And.intro))) | (refine And.intro (fun hq => ?_) (fun hq => ?_) <;> first | exact cl1 | ((try simp only [bl] at hq); (try dsimp only at hq); first | exact cl2 | skip))
  | refine fun hq => ?_ | refine ob3 ?_ | fail) <;> conv => whnf)
  all_goals (repeat' (first | exact sm | apply And.intro))
end Go.Proofs.YtedokpgkjcnoiaaGreat
namespace Go.Proofs.YtedokpgkjcnoiaaGreat
open Go.RowKit Go.Shelf
theorem acall_sort0 {P : Program} {ρ : Go.Shelf.Ren} (Ly : Go.Proofs.SlLaysF.n6 P ρ) (hE : Enters P (ρ.f 6)) (A : Option Addr) (c : Nat) (fv : AV) : ACall P (ρ.f 6) [.d (.v (.slice A 0 c)), fv] [] (.tup []) [] := by
 refine ⟨hE, fun A' W vl vs G hl hv => ?_⟩
 obtain ⟨v0, v1, rfl⟩ : ∃ v0 v1, vs = [v0, v1] := by
  match vs, hl with
  | [a, b], _ => exact ⟨a, b, rfl⟩
 obtain rfl := rv_ex_inv (hv 0 (by simp))
 refine (Go.Proofs.AnyF.slices_SortFunc_none (P := P) (ρ := ρ) { Ly with } A c v1 W).mono ?_
 rintro e W' ⟨rfl, rfl⟩
 exact ⟨.tuple #[], ⟨_, W', [], vl⟩, rfl, rfl, rfl, rfl, Fr.refl _, G, ⟨[], rfl, rfl, fun j hj => by cases hj⟩⟩
set_option maxRecDepth 100000
set_option maxHeartbeats 4000000
theorem sortnil_ok (fv : AV) : ACall Tryz.prog 34 [.d (rowL []), fv] [] (.tup []) [] :=
 ACall.none0 (pre := []) (post := [fv]) (fun A c => acall_sort0 Tryz.sort34 (enters_of Tryz.func34 rfl rfl) A c fv)
theorem obuild1 (A B : Option Addr) (l m : List Int) (c d Z : Nat) (w : World) (hA : Arr w Z A l.length (i64s l)) (hB : Arr w Z B m.length (i64s m)) (hlm : m.length = l.length) (h1 : l.length ≤ 1000000) :
    Calls Tryz.prog 35 #[.slice A l.length c, .slice B m.length d] w fun e w' => e = .returned (.int .i64 (Kd.cmpL Kd.lexLt l m)) ∧ ∃ q, w' = w.drewN q := by
  have hcm := hideP (ocompare A B l m c d Z w hA hB hlm h1)
  generalize Kd.cmpL Kd.lexLt l m = RS at hcm ⊢
  generalize l.length = n at hcm ⊢
  generalize m.length = n2 at hcm ⊢
  clear hA hB hlm h1
  go_enter Tryz.func35, Tryz.ntmps35
  go_wp2_with (go_at_call 36; refine (hcm.out).mono ?_; rintro e w' ⟨rfl, rfl⟩)
  go_ret
  exact ⟨rfl, 0, rfl⟩
def buildV : AV := .d (.v (.func (.func 35) #[] #[]))
theorem cmps_obuild1 (d : Nat) (hd : d ≤ 1000000) : Cmps Tryz.prog 35 d Kd.lexLt buildV := fun C v hv => by
 obtain rfl := rv_ex_inv hv
 refine ⟨#[], rfl, fun W hW A B l m c e Z hl hm hA hB => ?_⟩
 exact obuild1 A B l m c e Z W hA hB (by omega) (by omega)
theorem sort_obuild1 (K g d : Nat) (hd : d ≤ 1000000) (L : List Rw) (hne : L ≠ []) (hL : L.length ≤ 2000000) (hr : ∀ r ∈ L, r.length = d) :
    ACall Tryz.prog 34 [.own K g, buildV] [(K, .row 26 1 g false L.length (rowF L))] (.tup []) [(K, .row 26 1 g false L.length (rowF (Kd.isort Kd.lexLt L)))] := by
  have q := acall_sort Tryz.sort34 (enters_of Tryz.func34 rfl rfl) Kd.lexLt d 35 ⟨fun x y z _ _ _ => Kd.lexLt_totl.tr x y z trivial trivial trivial, Kd.lexLt_totl.ir, fun x y _ _ => Kd.lexLt_totl.tot x y trivial trivial⟩ (enters_of Tryz.func35 rfl rfl) buildV (cmps_obuild1 d hd) 26 L hne hL hr
  obtain ⟨σ, τ, hστ, e1⟩ := names1 901 K
  have q := q.ren (σ := σ) (τ := τ) (δ := fun x => if x = 901 then g else 0) hστ (by
    intro x ob hx hr
    by_cases ex : x = 901
    · subst ex; rcases hx with hx | hx <;> (simp [look] at hx; subst hx; cases hr)
    · simp [ex])
  simp [mapC, mapA, mapA1, rnA, rnH, rnO, buildV, e1] at q ⊢
  exact q
def rowsV : AV := .d (.v (.func (.func 47) #[] #[]))
end Go.Proofs.YtedokpgkjcnoiaaGreat
