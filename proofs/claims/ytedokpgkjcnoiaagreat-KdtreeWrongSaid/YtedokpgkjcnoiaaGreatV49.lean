/- KdtreeWrong, walked. -/
import Derived.Test.YtedokpgkjcnoiaaGreatV48
set_option linter.unusedVariables false
set_option linter.unusedSimpArgs false
namespace Go.Proofs.YtedokpgkjcnoiaaGreat
open Go.RowKit
open Kd (nPut nGet forkN forkP tGet KidGood RwOk layP insP heightP remP delP hasP)
set_option maxRecDepth 100000
set_option maxHeartbeats 8000000
def badD (p : Rw) (d : Int) : Bool := decide (d < 1) || (decide (d > 8) || !decide ((p.length : Int) = d))
def noneD (p : Rw) (d : Int) (l : List Rw) (i : Nat) : Bool := badD p d || (l.take i).any fun q => !decide ((q.length : Int) = d)
theorem noneD_next (p : Rw) (d : Int) (l : List Rw) (i : Nat) (h : i < l.length) : noneD p d l (i + 1) = (noneD p d l i || !decide (((l.getD i []).length : Int) = d)) := by
 unfold noneD
 rw [List.take_add_one, List.getElem?_eq_getElem h, List.any_append, List.getD_eq_getElem?_getD, List.getElem?_eq_getElem h]
 simp [Bool.or_assoc]
theorem noneD_right {p : Rw} {d : Int} {l : List Rw} (h : noneD p d l l.length = true) : rightD d (p :: l) = false := by
 unfold noneD badD at h
 rw [List.take_length] at h
 rw [Bool.eq_false_iff]
 intro q
 unfold rightD at q
 simp only [Bool.and_eq_true, decide_eq_true_eq, List.all_eq_true, List.mem_cons, forall_eq_or_imp] at q
 obtain ⟨q1, q2, q3, q4⟩ := q
 simp only [Bool.or_eq_true, decide_eq_true_eq, Bool.not_eq_true', decide_eq_false_iff_not, List.any_eq_true] at h
 rcases h with (h | h | h) | ⟨x, h, h'⟩
 ·omega
 ·omega
 ·exact h q3
 ·exact h' (q4 x h)
theorem badD_right (p : Rw) (d : Int) : rightD d [p] = !badD p d := by
 unfold rightD badD
 rw [Bool.eq_iff_iff]
 simp only [List.all_cons, List.all_nil, Bool.and_eq_true, decide_eq_true_eq, Bool.not_eq_true', Bool.or_eq_false_iff, decide_eq_false_iff_not, Bool.not_eq_false', and_true]
 constructor
 ·rintro ⟨a, b, c⟩; exact ⟨by omega, by omega, c⟩
 ·rintro ⟨a, b, c⟩; exact ⟨by omega, by omega, c⟩
theorem app_cons (p : Rw) (l : List Rw) (g : Nat → List DV) (hg : g 0 = [i64L p]) : ∀ k, k < 1 + l.length → app 1 g (rowF l) k = rowF (p :: l) k := fun k hk => by
 rcases k with _ | k
 ·rw [app_lt (by omega), hg]; rfl
 ·rw [app_ge (by omega)]; rfl
def goneA (p : Rw) : AV := .agg (List.replicate 32 (.d (.v (.int .u8 0))) ++ [.d (i64L p), .d (i64L p), .d (.v (.int .i64 1)), .d (.v (.int .i64 1)), .d (.v (.slice none 0 0))])
theorem gone_arg2 {P : Program} {f : FuncId} {a b c r : AV} {p : Rw} {Hp H' : OH} (h : ACall P f [a, agD (kidL (goneK p)), b, c] Hp r H') : ACall P f [a, goneA p, b, c] Hp r H' := by
 refine ACall.deep ?hdeep h
 case hdeep => (repeat' (first | exact AvT.nil | exact AvL.nil | exact DvL.nil | refine AvT.cons ?_ ?_ | refine AvL.cons ?_ ?_ | refine DvL.cons ?_ ?_ | exact AvA.one (.refl _) | exact AvE.refl _ | exact DvE.refl _ | exact DvE.nil _ _ _ _ | refine AvA.agg ?_ | refine AvA.one (.d ?_) | refine AvA.one (.dp ?_) | refine AvE.d ?_ | refine AvE.dp ?_ | refine DvE.sl' ?_ | refine DvE.p' ?_ | (intro k hk; rcases k with _ | _ | _ | _ | _ | _ | k <;> first | (exfalso; omega) | skip)))
theorem gone_arg1 {P : Program} {f : FuncId} {a b r : AV} {p : Rw} {Hp H' : OH} (h : ACall P f [a, agD (kidL (goneK p)), b] Hp r H') : ACall P f [a, goneA p, b] Hp r H' := by
 refine ACall.deep ?hdeep h
 case hdeep => (repeat' (first | exact AvT.nil | exact AvL.nil | exact DvL.nil | refine AvT.cons ?_ ?_ | refine AvL.cons ?_ ?_ | refine DvL.cons ?_ ?_ | exact AvA.one (.refl _) | exact AvE.refl _ | exact DvE.refl _ | exact DvE.nil _ _ _ _ | refine AvA.agg ?_ | refine AvA.one (.d ?_) | refine AvA.one (.dp ?_) | refine AvE.d ?_ | refine AvE.dp ?_ | refine DvE.sl' ?_ | refine DvE.p' ?_ | (intro k hk; rcases k with _ | _ | _ | _ | _ | _ | k <;> first | (exfalso; omega) | skip)))
theorem walk_KdtreeWrong (p : Rw) (d : Int) (l : List Rw) (hp : Pl.IsI p) (hd : -9223372036854775808 ≤ d ∧ d ≤ 9223372036854775807) : ACall Tryz.prog 5 [.d (i64L p), exI .i64 d, .d (rowL l)] [] (exB true) [] := by
 have q0 := alive11
 by_cases hl : 30 < l.length
 ·refine acall_on (mu := []) [] [] mixed Tryz.func5 rfl rfl rfl ?_
  conv => whnf
  repeat' ((first
  | refine ob ?_
  | refine ⟨_, _, _, .flat _ _ rfl (q0) rfl, ?_⟩
  | ((refine ⟨_, _, _, .flat _ _ rfl (.arg ?harg (q0)) rfl, ?_⟩); case harg => (repeat' (first | exact sm | apply And.intro))) | (refine And.intro (fun hq => ?_) (fun hq => ?_) <;> first | exact cl1 | ((try simp only [bl] at hq); (try dsimp only at hq); first | exact cl2 | skip))
  | refine fun hq => ?_ | refine ob3 ?_ | fail) <;> conv => whnf)
  all_goals (repeat' (first | exact sm | apply And.intro))
 have cn := cppnew
 have k1 : (goneK p).live ≠ 0 := by show (1 : Int) ≠ 0; decide
 have k2 : (goneK p).sum.length = 32 := rfl
 have k3 : Pl.IsB (goneK p).sum := Kd.kidZ_ok.sB
 have cl := cpplen Sto.new
 obtain ⟨nn, hnn⟩ : ∃ nn : Nat → Bool, ∀ i, nn i = noneD p d l i := ⟨_, fun _ => rfl⟩
 have hnx : ∀ i, i < l.length → nn (i + 1) = (nn i || !decide (((l.getD ((i : Int)).toNat []).length : Int) = d)) := fun i hi => by
  rw [hnn, hnn, show ((i : Int)).toNat = i by omega]; exact noneD_next p d l i hi
 have hend : nn l.length = true → rightD d (p :: l) = false := fun h => noneD_right (by rw [← hnn]; exact h)
 have nn0 : nn 0 = badD p d := by rw [hnn]; unfold noneD; simp
 clear hnn
 have hbr := badD_right p d
 by_cases hd1 : d < 1
 ·have hbad : badD p d = true := by unfold badD; simp [hd1]
  rw [hbad] at nn0 hbr
  have cI := gone_arg2 (kInsert_no d Sto.new (goneK p) p hbr)
  have cD := gone_arg2 (kDelete_no d Sto.new (goneK p) p hbr)
  have cH := gone_arg2 (kHas_no d Sto.new (goneK p) p hbr)
  have cR := gone_arg1 (kRows_no d Sto.new (goneK p) (right_nil0 (.inl hd1)))
  have cT := gone_arg1 (kHeight_no d Sto.new (goneK p) (right_nil0 (.inl hd1)))
  clear hbr
  refine acall_on (mu := [65]) [] [] mixed Tryz.func5 rfl rfl rfl ?_
  conv => whnf
  repeat' ((first
  | refine ob ?_
  | refine ⟨_, _, _, .flat _ _ rfl (q0) rfl, ?_⟩
  | refine ⟨_, _, _, .gen [] _ _ _ rfl (cn) rfl rfl rfl rfl rfl, ?_⟩
  | ((refine ⟨_, _, _, .flat _ _ rfl (.arg ?harg (q0)) rfl, ?_⟩); case harg => (repeat' (first | exact sm | apply And.intro)))
  | ((refine ⟨_, _, _, .gen [] _ _ _ rfl (.arg ?harg (cn)) rfl rfl rfl rfl rfl, ?_⟩); case harg => (repeat' (first | exact sm | apply And.intro))) | (refine And.intro (fun hq => ?_) (fun hq => ?_) <;> first | exact cl1 | ((try simp only [bl] at hq); (try dsimp only at hq); first | exact cl2 | skip))
  | refine fun hq => ?_ | refine ob3 ?_ | fail) <;> conv => whnf)
  refine ⟨[], ?_⟩
  conv => whnf
  refine ⟨Nat, fun i => i ≤ l.length, fun i => l.length - i, fun i => [(9, exB (nn i)), (10, exI .i64 i)], fun _ => [], ⟨0, by omega, ?_⟩, ?_⟩
  ·skip
   refine ⟨[], ?_⟩
   conv => whnf
   refine ⟨rfl, ?_, ?_⟩ <;> (repeat' (first | exact trivial | ((try intro k_ hk_); rw [nn0]; first | done | rfl) | ((rw [nn0, nn0]; done)) | ((rw [nn0, nn0]; rfl)) | exact sm | apply And.intro))
  intro i hi
  conv => whnf
  rcases Nat.lt_or_ge i l.length with hlt | hge
  ·have hs := hnx i hlt
   cases hb : nn i with
   | true =>
    rw [hb, Bool.true_or] at hs
    conv => whnf
    repeat' ((first
    | refine ob ?_
    | (refine And.intro (fun hq => ?_) (fun hq => ?_) <;> first | exact cl1 | ((try simp only [bl] at hq); (try dsimp only at hq); first | exact cl2 | skip))
    | refine fun hq => ?_ | refine ob3 ?_ | fail) <;> conv => whnf)
    refine ⟨i + 1, by omega, by dsimp only; omega, ?_⟩
    refine ⟨[], ?_⟩
    conv => whnf
    refine ⟨rfl, ?_, ?_⟩ <;> (repeat' (first | exact trivial | ((try intro k_ hk_); rw [hs]; first | done | rfl) | exact sm | apply And.intro))
   | false =>
    rw [hb, Bool.false_or] at hs
    conv => whnf
    repeat' ((first
    | refine ob ?_
    | (refine And.intro (fun hq => ?_) (fun hq => ?_) <;> first | exact cl1 | ((try simp only [bl] at hq); (try dsimp only at hq); first | exact cl2 | skip))
    | refine fun hq => ?_ | refine ob3 ?_ | fail) <;> conv => whnf)
    refine ⟨i + 1, by omega, by dsimp only; omega, ?_⟩
    refine ⟨[], ?_⟩
    conv => whnf
    refine ⟨rfl, ?_, ?_⟩ <;> (repeat' (first | exact trivial | ((try intro k_ hk_); rw [hs]; first | done | rfl) | exact sm | apply And.intro))
  ·obtain rfl : i = l.length := by omega
   cases hb : nn l.length with
   | true =>
    have cb := kBuild_no d Sto.new (p :: l) (by simp; omega) (hend hb)
    conv => whnf
    repeat' ((first
    | refine ob ?_
    | (refine And.intro (fun hq => ?_) (fun hq => ?_) <;> first | exact cl1 | ((try simp only [bl] at hq); (try dsimp only at hq); first | exact cl2 | skip))
    | refine fun hq => ?_ | refine ob3 ?_ | fail) <;> conv => whnf)
    refine ⟨(by show _ * 24 ≤ _; omega), ?_⟩
    conv => whnf
    conv => whnf
    repeat' ((first
    | refine ob ?_
    | refine ⟨_, _, _, .gen [901,900] _ _ _ rfl (cb) rfl rfl rfl rfl rfl, ?_⟩
    | ((refine ⟨_, _, _, .gen [901,900] _ _ _ rfl (.arg ?harg (cb)) rfl rfl rfl rfl rfl, ?_⟩); case harg => (repeat' (first | exact trivial | (exact app_cons p l _ rfl) | ((simp; omega)) | ((show 1 + l.length = (p :: l).length; simp; omega)) | exact sm | apply And.intro))) | (refine And.intro (fun hq => ?_) (fun hq => ?_) <;> first | exact cl1 | ((try simp only [bl] at hq); (try dsimp only at hq); first | exact cl2 | skip))
    | refine fun hq => ?_ | refine ob3 ?_ | fail) <;> conv => whnf)
    conv => whnf
    repeat' ((first
    | refine ob ?_
    | refine ⟨_, _, _, .gen [901,900] _ _ _ rfl (cI) rfl rfl rfl rfl rfl, ?_⟩
    | refine ⟨_, _, _, .gen [901,900] _ _ _ rfl (cD) rfl rfl rfl rfl rfl, ?_⟩
    | refine ⟨_, _, _, .gen [901,900] _ _ _ rfl (cH) rfl rfl rfl rfl rfl, ?_⟩
    | refine ⟨_, _, _, .gen [901,900] _ _ _ rfl (cR) rfl rfl rfl rfl rfl, ?_⟩
    | refine ⟨_, _, _, .gen [901,900] _ _ _ rfl (cT) rfl rfl rfl rfl rfl, ?_⟩
    | refine ⟨_, _, _, .gen [901,900] _ _ _ rfl (cl) rfl rfl rfl rfl rfl, ?_⟩
    | ((refine ⟨_, _, _, .gen [901,900] _ _ _ rfl (.arg ?harg (cI)) rfl rfl rfl rfl rfl, ?_⟩); case harg => (repeat' (first | exact sm | apply And.intro)))
    | ((refine ⟨_, _, _, .gen [901,900] _ _ _ rfl (.arg ?harg (cD)) rfl rfl rfl rfl rfl, ?_⟩); case harg => (repeat' (first | exact sm | apply And.intro)))
    | ((refine ⟨_, _, _, .gen [901,900] _ _ _ rfl (.arg ?harg (cH)) rfl rfl rfl rfl rfl, ?_⟩); case harg => (repeat' (first | exact sm | apply And.intro)))
    | ((refine ⟨_, _, _, .gen [901,900] _ _ _ rfl (.arg ?harg (cR)) rfl rfl rfl rfl rfl, ?_⟩); case harg => (repeat' (first | exact sm | apply And.intro)))
    | ((refine ⟨_, _, _, .gen [901,900] _ _ _ rfl (.arg ?harg (cT)) rfl rfl rfl rfl rfl, ?_⟩); case harg => (repeat' (first | exact sm | apply And.intro)))
    | ((refine ⟨_, _, _, .gen [901,900] _ _ _ rfl (.arg ?harg (cl)) rfl rfl rfl rfl rfl, ?_⟩); case harg => (repeat' (first | exact sm | apply And.intro))) | (refine And.intro (fun hq => ?_) (fun hq => ?_) <;> first | exact cl1 | ((try simp only [bl] at hq); (try dsimp only at hq); first | exact cl2 | skip))
    | refine fun hq => ?_ | refine ob3 ?_ | fail) <;> conv => whnf)
    all_goals (repeat' (first | exact sm | apply And.intro))
   | false =>
    conv => whnf
    repeat' ((first
    | refine ob ?_
    | refine ⟨_, _, _, .gen [901,900] _ _ _ rfl (cI) rfl rfl rfl rfl rfl, ?_⟩
    | refine ⟨_, _, _, .gen [901,900] _ _ _ rfl (cD) rfl rfl rfl rfl rfl, ?_⟩
    | refine ⟨_, _, _, .gen [901,900] _ _ _ rfl (cH) rfl rfl rfl rfl rfl, ?_⟩
    | refine ⟨_, _, _, .gen [901,900] _ _ _ rfl (cR) rfl rfl rfl rfl rfl, ?_⟩
    | refine ⟨_, _, _, .gen [901,900] _ _ _ rfl (cT) rfl rfl rfl rfl rfl, ?_⟩
    | refine ⟨_, _, _, .gen [901,900] _ _ _ rfl (cl) rfl rfl rfl rfl rfl, ?_⟩
    | ((refine ⟨_, _, _, .gen [901,900] _ _ _ rfl (.arg ?harg (cI)) rfl rfl rfl rfl rfl, ?_⟩); case harg => (repeat' (first | exact sm | apply And.intro)))
    | ((refine ⟨_, _, _, .gen [901,900] _ _ _ rfl (.arg ?harg (cD)) rfl rfl rfl rfl rfl, ?_⟩); case harg => (repeat' (first | exact sm | apply And.intro)))
    | ((refine ⟨_, _, _, .gen [901,900] _ _ _ rfl (.arg ?harg (cH)) rfl rfl rfl rfl rfl, ?_⟩); case harg => (repeat' (first | exact sm | apply And.intro)))
    | ((refine ⟨_, _, _, .gen [901,900] _ _ _ rfl (.arg ?harg (cR)) rfl rfl rfl rfl rfl, ?_⟩); case harg => (repeat' (first | exact sm | apply And.intro)))
    | ((refine ⟨_, _, _, .gen [901,900] _ _ _ rfl (.arg ?harg (cT)) rfl rfl rfl rfl rfl, ?_⟩); case harg => (repeat' (first | exact sm | apply And.intro)))
    | ((refine ⟨_, _, _, .gen [901,900] _ _ _ rfl (.arg ?harg (cl)) rfl rfl rfl rfl rfl, ?_⟩); case harg => (repeat' (first | exact sm | apply And.intro))) | (refine And.intro (fun hq => ?_) (fun hq => ?_) <;> first | exact cl1 | ((try simp only [bl] at hq); (try dsimp only at hq); first | exact cl2 | skip))
    | refine fun hq => ?_ | refine ob3 ?_ | fail) <;> conv => whnf)
    all_goals (repeat' (first | exact sm | apply And.intro))
 by_cases hd8 : d > 8
 ·have hbad : badD p d = true := by unfold badD; simp [hd8]
  rw [hbad] at nn0 hbr
  have cI := gone_arg2 (kInsert_no d Sto.new (goneK p) p hbr)
  have cD := gone_arg2 (kDelete_no d Sto.new (goneK p) p hbr)
  have cH := gone_arg2 (kHas_no d Sto.new (goneK p) p hbr)
  have cR := gone_arg1 (kRows_no d Sto.new (goneK p) (right_nil0 (.inr hd8)))
  have cT := gone_arg1 (kHeight_no d Sto.new (goneK p) (right_nil0 (.inr hd8)))
  clear hbr
  refine acall_on (mu := [65]) [] [] mixed Tryz.func5 rfl rfl rfl ?_
  conv => whnf
  repeat' ((first
  | refine ob ?_
  | refine ⟨_, _, _, .flat _ _ rfl (q0) rfl, ?_⟩
  | refine ⟨_, _, _, .gen [] _ _ _ rfl (cn) rfl rfl rfl rfl rfl, ?_⟩
  | ((refine ⟨_, _, _, .flat _ _ rfl (.arg ?harg (q0)) rfl, ?_⟩); case harg => (repeat' (first | exact sm | apply And.intro)))
  | ((refine ⟨_, _, _, .gen [] _ _ _ rfl (.arg ?harg (cn)) rfl rfl rfl rfl rfl, ?_⟩); case harg => (repeat' (first | exact sm | apply And.intro))) | (refine And.intro (fun hq => ?_) (fun hq => ?_) <;> first | exact cl1 | ((try simp only [bl] at hq); (try dsimp only at hq); first | exact cl2 | skip))
  | refine fun hq => ?_ | refine ob3 ?_ | fail) <;> conv => whnf)
  refine ⟨[], ?_⟩
  conv => whnf
  refine ⟨Nat, fun i => i ≤ l.length, fun i => l.length - i, fun i => [(9, exB (nn i)), (10, exI .i64 i)], fun _ => [], ⟨0, by omega, ?_⟩, ?_⟩
  ·skip
   refine ⟨[], ?_⟩
   conv => whnf
   refine ⟨rfl, ?_, ?_⟩ <;> (repeat' (first | exact trivial | ((try intro k_ hk_); rw [nn0]; first | done | rfl) | ((rw [nn0, nn0]; done)) | ((rw [nn0, nn0]; rfl)) | exact sm | apply And.intro))
  intro i hi
  conv => whnf
  rcases Nat.lt_or_ge i l.length with hlt | hge
  ·have hs := hnx i hlt
   cases hb : nn i with
   | true =>
    rw [hb, Bool.true_or] at hs
    conv => whnf
    repeat' ((first
    | refine ob ?_
    | (refine And.intro (fun hq => ?_) (fun hq => ?_) <;> first | exact cl1 | ((try simp only [bl] at hq); (try dsimp only at hq); first | exact cl2 | skip))
    | refine fun hq => ?_ | refine ob3 ?_ | fail) <;> conv => whnf)
    refine ⟨i + 1, by omega, by dsimp only; omega, ?_⟩
    refine ⟨[], ?_⟩
    conv => whnf
    refine ⟨rfl, ?_, ?_⟩ <;> (repeat' (first | exact trivial | ((try intro k_ hk_); rw [hs]; first | done | rfl) | exact sm | apply And.intro))
   | false =>
    rw [hb, Bool.false_or] at hs
    conv => whnf
    repeat' ((first
    | refine ob ?_
    | (refine And.intro (fun hq => ?_) (fun hq => ?_) <;> first | exact cl1 | ((try simp only [bl] at hq); (try dsimp only at hq); first | exact cl2 | skip))
    | refine fun hq => ?_ | refine ob3 ?_ | fail) <;> conv => whnf)
    refine ⟨i + 1, by omega, by dsimp only; omega, ?_⟩
    refine ⟨[], ?_⟩
    conv => whnf
    refine ⟨rfl, ?_, ?_⟩ <;> (repeat' (first | exact trivial | ((try intro k_ hk_); rw [hs]; first | done | rfl) | exact sm | apply And.intro))
  ·obtain rfl : i = l.length := by omega
   cases hb : nn l.length with
   | true =>
    have cb := kBuild_no d Sto.new (p :: l) (by simp; omega) (hend hb)
    conv => whnf
    repeat' ((first
    | refine ob ?_
    | (refine And.intro (fun hq => ?_) (fun hq => ?_) <;> first | exact cl1 | ((try simp only [bl] at hq); (try dsimp only at hq); first | exact cl2 | skip))
    | refine fun hq => ?_ | refine ob3 ?_ | fail) <;> conv => whnf)
    refine ⟨(by show _ * 24 ≤ _; omega), ?_⟩
    conv => whnf
    conv => whnf
    repeat' ((first
    | refine ob ?_
    | refine ⟨_, _, _, .gen [901,900] _ _ _ rfl (cb) rfl rfl rfl rfl rfl, ?_⟩
    | ((refine ⟨_, _, _, .gen [901,900] _ _ _ rfl (.arg ?harg (cb)) rfl rfl rfl rfl rfl, ?_⟩); case harg => (repeat' (first | exact trivial | (exact app_cons p l _ rfl) | ((simp; omega)) | ((show 1 + l.length = (p :: l).length; simp; omega)) | exact sm | apply And.intro))) | (refine And.intro (fun hq => ?_) (fun hq => ?_) <;> first | exact cl1 | ((try simp only [bl] at hq); (try dsimp only at hq); first | exact cl2 | skip))
    | refine fun hq => ?_ | refine ob3 ?_ | fail) <;> conv => whnf)
    conv => whnf
    repeat' ((first
    | refine ob ?_
    | refine ⟨_, _, _, .gen [901,900] _ _ _ rfl (cI) rfl rfl rfl rfl rfl, ?_⟩
    | refine ⟨_, _, _, .gen [901,900] _ _ _ rfl (cD) rfl rfl rfl rfl rfl, ?_⟩
    | refine ⟨_, _, _, .gen [901,900] _ _ _ rfl (cH) rfl rfl rfl rfl rfl, ?_⟩
    | refine ⟨_, _, _, .gen [901,900] _ _ _ rfl (cR) rfl rfl rfl rfl rfl, ?_⟩
    | refine ⟨_, _, _, .gen [901,900] _ _ _ rfl (cT) rfl rfl rfl rfl rfl, ?_⟩
    | refine ⟨_, _, _, .gen [901,900] _ _ _ rfl (cl) rfl rfl rfl rfl rfl, ?_⟩
    | ((refine ⟨_, _, _, .gen [901,900] _ _ _ rfl (.arg ?harg (cI)) rfl rfl rfl rfl rfl, ?_⟩); case harg => (repeat' (first | exact sm | apply And.intro)))
    | ((refine ⟨_, _, _, .gen [901,900] _ _ _ rfl (.arg ?harg (cD)) rfl rfl rfl rfl rfl, ?_⟩); case harg => (repeat' (first | exact sm | apply And.intro)))
    | ((refine ⟨_, _, _, .gen [901,900] _ _ _ rfl (.arg ?harg (cH)) rfl rfl rfl rfl rfl, ?_⟩); case harg => (repeat' (first | exact sm | apply And.intro)))
    | ((refine ⟨_, _, _, .gen [901,900] _ _ _ rfl (.arg ?harg (cR)) rfl rfl rfl rfl rfl, ?_⟩); case harg => (repeat' (first | exact sm | apply And.intro)))
    | ((refine ⟨_, _, _, .gen [901,900] _ _ _ rfl (.arg ?harg (cT)) rfl rfl rfl rfl rfl, ?_⟩); case harg => (repeat' (first | exact sm | apply And.intro)))
    | ((refine ⟨_, _, _, .gen [901,900] _ _ _ rfl (.arg ?harg (cl)) rfl rfl rfl rfl rfl, ?_⟩); case harg => (repeat' (first | exact sm | apply And.intro))) | (refine And.intro (fun hq => ?_) (fun hq => ?_) <;> first | exact cl1 | ((try simp only [bl] at hq); (try dsimp only at hq); first | exact cl2 | skip))
    | refine fun hq => ?_ | refine ob3 ?_ | fail) <;> conv => whnf)
    all_goals (repeat' (first | exact sm | apply And.intro))
   | false =>
    conv => whnf
    repeat' ((first
    | refine ob ?_
    | refine ⟨_, _, _, .gen [901,900] _ _ _ rfl (cI) rfl rfl rfl rfl rfl, ?_⟩
    | refine ⟨_, _, _, .gen [901,900] _ _ _ rfl (cD) rfl rfl rfl rfl rfl, ?_⟩
    | refine ⟨_, _, _, .gen [901,900] _ _ _ rfl (cH) rfl rfl rfl rfl rfl, ?_⟩
    | refine ⟨_, _, _, .gen [901,900] _ _ _ rfl (cR) rfl rfl rfl rfl rfl, ?_⟩
    | refine ⟨_, _, _, .gen [901,900] _ _ _ rfl (cT) rfl rfl rfl rfl rfl, ?_⟩
    | refine ⟨_, _, _, .gen [901,900] _ _ _ rfl (cl) rfl rfl rfl rfl rfl, ?_⟩
    | ((refine ⟨_, _, _, .gen [901,900] _ _ _ rfl (.arg ?harg (cI)) rfl rfl rfl rfl rfl, ?_⟩); case harg => (repeat' (first | exact sm | apply And.intro)))
    | ((refine ⟨_, _, _, .gen [901,900] _ _ _ rfl (.arg ?harg (cD)) rfl rfl rfl rfl rfl, ?_⟩); case harg => (repeat' (first | exact sm | apply And.intro)))
    | ((refine ⟨_, _, _, .gen [901,900] _ _ _ rfl (.arg ?harg (cH)) rfl rfl rfl rfl rfl, ?_⟩); case harg => (repeat' (first | exact sm | apply And.intro)))
    | ((refine ⟨_, _, _, .gen [901,900] _ _ _ rfl (.arg ?harg (cR)) rfl rfl rfl rfl rfl, ?_⟩); case harg => (repeat' (first | exact sm | apply And.intro)))
    | ((refine ⟨_, _, _, .gen [901,900] _ _ _ rfl (.arg ?harg (cT)) rfl rfl rfl rfl rfl, ?_⟩); case harg => (repeat' (first | exact sm | apply And.intro)))
    | ((refine ⟨_, _, _, .gen [901,900] _ _ _ rfl (.arg ?harg (cl)) rfl rfl rfl rfl rfl, ?_⟩); case harg => (repeat' (first | exact sm | apply And.intro))) | (refine And.intro (fun hq => ?_) (fun hq => ?_) <;> first | exact cl1 | ((try simp only [bl] at hq); (try dsimp only at hq); first | exact cl2 | skip))
    | refine fun hq => ?_ | refine ob3 ?_ | fail) <;> conv => whnf)
    all_goals (repeat' (first | exact sm | apply And.intro))
 have cR := gone_arg1 (kRows_new d (by omega) (by omega) (goneK p) k1 k2 k3)
 have cT := gone_arg1 (kHeight_new d (by omega) (by omega) (goneK p) k1 k2 k3)
 by_cases hpl : (p.length : Int) = d
 ·have hbad : badD p d = false := by unfold badD; simp [hd1, hd8, hpl]
  rw [hbad] at nn0
  have hdec : (!decide ((p.length : Int) = d)) = false := by simp [hpl]
  obtain ⟨D, rfl⟩ : ∃ D : Nat, d = D := ⟨d.toNat, by omega⟩
  have hpD : RwOk D p := ⟨by omega, hp⟩
  have gg := gone_good (by omega) (by omega) hpD
  have cI := kInsert_ok D (by omega) (by omega) Sto.new (goneK p) p StoOk.new gg hpD
  have cD := kDelete_ok D (by omega) (by omega) Sto.new (goneK p) p StoOk.new gg hpD
  have cH := kHas_ok D (by omega) (by omega) Sto.new (goneK p) p StoOk.new gg hpD
  rw [gone_insP] at cI
  rw [gone_delP] at cD
  rw [gone_hasP] at cH
  replace cI := gone_arg2 cI
  replace cD := gone_arg2 cD
  replace cH := gone_arg2 cH
  clear hbr gg
  generalize (D : Int) = d at *
  refine acall_on (mu := [65]) [] [] mixed Tryz.func5 rfl rfl rfl ?_
  conv => whnf
  repeat' ((first
  | refine ob ?_
  | refine ⟨_, _, _, .flat _ _ rfl (q0) rfl, ?_⟩
  | refine ⟨_, _, _, .gen [] _ _ _ rfl (cn) rfl rfl rfl rfl rfl, ?_⟩
  | ((refine ⟨_, _, _, .flat _ _ rfl (.arg ?harg (q0)) rfl, ?_⟩); case harg => (repeat' (first | exact sm | apply And.intro)))
  | ((refine ⟨_, _, _, .gen [] _ _ _ rfl (.arg ?harg (cn)) rfl rfl rfl rfl rfl, ?_⟩); case harg => (repeat' (first | exact sm | apply And.intro))) | (refine And.intro (fun hq => ?_) (fun hq => ?_) <;> first | exact cl1 | ((try simp only [bl] at hq); (try dsimp only at hq); first | exact cl2 | skip))
  | refine fun hq => ?_ | refine ob3 ?_ | fail) <;> conv => whnf)
  refine ⟨[], ?_⟩
  conv => whnf
  refine ⟨Nat, fun i => i ≤ l.length, fun i => l.length - i, fun i => [(9, exB (nn i)), (10, exI .i64 i)], fun _ => [], ⟨0, by omega, ?_⟩, ?_⟩
  ·skip
   refine ⟨[], ?_⟩
   conv => whnf
   refine ⟨rfl, ?_, ?_⟩ <;> (repeat' (first | exact trivial | ((try intro k_ hk_); rw [nn0]; first | done | rfl) | ((rw [nn0, hdec]; done)) | ((rw [nn0, hdec]; rfl)) | exact sm | apply And.intro))
  intro i hi
  conv => whnf
  rcases Nat.lt_or_ge i l.length with hlt | hge
  ·have hs := hnx i hlt
   cases hb : nn i with
   | true =>
    rw [hb, Bool.true_or] at hs
    conv => whnf
    repeat' ((first
    | refine ob ?_
    | (refine And.intro (fun hq => ?_) (fun hq => ?_) <;> first | exact cl1 | ((try simp only [bl] at hq); (try dsimp only at hq); first | exact cl2 | skip))
    | refine fun hq => ?_ | refine ob3 ?_ | fail) <;> conv => whnf)
    refine ⟨i + 1, by omega, by dsimp only; omega, ?_⟩
    refine ⟨[], ?_⟩
    conv => whnf
    refine ⟨rfl, ?_, ?_⟩ <;> (repeat' (first | exact trivial | ((try intro k_ hk_); rw [hs]; first | done | rfl) | exact sm | apply And.intro))
   | false =>
    rw [hb, Bool.false_or] at hs
    conv => whnf
    repeat' ((first
    | refine ob ?_
    | (refine And.intro (fun hq => ?_) (fun hq => ?_) <;> first | exact cl1 | ((try simp only [bl] at hq); (try dsimp only at hq); first | exact cl2 | skip))
    | refine fun hq => ?_ | refine ob3 ?_ | fail) <;> conv => whnf)
    refine ⟨i + 1, by omega, by dsimp only; omega, ?_⟩
    refine ⟨[], ?_⟩
    conv => whnf
    refine ⟨rfl, ?_, ?_⟩ <;> (repeat' (first | exact trivial | ((try intro k_ hk_); rw [hs]; first | done | rfl) | exact sm | apply And.intro))
  ·obtain rfl : i = l.length := by omega
   cases hb : nn l.length with
   | true =>
    have cb := kBuild_no d Sto.new (p :: l) (by simp; omega) (hend hb)
    conv => whnf
    repeat' ((first
    | refine ob ?_
    | (refine And.intro (fun hq => ?_) (fun hq => ?_) <;> first | exact cl1 | ((try simp only [bl] at hq); (try dsimp only at hq); first | exact cl2 | skip))
    | refine fun hq => ?_ | refine ob3 ?_ | fail) <;> conv => whnf)
    refine ⟨(by show _ * 24 ≤ _; omega), ?_⟩
    conv => whnf
    conv => whnf
    repeat' ((first
    | refine ob ?_
    | refine ⟨_, _, _, .gen [901,900] _ _ _ rfl (cb) rfl rfl rfl rfl rfl, ?_⟩
    | ((refine ⟨_, _, _, .gen [901,900] _ _ _ rfl (.arg ?harg (cb)) rfl rfl rfl rfl rfl, ?_⟩); case harg => (repeat' (first | exact trivial | (exact app_cons p l _ rfl) | ((simp; omega)) | ((show 1 + l.length = (p :: l).length; simp; omega)) | exact sm | apply And.intro))) | (refine And.intro (fun hq => ?_) (fun hq => ?_) <;> first | exact cl1 | ((try simp only [bl] at hq); (try dsimp only at hq); first | exact cl2 | skip))
    | refine fun hq => ?_ | refine ob3 ?_ | fail) <;> conv => whnf)
    conv => whnf
    repeat' ((first
    | refine ob ?_
    | refine ⟨_, _, _, .gen [901,900] _ _ _ rfl (cI) rfl rfl rfl rfl rfl, ?_⟩
    | refine ⟨_, _, _, .gen [901,900] _ _ _ rfl (cD) rfl rfl rfl rfl rfl, ?_⟩
    | refine ⟨_, _, _, .gen [901,900] _ _ _ rfl (cH) rfl rfl rfl rfl rfl, ?_⟩
    | refine ⟨_, _, _, .gen [901,900] _ _ _ rfl (cR) rfl rfl rfl rfl rfl, ?_⟩
    | refine ⟨_, _, _, .gen [901,900] _ _ _ rfl (cT) rfl rfl rfl rfl rfl, ?_⟩
    | refine ⟨_, _, _, .gen [901,900] _ _ _ rfl (cl) rfl rfl rfl rfl rfl, ?_⟩
    | ((refine ⟨_, _, _, .gen [901,900] _ _ _ rfl (.arg ?harg (cI)) rfl rfl rfl rfl rfl, ?_⟩); case harg => (repeat' (first | exact sm | apply And.intro)))
    | ((refine ⟨_, _, _, .gen [901,900] _ _ _ rfl (.arg ?harg (cD)) rfl rfl rfl rfl rfl, ?_⟩); case harg => (repeat' (first | exact sm | apply And.intro)))
    | ((refine ⟨_, _, _, .gen [901,900] _ _ _ rfl (.arg ?harg (cH)) rfl rfl rfl rfl rfl, ?_⟩); case harg => (repeat' (first | exact sm | apply And.intro)))
    | ((refine ⟨_, _, _, .gen [901,900] _ _ _ rfl (.arg ?harg (cR)) rfl rfl rfl rfl rfl, ?_⟩); case harg => (repeat' (first | exact sm | apply And.intro)))
    | ((refine ⟨_, _, _, .gen [901,900] _ _ _ rfl (.arg ?harg (cT)) rfl rfl rfl rfl rfl, ?_⟩); case harg => (repeat' (first | exact sm | apply And.intro)))
    | ((refine ⟨_, _, _, .gen [901,900] _ _ _ rfl (.arg ?harg (cl)) rfl rfl rfl rfl rfl, ?_⟩); case harg => (repeat' (first | exact sm | apply And.intro))) | (refine And.intro (fun hq => ?_) (fun hq => ?_) <;> first | exact cl1 | ((try simp only [bl] at hq); (try dsimp only at hq); first | exact cl2 | skip))
    | refine fun hq => ?_ | refine ob3 ?_ | fail) <;> conv => whnf)
    all_goals (repeat' (first | exact sm | apply And.intro))
   | false =>
    conv => whnf
    repeat' ((first
    | refine ob ?_
    | refine ⟨_, _, _, .gen [901,900] _ _ _ rfl (cI) rfl rfl rfl rfl rfl, ?_⟩
    | refine ⟨_, _, _, .gen [901,900] _ _ _ rfl (cD) rfl rfl rfl rfl rfl, ?_⟩
    | refine ⟨_, _, _, .gen [901,900] _ _ _ rfl (cH) rfl rfl rfl rfl rfl, ?_⟩
    | refine ⟨_, _, _, .gen [901,900] _ _ _ rfl (cR) rfl rfl rfl rfl rfl, ?_⟩
    | refine ⟨_, _, _, .gen [901,900] _ _ _ rfl (cT) rfl rfl rfl rfl rfl, ?_⟩
    | refine ⟨_, _, _, .gen [901,900] _ _ _ rfl (cl) rfl rfl rfl rfl rfl, ?_⟩
    | ((refine ⟨_, _, _, .gen [901,900] _ _ _ rfl (.arg ?harg (cI)) rfl rfl rfl rfl rfl, ?_⟩); case harg => (repeat' (first | exact sm | apply And.intro)))
    | ((refine ⟨_, _, _, .gen [901,900] _ _ _ rfl (.arg ?harg (cD)) rfl rfl rfl rfl rfl, ?_⟩); case harg => (repeat' (first | exact sm | apply And.intro)))
    | ((refine ⟨_, _, _, .gen [901,900] _ _ _ rfl (.arg ?harg (cH)) rfl rfl rfl rfl rfl, ?_⟩); case harg => (repeat' (first | exact sm | apply And.intro)))
    | ((refine ⟨_, _, _, .gen [901,900] _ _ _ rfl (.arg ?harg (cR)) rfl rfl rfl rfl rfl, ?_⟩); case harg => (repeat' (first | exact sm | apply And.intro)))
    | ((refine ⟨_, _, _, .gen [901,900] _ _ _ rfl (.arg ?harg (cT)) rfl rfl rfl rfl rfl, ?_⟩); case harg => (repeat' (first | exact sm | apply And.intro)))
    | ((refine ⟨_, _, _, .gen [901,900] _ _ _ rfl (.arg ?harg (cl)) rfl rfl rfl rfl rfl, ?_⟩); case harg => (repeat' (first | exact sm | apply And.intro))) | (refine And.intro (fun hq => ?_) (fun hq => ?_) <;> first | exact cl1 | ((try simp only [bl] at hq); (try dsimp only at hq); first | exact cl2 | skip))
    | refine fun hq => ?_ | refine ob3 ?_ | fail) <;> conv => whnf)
    all_goals (repeat' (first | exact sm | apply And.intro))
 ·have hbad : badD p d = true := by unfold badD; simp [hpl]
  rw [hbad] at nn0 hbr
  have hdec : (!decide ((p.length : Int) = d)) = true := by simp [hpl]
  have cI := gone_arg2 (kInsert_no d Sto.new (goneK p) p hbr)
  have cD := gone_arg2 (kDelete_no d Sto.new (goneK p) p hbr)
  have cH := gone_arg2 (kHas_no d Sto.new (goneK p) p hbr)
  clear hbr
  refine acall_on (mu := [65]) [] [] mixed Tryz.func5 rfl rfl rfl ?_
  conv => whnf
  repeat' ((first
  | refine ob ?_
  | refine ⟨_, _, _, .flat _ _ rfl (q0) rfl, ?_⟩
  | refine ⟨_, _, _, .gen [] _ _ _ rfl (cn) rfl rfl rfl rfl rfl, ?_⟩
  | ((refine ⟨_, _, _, .flat _ _ rfl (.arg ?harg (q0)) rfl, ?_⟩); case harg => (repeat' (first | exact sm | apply And.intro)))
  | ((refine ⟨_, _, _, .gen [] _ _ _ rfl (.arg ?harg (cn)) rfl rfl rfl rfl rfl, ?_⟩); case harg => (repeat' (first | exact sm | apply And.intro))) | (refine And.intro (fun hq => ?_) (fun hq => ?_) <;> first | exact cl1 | ((try simp only [bl] at hq); (try dsimp only at hq); first | exact cl2 | skip))
  | refine fun hq => ?_ | refine ob3 ?_ | fail) <;> conv => whnf)
  refine ⟨[], ?_⟩
  conv => whnf
  refine ⟨Nat, fun i => i ≤ l.length, fun i => l.length - i, fun i => [(9, exB (nn i)), (10, exI .i64 i)], fun _ => [], ⟨0, by omega, ?_⟩, ?_⟩
  ·skip
   refine ⟨[], ?_⟩
   conv => whnf
   refine ⟨rfl, ?_, ?_⟩ <;> (repeat' (first | exact trivial | ((try intro k_ hk_); rw [nn0]; first | done | rfl) | ((rw [nn0, hdec]; done)) | ((rw [nn0, hdec]; rfl)) | exact sm | apply And.intro))
  intro i hi
  conv => whnf
  rcases Nat.lt_or_ge i l.length with hlt | hge
  ·have hs := hnx i hlt
   cases hb : nn i with
   | true =>
    rw [hb, Bool.true_or] at hs
    conv => whnf
    repeat' ((first
    | refine ob ?_
    | (refine And.intro (fun hq => ?_) (fun hq => ?_) <;> first | exact cl1 | ((try simp only [bl] at hq); (try dsimp only at hq); first | exact cl2 | skip))
    | refine fun hq => ?_ | refine ob3 ?_ | fail) <;> conv => whnf)
    refine ⟨i + 1, by omega, by dsimp only; omega, ?_⟩
    refine ⟨[], ?_⟩
    conv => whnf
    refine ⟨rfl, ?_, ?_⟩ <;> (repeat' (first | exact trivial | ((try intro k_ hk_); rw [hs]; first | done | rfl) | exact sm | apply And.intro))
   | false =>
    rw [hb, Bool.false_or] at hs
    conv => whnf
    repeat' ((first
    | refine ob ?_
    | (refine And.intro (fun hq => ?_) (fun hq => ?_) <;> first | exact cl1 | ((try simp only [bl] at hq); (try dsimp only at hq); first | exact cl2 | skip))
    | refine fun hq => ?_ | refine ob3 ?_ | fail) <;> conv => whnf)
    refine ⟨i + 1, by omega, by dsimp only; omega, ?_⟩
    refine ⟨[], ?_⟩
    conv => whnf
    refine ⟨rfl, ?_, ?_⟩ <;> (repeat' (first | exact trivial | ((try intro k_ hk_); rw [hs]; first | done | rfl) | exact sm | apply And.intro))
  ·obtain rfl : i = l.length := by omega
   cases hb : nn l.length with
   | true =>
    have cb := kBuild_no d Sto.new (p :: l) (by simp; omega) (hend hb)
    conv => whnf
    repeat' ((first
    | refine ob ?_
    | (refine And.intro (fun hq => ?_) (fun hq => ?_) <;> first | exact cl1 | ((try simp only [bl] at hq); (try dsimp only at hq); first | exact cl2 | skip))
    | refine fun hq => ?_ | refine ob3 ?_ | fail) <;> conv => whnf)
    refine ⟨(by show _ * 24 ≤ _; omega), ?_⟩
    conv => whnf
    conv => whnf
    repeat' ((first
    | refine ob ?_
    | refine ⟨_, _, _, .gen [901,900] _ _ _ rfl (cb) rfl rfl rfl rfl rfl, ?_⟩
    | ((refine ⟨_, _, _, .gen [901,900] _ _ _ rfl (.arg ?harg (cb)) rfl rfl rfl rfl rfl, ?_⟩); case harg => (repeat' (first | exact trivial | (exact app_cons p l _ rfl) | ((simp; omega)) | ((show 1 + l.length = (p :: l).length; simp; omega)) | exact sm | apply And.intro))) | (refine And.intro (fun hq => ?_) (fun hq => ?_) <;> first | exact cl1 | ((try simp only [bl] at hq); (try dsimp only at hq); first | exact cl2 | skip))
    | refine fun hq => ?_ | refine ob3 ?_ | fail) <;> conv => whnf)
    conv => whnf
    repeat' ((first
    | refine ob ?_
    | refine ⟨_, _, _, .gen [901,900] _ _ _ rfl (cI) rfl rfl rfl rfl rfl, ?_⟩
    | refine ⟨_, _, _, .gen [901,900] _ _ _ rfl (cD) rfl rfl rfl rfl rfl, ?_⟩
    | refine ⟨_, _, _, .gen [901,900] _ _ _ rfl (cH) rfl rfl rfl rfl rfl, ?_⟩
    | refine ⟨_, _, _, .gen [901,900] _ _ _ rfl (cR) rfl rfl rfl rfl rfl, ?_⟩
    | refine ⟨_, _, _, .gen [901,900] _ _ _ rfl (cT) rfl rfl rfl rfl rfl, ?_⟩
    | refine ⟨_, _, _, .gen [901,900] _ _ _ rfl (cl) rfl rfl rfl rfl rfl, ?_⟩
    | ((refine ⟨_, _, _, .gen [901,900] _ _ _ rfl (.arg ?harg (cI)) rfl rfl rfl rfl rfl, ?_⟩); case harg => (repeat' (first | exact sm | apply And.intro)))
    | ((refine ⟨_, _, _, .gen [901,900] _ _ _ rfl (.arg ?harg (cD)) rfl rfl rfl rfl rfl, ?_⟩); case harg => (repeat' (first | exact sm | apply And.intro)))
    | ((refine ⟨_, _, _, .gen [901,900] _ _ _ rfl (.arg ?harg (cH)) rfl rfl rfl rfl rfl, ?_⟩); case harg => (repeat' (first | exact sm | apply And.intro)))
    | ((refine ⟨_, _, _, .gen [901,900] _ _ _ rfl (.arg ?harg (cR)) rfl rfl rfl rfl rfl, ?_⟩); case harg => (repeat' (first | exact sm | apply And.intro)))
    | ((refine ⟨_, _, _, .gen [901,900] _ _ _ rfl (.arg ?harg (cT)) rfl rfl rfl rfl rfl, ?_⟩); case harg => (repeat' (first | exact sm | apply And.intro)))
    | ((refine ⟨_, _, _, .gen [901,900] _ _ _ rfl (.arg ?harg (cl)) rfl rfl rfl rfl rfl, ?_⟩); case harg => (repeat' (first | exact sm | apply And.intro))) | (refine And.intro (fun hq => ?_) (fun hq => ?_) <;> first | exact cl1 | ((try simp only [bl] at hq); (try dsimp only at hq); first | exact cl2 | skip))
    | refine fun hq => ?_ | refine ob3 ?_ | fail) <;> conv => whnf)
    all_goals (repeat' (first | exact sm | apply And.intro))
   | false =>
    conv => whnf
    repeat' ((first
    | refine ob ?_
    | refine ⟨_, _, _, .gen [901,900] _ _ _ rfl (cI) rfl rfl rfl rfl rfl, ?_⟩
    | refine ⟨_, _, _, .gen [901,900] _ _ _ rfl (cD) rfl rfl rfl rfl rfl, ?_⟩
    | refine ⟨_, _, _, .gen [901,900] _ _ _ rfl (cH) rfl rfl rfl rfl rfl, ?_⟩
    | refine ⟨_, _, _, .gen [901,900] _ _ _ rfl (cR) rfl rfl rfl rfl rfl, ?_⟩
    | refine ⟨_, _, _, .gen [901,900] _ _ _ rfl (cT) rfl rfl rfl rfl rfl, ?_⟩
    | refine ⟨_, _, _, .gen [901,900] _ _ _ rfl (cl) rfl rfl rfl rfl rfl, ?_⟩
    | ((refine ⟨_, _, _, .gen [901,900] _ _ _ rfl (.arg ?harg (cI)) rfl rfl rfl rfl rfl, ?_⟩); case harg => (repeat' (first | exact sm | apply And.intro)))
    | ((refine ⟨_, _, _, .gen [901,900] _ _ _ rfl (.arg ?harg (cD)) rfl rfl rfl rfl rfl, ?_⟩); case harg => (repeat' (first | exact sm | apply And.intro)))
    | ((refine ⟨_, _, _, .gen [901,900] _ _ _ rfl (.arg ?harg (cH)) rfl rfl rfl rfl rfl, ?_⟩); case harg => (repeat' (first | exact sm | apply And.intro)))
    | ((refine ⟨_, _, _, .gen [901,900] _ _ _ rfl (.arg ?harg (cR)) rfl rfl rfl rfl rfl, ?_⟩); case harg => (repeat' (first | exact sm | apply And.intro)))
    | ((refine ⟨_, _, _, .gen [901,900] _ _ _ rfl (.arg ?harg (cT)) rfl rfl rfl rfl rfl, ?_⟩); case harg => (repeat' (first | exact sm | apply And.intro)))
    | ((refine ⟨_, _, _, .gen [901,900] _ _ _ rfl (.arg ?harg (cl)) rfl rfl rfl rfl rfl, ?_⟩); case harg => (repeat' (first | exact sm | apply And.intro))) | (refine And.intro (fun hq => ?_) (fun hq => ?_) <;> first | exact cl1 | ((try simp only [bl] at hq); (try dsimp only at hq); first | exact cl2 | skip))
    | refine fun hq => ?_ | refine ob3 ?_ | fail) <;> conv => whnf)
    all_goals (repeat' (first | exact sm | apply And.intro))
end Go.Proofs.YtedokpgkjcnoiaaGreat
