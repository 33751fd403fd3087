/- Chapter 20's examples. -/
import Derived.Test.YtgcbodpjidoanaaGi
set_option linter.unusedVariables false
set_option linter.unusedSimpArgs false
namespace Go.Proofs.Ytgcbodpjidoanaa
open Go.RowKit
set_option maxRecDepth 100000
set_option maxHeartbeats 1000000
def nT : ByteArray := ⟨#[116]⟩
def nB : ByteArray := ⟨#[98]⟩
def nC : ByteArray := ⟨#[99]⟩
def t0 : TableD := ⟨nT, [⟨#[97]⟩, nB], kid0, kid0⟩
theorem t0_small : t0.small := ⟨Nat.le_of_ble_eq_true rfl, Nat.le_of_ble_eq_true rfl, fun i => (by rcases i with _ | _ | i <;> exact Nat.le_of_ble_eq_true rfl), ⟨Nat.le_of_ble_eq_true rfl, Nat.le_of_ble_eq_true rfl, Nat.le_of_ble_eq_true rfl⟩, ⟨Nat.le_of_ble_eq_true rfl, Nat.le_of_ble_eq_true rfl, Nat.le_of_ble_eq_true rfl⟩⟩
theorem t0_right : tabR t0 = true := by decide
theorem t0_find : findT [t0] nT = t0 := by rfl
theorem t0_has : hasN [t0] nT = true := by rfl
theorem t0_c1 : colI t0 idS = 0 ∧ colB t0 idS = true := by decide
theorem t0_c2 : colI t0 nB = 2 ∧ colB t0 nB = true := by decide
theorem t0_c3 : colB t0 nC = false := by decide
theorem t0_same : tabS t0 t0 = true := by decide
theorem alive20 : ACall Try.prog 30 [] [] (exB true) [] := by
  have c1 : ACall Try.prog 31 [agD (tableL t0), exS idS] [] (.tup [exI .i64 0, exB true]) [] := by
    have := col_ok t0 idS (Nat.le_of_ble_eq_true rfl)
    rwa [t0_c1.1, t0_c1.2] at this
  have c2 : ACall Try.prog 31 [agD (tableL t0), exS nB] [] (.tup [exI .i64 2, exB true]) [] := by
    have := col_ok t0 nB (Nat.le_of_ble_eq_true rfl)
    rwa [t0_c2.1, t0_c2.2] at this
  have c3 : ACall Try.prog 31 [agD (tableL t0), exS nC] [] (.tup [exI .i64 (colI t0 nC), exB false]) [] := by
    have := col_ok t0 nC (Nat.le_of_ble_eq_true rfl)
    rwa [t0_c3] at this
  have fd : ACall Try.prog 34 [.d (tablesL [t0]), exS nT] [] (.tup [agD (tableL t0), exB true]) [] := by
    have := find_any [t0] nT (Nat.le_of_ble_eq_true rfl)
    rwa [t0_has, t0_find] at this
  have sm : ACall Try.prog 36 [agD (tableL t0), agD (tableL t0)] [] (exB true) [] := by
    have := rtsame_ok t0 t0 t0_small
    rwa [t0_same] at this
  have es : strD [0].length (byF [0]) = ⟨#[0]⟩ := by rfl
  refine acall_of (mu := []) mixed Try.func30 rfl rfl rfl ?_
  conv => whnf
  repeat' (first
    | (refine And.intro (by omega) ?_; conv => whnf)
    | (refine And.intro rfl ?_; conv => whnf)
    | (refine And.intro (Nat.le_of_ble_eq_true rfl) ?_; conv => whnf)
    | (refine And.intro (fun i hi => ⟨_, rfl⟩) ?_; conv => whnf)
    | (refine ⟨_, _, _, .gen [] _ _ _ rfl (encode0) rfl rfl rfl rfl rfl, ?_⟩; conv => whnf)
    | (refine ⟨_, _, _, .gen [] _ _ _ rfl (add0 t0 t0_small t0_right) rfl rfl rfl rfl rfl, ?_⟩; conv => whnf)
    | (refine ⟨_, _, _, .gen [] _ _ _ rfl (fd) rfl rfl rfl rfl rfl, ?_⟩; conv => whnf)
    | (refine ⟨_, _, _, .flat _ _ rfl (c1) rfl, ?_⟩; conv => whnf)
    | (refine ⟨_, _, _, .flat _ _ rfl (c2) rfl, ?_⟩; conv => whnf)
    | (refine ⟨_, _, _, .flat _ _ rfl (c3) rfl, ?_⟩; conv => whnf)
    | (refine ⟨_, _, _, .flat _ _ rfl (sm) rfl, ?_⟩; conv => whnf)
    | (refine ⟨_, _, _, .flat _ _ rfl (dims t0 (Nat.le_of_ble_eq_true rfl)) rfl, ?_⟩; conv => whnf)
    | (refine ⟨_, _, _, .gen [] _ _ _ rfl (ACall.arg ?harg (encode0)) rfl rfl rfl rfl rfl, ?_⟩; (case harg => (repeat' (first | exact trivial | exact rfl | exact fun _ _ => rfl | apply And.intro | (intro i hi; rcases i with _ | _ | i <;> first | rfl | (exfalso; omega) | (simp at hi; done) | (simp at hi; omega)) | exact fun _ _ => by simp))); (conv => whnf))
    | (refine ⟨_, _, _, .gen [] _ _ _ rfl (ACall.arg ?harg (add0 t0 t0_small t0_right)) rfl rfl rfl rfl rfl, ?_⟩; (case harg => (repeat' (first | exact trivial | exact rfl | exact fun _ _ => rfl | apply And.intro | (intro i hi; rcases i with _ | _ | i <;> first | rfl | (exfalso; omega) | (simp at hi; done) | (simp at hi; omega)) | exact fun _ _ => by simp))); (conv => whnf))
    | (refine ⟨_, _, _, .gen [] _ _ _ rfl (ACall.arg ?harg (fd)) rfl rfl rfl rfl rfl, ?_⟩; (case harg => (repeat' (first | exact trivial | exact rfl | exact fun _ _ => rfl | apply And.intro | (intro i hi; rcases i with _ | _ | i <;> first | rfl | (exfalso; omega) | (simp at hi; done) | (simp at hi; omega)) | exact fun _ _ => by simp))); (conv => whnf))
    | (refine ⟨_, _, _, .flat _ _ rfl (ACall.arg ?harg (c1)) rfl, ?_⟩; (case harg => (repeat' (first | exact trivial | exact rfl | exact fun _ _ => rfl | apply And.intro | (intro i hi; rcases i with _ | _ | i <;> first | rfl | (exfalso; omega) | (simp at hi; done) | (simp at hi; omega)) | exact fun _ _ => by simp))); (conv => whnf))
    | (refine ⟨_, _, _, .flat _ _ rfl (ACall.arg ?harg (c2)) rfl, ?_⟩; (case harg => (repeat' (first | exact trivial | exact rfl | exact fun _ _ => rfl | apply And.intro | (intro i hi; rcases i with _ | _ | i <;> first | rfl | (exfalso; omega) | (simp at hi; done) | (simp at hi; omega)) | exact fun _ _ => by simp))); (conv => whnf))
    | (refine ⟨_, _, _, .flat _ _ rfl (ACall.arg ?harg (c3)) rfl, ?_⟩; (case harg => (repeat' (first | exact trivial | exact rfl | exact fun _ _ => rfl | apply And.intro | (intro i hi; rcases i with _ | _ | i <;> first | rfl | (exfalso; omega) | (simp at hi; done) | (simp at hi; omega)) | exact fun _ _ => by simp))); (conv => whnf))
    | (refine ⟨_, _, _, .flat _ _ rfl (ACall.arg ?harg (sm)) rfl, ?_⟩; (case harg => (repeat' (first | exact trivial | exact rfl | exact fun _ _ => rfl | apply And.intro | (intro i hi; rcases i with _ | _ | i <;> first | rfl | (exfalso; omega) | (simp at hi; done) | (simp at hi; omega)) | exact fun _ _ => by simp))); (conv => whnf))
    | (refine ⟨_, _, _, .flat _ _ rfl (ACall.arg ?harg (dims t0 (Nat.le_of_ble_eq_true rfl))) rfl, ?_⟩; (case harg => (repeat' (first | exact trivial | exact rfl | exact fun _ _ => rfl | apply And.intro | (intro i hi; rcases i with _ | _ | i <;> first | rfl | (exfalso; omega) | (simp at hi; done) | (simp at hi; omega)) | exact fun _ _ => by simp))); (conv => whnf))
    | (refine And.intro (fun hq => ?_) (fun hq => ?_) <;> (first | (exfalso; simp at hq; done) | (exfalso; simp at *; omega) | (exfalso; simp_all; done) | (conv => whnf)))
    | (refine And.intro (by first | (show _ * 1 ≤ 140737488355328; omega) | (show _ * 8 ≤ 140737488355328; omega) | (show _ * 24 ≤ 140737488355328; omega) | (show _ * 16 ≤ 140737488355328; omega) | (show _ * 32 ≤ 140737488355328; omega) | (show _ * 120 ≤ 140737488355328; omega) | (show _ * 280 ≤ 140737488355328; omega) | (show _ * 72 ≤ 140737488355328; omega) | (show _ * 48 ≤ 140737488355328; omega)) ?_; conv => whnf)
    | (refine And.intro (by simp at *; omega) ?_; conv => whnf)
    | fail)
  all_goals first | exact trivial | exact ⟨rfl, by (repeat' (first | exact trivial | exact rfl | exact fun _ _ => rfl | apply And.intro | (intro i hi; rcases i with _ | _ | i <;> first | rfl | (exfalso; omega) | (simp at hi; done) | (simp at hi; omega)) | exact fun _ _ => by simp)), trivial⟩ | exact ⟨by (repeat' (first | exact trivial | exact rfl | exact fun _ _ => rfl | apply And.intro | (intro i hi; rcases i with _ | _ | i <;> first | rfl | (exfalso; omega) | (simp at hi; done) | (simp at hi; omega)) | exact fun _ _ => by simp)), trivial⟩ | exact ⟨by (repeat' (first | exact trivial | exact rfl | exact fun _ _ => rfl | apply And.intro | (intro i hi; rcases i with _ | _ | i <;> first | rfl | (exfalso; omega) | (simp at hi; done) | (simp at hi; omega)) | exact fun _ _ => by simp)), by (repeat' (first | exact trivial | exact rfl | exact fun _ _ => rfl | apply And.intro | (intro i hi; rcases i with _ | _ | i <;> first | rfl | (exfalso; omega) | (simp at hi; done) | (simp at hi; omega)) | exact fun _ _ => by simp))⟩ | exact ⟨rfl, by (repeat' (first | exact trivial | exact rfl | exact fun _ _ => rfl | apply And.intro | (intro i hi; rcases i with _ | _ | i <;> first | rfl | (exfalso; omega) | (simp at hi; done) | (simp at hi; omega)) | exact fun _ _ => by simp)), by (repeat' (first | exact trivial | exact rfl | exact fun _ _ => rfl | apply And.intro | (intro i hi; rcases i with _ | _ | i <;> first | rfl | (exfalso; omega) | (simp at hi; done) | (simp at hi; omega)) | exact fun _ _ => by simp))⟩
end Go.Proofs.Ytgcbodpjidoanaa
