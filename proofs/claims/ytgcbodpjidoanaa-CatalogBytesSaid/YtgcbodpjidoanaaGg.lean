/- catalog.Right; catalog.at, slices.Clone, slices.Insert where there is no table yet. -/
import Derived.Test.YtgcbodpjidoanaaGf
set_option linter.unusedVariables false
set_option linter.unusedSimpArgs false
namespace Go.Proofs.Ytgcbodpjidoanaa
open Go.RowKit
set_option maxRecDepth 100000
set_option maxHeartbeats 1000000
def tabAt (l : List TableD) (i : Nat) : Bool := tabR (l.getD i default) && (decide (i = 0) || Op.bytesLess (l.getD (i - 1) default).name.toList (l.getD i default).name.toList)
def tabsR (l : List TableD) : Bool := allTo (tabAt l) l.length && decide (l.length ≤ 8)
theorem cright_ok (l : List TableD) (h : l.length ≤ 1000) (hs : ∀ i, (l.getD i default).small) : ACall Try.prog 48 [.d (tablesL l)] [] (exB (tabsR l)) [] := by
  refine acall_of (mu := []) mixed Try.func48 rfl rfl rfl ?_
  conv => whnf
  refine ⟨[], ?_⟩
  conv => whnf
  refine ⟨Nat, fun k => k ≤ l.length ∧ ∀ i, i < k → tabAt l i = true, fun k => l.length - k, fun k => [(2, exB false), (7, exI .i64 k)], fun _ => [], ⟨0, ⟨by omega, fun i hi => by omega⟩, ?_⟩, ?_⟩
  · skip
    refine ⟨[], ?_⟩
    conv => whnf
    refine ⟨rfl, ?_, ?_⟩ <;> (repeat' (first | exact trivial | exact rfl | exact fun _ _ => rfl | apply And.intro | (intro i hi; rcases i with _ | _ | i <;> first | rfl | (exfalso; omega) | (simp at hi; done) | (simp at hi; omega)) | exact fun _ _ => by simp))
  intro k ⟨hk, hn⟩
  conv => whnf
  repeat
    first
      | refine And.intro (by omega) ?_
      | refine And.intro rfl ?_
    conv => whnf
  refine ⟨fun hlt => ?_, fun hge => ?_⟩
  · have hlt : k < l.length := by simpa using hlt
    have no : tabAt l k = false → tabsR l = false := fun q => by unfold tabsR; rw [allTo_no hlt q]; rfl
    have ye : tabAt l k = true → ∀ i, i < k + 1 → tabAt l i = true := fun q i hi => by
      rcases Nat.lt_or_ge i k with p | p
      · exact hn i p
      · obtain rfl : i = k := by omega
        exact q
    conv => whnf
    repeat' (first
      | (refine And.intro (by omega) ?_; conv => whnf)
      | (refine And.intro rfl ?_; conv => whnf)
      | (refine And.intro (Nat.le_of_ble_eq_true rfl) ?_; conv => whnf)
      | (refine And.intro (fun i hi => ⟨_, rfl⟩) ?_; conv => whnf)
      | (refine ⟨_, _, _, .flat _ _ rfl (tright_ok (l.getD k default) (hs k)) rfl, ?_⟩; conv => whnf)
      | (refine ⟨_, _, _, .flat _ _ rfl (ACall.arg ?harg (tright_ok (l.getD k default) (hs k))) rfl, ?_⟩; (case harg => (repeat' (first | exact trivial | exact rfl | exact fun _ _ => rfl | apply And.intro | (intro i hi; rcases i with _ | _ | i <;> first | rfl | (exfalso; omega) | (simp at hi; done) | (simp at hi; omega)) | exact fun _ _ => by simp))); (conv => whnf))
      | (refine And.intro (fun hq => ?_) (fun hq => ?_) <;> (first | (exfalso; simp at hq; done) | (exfalso; simp at *; omega) | (exfalso; simp_all; done) | (conv => whnf)))
      | (refine And.intro (by first | (show _ * 1 ≤ 140737488355328; omega) | (show _ * 8 ≤ 140737488355328; omega) | (show _ * 24 ≤ 140737488355328; omega) | (show _ * 16 ≤ 140737488355328; omega) | (show _ * 32 ≤ 140737488355328; omega) | (show _ * 120 ≤ 140737488355328; omega) | (show _ * 280 ≤ 140737488355328; omega) | (show _ * 72 ≤ 140737488355328; omega) | (show _ * 48 ≤ 140737488355328; omega)) ?_; conv => whnf)
      | (refine And.intro (by simp at *; omega) ?_; conv => whnf)
      | fail)
    all_goals first
      | (refine ⟨k + 1, ⟨by omega, ye (by unfold tabAt; simp at *; grind)⟩, by dsimp only; omega, [], ?_⟩; (conv => whnf); exact ⟨rfl, ⟨by (repeat' (first | exact trivial | exact rfl | exact fun _ _ => rfl | apply And.intro | (intro i hi; rcases i with _ | _ | i <;> first | rfl | (exfalso; omega) | (simp at hi; done) | (simp at hi; omega)) | exact fun _ _ => by simp)), by (repeat' (first | exact trivial | exact rfl | exact fun _ _ => rfl | apply And.intro | (intro i hi; rcases i with _ | _ | i <;> first | rfl | (exfalso; omega) | (simp at hi; done) | (simp at hi; omega)) | exact fun _ _ => by simp)), trivial⟩, trivial⟩)
      | skip
    all_goals first
      | (refine And.intro (congrArg Value.bool ?_) trivial; rw [no (by unfold tabAt; simp at *; grind)])
      | skip
  · have hge : ¬ k < l.length := by simpa using hge
    have ha := (allTo_iff (tabAt l) l.length).2 fun i hi => hn i (by omega)
    conv => whnf
    repeat' (first
      | (refine And.intro (by omega) ?_; conv => whnf)
      | (refine And.intro rfl ?_; conv => whnf)
      | (refine And.intro (Nat.le_of_ble_eq_true rfl) ?_; conv => whnf)
      | (refine And.intro (fun i hi => ⟨_, rfl⟩) ?_; conv => whnf)
      | (refine And.intro (fun hq => ?_) (fun hq => ?_) <;> (first | (exfalso; simp at hq; done) | (exfalso; simp at *; omega) | (exfalso; simp_all; done) | (conv => whnf)))
      | (refine And.intro (by first | (show _ * 1 ≤ 140737488355328; omega) | (show _ * 8 ≤ 140737488355328; omega) | (show _ * 24 ≤ 140737488355328; omega) | (show _ * 16 ≤ 140737488355328; omega) | (show _ * 32 ≤ 140737488355328; omega) | (show _ * 120 ≤ 140737488355328; omega) | (show _ * 280 ≤ 140737488355328; omega) | (show _ * 72 ≤ 140737488355328; omega) | (show _ * 48 ≤ 140737488355328; omega)) ?_; conv => whnf)
      | (refine And.intro (by simp at *; omega) ?_; conv => whnf)
      | fail)
    all_goals first
      | exact trivial
      | (refine And.intro (congrArg Value.bool ?_) trivial; grind [tabsR])
      | (refine And.intro (congrArg Value.bool ?_) trivial; simp_all [tabsR]; done)
      | (refine And.intro (congrArg Value.bool ?_) trivial; simp [tabsR] at *; omega)
      | skip
end Go.Proofs.Ytgcbodpjidoanaa
