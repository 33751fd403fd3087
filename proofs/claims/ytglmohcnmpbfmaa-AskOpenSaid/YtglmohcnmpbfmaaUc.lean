/- Answers compared; the document's examples; AskOf. -/
import Derived.Test.YtglmohcnmpbfmaaUb
import Derived.Test.YtglmohcnmpbfmaaOn
set_option linter.unusedVariables false
set_option linter.unusedSimpArgs false
namespace Go.Proofs.Ytglmohcnmpbfmaa
open Go.RowKit
set_option maxRecDepth 100000
set_option maxHeartbeats 4000000
theorem usamerow_ok (l m : List Int) (h : l.length ≤ 1000000) : ACall Try.prog 75 [.d (i64L l), .d (i64L m)] [] (exB (decide (l = m))) [] := by
  refine acall_of (mu := []) mixed Try.func75 rfl rfl rfl ?_
  conv => whnf
  refine ⟨fun a => ?_, fun b => ?_⟩
  · have hne : l ≠ m := fun e => by subst e; simp at a
    rw [decide_eq_false hne]
    conv => whnf
    all_goals first | exact trivial | exact ⟨rfl, by (repeat' (first | exact trivial | exact rfl | exact fun _ _ => rfl | apply And.intro | (intro i hi; rcases i with _ | _ | i <;> first | rfl | (exfalso; omega) | (simp at hi; done) | (simp at hi; omega)) | exact fun _ _ => by simp)), trivial⟩ | exact ⟨by (repeat' (first | exact trivial | exact rfl | exact fun _ _ => rfl | apply And.intro | (intro i hi; rcases i with _ | _ | i <;> first | rfl | (exfalso; omega) | (simp at hi; done) | (simp at hi; omega)) | exact fun _ _ => by simp)), trivial⟩ | exact ⟨by (repeat' (first | exact trivial | exact rfl | exact fun _ _ => rfl | apply And.intro | (intro i hi; rcases i with _ | _ | i <;> first | rfl | (exfalso; omega) | (simp at hi; done) | (simp at hi; omega)) | exact fun _ _ => by simp)), by (repeat' (first | exact trivial | exact rfl | exact fun _ _ => rfl | apply And.intro | (intro i hi; rcases i with _ | _ | i <;> first | rfl | (exfalso; omega) | (simp at hi; done) | (simp at hi; omega)) | exact fun _ _ => by simp))⟩ | exact ⟨rfl, by (repeat' (first | exact trivial | exact rfl | exact fun _ _ => rfl | apply And.intro | (intro i hi; rcases i with _ | _ | i <;> first | rfl | (exfalso; omega) | (simp at hi; done) | (simp at hi; omega)) | exact fun _ _ => by simp)), by (repeat' (first | exact trivial | exact rfl | exact fun _ _ => rfl | apply And.intro | (intro i hi; rcases i with _ | _ | i <;> first | rfl | (exfalso; omega) | (simp at hi; done) | (simp at hi; omega)) | exact fun _ _ => by simp))⟩
  · have hl : l.length = m.length := by simp at b; omega
    conv => whnf
    refine ⟨[], ?_⟩
    conv => whnf
    refine ⟨Nat, fun k => k ≤ l.length ∧ ∀ i, i < k → l.getD i 0 = m.getD i 0, fun k => l.length - k, fun k => [(4, exB false), (5, exI .i64 k)], fun _ => [], ⟨0, ⟨by omega, fun i hi => by omega⟩, ?_⟩, ?_⟩
    · skip
      refine ⟨[], ?_⟩
      conv => whnf
      refine ⟨rfl, ?_, ?_⟩ <;> (repeat' (first | exact trivial | exact rfl | exact fun _ _ => rfl | apply And.intro | (intro i hi; rcases i with _ | _ | i <;> first | rfl | (exfalso; omega) | (simp at hi; done) | (simp at hi; omega)) | exact fun _ _ => by simp))
    intro k ⟨hk, hn⟩
    conv => whnf
    repeat
      first
        | refine And.intro (by omega) ?_
        | refine And.intro rfl ?_
      conv => whnf
    refine ⟨fun hlt => ?_, fun hge => ?_⟩
    · have hlt : k < l.length := by simpa using hlt
      conv => whnf
      repeat
        first
          | refine And.intro (by omega) ?_
          | refine And.intro rfl ?_
        conv => whnf
      refine ⟨fun he => ?_, fun he => ?_⟩
      · have hne : l ≠ m := fun e => by subst e; simp at he
        rw [decide_eq_false hne]
        conv => whnf
        all_goals first | exact trivial | exact ⟨rfl, by (repeat' (first | exact trivial | exact rfl | exact fun _ _ => rfl | apply And.intro | (intro i hi; rcases i with _ | _ | i <;> first | rfl | (exfalso; omega) | (simp at hi; done) | (simp at hi; omega)) | exact fun _ _ => by simp)), trivial⟩ | exact ⟨by (repeat' (first | exact trivial | exact rfl | exact fun _ _ => rfl | apply And.intro | (intro i hi; rcases i with _ | _ | i <;> first | rfl | (exfalso; omega) | (simp at hi; done) | (simp at hi; omega)) | exact fun _ _ => by simp)), trivial⟩ | exact ⟨by (repeat' (first | exact trivial | exact rfl | exact fun _ _ => rfl | apply And.intro | (intro i hi; rcases i with _ | _ | i <;> first | rfl | (exfalso; omega) | (simp at hi; done) | (simp at hi; omega)) | exact fun _ _ => by simp)), by (repeat' (first | exact trivial | exact rfl | exact fun _ _ => rfl | apply And.intro | (intro i hi; rcases i with _ | _ | i <;> first | rfl | (exfalso; omega) | (simp at hi; done) | (simp at hi; omega)) | exact fun _ _ => by simp))⟩ | exact ⟨rfl, by (repeat' (first | exact trivial | exact rfl | exact fun _ _ => rfl | apply And.intro | (intro i hi; rcases i with _ | _ | i <;> first | rfl | (exfalso; omega) | (simp at hi; done) | (simp at hi; omega)) | exact fun _ _ => by simp)), by (repeat' (first | exact trivial | exact rfl | exact fun _ _ => rfl | apply And.intro | (intro i hi; rcases i with _ | _ | i <;> first | rfl | (exfalso; omega) | (simp at hi; done) | (simp at hi; omega)) | exact fun _ _ => by simp))⟩
      · skip
        conv => whnf
        repeat
          first
            | refine And.intro (by omega) ?_
            | refine And.intro rfl ?_
          conv => whnf
        refine ⟨k + 1, ⟨by omega, fun i hi => ?_⟩, by dsimp only; omega, ?_⟩
        · rcases Nat.lt_or_ge i k with q | q
          · exact hn i q
          · obtain rfl : i = k := by omega
            simpa using he
        · skip
          refine ⟨[], ?_⟩
          conv => whnf
          refine ⟨rfl, ?_, ?_⟩ <;> (repeat' (first | exact trivial | exact rfl | exact fun _ _ => rfl | apply And.intro | (intro i hi; rcases i with _ | _ | i <;> first | rfl | (exfalso; omega) | (simp at hi; done) | (simp at hi; omega)) | exact fun _ _ => by simp))
    · have hge : ¬ k < l.length := by simpa using hge
      rw [decide_eq_true (list_eq hl fun i hi => hn i (by omega))]
      conv => whnf
      all_goals first | exact trivial | exact ⟨rfl, by (repeat' (first | exact trivial | exact rfl | exact fun _ _ => rfl | apply And.intro | (intro i hi; rcases i with _ | _ | i <;> first | rfl | (exfalso; omega) | (simp at hi; done) | (simp at hi; omega)) | exact fun _ _ => by simp)), trivial⟩ | exact ⟨by (repeat' (first | exact trivial | exact rfl | exact fun _ _ => rfl | apply And.intro | (intro i hi; rcases i with _ | _ | i <;> first | rfl | (exfalso; omega) | (simp at hi; done) | (simp at hi; omega)) | exact fun _ _ => by simp)), trivial⟩ | exact ⟨by (repeat' (first | exact trivial | exact rfl | exact fun _ _ => rfl | apply And.intro | (intro i hi; rcases i with _ | _ | i <;> first | rfl | (exfalso; omega) | (simp at hi; done) | (simp at hi; omega)) | exact fun _ _ => by simp)), by (repeat' (first | exact trivial | exact rfl | exact fun _ _ => rfl | apply And.intro | (intro i hi; rcases i with _ | _ | i <;> first | rfl | (exfalso; omega) | (simp at hi; done) | (simp at hi; omega)) | exact fun _ _ => by simp))⟩ | exact ⟨rfl, by (repeat' (first | exact trivial | exact rfl | exact fun _ _ => rfl | apply And.intro | (intro i hi; rcases i with _ | _ | i <;> first | rfl | (exfalso; omega) | (simp at hi; done) | (simp at hi; omega)) | exact fun _ _ => by simp)), by (repeat' (first | exact trivial | exact rfl | exact fun _ _ => rfl | apply And.intro | (intro i hi; rcases i with _ | _ | i <;> first | rfl | (exfalso; omega) | (simp at hi; done) | (simp at hi; omega)) | exact fun _ _ => by simp))⟩
theorem samerows_ok (A B : List Rw) (hA : A.length ≤ 1000000) (hx : ∀ x ∈ A, x.length ≤ 1000000) : ACall Try.prog 57 [.d (rowsL A), .d (rowsL B)] [] (exB (decide (A = B))) [] := by
  refine acall_of (mu := []) mixed Try.func57 rfl rfl rfl ?_
  by_cases hl : A.length = B.length
  · skip
    conv => whnf
    repeat' (first
      | (refine And.intro (by omega) ?_; conv => whnf)
      | (refine And.intro rfl ?_; conv => whnf)
      | (refine And.intro (Nat.le_of_ble_eq_true rfl) ?_; conv => whnf)
      | (refine And.intro (fun i hi => ⟨_, rfl⟩) ?_; conv => whnf)
      | (refine And.intro (fun hq => ?_) (fun hq => ?_) <;> (first | (exfalso; simp at hq; done) | (exfalso; simp only [cond_true, cond_false, Bool.not_eq_true', Bool.not_eq_false', decide_eq_true_eq, decide_eq_false_iff_not] at hq; (try dsimp only at hq); omega) | (exfalso; simp at hq; omega) | ((try simp only [cond_true, cond_false, Bool.not_eq_true', Bool.not_eq_false', decide_eq_true_eq, decide_eq_false_iff_not] at hq); (try dsimp only at hq); (conv => whnf))))
      | (refine fun hq => ?_; conv => whnf)
      | (refine And.intro (by first | (show _ * 1 ≤ 140737488355328; omega) | (show _ * 8 ≤ 140737488355328; omega) | (show _ * 24 ≤ 140737488355328; omega) | (show _ * 16 ≤ 140737488355328; omega) | (show _ * 32 ≤ 140737488355328; omega) | (show _ * 120 ≤ 140737488355328; omega) | (show _ * 280 ≤ 140737488355328; omega) | (show _ * 72 ≤ 140737488355328; omega) | (show _ * 48 ≤ 140737488355328; omega)) ?_; conv => whnf)
      | (refine And.intro (by dsimp only; omega) ?_; conv => whnf)
      | fail)
    refine ⟨[], ?_⟩
    conv => whnf
    refine ⟨Nat, fun k => k ≤ A.length ∧ ∀ i, i < k → A.getD i [] = B.getD i [], fun k => A.length - k, fun k => [(4, exB false), (5, exI .i64 k)], fun _ => [], ⟨0, ⟨by omega, fun i hi => by omega⟩, ?_⟩, ?_⟩
    · skip
      refine ⟨[], ?_⟩
      conv => whnf
      refine ⟨rfl, ?_, ?_⟩ <;> (repeat' (first | exact trivial | exact rfl | exact fun _ _ => rfl | apply And.intro | (intro i hi; rcases i with _ | _ | i <;> first | rfl | (exfalso; omega) | (simp at hi; done) | (simp at hi; omega)) | exact fun _ _ => by simp))
    intro k ⟨hk, hn⟩
    conv => whnf
    rcases Nat.lt_or_ge k A.length with hlt | hge
    · have c1 := usamerow_ok (A.getD ((k : Int)).toNat []) (B.getD ((k : Int)).toNat []) (hx _ (getD_mem (by omega)))
      have ek : ((k : Int)).toNat = k := by omega
      by_cases he : A.getD ((k : Int)).toNat [] = B.getD ((k : Int)).toNat []
      · rw [decide_eq_true he] at c1
        conv => whnf
        repeat' (first
          | (refine And.intro (by omega) ?_; conv => whnf)
          | (refine And.intro rfl ?_; conv => whnf)
          | (refine And.intro (Nat.le_of_ble_eq_true rfl) ?_; conv => whnf)
          | (refine And.intro (fun i hi => ⟨_, rfl⟩) ?_; conv => whnf)
          | (refine ⟨_, _, _, .flat _ _ rfl (c1) rfl, ?_⟩; conv => whnf)
          | (refine ⟨_, _, _, .flat _ _ rfl (ACall.arg ?harg (c1)) rfl, ?_⟩; (case harg => (repeat' (first | exact trivial | exact rfl | exact fun _ _ => rfl | apply And.intro | (intro i hi; rcases i with _ | _ | i <;> first | rfl | (exfalso; omega) | (simp at hi; done) | (simp at hi; omega)) | exact fun _ _ => by simp))); (conv => whnf))
          | (refine And.intro (fun hq => ?_) (fun hq => ?_) <;> (first | (exfalso; simp at hq; done) | (exfalso; simp only [cond_true, cond_false, Bool.not_eq_true', Bool.not_eq_false', decide_eq_true_eq, decide_eq_false_iff_not] at hq; (try dsimp only at hq); omega) | (exfalso; simp at hq; omega) | ((try simp only [cond_true, cond_false, Bool.not_eq_true', Bool.not_eq_false', decide_eq_true_eq, decide_eq_false_iff_not] at hq); (try dsimp only at hq); (conv => whnf))))
          | (refine fun hq => ?_; conv => whnf)
          | (refine And.intro (by first | (show _ * 1 ≤ 140737488355328; omega) | (show _ * 8 ≤ 140737488355328; omega) | (show _ * 24 ≤ 140737488355328; omega) | (show _ * 16 ≤ 140737488355328; omega) | (show _ * 32 ≤ 140737488355328; omega) | (show _ * 120 ≤ 140737488355328; omega) | (show _ * 280 ≤ 140737488355328; omega) | (show _ * 72 ≤ 140737488355328; omega) | (show _ * 48 ≤ 140737488355328; omega)) ?_; conv => whnf)
          | (refine And.intro (by dsimp only; omega) ?_; conv => whnf)
          | fail)
        refine ⟨k + 1, ⟨by omega, fun i hi => ?_⟩, by dsimp only; omega, ?_⟩
        · rcases Nat.lt_or_ge i k with q | q
          · exact hn i q
          · obtain rfl : i = k := by omega
            rw [ek] at he; exact he
        · skip
          refine ⟨[], ?_⟩
          conv => whnf
          refine ⟨rfl, ?_, ?_⟩ <;> (repeat' (first | exact trivial | exact rfl | exact fun _ _ => rfl | apply And.intro | (intro i hi; rcases i with _ | _ | i <;> first | rfl | (exfalso; omega) | (simp at hi; done) | (simp at hi; omega)) | exact fun _ _ => by simp))
      · rw [decide_eq_false he] at c1
        rw [decide_eq_false (show A ≠ B from fun e => he (by rw [e]))]
        conv => whnf
        repeat' (first
          | (refine And.intro (by omega) ?_; conv => whnf)
          | (refine And.intro rfl ?_; conv => whnf)
          | (refine And.intro (Nat.le_of_ble_eq_true rfl) ?_; conv => whnf)
          | (refine And.intro (fun i hi => ⟨_, rfl⟩) ?_; conv => whnf)
          | (refine ⟨_, _, _, .flat _ _ rfl (c1) rfl, ?_⟩; conv => whnf)
          | (refine ⟨_, _, _, .flat _ _ rfl (ACall.arg ?harg (c1)) rfl, ?_⟩; (case harg => (repeat' (first | exact trivial | exact rfl | exact fun _ _ => rfl | apply And.intro | (intro i hi; rcases i with _ | _ | i <;> first | rfl | (exfalso; omega) | (simp at hi; done) | (simp at hi; omega)) | exact fun _ _ => by simp))); (conv => whnf))
          | (refine And.intro (fun hq => ?_) (fun hq => ?_) <;> (first | (exfalso; simp at hq; done) | (exfalso; simp only [cond_true, cond_false, Bool.not_eq_true', Bool.not_eq_false', decide_eq_true_eq, decide_eq_false_iff_not] at hq; (try dsimp only at hq); omega) | (exfalso; simp at hq; omega) | ((try simp only [cond_true, cond_false, Bool.not_eq_true', Bool.not_eq_false', decide_eq_true_eq, decide_eq_false_iff_not] at hq); (try dsimp only at hq); (conv => whnf))))
          | (refine fun hq => ?_; conv => whnf)
          | (refine And.intro (by first | (show _ * 1 ≤ 140737488355328; omega) | (show _ * 8 ≤ 140737488355328; omega) | (show _ * 24 ≤ 140737488355328; omega) | (show _ * 16 ≤ 140737488355328; omega) | (show _ * 32 ≤ 140737488355328; omega) | (show _ * 120 ≤ 140737488355328; omega) | (show _ * 280 ≤ 140737488355328; omega) | (show _ * 72 ≤ 140737488355328; omega) | (show _ * 48 ≤ 140737488355328; omega)) ?_; conv => whnf)
          | (refine And.intro (by dsimp only; omega) ?_; conv => whnf)
          | fail)
        all_goals first | exact trivial | exact ⟨rfl, by (repeat' (first | exact trivial | exact rfl | exact fun _ _ => rfl | apply And.intro | (intro i hi; rcases i with _ | _ | i <;> first | rfl | (exfalso; omega) | (simp at hi; done) | (simp at hi; omega)) | exact fun _ _ => by simp)), trivial⟩ | exact ⟨by (repeat' (first | exact trivial | exact rfl | exact fun _ _ => rfl | apply And.intro | (intro i hi; rcases i with _ | _ | i <;> first | rfl | (exfalso; omega) | (simp at hi; done) | (simp at hi; omega)) | exact fun _ _ => by simp)), trivial⟩ | exact ⟨by (repeat' (first | exact trivial | exact rfl | exact fun _ _ => rfl | apply And.intro | (intro i hi; rcases i with _ | _ | i <;> first | rfl | (exfalso; omega) | (simp at hi; done) | (simp at hi; omega)) | exact fun _ _ => by simp)), by (repeat' (first | exact trivial | exact rfl | exact fun _ _ => rfl | apply And.intro | (intro i hi; rcases i with _ | _ | i <;> first | rfl | (exfalso; omega) | (simp at hi; done) | (simp at hi; omega)) | exact fun _ _ => by simp))⟩ | exact ⟨rfl, by (repeat' (first | exact trivial | exact rfl | exact fun _ _ => rfl | apply And.intro | (intro i hi; rcases i with _ | _ | i <;> first | rfl | (exfalso; omega) | (simp at hi; done) | (simp at hi; omega)) | exact fun _ _ => by simp)), by (repeat' (first | exact trivial | exact rfl | exact fun _ _ => rfl | apply And.intro | (intro i hi; rcases i with _ | _ | i <;> first | rfl | (exfalso; omega) | (simp at hi; done) | (simp at hi; omega)) | exact fun _ _ => by simp))⟩
    · obtain rfl : k = A.length := by omega
      rw [decide_eq_true (ext_getD hl fun i hi => hn i hi)]
      conv => whnf
      repeat' (first
        | (refine And.intro (by omega) ?_; conv => whnf)
        | (refine And.intro rfl ?_; conv => whnf)
        | (refine And.intro (Nat.le_of_ble_eq_true rfl) ?_; conv => whnf)
        | (refine And.intro (fun i hi => ⟨_, rfl⟩) ?_; conv => whnf)
        | (refine And.intro (fun hq => ?_) (fun hq => ?_) <;> (first | (exfalso; simp at hq; done) | (exfalso; simp only [cond_true, cond_false, Bool.not_eq_true', Bool.not_eq_false', decide_eq_true_eq, decide_eq_false_iff_not] at hq; (try dsimp only at hq); omega) | (exfalso; simp at hq; omega) | ((try simp only [cond_true, cond_false, Bool.not_eq_true', Bool.not_eq_false', decide_eq_true_eq, decide_eq_false_iff_not] at hq); (try dsimp only at hq); (conv => whnf))))
        | (refine fun hq => ?_; conv => whnf)
        | (refine And.intro (by first | (show _ * 1 ≤ 140737488355328; omega) | (show _ * 8 ≤ 140737488355328; omega) | (show _ * 24 ≤ 140737488355328; omega) | (show _ * 16 ≤ 140737488355328; omega) | (show _ * 32 ≤ 140737488355328; omega) | (show _ * 120 ≤ 140737488355328; omega) | (show _ * 280 ≤ 140737488355328; omega) | (show _ * 72 ≤ 140737488355328; omega) | (show _ * 48 ≤ 140737488355328; omega)) ?_; conv => whnf)
        | (refine And.intro (by dsimp only; omega) ?_; conv => whnf)
        | fail)
      all_goals first | exact trivial | exact ⟨rfl, by (repeat' (first | exact trivial | exact rfl | exact fun _ _ => rfl | apply And.intro | (intro i hi; rcases i with _ | _ | i <;> first | rfl | (exfalso; omega) | (simp at hi; done) | (simp at hi; omega)) | exact fun _ _ => by simp)), trivial⟩ | exact ⟨by (repeat' (first | exact trivial | exact rfl | exact fun _ _ => rfl | apply And.intro | (intro i hi; rcases i with _ | _ | i <;> first | rfl | (exfalso; omega) | (simp at hi; done) | (simp at hi; omega)) | exact fun _ _ => by simp)), trivial⟩ | exact ⟨by (repeat' (first | exact trivial | exact rfl | exact fun _ _ => rfl | apply And.intro | (intro i hi; rcases i with _ | _ | i <;> first | rfl | (exfalso; omega) | (simp at hi; done) | (simp at hi; omega)) | exact fun _ _ => by simp)), by (repeat' (first | exact trivial | exact rfl | exact fun _ _ => rfl | apply And.intro | (intro i hi; rcases i with _ | _ | i <;> first | rfl | (exfalso; omega) | (simp at hi; done) | (simp at hi; omega)) | exact fun _ _ => by simp))⟩ | exact ⟨rfl, by (repeat' (first | exact trivial | exact rfl | exact fun _ _ => rfl | apply And.intro | (intro i hi; rcases i with _ | _ | i <;> first | rfl | (exfalso; omega) | (simp at hi; done) | (simp at hi; omega)) | exact fun _ _ => by simp)), by (repeat' (first | exact trivial | exact rfl | exact fun _ _ => rfl | apply And.intro | (intro i hi; rcases i with _ | _ | i <;> first | rfl | (exfalso; omega) | (simp at hi; done) | (simp at hi; omega)) | exact fun _ _ => by simp))⟩
  · rw [decide_eq_false (show A ≠ B from fun e => hl (by rw [e]))]
    conv => whnf
    repeat' (first
      | (refine And.intro (by omega) ?_; conv => whnf)
      | (refine And.intro rfl ?_; conv => whnf)
      | (refine And.intro (Nat.le_of_ble_eq_true rfl) ?_; conv => whnf)
      | (refine And.intro (fun i hi => ⟨_, rfl⟩) ?_; conv => whnf)
      | (refine And.intro (fun hq => ?_) (fun hq => ?_) <;> (first | (exfalso; simp at hq; done) | (exfalso; simp only [cond_true, cond_false, Bool.not_eq_true', Bool.not_eq_false', decide_eq_true_eq, decide_eq_false_iff_not] at hq; (try dsimp only at hq); omega) | (exfalso; simp at hq; omega) | ((try simp only [cond_true, cond_false, Bool.not_eq_true', Bool.not_eq_false', decide_eq_true_eq, decide_eq_false_iff_not] at hq); (try dsimp only at hq); (conv => whnf))))
      | (refine fun hq => ?_; conv => whnf)
      | (refine And.intro (by first | (show _ * 1 ≤ 140737488355328; omega) | (show _ * 8 ≤ 140737488355328; omega) | (show _ * 24 ≤ 140737488355328; omega) | (show _ * 16 ≤ 140737488355328; omega) | (show _ * 32 ≤ 140737488355328; omega) | (show _ * 120 ≤ 140737488355328; omega) | (show _ * 280 ≤ 140737488355328; omega) | (show _ * 72 ≤ 140737488355328; omega) | (show _ * 48 ≤ 140737488355328; omega)) ?_; conv => whnf)
      | (refine And.intro (by dsimp only; omega) ?_; conv => whnf)
      | fail)
    all_goals first | exact trivial | exact ⟨rfl, by (repeat' (first | exact trivial | exact rfl | exact fun _ _ => rfl | apply And.intro | (intro i hi; rcases i with _ | _ | i <;> first | rfl | (exfalso; omega) | (simp at hi; done) | (simp at hi; omega)) | exact fun _ _ => by simp)), trivial⟩ | exact ⟨by (repeat' (first | exact trivial | exact rfl | exact fun _ _ => rfl | apply And.intro | (intro i hi; rcases i with _ | _ | i <;> first | rfl | (exfalso; omega) | (simp at hi; done) | (simp at hi; omega)) | exact fun _ _ => by simp)), trivial⟩ | exact ⟨by (repeat' (first | exact trivial | exact rfl | exact fun _ _ => rfl | apply And.intro | (intro i hi; rcases i with _ | _ | i <;> first | rfl | (exfalso; omega) | (simp at hi; done) | (simp at hi; omega)) | exact fun _ _ => by simp)), by (repeat' (first | exact trivial | exact rfl | exact fun _ _ => rfl | apply And.intro | (intro i hi; rcases i with _ | _ | i <;> first | rfl | (exfalso; omega) | (simp at hi; done) | (simp at hi; omega)) | exact fun _ _ => by simp))⟩ | exact ⟨rfl, by (repeat' (first | exact trivial | exact rfl | exact fun _ _ => rfl | apply And.intro | (intro i hi; rcases i with _ | _ | i <;> first | rfl | (exfalso; omega) | (simp at hi; done) | (simp at hi; omega)) | exact fun _ _ => by simp)), by (repeat' (first | exact trivial | exact rfl | exact fun _ _ => rfl | apply And.intro | (intro i hi; rcases i with _ | _ | i <;> first | rfl | (exfalso; omega) | (simp at hi; done) | (simp at hi; omega)) | exact fun _ _ => by simp))⟩
theorem samerows_nil : ACall Try.prog 57 [.d nilV, .d nilV] [] (exB true) [] := by
  refine acall_of (mu := []) mixed Try.func57 rfl rfl rfl ?_
  conv => whnf
  repeat' (first
    | (refine And.intro (by omega) ?_; conv => whnf)
    | (refine And.intro rfl ?_; conv => whnf)
    | (refine And.intro (Nat.le_of_ble_eq_true rfl) ?_; conv => whnf)
    | (refine And.intro (fun i hi => ⟨_, rfl⟩) ?_; conv => whnf)
    | (refine And.intro (fun hq => ?_) (fun hq => ?_) <;> (first | (exfalso; simp at hq; done) | (exfalso; simp only [cond_true, cond_false, Bool.not_eq_true', Bool.not_eq_false', decide_eq_true_eq, decide_eq_false_iff_not] at hq; (try dsimp only at hq); omega) | (exfalso; simp at hq; omega) | ((try simp only [cond_true, cond_false, Bool.not_eq_true', Bool.not_eq_false', decide_eq_true_eq, decide_eq_false_iff_not] at hq); (try dsimp only at hq); (conv => whnf))))
    | (refine fun hq => ?_; conv => whnf)
    | (refine And.intro (by first | (show _ * 1 ≤ 140737488355328; omega) | (show _ * 8 ≤ 140737488355328; omega) | (show _ * 24 ≤ 140737488355328; omega) | (show _ * 16 ≤ 140737488355328; omega) | (show _ * 32 ≤ 140737488355328; omega) | (show _ * 120 ≤ 140737488355328; omega) | (show _ * 280 ≤ 140737488355328; omega) | (show _ * 72 ≤ 140737488355328; omega) | (show _ * 48 ≤ 140737488355328; omega)) ?_; conv => whnf)
    | (refine And.intro (by dsimp only; omega) ?_; conv => whnf)
    | fail)
  refine ⟨[], ?_⟩
  conv => whnf
  refine ⟨Unit, fun _ => True, fun _ => 0, fun _ => [(4, exB false), (5, exI .i64 0)], fun _ => [], ⟨(), trivial, ?_⟩, ?_⟩
  · skip
    refine ⟨[], ?_⟩
    conv => whnf
    refine ⟨rfl, ?_, ?_⟩ <;> (repeat' (first | exact trivial | exact rfl | exact fun _ _ => rfl | apply And.intro | (intro i hi; rcases i with _ | _ | i <;> first | rfl | (exfalso; omega) | (simp at hi; done) | (simp at hi; omega)) | exact fun _ _ => by simp))
  intro _ _
  conv => whnf
  repeat' (first
    | (refine And.intro (by omega) ?_; conv => whnf)
    | (refine And.intro rfl ?_; conv => whnf)
    | (refine And.intro (Nat.le_of_ble_eq_true rfl) ?_; conv => whnf)
    | (refine And.intro (fun i hi => ⟨_, rfl⟩) ?_; conv => whnf)
    | (refine And.intro (fun hq => ?_) (fun hq => ?_) <;> (first | (exfalso; simp at hq; done) | (exfalso; simp only [cond_true, cond_false, Bool.not_eq_true', Bool.not_eq_false', decide_eq_true_eq, decide_eq_false_iff_not] at hq; (try dsimp only at hq); omega) | (exfalso; simp at hq; omega) | ((try simp only [cond_true, cond_false, Bool.not_eq_true', Bool.not_eq_false', decide_eq_true_eq, decide_eq_false_iff_not] at hq); (try dsimp only at hq); (conv => whnf))))
    | (refine fun hq => ?_; conv => whnf)
    | (refine And.intro (by first | (show _ * 1 ≤ 140737488355328; omega) | (show _ * 8 ≤ 140737488355328; omega) | (show _ * 24 ≤ 140737488355328; omega) | (show _ * 16 ≤ 140737488355328; omega) | (show _ * 32 ≤ 140737488355328; omega) | (show _ * 120 ≤ 140737488355328; omega) | (show _ * 280 ≤ 140737488355328; omega) | (show _ * 72 ≤ 140737488355328; omega) | (show _ * 48 ≤ 140737488355328; omega)) ?_; conv => whnf)
    | (refine And.intro (by dsimp only; omega) ?_; conv => whnf)
    | fail)
  all_goals first | exact trivial | exact ⟨rfl, by (repeat' (first | exact trivial | exact rfl | exact fun _ _ => rfl | apply And.intro | (intro i hi; rcases i with _ | _ | i <;> first | rfl | (exfalso; omega) | (simp at hi; done) | (simp at hi; omega)) | exact fun _ _ => by simp)), trivial⟩ | exact ⟨by (repeat' (first | exact trivial | exact rfl | exact fun _ _ => rfl | apply And.intro | (intro i hi; rcases i with _ | _ | i <;> first | rfl | (exfalso; omega) | (simp at hi; done) | (simp at hi; omega)) | exact fun _ _ => by simp)), trivial⟩ | exact ⟨by (repeat' (first | exact trivial | exact rfl | exact fun _ _ => rfl | apply And.intro | (intro i hi; rcases i with _ | _ | i <;> first | rfl | (exfalso; omega) | (simp at hi; done) | (simp at hi; omega)) | exact fun _ _ => by simp)), by (repeat' (first | exact trivial | exact rfl | exact fun _ _ => rfl | apply And.intro | (intro i hi; rcases i with _ | _ | i <;> first | rfl | (exfalso; omega) | (simp at hi; done) | (simp at hi; omega)) | exact fun _ _ => by simp))⟩ | exact ⟨rfl, by (repeat' (first | exact trivial | exact rfl | exact fun _ _ => rfl | apply And.intro | (intro i hi; rcases i with _ | _ | i <;> first | rfl | (exfalso; omega) | (simp at hi; done) | (simp at hi; omega)) | exact fun _ _ => by simp)), by (repeat' (first | exact trivial | exact rfl | exact fun _ _ => rfl | apply And.intro | (intro i hi; rcases i with _ | _ | i <;> first | rfl | (exfalso; omega) | (simp at hi; done) | (simp at hi; omega)) | exact fun _ _ => by simp))⟩
theorem rqsame_rows (A : List Rw) (c : Int) (hA : A.length ≤ 1000000) (hx : ∀ x ∈ A, x.length ≤ 1000000) : ACall Try.prog 32 [agD (ansL (rowsL A) c), agD (ansL (rowsL A) c)] [] (exB true) [] := by
  have c1 := samerows_ok A A hA hx
  rw [decide_eq_true rfl] at c1
  refine acall_of (mu := []) mixed Try.func32 rfl rfl rfl ?_
  conv => whnf
  repeat' (first
    | (refine And.intro (by omega) ?_; conv => whnf)
    | (refine And.intro rfl ?_; conv => whnf)
    | (refine And.intro (Nat.le_of_ble_eq_true rfl) ?_; conv => whnf)
    | (refine And.intro (fun i hi => ⟨_, rfl⟩) ?_; conv => whnf)
    | (refine ⟨_, _, _, .flat _ _ rfl (c1) rfl, ?_⟩; conv => whnf)
    | (refine ⟨_, _, _, .flat _ _ rfl (ACall.arg ?harg (c1)) rfl, ?_⟩; (case harg => (repeat' (first | exact trivial | exact rfl | exact fun _ _ => rfl | apply And.intro | (intro i hi; rcases i with _ | _ | i <;> first | rfl | (exfalso; omega) | (simp at hi; done) | (simp at hi; omega)) | exact fun _ _ => by simp))); (conv => whnf))
    | (refine And.intro (fun hq => ?_) (fun hq => ?_) <;> (first | (exfalso; simp at hq; done) | (exfalso; simp at *; omega) | (exfalso; simp_all; done) | (conv => whnf)))
    | (refine And.intro (by first | (show _ * 1 ≤ 140737488355328; omega) | (show _ * 8 ≤ 140737488355328; omega) | (show _ * 24 ≤ 140737488355328; omega) | (show _ * 16 ≤ 140737488355328; omega) | (show _ * 32 ≤ 140737488355328; omega) | (show _ * 120 ≤ 140737488355328; omega) | (show _ * 280 ≤ 140737488355328; omega) | (show _ * 72 ≤ 140737488355328; omega) | (show _ * 48 ≤ 140737488355328; omega)) ?_; conv => whnf)
    | (refine And.intro (by simp at *; omega) ?_; conv => whnf)
    | (refine fun hq => ?_; conv => whnf)
    | fail)
  all_goals first | exact trivial | exact ⟨rfl, by (repeat' (first | exact trivial | exact rfl | exact fun _ _ => rfl | apply And.intro | (intro i hi; rcases i with _ | _ | i <;> first | rfl | (exfalso; omega) | (simp at hi; done) | (simp at hi; omega)) | exact fun _ _ => by simp)), trivial⟩ | exact ⟨by (repeat' (first | exact trivial | exact rfl | exact fun _ _ => rfl | apply And.intro | (intro i hi; rcases i with _ | _ | i <;> first | rfl | (exfalso; omega) | (simp at hi; done) | (simp at hi; omega)) | exact fun _ _ => by simp)), trivial⟩ | exact ⟨by (repeat' (first | exact trivial | exact rfl | exact fun _ _ => rfl | apply And.intro | (intro i hi; rcases i with _ | _ | i <;> first | rfl | (exfalso; omega) | (simp at hi; done) | (simp at hi; omega)) | exact fun _ _ => by simp)), by (repeat' (first | exact trivial | exact rfl | exact fun _ _ => rfl | apply And.intro | (intro i hi; rcases i with _ | _ | i <;> first | rfl | (exfalso; omega) | (simp at hi; done) | (simp at hi; omega)) | exact fun _ _ => by simp))⟩ | exact ⟨rfl, by (repeat' (first | exact trivial | exact rfl | exact fun _ _ => rfl | apply And.intro | (intro i hi; rcases i with _ | _ | i <;> first | rfl | (exfalso; omega) | (simp at hi; done) | (simp at hi; omega)) | exact fun _ _ => by simp)), by (repeat' (first | exact trivial | exact rfl | exact fun _ _ => rfl | apply And.intro | (intro i hi; rcases i with _ | _ | i <;> first | rfl | (exfalso; omega) | (simp at hi; done) | (simp at hi; omega)) | exact fun _ _ => by simp))⟩
theorem rqsame_nil (c : Int) : ACall Try.prog 32 [agD (ansL nilV c), agD (ansL nilV c)] [] (exB true) [] := by
  refine acall_of (mu := []) mixed Try.func32 rfl rfl rfl ?_
  conv => whnf
  repeat' (first
    | (refine And.intro (by omega) ?_; conv => whnf)
    | (refine And.intro rfl ?_; conv => whnf)
    | (refine And.intro (Nat.le_of_ble_eq_true rfl) ?_; conv => whnf)
    | (refine And.intro (fun i hi => ⟨_, rfl⟩) ?_; conv => whnf)
    | (refine ⟨_, _, _, .flat _ _ rfl (samerows_nil) rfl, ?_⟩; conv => whnf)
    | (refine ⟨_, _, _, .flat _ _ rfl (ACall.arg ?harg (samerows_nil)) rfl, ?_⟩; (case harg => (repeat' (first | exact trivial | exact rfl | exact fun _ _ => rfl | apply And.intro | (intro i hi; rcases i with _ | _ | i <;> first | rfl | (exfalso; omega) | (simp at hi; done) | (simp at hi; omega)) | exact fun _ _ => by simp))); (conv => whnf))
    | (refine And.intro (fun hq => ?_) (fun hq => ?_) <;> (first | (exfalso; simp at hq; done) | (exfalso; simp at *; omega) | (exfalso; simp_all; done) | (conv => whnf)))
    | (refine And.intro (by first | (show _ * 1 ≤ 140737488355328; omega) | (show _ * 8 ≤ 140737488355328; omega) | (show _ * 24 ≤ 140737488355328; omega) | (show _ * 16 ≤ 140737488355328; omega) | (show _ * 32 ≤ 140737488355328; omega) | (show _ * 120 ≤ 140737488355328; omega) | (show _ * 280 ≤ 140737488355328; omega) | (show _ * 72 ≤ 140737488355328; omega) | (show _ * 48 ≤ 140737488355328; omega)) ?_; conv => whnf)
    | (refine And.intro (by simp at *; omega) ?_; conv => whnf)
    | (refine fun hq => ?_; conv => whnf)
    | fail)
  all_goals first | exact trivial | exact ⟨rfl, by (repeat' (first | exact trivial | exact rfl | exact fun _ _ => rfl | apply And.intro | (intro i hi; rcases i with _ | _ | i <;> first | rfl | (exfalso; omega) | (simp at hi; done) | (simp at hi; omega)) | exact fun _ _ => by simp)), trivial⟩ | exact ⟨by (repeat' (first | exact trivial | exact rfl | exact fun _ _ => rfl | apply And.intro | (intro i hi; rcases i with _ | _ | i <;> first | rfl | (exfalso; omega) | (simp at hi; done) | (simp at hi; omega)) | exact fun _ _ => by simp)), trivial⟩ | exact ⟨by (repeat' (first | exact trivial | exact rfl | exact fun _ _ => rfl | apply And.intro | (intro i hi; rcases i with _ | _ | i <;> first | rfl | (exfalso; omega) | (simp at hi; done) | (simp at hi; omega)) | exact fun _ _ => by simp)), by (repeat' (first | exact trivial | exact rfl | exact fun _ _ => rfl | apply And.intro | (intro i hi; rcases i with _ | _ | i <;> first | rfl | (exfalso; omega) | (simp at hi; done) | (simp at hi; omega)) | exact fun _ _ => by simp))⟩ | exact ⟨rfl, by (repeat' (first | exact trivial | exact rfl | exact fun _ _ => rfl | apply And.intro | (intro i hi; rcases i with _ | _ | i <;> first | rfl | (exfalso; omega) | (simp at hi; done) | (simp at hi; omega)) | exact fun _ _ => by simp)), by (repeat' (first | exact trivial | exact rfl | exact fun _ _ => rfl | apply And.intro | (intro i hi; rcases i with _ | _ | i <;> first | rfl | (exfalso; omega) | (simp at hi; done) | (simp at hi; omega)) | exact fun _ _ => by simp))⟩
def aL : List Rw := [[1, 5], [2, 3], [3, 9]]
def aW : BoxD := ⟨[-9223372036854775808, -9223372036854775808], [9223372036854775807, 9223372036854775807]⟩
def aQ1 : QryD := ⟨aW, ⟨2, 1, []⟩, 2, false⟩
def aQ2 : QryD := ⟨⟨[1, 4], [3, 9]⟩, ⟨0, 0, []⟩, 0, true⟩
def aQ3 : QryD := ⟨aW, ⟨3, 0, [4]⟩, 1, false⟩
theorem a1 : limL aQ1.limit (srt (ltO aQ1.ord) (aL.filter (inB aQ1))) = [[3, 9], [1, 5]] := by decide +kernel
theorem a2 : (aL.filter (inB aQ2)).length = 2 := by decide +kernel
theorem a3 : limL aQ3.limit (srt (ltO aQ3.ord) (aL.filter (inB aQ3))) = [[1, 5]] := by decide +kernel
theorem isI2 (a b : Int) (ha : -9223372036854775808 ≤ a ∧ a ≤ 9223372036854775807) (hb : -9223372036854775808 ≤ b ∧ b ≤ 9223372036854775807) : IsI [a, b] := fun i => by
  rcases i with _ | _ | i
  · exact ha
  · exact hb
  · simp
theorem isI0 : IsI [] := fun i => by simp
theorem isI1 (a : Int) (ha : -9223372036854775808 ≤ a ∧ a ≤ 9223372036854775807) : IsI [a] := fun i => by
  rcases i with _ | i
  · exact ha
  · simp
theorem aLI : ∀ x ∈ aL, IsI x := fun x hx => by
  simp only [aL, List.mem_cons, List.not_mem_nil, or_false] at hx
  rcases hx with rfl | rfl | rfl <;> exact isI2 _ _ (by omega) (by omega)
theorem alive14 : ACall Try.prog 28 [] [] (exB true) [] := by
  have c1 := askof_rows aL aQ1 (by decide) (by decide) (by decide +kernel) (by decide +kernel) rfl isI0 aLI
  have c2 := askof_count aL aQ2 (by decide) (by decide) (by decide +kernel) (by decide +kernel) rfl
  have c3 := askof_rows aL aQ3 (by decide) (by decide) (by decide +kernel) (by decide +kernel) rfl (isI1 _ (by omega)) aLI
  rw [a1] at c1
  rw [a2] at c2
  rw [a3] at c3
  have s1 := samerows_ok [[3, 9], [1, 5]] [[3, 9], [1, 5]] (by decide) (by decide)
  have s2 := samerows_ok [[1, 5]] [[1, 5]] (by decide) (by decide)
  rw [decide_eq_true rfl] at s1 s2
  refine acall_of (mu := []) mixed Try.func28 rfl rfl rfl ?_
  conv => whnf
  repeat' (first
    | (refine And.intro (by omega) ?_; conv => whnf)
    | (refine And.intro rfl ?_; conv => whnf)
    | (refine And.intro (Nat.le_of_ble_eq_true rfl) ?_; conv => whnf)
    | (refine And.intro (fun i hi => ⟨_, rfl⟩) ?_; conv => whnf)
    | (refine ⟨_, _, _, .gen [] _ _ _ rfl (ACall.deep ?hdeep (c1)) rfl rfl rfl rfl rfl, ?_⟩; (case hdeep => (repeat' (first | exact AvT.nil | exact AvL.nil | exact DvL.nil | refine AvT.cons ?_ ?_ | refine AvL.cons ?_ ?_ | refine DvL.cons ?_ ?_ | exact AvA.one (.refl _) | exact AvE.refl _ | exact DvE.refl _ | exact DvE.nil _ _ _ _ | refine AvA.agg ?_ | refine AvA.one (.d ?_) | refine AvA.one (.dp ?_) | refine AvE.d ?_ | refine AvE.dp ?_ | refine DvE.sl' ?_ | refine DvE.p' ?_ | (intro k hk; rcases k with _ | _ | _ | _ | _ | _ | k <;> first | (exfalso; omega) | skip)))); (conv => whnf))
    | (refine ⟨_, _, _, .gen [] _ _ _ rfl (ACall.deep ?hdeep (c2)) rfl rfl rfl rfl rfl, ?_⟩; (case hdeep => (repeat' (first | exact AvT.nil | exact AvL.nil | exact DvL.nil | refine AvT.cons ?_ ?_ | refine AvL.cons ?_ ?_ | refine DvL.cons ?_ ?_ | exact AvA.one (.refl _) | exact AvE.refl _ | exact DvE.refl _ | exact DvE.nil _ _ _ _ | refine AvA.agg ?_ | refine AvA.one (.d ?_) | refine AvA.one (.dp ?_) | refine AvE.d ?_ | refine AvE.dp ?_ | refine DvE.sl' ?_ | refine DvE.p' ?_ | (intro k hk; rcases k with _ | _ | _ | _ | _ | _ | k <;> first | (exfalso; omega) | skip)))); (conv => whnf))
    | (refine ⟨_, _, _, .gen [] _ _ _ rfl (ACall.deep ?hdeep (c3)) rfl rfl rfl rfl rfl, ?_⟩; (case hdeep => (repeat' (first | exact AvT.nil | exact AvL.nil | exact DvL.nil | refine AvT.cons ?_ ?_ | refine AvL.cons ?_ ?_ | refine DvL.cons ?_ ?_ | exact AvA.one (.refl _) | exact AvE.refl _ | exact DvE.refl _ | exact DvE.nil _ _ _ _ | refine AvA.agg ?_ | refine AvA.one (.d ?_) | refine AvA.one (.dp ?_) | refine AvE.d ?_ | refine AvE.dp ?_ | refine DvE.sl' ?_ | refine DvE.p' ?_ | (intro k hk; rcases k with _ | _ | _ | _ | _ | _ | k <;> first | (exfalso; omega) | skip)))); (conv => whnf))
    | (refine ⟨_, _, _, .flat _ _ rfl (ACall.deep ?hdeep (s1)) rfl, ?_⟩; (case hdeep => (repeat' (first | exact AvT.nil | exact AvL.nil | exact DvL.nil | refine AvT.cons ?_ ?_ | refine AvL.cons ?_ ?_ | refine DvL.cons ?_ ?_ | exact AvA.one (.refl _) | exact AvE.refl _ | exact DvE.refl _ | exact DvE.nil _ _ _ _ | refine AvA.agg ?_ | refine AvA.one (.d ?_) | refine AvA.one (.dp ?_) | refine AvE.d ?_ | refine AvE.dp ?_ | refine DvE.sl' ?_ | refine DvE.p' ?_ | (intro k hk; rcases k with _ | _ | _ | _ | _ | _ | k <;> first | (exfalso; omega) | skip)))); (conv => whnf))
    | (refine ⟨_, _, _, .flat _ _ rfl (ACall.deep ?hdeep (s2)) rfl, ?_⟩; (case hdeep => (repeat' (first | exact AvT.nil | exact AvL.nil | exact DvL.nil | refine AvT.cons ?_ ?_ | refine AvL.cons ?_ ?_ | refine DvL.cons ?_ ?_ | exact AvA.one (.refl _) | exact AvE.refl _ | exact DvE.refl _ | exact DvE.nil _ _ _ _ | refine AvA.agg ?_ | refine AvA.one (.d ?_) | refine AvA.one (.dp ?_) | refine AvE.d ?_ | refine AvE.dp ?_ | refine DvE.sl' ?_ | refine DvE.p' ?_ | (intro k hk; rcases k with _ | _ | _ | _ | _ | _ | k <;> first | (exfalso; omega) | skip)))); (conv => whnf))
    | (refine And.intro (fun hq => ?_) (fun hq => ?_) <;> (first | (exfalso; simp at hq; done) | (exfalso; simp at *; omega) | (exfalso; simp_all; done) | (conv => whnf)))
    | (refine And.intro (by first | (show _ * 1 ≤ 140737488355328; omega) | (show _ * 8 ≤ 140737488355328; omega) | (show _ * 24 ≤ 140737488355328; omega) | (show _ * 16 ≤ 140737488355328; omega) | (show _ * 32 ≤ 140737488355328; omega) | (show _ * 120 ≤ 140737488355328; omega) | (show _ * 280 ≤ 140737488355328; omega) | (show _ * 72 ≤ 140737488355328; omega) | (show _ * 48 ≤ 140737488355328; omega)) ?_; conv => whnf)
    | (refine And.intro (by simp at *; omega) ?_; conv => whnf)
    | (refine fun hq => ?_; conv => whnf)
    | fail)
  all_goals first | exact trivial | exact ⟨rfl, by (repeat' (first | exact trivial | exact rfl | exact fun _ _ => rfl | apply And.intro | (intro i hi; rcases i with _ | _ | i <;> first | rfl | (exfalso; omega) | (simp at hi; done) | (simp at hi; omega)) | exact fun _ _ => by simp)), trivial⟩ | exact ⟨by (repeat' (first | exact trivial | exact rfl | exact fun _ _ => rfl | apply And.intro | (intro i hi; rcases i with _ | _ | i <;> first | rfl | (exfalso; omega) | (simp at hi; done) | (simp at hi; omega)) | exact fun _ _ => by simp)), trivial⟩ | exact ⟨by (repeat' (first | exact trivial | exact rfl | exact fun _ _ => rfl | apply And.intro | (intro i hi; rcases i with _ | _ | i <;> first | rfl | (exfalso; omega) | (simp at hi; done) | (simp at hi; omega)) | exact fun _ _ => by simp)), by (repeat' (first | exact trivial | exact rfl | exact fun _ _ => rfl | apply And.intro | (intro i hi; rcases i with _ | _ | i <;> first | rfl | (exfalso; omega) | (simp at hi; done) | (simp at hi; omega)) | exact fun _ _ => by simp))⟩ | exact ⟨rfl, by (repeat' (first | exact trivial | exact rfl | exact fun _ _ => rfl | apply And.intro | (intro i hi; rcases i with _ | _ | i <;> first | rfl | (exfalso; omega) | (simp at hi; done) | (simp at hi; omega)) | exact fun _ _ => by simp)), by (repeat' (first | exact trivial | exact rfl | exact fun _ _ => rfl | apply And.intro | (intro i hi; rcases i with _ | _ | i <;> first | rfl | (exfalso; omega) | (simp at hi; done) | (simp at hi; omega)) | exact fun _ _ => by simp))⟩
theorem notall (L : List Rw) (n : Nat) : badL n L = !allTo (fun i => decide ((L.getD i []).length = n)) L.length := by
  cases h : badL n L with
  | false => rw [(allTo_iff _ _).2 fun i hi => by simpa using badL_no h (getD_mem hi)]; rfl
  | true =>
    unfold badL at h
    rw [List.any_eq_true] at h
    obtain ⟨x, hx, hb⟩ := h
    obtain ⟨i, hi, rfl⟩ := List.getElem_of_mem hx
    rw [allTo_no hi (by
      rw [decide_eq_false_iff_not, List.getD_eq_getElem?_getD, List.getElem?_eq_getElem hi]
      intro e
      replace e : L[i].length = n := e
      rw [e] at hb; simp at hb)]
    rfl
theorem askOfLaw_ok (q : QryD) (L : List Rw) (d : Int) (hd : I64 d) (hn : q.box.lo.length ≤ 9223372036854775807) (ha : IsI q.ord.at_) (hI : ∀ x ∈ L, IsI x) : ACall Try.prog 5 [agD (qryL q), .d (rowsL L), exI .i64 d] [] (exB true) [] := by
  have c1 := askright_ok q d hd
  have c2 := rqright_ok q d hd
  have c3 := rqright_ok q q.box.lo.length (by unfold I64; omega)
  refine acall_of (mu := []) mixed Try.func5 rfl rfl rfl ?_
  by_cases hg : L.length ≤ 60 ∧ q.ord.at_.length ≤ 50
  rotate_left
  · skip
    conv => whnf
    repeat' (first
      | (refine And.intro (by omega) ?_; conv => whnf)
      | (refine And.intro rfl ?_; conv => whnf)
      | (refine And.intro (Nat.le_of_ble_eq_true rfl) ?_; conv => whnf)
      | (refine And.intro (fun i hi => ⟨_, rfl⟩) ?_; conv => whnf)
      | (refine ⟨_, _, _, .flat _ _ rfl (alive14) rfl, ?_⟩; conv => whnf)
      | (refine ⟨_, _, _, .flat _ _ rfl (ACall.arg ?harg (alive14)) rfl, ?_⟩; (case harg => (repeat' (first | exact trivial | exact rfl | exact fun _ _ => rfl | apply And.intro | (intro i hi; rcases i with _ | _ | i <;> first | rfl | (exfalso; omega) | (simp at hi; done) | (simp at hi; omega)) | exact fun _ _ => by simp))); (conv => whnf))
      | (refine And.intro (fun hq => ?_) (fun hq => ?_) <;> (first | (exfalso; simp at hq; done) | (exfalso; simp only [cond_true, cond_false, Bool.not_eq_true', Bool.not_eq_false', decide_eq_true_eq, decide_eq_false_iff_not] at hq; (try dsimp only at hq); omega) | (exfalso; simp at hq; omega) | ((try simp only [cond_true, cond_false, Bool.not_eq_true', Bool.not_eq_false', decide_eq_true_eq, decide_eq_false_iff_not] at hq); (try dsimp only at hq); (conv => whnf))))
      | (refine fun hq => ?_; conv => whnf)
      | (refine And.intro (by first | (show _ * 1 ≤ 140737488355328; omega) | (show _ * 8 ≤ 140737488355328; omega) | (show _ * 24 ≤ 140737488355328; omega) | (show _ * 16 ≤ 140737488355328; omega) | (show _ * 32 ≤ 140737488355328; omega) | (show _ * 120 ≤ 140737488355328; omega) | (show _ * 280 ≤ 140737488355328; omega) | (show _ * 72 ≤ 140737488355328; omega) | (show _ * 48 ≤ 140737488355328; omega)) ?_; conv => whnf)
      | (refine And.intro (by dsimp only; omega) ?_; conv => whnf)
      | fail)
    all_goals first | exact trivial | exact ⟨rfl, by (repeat' (first | exact trivial | exact rfl | exact fun _ _ => rfl | apply And.intro | (intro i hi; rcases i with _ | _ | i <;> first | rfl | (exfalso; omega) | (simp at hi; done) | (simp at hi; omega)) | exact fun _ _ => by simp)), trivial⟩ | exact ⟨by (repeat' (first | exact trivial | exact rfl | exact fun _ _ => rfl | apply And.intro | (intro i hi; rcases i with _ | _ | i <;> first | rfl | (exfalso; omega) | (simp at hi; done) | (simp at hi; omega)) | exact fun _ _ => by simp)), trivial⟩ | exact ⟨by (repeat' (first | exact trivial | exact rfl | exact fun _ _ => rfl | apply And.intro | (intro i hi; rcases i with _ | _ | i <;> first | rfl | (exfalso; omega) | (simp at hi; done) | (simp at hi; omega)) | exact fun _ _ => by simp)), by (repeat' (first | exact trivial | exact rfl | exact fun _ _ => rfl | apply And.intro | (intro i hi; rcases i with _ | _ | i <;> first | rfl | (exfalso; omega) | (simp at hi; done) | (simp at hi; omega)) | exact fun _ _ => by simp))⟩ | exact ⟨rfl, by (repeat' (first | exact trivial | exact rfl | exact fun _ _ => rfl | apply And.intro | (intro i hi; rcases i with _ | _ | i <;> first | rfl | (exfalso; omega) | (simp at hi; done) | (simp at hi; omega)) | exact fun _ _ => by simp)), by (repeat' (first | exact trivial | exact rfl | exact fun _ _ => rfl | apply And.intro | (intro i hi; rcases i with _ | _ | i <;> first | rfl | (exfalso; omega) | (simp at hi; done) | (simp at hi; omega)) | exact fun _ _ => by simp))⟩
  obtain ⟨hg1, hg2⟩ := hg
  have gs : ∀ k, (qryR q q.box.lo.length && allTo (fun i => decide ((L.getD i []).length = q.box.lo.length)) (k + 1)) = ((qryR q q.box.lo.length && allTo (fun i => decide ((L.getD i []).length = q.box.lo.length)) k) && decide ((L.getD k []).length = q.box.lo.length)) := fun k => by
    unfold allTo
    rw [List.range_succ, List.all_append, Bool.and_assoc]
    simp
  have gE : (qryR q q.box.lo.length && allTo (fun i => decide ((L.getD i []).length = q.box.lo.length)) L.length) = (qryR q q.box.lo.length && !badL q.box.lo.length L) := by rw [notall]; simp
  have g0 : (qryR q q.box.lo.length && allTo (fun i => decide ((L.getD i []).length = q.box.lo.length)) 0) = qryR q q.box.lo.length := by unfold allTo; simp
  obtain ⟨gd, hgd⟩ : ∃ gd : Nat → Bool, ∀ k, gd k = (qryR q q.box.lo.length && allTo (fun i => decide ((L.getD i []).length = q.box.lo.length)) k) := ⟨_, fun _ => rfl⟩
  rw [← hgd] at gE g0
  have gs2 : ∀ k, gd (k + 1) = (gd k && decide ((L.getD k []).length = q.box.lo.length)) := fun k => by rw [hgd, hgd]; exact gs k
  clear gs
  cases hc : (qryR q q.box.lo.length && !badL q.box.lo.length L) with
  | false =>
    have c4 := askof_no L q (by omega) hn (by
      cases h : qryR q q.box.lo.length
      · exact .inl rfl
      · rw [h] at hc; right; simpa using hc)
    rw [hc] at gE
    conv => whnf
    repeat' (first
      | (refine And.intro (by omega) ?_; conv => whnf)
      | (refine And.intro rfl ?_; conv => whnf)
      | (refine And.intro (Nat.le_of_ble_eq_true rfl) ?_; conv => whnf)
      | (refine And.intro (fun i hi => ⟨_, rfl⟩) ?_; conv => whnf)
      | (refine ⟨_, _, _, .flat _ _ rfl (alive14) rfl, ?_⟩; conv => whnf)
      | (refine ⟨_, _, _, .flat _ _ rfl (c1) rfl, ?_⟩; conv => whnf)
      | (refine ⟨_, _, _, .flat _ _ rfl (c2) rfl, ?_⟩; conv => whnf)
      | (refine ⟨_, _, _, .gen [] _ _ _ rfl (c4) rfl rfl rfl rfl rfl, ?_⟩; conv => whnf)
      | (refine ⟨_, _, _, .flat _ _ rfl (c3) rfl, ?_⟩; conv => whnf)
      | (refine ⟨_, _, _, .flat _ _ rfl (ACall.arg ?harg (alive14)) rfl, ?_⟩; (case harg => (repeat' (first | exact trivial | exact rfl | exact fun _ _ => rfl | apply And.intro | (intro i hi; rcases i with _ | _ | i <;> first | rfl | (exfalso; omega) | (simp at hi; done) | (simp at hi; omega)) | exact fun _ _ => by simp))); (conv => whnf))
      | (refine ⟨_, _, _, .flat _ _ rfl (ACall.arg ?harg (c1)) rfl, ?_⟩; (case harg => (repeat' (first | exact trivial | exact rfl | exact fun _ _ => rfl | apply And.intro | (intro i hi; rcases i with _ | _ | i <;> first | rfl | (exfalso; omega) | (simp at hi; done) | (simp at hi; omega)) | exact fun _ _ => by simp))); (conv => whnf))
      | (refine ⟨_, _, _, .flat _ _ rfl (ACall.arg ?harg (c2)) rfl, ?_⟩; (case harg => (repeat' (first | exact trivial | exact rfl | exact fun _ _ => rfl | apply And.intro | (intro i hi; rcases i with _ | _ | i <;> first | rfl | (exfalso; omega) | (simp at hi; done) | (simp at hi; omega)) | exact fun _ _ => by simp))); (conv => whnf))
      | (refine ⟨_, _, _, .gen [] _ _ _ rfl (ACall.arg ?harg (c4)) rfl rfl rfl rfl rfl, ?_⟩; (case harg => (repeat' (first | exact trivial | exact rfl | exact fun _ _ => rfl | apply And.intro | (intro i hi; rcases i with _ | _ | i <;> first | rfl | (exfalso; omega) | (simp at hi; done) | (simp at hi; omega)) | exact fun _ _ => by simp))); (conv => whnf))
      | (refine ⟨_, _, _, .flat _ _ rfl (ACall.arg ?harg (c3)) rfl, ?_⟩; (case harg => (repeat' (first | exact trivial | exact rfl | exact fun _ _ => rfl | apply And.intro | (intro i hi; rcases i with _ | _ | i <;> first | rfl | (exfalso; omega) | (simp at hi; done) | (simp at hi; omega)) | exact fun _ _ => by simp))); (conv => whnf))
      | (refine And.intro (fun hq => ?_) (fun hq => ?_) <;> (first | (exfalso; simp at hq; done) | (exfalso; simp only [cond_true, cond_false, Bool.not_eq_true', Bool.not_eq_false', decide_eq_true_eq, decide_eq_false_iff_not] at hq; (try dsimp only at hq); omega) | (exfalso; simp at hq; omega) | ((try simp only [cond_true, cond_false, Bool.not_eq_true', Bool.not_eq_false', decide_eq_true_eq, decide_eq_false_iff_not] at hq); (try dsimp only at hq); (conv => whnf))))
      | (refine fun hq => ?_; conv => whnf)
      | (refine And.intro (by first | (show _ * 1 ≤ 140737488355328; omega) | (show _ * 8 ≤ 140737488355328; omega) | (show _ * 24 ≤ 140737488355328; omega) | (show _ * 16 ≤ 140737488355328; omega) | (show _ * 32 ≤ 140737488355328; omega) | (show _ * 120 ≤ 140737488355328; omega) | (show _ * 280 ≤ 140737488355328; omega) | (show _ * 72 ≤ 140737488355328; omega) | (show _ * 48 ≤ 140737488355328; omega)) ?_; conv => whnf)
      | (refine And.intro (by dsimp only; omega) ?_; conv => whnf)
      | fail)
    refine ⟨[], ?_⟩
    conv => whnf
    refine ⟨Nat, fun k => k ≤ L.length, fun k => L.length - k, fun k => [(10, exB (gd k)), (11, exI .i64 k)], fun _ => [], ⟨0, by omega, ?_⟩, ?_⟩
    · skip
      refine ⟨[], ?_⟩
      conv => whnf
      refine ⟨rfl, ?_, ?_⟩ <;> (repeat' (first | exact trivial | (exact congrArg Value.bool g0.symm) | exact rfl | exact fun _ _ => rfl | apply And.intro | (intro i hi; rcases i with _ | _ | i <;> first | rfl | (exfalso; omega) | (simp at hi; done) | (simp at hi; omega)) | exact fun _ _ => by simp))
    intro k hk
    conv => whnf
    rcases Nat.lt_or_ge k L.length with hlt | hge
    · have hs := gs2 k
      have ek : ((k : Int)).toNat = k := by omega
      cases hgk : gd k with
      | false =>
        rw [hgk] at hs
        conv => whnf
        repeat' (first
          | (refine And.intro (by omega) ?_; conv => whnf)
          | (refine And.intro rfl ?_; conv => whnf)
          | (refine And.intro (Nat.le_of_ble_eq_true rfl) ?_; conv => whnf)
          | (refine And.intro (fun i hi => ⟨_, rfl⟩) ?_; conv => whnf)
          | (refine And.intro (fun hq => ?_) (fun hq => ?_) <;> (first | (exfalso; simp at hq; done) | (exfalso; simp only [cond_true, cond_false, Bool.not_eq_true', Bool.not_eq_false', decide_eq_true_eq, decide_eq_false_iff_not] at hq; (try dsimp only at hq); omega) | (exfalso; simp at hq; omega) | ((try simp only [cond_true, cond_false, Bool.not_eq_true', Bool.not_eq_false', decide_eq_true_eq, decide_eq_false_iff_not] at hq); (try dsimp only at hq); (conv => whnf))))
          | (refine fun hq => ?_; conv => whnf)
          | (refine And.intro (by first | (show _ * 1 ≤ 140737488355328; omega) | (show _ * 8 ≤ 140737488355328; omega) | (show _ * 24 ≤ 140737488355328; omega) | (show _ * 16 ≤ 140737488355328; omega) | (show _ * 32 ≤ 140737488355328; omega) | (show _ * 120 ≤ 140737488355328; omega) | (show _ * 280 ≤ 140737488355328; omega) | (show _ * 72 ≤ 140737488355328; omega) | (show _ * 48 ≤ 140737488355328; omega)) ?_; conv => whnf)
          | (refine And.intro (by dsimp only; omega) ?_; conv => whnf)
          | fail)
        refine ⟨k + 1, by omega, by dsimp only; omega, ?_⟩
        refine ⟨[], ?_⟩
        conv => whnf
        refine ⟨rfl, ?_, ?_⟩ <;> (repeat' (first | exact trivial | (exact congrArg Value.bool hs.symm) | exact rfl | exact fun _ _ => rfl | apply And.intro | (intro i hi; rcases i with _ | _ | i <;> first | rfl | (exfalso; omega) | (simp at hi; done) | (simp at hi; omega)) | exact fun _ _ => by simp))
      | true =>
        rw [hgk] at hs
        have hs2 : decide (((L.getD ((k : Int)).toNat []).length : Int) = (q.box.lo.length : Int)) = gd (k + 1) := by
          rw [hs, ek, Bool.true_and, decide_eq_decide]
          exact Int.ofNat_inj
        conv => whnf
        repeat' (first
          | (refine And.intro (by omega) ?_; conv => whnf)
          | (refine And.intro rfl ?_; conv => whnf)
          | (refine And.intro (Nat.le_of_ble_eq_true rfl) ?_; conv => whnf)
          | (refine And.intro (fun i hi => ⟨_, rfl⟩) ?_; conv => whnf)
          | (refine And.intro (fun hq => ?_) (fun hq => ?_) <;> (first | (exfalso; simp at hq; done) | (exfalso; simp only [cond_true, cond_false, Bool.not_eq_true', Bool.not_eq_false', decide_eq_true_eq, decide_eq_false_iff_not] at hq; (try dsimp only at hq); omega) | (exfalso; simp at hq; omega) | ((try simp only [cond_true, cond_false, Bool.not_eq_true', Bool.not_eq_false', decide_eq_true_eq, decide_eq_false_iff_not] at hq); (try dsimp only at hq); (conv => whnf))))
          | (refine fun hq => ?_; conv => whnf)
          | (refine And.intro (by first | (show _ * 1 ≤ 140737488355328; omega) | (show _ * 8 ≤ 140737488355328; omega) | (show _ * 24 ≤ 140737488355328; omega) | (show _ * 16 ≤ 140737488355328; omega) | (show _ * 32 ≤ 140737488355328; omega) | (show _ * 120 ≤ 140737488355328; omega) | (show _ * 280 ≤ 140737488355328; omega) | (show _ * 72 ≤ 140737488355328; omega) | (show _ * 48 ≤ 140737488355328; omega)) ?_; conv => whnf)
          | (refine And.intro (by dsimp only; omega) ?_; conv => whnf)
          | fail)
        refine ⟨k + 1, by omega, by dsimp only; omega, ?_⟩
        refine ⟨[], ?_⟩
        conv => whnf
        refine ⟨rfl, ?_, ?_⟩ <;> (repeat' (first | exact trivial | (exact congrArg Value.bool hs2) | exact rfl | exact fun _ _ => rfl | apply And.intro | (intro i hi; rcases i with _ | _ | i <;> first | rfl | (exfalso; omega) | (simp at hi; done) | (simp at hi; omega)) | exact fun _ _ => by simp))
    · obtain rfl : k = L.length := by omega
      rw [gE]
      conv => whnf
      repeat' (first
        | (refine And.intro (by omega) ?_; conv => whnf)
        | (refine And.intro rfl ?_; conv => whnf)
        | (refine And.intro (Nat.le_of_ble_eq_true rfl) ?_; conv => whnf)
        | (refine And.intro (fun i hi => ⟨_, rfl⟩) ?_; conv => whnf)
        | (refine ⟨_, _, _, .flat _ _ rfl (rqsame_nil 0) rfl, ?_⟩; conv => whnf)
        | (refine ⟨_, _, _, .flat _ _ rfl (ACall.arg ?harg (rqsame_nil 0)) rfl, ?_⟩; (case harg => (repeat' (first | exact trivial | exact rfl | exact fun _ _ => rfl | apply And.intro | (intro i hi; rcases i with _ | _ | i <;> first | rfl | (exfalso; omega) | (simp at hi; done) | (simp at hi; omega)) | exact fun _ _ => by simp))); (conv => whnf))
        | (refine And.intro (fun hq => ?_) (fun hq => ?_) <;> (first | (exfalso; simp at hq; done) | (exfalso; simp only [cond_true, cond_false, Bool.not_eq_true', Bool.not_eq_false', decide_eq_true_eq, decide_eq_false_iff_not] at hq; (try dsimp only at hq); omega) | (exfalso; simp at hq; omega) | ((try simp only [cond_true, cond_false, Bool.not_eq_true', Bool.not_eq_false', decide_eq_true_eq, decide_eq_false_iff_not] at hq); (try dsimp only at hq); (conv => whnf))))
        | (refine fun hq => ?_; conv => whnf)
        | (refine And.intro (by first | (show _ * 1 ≤ 140737488355328; omega) | (show _ * 8 ≤ 140737488355328; omega) | (show _ * 24 ≤ 140737488355328; omega) | (show _ * 16 ≤ 140737488355328; omega) | (show _ * 32 ≤ 140737488355328; omega) | (show _ * 120 ≤ 140737488355328; omega) | (show _ * 280 ≤ 140737488355328; omega) | (show _ * 72 ≤ 140737488355328; omega) | (show _ * 48 ≤ 140737488355328; omega)) ?_; conv => whnf)
        | (refine And.intro (by dsimp only; omega) ?_; conv => whnf)
        | fail)
      all_goals first | exact trivial | exact ⟨rfl, by (repeat' (first | exact trivial | exact rfl | exact fun _ _ => rfl | apply And.intro | (intro i hi; rcases i with _ | _ | i <;> first | rfl | (exfalso; omega) | (simp at hi; done) | (simp at hi; omega)) | exact fun _ _ => by simp)), trivial⟩ | exact ⟨by (repeat' (first | exact trivial | exact rfl | exact fun _ _ => rfl | apply And.intro | (intro i hi; rcases i with _ | _ | i <;> first | rfl | (exfalso; omega) | (simp at hi; done) | (simp at hi; omega)) | exact fun _ _ => by simp)), trivial⟩ | exact ⟨by (repeat' (first | exact trivial | exact rfl | exact fun _ _ => rfl | apply And.intro | (intro i hi; rcases i with _ | _ | i <;> first | rfl | (exfalso; omega) | (simp at hi; done) | (simp at hi; omega)) | exact fun _ _ => by simp)), by (repeat' (first | exact trivial | exact rfl | exact fun _ _ => rfl | apply And.intro | (intro i hi; rcases i with _ | _ | i <;> first | rfl | (exfalso; omega) | (simp at hi; done) | (simp at hi; omega)) | exact fun _ _ => by simp))⟩ | exact ⟨rfl, by (repeat' (first | exact trivial | exact rfl | exact fun _ _ => rfl | apply And.intro | (intro i hi; rcases i with _ | _ | i <;> first | rfl | (exfalso; omega) | (simp at hi; done) | (simp at hi; omega)) | exact fun _ _ => by simp)), by (repeat' (first | exact trivial | exact rfl | exact fun _ _ => rfl | apply And.intro | (intro i hi; rcases i with _ | _ | i <;> first | rfl | (exfalso; omega) | (simp at hi; done) | (simp at hi; omega)) | exact fun _ _ => by simp))⟩
  | true =>
    have hqr : qryR q q.box.lo.length = true := by revert hc; cases qryR q q.box.lo.length <;> simp
    have hbd : badL q.box.lo.length L = false := by revert hc; rw [hqr]; simp
    have hnn : q.box.lo.length ≤ 8 := by
      unfold qryR at hqr
      simp only [Bool.and_eq_true] at hqr
      have := rightB_len hqr.1
      omega
    rw [hc] at gE
    cases hct : q.count with
    | true =>
      have c4 := askof_count L q (by omega) (by omega) hqr hbd hct
      have c6 := rqof_count L q (by omega) (by omega) hqr hbd hct
      have c5 := rqsame_nil ((L.filter (inB q)).length : Nat)
      conv => whnf
      repeat' (first
        | (refine And.intro (by omega) ?_; conv => whnf)
        | (refine And.intro rfl ?_; conv => whnf)
        | (refine And.intro (Nat.le_of_ble_eq_true rfl) ?_; conv => whnf)
        | (refine And.intro (fun i hi => ⟨_, rfl⟩) ?_; conv => whnf)
        | (refine ⟨_, _, _, .flat _ _ rfl (alive14) rfl, ?_⟩; conv => whnf)
        | (refine ⟨_, _, _, .flat _ _ rfl (c1) rfl, ?_⟩; conv => whnf)
        | (refine ⟨_, _, _, .flat _ _ rfl (c2) rfl, ?_⟩; conv => whnf)
        | (refine ⟨_, _, _, .gen [] _ _ _ rfl (c4) rfl rfl rfl rfl rfl, ?_⟩; conv => whnf)
        | (refine ⟨_, _, _, .flat _ _ rfl (c3) rfl, ?_⟩; conv => whnf)
        | (refine ⟨_, _, _, .flat _ _ rfl (ACall.arg ?harg (alive14)) rfl, ?_⟩; (case harg => (repeat' (first | exact trivial | exact rfl | exact fun _ _ => rfl | apply And.intro | (intro i hi; rcases i with _ | _ | i <;> first | rfl | (exfalso; omega) | (simp at hi; done) | (simp at hi; omega)) | exact fun _ _ => by simp))); (conv => whnf))
        | (refine ⟨_, _, _, .flat _ _ rfl (ACall.arg ?harg (c1)) rfl, ?_⟩; (case harg => (repeat' (first | exact trivial | exact rfl | exact fun _ _ => rfl | apply And.intro | (intro i hi; rcases i with _ | _ | i <;> first | rfl | (exfalso; omega) | (simp at hi; done) | (simp at hi; omega)) | exact fun _ _ => by simp))); (conv => whnf))
        | (refine ⟨_, _, _, .flat _ _ rfl (ACall.arg ?harg (c2)) rfl, ?_⟩; (case harg => (repeat' (first | exact trivial | exact rfl | exact fun _ _ => rfl | apply And.intro | (intro i hi; rcases i with _ | _ | i <;> first | rfl | (exfalso; omega) | (simp at hi; done) | (simp at hi; omega)) | exact fun _ _ => by simp))); (conv => whnf))
        | (refine ⟨_, _, _, .gen [] _ _ _ rfl (ACall.arg ?harg (c4)) rfl rfl rfl rfl rfl, ?_⟩; (case harg => (repeat' (first | exact trivial | exact rfl | exact fun _ _ => rfl | apply And.intro | (intro i hi; rcases i with _ | _ | i <;> first | rfl | (exfalso; omega) | (simp at hi; done) | (simp at hi; omega)) | exact fun _ _ => by simp))); (conv => whnf))
        | (refine ⟨_, _, _, .flat _ _ rfl (ACall.arg ?harg (c3)) rfl, ?_⟩; (case harg => (repeat' (first | exact trivial | exact rfl | exact fun _ _ => rfl | apply And.intro | (intro i hi; rcases i with _ | _ | i <;> first | rfl | (exfalso; omega) | (simp at hi; done) | (simp at hi; omega)) | exact fun _ _ => by simp))); (conv => whnf))
        | (refine And.intro (fun hq => ?_) (fun hq => ?_) <;> (first | (exfalso; simp at hq; done) | (exfalso; simp only [cond_true, cond_false, Bool.not_eq_true', Bool.not_eq_false', decide_eq_true_eq, decide_eq_false_iff_not] at hq; (try dsimp only at hq); omega) | (exfalso; simp at hq; omega) | ((try simp only [cond_true, cond_false, Bool.not_eq_true', Bool.not_eq_false', decide_eq_true_eq, decide_eq_false_iff_not] at hq); (try dsimp only at hq); (conv => whnf))))
        | (refine fun hq => ?_; conv => whnf)
        | (refine And.intro (by first | (show _ * 1 ≤ 140737488355328; omega) | (show _ * 8 ≤ 140737488355328; omega) | (show _ * 24 ≤ 140737488355328; omega) | (show _ * 16 ≤ 140737488355328; omega) | (show _ * 32 ≤ 140737488355328; omega) | (show _ * 120 ≤ 140737488355328; omega) | (show _ * 280 ≤ 140737488355328; omega) | (show _ * 72 ≤ 140737488355328; omega) | (show _ * 48 ≤ 140737488355328; omega)) ?_; conv => whnf)
        | (refine And.intro (by dsimp only; omega) ?_; conv => whnf)
        | fail)
      refine ⟨[], ?_⟩
      conv => whnf
      refine ⟨Nat, fun k => k ≤ L.length, fun k => L.length - k, fun k => [(10, exB (gd k)), (11, exI .i64 k)], fun _ => [], ⟨0, by omega, ?_⟩, ?_⟩
      · skip
        refine ⟨[], ?_⟩
        conv => whnf
        refine ⟨rfl, ?_, ?_⟩ <;> (repeat' (first | exact trivial | (exact congrArg Value.bool g0.symm) | exact rfl | exact fun _ _ => rfl | apply And.intro | (intro i hi; rcases i with _ | _ | i <;> first | rfl | (exfalso; omega) | (simp at hi; done) | (simp at hi; omega)) | exact fun _ _ => by simp))
      intro k hk
      conv => whnf
      rcases Nat.lt_or_ge k L.length with hlt | hge
      · have hs := gs2 k
        have ek : ((k : Int)).toNat = k := by omega
        cases hgk : gd k with
        | false =>
          rw [hgk] at hs
          conv => whnf
          repeat' (first
            | (refine And.intro (by omega) ?_; conv => whnf)
            | (refine And.intro rfl ?_; conv => whnf)
            | (refine And.intro (Nat.le_of_ble_eq_true rfl) ?_; conv => whnf)
            | (refine And.intro (fun i hi => ⟨_, rfl⟩) ?_; conv => whnf)
            | (refine And.intro (fun hq => ?_) (fun hq => ?_) <;> (first | (exfalso; simp at hq; done) | (exfalso; simp only [cond_true, cond_false, Bool.not_eq_true', Bool.not_eq_false', decide_eq_true_eq, decide_eq_false_iff_not] at hq; (try dsimp only at hq); omega) | (exfalso; simp at hq; omega) | ((try simp only [cond_true, cond_false, Bool.not_eq_true', Bool.not_eq_false', decide_eq_true_eq, decide_eq_false_iff_not] at hq); (try dsimp only at hq); (conv => whnf))))
            | (refine fun hq => ?_; conv => whnf)
            | (refine And.intro (by first | (show _ * 1 ≤ 140737488355328; omega) | (show _ * 8 ≤ 140737488355328; omega) | (show _ * 24 ≤ 140737488355328; omega) | (show _ * 16 ≤ 140737488355328; omega) | (show _ * 32 ≤ 140737488355328; omega) | (show _ * 120 ≤ 140737488355328; omega) | (show _ * 280 ≤ 140737488355328; omega) | (show _ * 72 ≤ 140737488355328; omega) | (show _ * 48 ≤ 140737488355328; omega)) ?_; conv => whnf)
            | (refine And.intro (by dsimp only; omega) ?_; conv => whnf)
            | fail)
          refine ⟨k + 1, by omega, by dsimp only; omega, ?_⟩
          refine ⟨[], ?_⟩
          conv => whnf
          refine ⟨rfl, ?_, ?_⟩ <;> (repeat' (first | exact trivial | (exact congrArg Value.bool hs.symm) | exact rfl | exact fun _ _ => rfl | apply And.intro | (intro i hi; rcases i with _ | _ | i <;> first | rfl | (exfalso; omega) | (simp at hi; done) | (simp at hi; omega)) | exact fun _ _ => by simp))
        | true =>
          rw [hgk] at hs
          have hs2 : decide (((L.getD ((k : Int)).toNat []).length : Int) = (q.box.lo.length : Int)) = gd (k + 1) := by
            rw [hs, ek, Bool.true_and, decide_eq_decide]
            exact Int.ofNat_inj
          conv => whnf
          repeat' (first
            | (refine And.intro (by omega) ?_; conv => whnf)
            | (refine And.intro rfl ?_; conv => whnf)
            | (refine And.intro (Nat.le_of_ble_eq_true rfl) ?_; conv => whnf)
            | (refine And.intro (fun i hi => ⟨_, rfl⟩) ?_; conv => whnf)
            | (refine And.intro (fun hq => ?_) (fun hq => ?_) <;> (first | (exfalso; simp at hq; done) | (exfalso; simp only [cond_true, cond_false, Bool.not_eq_true', Bool.not_eq_false', decide_eq_true_eq, decide_eq_false_iff_not] at hq; (try dsimp only at hq); omega) | (exfalso; simp at hq; omega) | ((try simp only [cond_true, cond_false, Bool.not_eq_true', Bool.not_eq_false', decide_eq_true_eq, decide_eq_false_iff_not] at hq); (try dsimp only at hq); (conv => whnf))))
            | (refine fun hq => ?_; conv => whnf)
            | (refine And.intro (by first | (show _ * 1 ≤ 140737488355328; omega) | (show _ * 8 ≤ 140737488355328; omega) | (show _ * 24 ≤ 140737488355328; omega) | (show _ * 16 ≤ 140737488355328; omega) | (show _ * 32 ≤ 140737488355328; omega) | (show _ * 120 ≤ 140737488355328; omega) | (show _ * 280 ≤ 140737488355328; omega) | (show _ * 72 ≤ 140737488355328; omega) | (show _ * 48 ≤ 140737488355328; omega)) ?_; conv => whnf)
            | (refine And.intro (by dsimp only; omega) ?_; conv => whnf)
            | fail)
          refine ⟨k + 1, by omega, by dsimp only; omega, ?_⟩
          refine ⟨[], ?_⟩
          conv => whnf
          refine ⟨rfl, ?_, ?_⟩ <;> (repeat' (first | exact trivial | (exact congrArg Value.bool hs2) | exact rfl | exact fun _ _ => rfl | apply And.intro | (intro i hi; rcases i with _ | _ | i <;> first | rfl | (exfalso; omega) | (simp at hi; done) | (simp at hi; omega)) | exact fun _ _ => by simp))
      · obtain rfl : k = L.length := by omega
        rw [gE]
        conv => whnf
        repeat' (first
          | (refine And.intro (by omega) ?_; conv => whnf)
          | (refine And.intro rfl ?_; conv => whnf)
          | (refine And.intro (Nat.le_of_ble_eq_true rfl) ?_; conv => whnf)
          | (refine And.intro (fun i hi => ⟨_, rfl⟩) ?_; conv => whnf)
          | (refine ⟨_, _, _, .gen [] _ _ _ rfl (c6) rfl rfl rfl rfl rfl, ?_⟩; conv => whnf)
          | (refine ⟨_, _, _, .flat _ _ rfl (c5) rfl, ?_⟩; conv => whnf)
          | (refine ⟨_, _, _, .gen [] _ _ _ rfl (ACall.arg ?harg (c6)) rfl rfl rfl rfl rfl, ?_⟩; (case harg => (repeat' (first | exact trivial | exact rfl | exact fun _ _ => rfl | apply And.intro | (intro i hi; rcases i with _ | _ | i <;> first | rfl | (exfalso; omega) | (simp at hi; done) | (simp at hi; omega)) | exact fun _ _ => by simp))); (conv => whnf))
          | (refine ⟨_, _, _, .flat _ _ rfl (ACall.arg ?harg (c5)) rfl, ?_⟩; (case harg => (repeat' (first | exact trivial | exact rfl | exact fun _ _ => rfl | apply And.intro | (intro i hi; rcases i with _ | _ | i <;> first | rfl | (exfalso; omega) | (simp at hi; done) | (simp at hi; omega)) | exact fun _ _ => by simp))); (conv => whnf))
          | (refine And.intro (fun hq => ?_) (fun hq => ?_) <;> (first | (exfalso; simp at hq; done) | (exfalso; simp only [cond_true, cond_false, Bool.not_eq_true', Bool.not_eq_false', decide_eq_true_eq, decide_eq_false_iff_not] at hq; (try dsimp only at hq); omega) | (exfalso; simp at hq; omega) | ((try simp only [cond_true, cond_false, Bool.not_eq_true', Bool.not_eq_false', decide_eq_true_eq, decide_eq_false_iff_not] at hq); (try dsimp only at hq); (conv => whnf))))
          | (refine fun hq => ?_; conv => whnf)
          | (refine And.intro (by first | (show _ * 1 ≤ 140737488355328; omega) | (show _ * 8 ≤ 140737488355328; omega) | (show _ * 24 ≤ 140737488355328; omega) | (show _ * 16 ≤ 140737488355328; omega) | (show _ * 32 ≤ 140737488355328; omega) | (show _ * 120 ≤ 140737488355328; omega) | (show _ * 280 ≤ 140737488355328; omega) | (show _ * 72 ≤ 140737488355328; omega) | (show _ * 48 ≤ 140737488355328; omega)) ?_; conv => whnf)
          | (refine And.intro (by dsimp only; omega) ?_; conv => whnf)
          | fail)
        all_goals first | exact trivial | exact ⟨rfl, by (repeat' (first | exact trivial | exact rfl | exact fun _ _ => rfl | apply And.intro | (intro i hi; rcases i with _ | _ | i <;> first | rfl | (exfalso; omega) | (simp at hi; done) | (simp at hi; omega)) | exact fun _ _ => by simp)), trivial⟩ | exact ⟨by (repeat' (first | exact trivial | exact rfl | exact fun _ _ => rfl | apply And.intro | (intro i hi; rcases i with _ | _ | i <;> first | rfl | (exfalso; omega) | (simp at hi; done) | (simp at hi; omega)) | exact fun _ _ => by simp)), trivial⟩ | exact ⟨by (repeat' (first | exact trivial | exact rfl | exact fun _ _ => rfl | apply And.intro | (intro i hi; rcases i with _ | _ | i <;> first | rfl | (exfalso; omega) | (simp at hi; done) | (simp at hi; omega)) | exact fun _ _ => by simp)), by (repeat' (first | exact trivial | exact rfl | exact fun _ _ => rfl | apply And.intro | (intro i hi; rcases i with _ | _ | i <;> first | rfl | (exfalso; omega) | (simp at hi; done) | (simp at hi; omega)) | exact fun _ _ => by simp))⟩ | exact ⟨rfl, by (repeat' (first | exact trivial | exact rfl | exact fun _ _ => rfl | apply And.intro | (intro i hi; rcases i with _ | _ | i <;> first | rfl | (exfalso; omega) | (simp at hi; done) | (simp at hi; omega)) | exact fun _ _ => by simp)), by (repeat' (first | exact trivial | exact rfl | exact fun _ _ => rfl | apply And.intro | (intro i hi; rcases i with _ | _ | i <;> first | rfl | (exfalso; omega) | (simp at hi; done) | (simp at hi; omega)) | exact fun _ _ => by simp))⟩
    | false =>
      have c4 := askof_rows L q (by omega) (by omega) hqr hbd hct ha hI
      have c6 := rqof_rows L q (by omega) (by omega) hqr hbd hct ha hI
      have hlm : ∀ x ∈ limL q.limit (srt (ltO q.ord) (L.filter (inB q))), x ∈ L := fun x hx => by
        have : x ∈ srt (ltO q.ord) (L.filter (inB q)) := by
          unfold limL at hx
          split at hx
          · exact List.mem_of_mem_take hx
          · exact hx
        rw [srt_mem] at this
        exact (List.mem_filter.1 this).1
      have hlm1 : (limL q.limit (srt (ltO q.ord) (L.filter (inB q)))).length ≤ 1000000 := by
        have h1 : (srt (ltO q.ord) (L.filter (inB q))).length ≤ L.length := by rw [srt_len]; exact List.length_filter_le _ _
        unfold limL
        split
        · rw [List.length_take]; omega
        · omega
      have hlm2 : ∀ x ∈ limL q.limit (srt (ltO q.ord) (L.filter (inB q))), x.length ≤ 1000000 := fun x hx => by
        have := badL_no hbd (hlm x hx)
        omega
      have c5 := rqsame_rows (limL q.limit (srt (ltO q.ord) (L.filter (inB q)))) 0 hlm1 hlm2
      conv => whnf
      repeat' (first
        | (refine And.intro (by omega) ?_; conv => whnf)
        | (refine And.intro rfl ?_; conv => whnf)
        | (refine And.intro (Nat.le_of_ble_eq_true rfl) ?_; conv => whnf)
        | (refine And.intro (fun i hi => ⟨_, rfl⟩) ?_; conv => whnf)
        | (refine ⟨_, _, _, .flat _ _ rfl (alive14) rfl, ?_⟩; conv => whnf)
        | (refine ⟨_, _, _, .flat _ _ rfl (c1) rfl, ?_⟩; conv => whnf)
        | (refine ⟨_, _, _, .flat _ _ rfl (c2) rfl, ?_⟩; conv => whnf)
        | (refine ⟨_, _, _, .gen [] _ _ _ rfl (c4) rfl rfl rfl rfl rfl, ?_⟩; conv => whnf)
        | (refine ⟨_, _, _, .flat _ _ rfl (c3) rfl, ?_⟩; conv => whnf)
        | (refine ⟨_, _, _, .flat _ _ rfl (ACall.arg ?harg (alive14)) rfl, ?_⟩; (case harg => (repeat' (first | exact trivial | exact rfl | exact fun _ _ => rfl | apply And.intro | (intro i hi; rcases i with _ | _ | i <;> first | rfl | (exfalso; omega) | (simp at hi; done) | (simp at hi; omega)) | exact fun _ _ => by simp))); (conv => whnf))
        | (refine ⟨_, _, _, .flat _ _ rfl (ACall.arg ?harg (c1)) rfl, ?_⟩; (case harg => (repeat' (first | exact trivial | exact rfl | exact fun _ _ => rfl | apply And.intro | (intro i hi; rcases i with _ | _ | i <;> first | rfl | (exfalso; omega) | (simp at hi; done) | (simp at hi; omega)) | exact fun _ _ => by simp))); (conv => whnf))
        | (refine ⟨_, _, _, .flat _ _ rfl (ACall.arg ?harg (c2)) rfl, ?_⟩; (case harg => (repeat' (first | exact trivial | exact rfl | exact fun _ _ => rfl | apply And.intro | (intro i hi; rcases i with _ | _ | i <;> first | rfl | (exfalso; omega) | (simp at hi; done) | (simp at hi; omega)) | exact fun _ _ => by simp))); (conv => whnf))
        | (refine ⟨_, _, _, .gen [] _ _ _ rfl (ACall.arg ?harg (c4)) rfl rfl rfl rfl rfl, ?_⟩; (case harg => (repeat' (first | exact trivial | exact rfl | exact fun _ _ => rfl | apply And.intro | (intro i hi; rcases i with _ | _ | i <;> first | rfl | (exfalso; omega) | (simp at hi; done) | (simp at hi; omega)) | exact fun _ _ => by simp))); (conv => whnf))
        | (refine ⟨_, _, _, .flat _ _ rfl (ACall.arg ?harg (c3)) rfl, ?_⟩; (case harg => (repeat' (first | exact trivial | exact rfl | exact fun _ _ => rfl | apply And.intro | (intro i hi; rcases i with _ | _ | i <;> first | rfl | (exfalso; omega) | (simp at hi; done) | (simp at hi; omega)) | exact fun _ _ => by simp))); (conv => whnf))
        | (refine And.intro (fun hq => ?_) (fun hq => ?_) <;> (first | (exfalso; simp at hq; done) | (exfalso; simp only [cond_true, cond_false, Bool.not_eq_true', Bool.not_eq_false', decide_eq_true_eq, decide_eq_false_iff_not] at hq; (try dsimp only at hq); omega) | (exfalso; simp at hq; omega) | ((try simp only [cond_true, cond_false, Bool.not_eq_true', Bool.not_eq_false', decide_eq_true_eq, decide_eq_false_iff_not] at hq); (try dsimp only at hq); (conv => whnf))))
        | (refine fun hq => ?_; conv => whnf)
        | (refine And.intro (by first | (show _ * 1 ≤ 140737488355328; omega) | (show _ * 8 ≤ 140737488355328; omega) | (show _ * 24 ≤ 140737488355328; omega) | (show _ * 16 ≤ 140737488355328; omega) | (show _ * 32 ≤ 140737488355328; omega) | (show _ * 120 ≤ 140737488355328; omega) | (show _ * 280 ≤ 140737488355328; omega) | (show _ * 72 ≤ 140737488355328; omega) | (show _ * 48 ≤ 140737488355328; omega)) ?_; conv => whnf)
        | (refine And.intro (by dsimp only; omega) ?_; conv => whnf)
        | fail)
      refine ⟨[], ?_⟩
      conv => whnf
      refine ⟨Nat, fun k => k ≤ L.length, fun k => L.length - k, fun k => [(10, exB (gd k)), (11, exI .i64 k)], fun _ => [], ⟨0, by omega, ?_⟩, ?_⟩
      · skip
        refine ⟨[], ?_⟩
        conv => whnf
        refine ⟨rfl, ?_, ?_⟩ <;> (repeat' (first | exact trivial | (exact congrArg Value.bool g0.symm) | exact rfl | exact fun _ _ => rfl | apply And.intro | (intro i hi; rcases i with _ | _ | i <;> first | rfl | (exfalso; omega) | (simp at hi; done) | (simp at hi; omega)) | exact fun _ _ => by simp))
      intro k hk
      conv => whnf
      rcases Nat.lt_or_ge k L.length with hlt | hge
      · have hs := gs2 k
        have ek : ((k : Int)).toNat = k := by omega
        cases hgk : gd k with
        | false =>
          rw [hgk] at hs
          conv => whnf
          repeat' (first
            | (refine And.intro (by omega) ?_; conv => whnf)
            | (refine And.intro rfl ?_; conv => whnf)
            | (refine And.intro (Nat.le_of_ble_eq_true rfl) ?_; conv => whnf)
            | (refine And.intro (fun i hi => ⟨_, rfl⟩) ?_; conv => whnf)
            | (refine And.intro (fun hq => ?_) (fun hq => ?_) <;> (first | (exfalso; simp at hq; done) | (exfalso; simp only [cond_true, cond_false, Bool.not_eq_true', Bool.not_eq_false', decide_eq_true_eq, decide_eq_false_iff_not] at hq; (try dsimp only at hq); omega) | (exfalso; simp at hq; omega) | ((try simp only [cond_true, cond_false, Bool.not_eq_true', Bool.not_eq_false', decide_eq_true_eq, decide_eq_false_iff_not] at hq); (try dsimp only at hq); (conv => whnf))))
            | (refine fun hq => ?_; conv => whnf)
            | (refine And.intro (by first | (show _ * 1 ≤ 140737488355328; omega) | (show _ * 8 ≤ 140737488355328; omega) | (show _ * 24 ≤ 140737488355328; omega) | (show _ * 16 ≤ 140737488355328; omega) | (show _ * 32 ≤ 140737488355328; omega) | (show _ * 120 ≤ 140737488355328; omega) | (show _ * 280 ≤ 140737488355328; omega) | (show _ * 72 ≤ 140737488355328; omega) | (show _ * 48 ≤ 140737488355328; omega)) ?_; conv => whnf)
            | (refine And.intro (by dsimp only; omega) ?_; conv => whnf)
            | fail)
          refine ⟨k + 1, by omega, by dsimp only; omega, ?_⟩
          refine ⟨[], ?_⟩
          conv => whnf
          refine ⟨rfl, ?_, ?_⟩ <;> (repeat' (first | exact trivial | (exact congrArg Value.bool hs.symm) | exact rfl | exact fun _ _ => rfl | apply And.intro | (intro i hi; rcases i with _ | _ | i <;> first | rfl | (exfalso; omega) | (simp at hi; done) | (simp at hi; omega)) | exact fun _ _ => by simp))
        | true =>
          rw [hgk] at hs
          have hs2 : decide (((L.getD ((k : Int)).toNat []).length : Int) = (q.box.lo.length : Int)) = gd (k + 1) := by
            rw [hs, ek, Bool.true_and, decide_eq_decide]
            exact Int.ofNat_inj
          conv => whnf
          repeat' (first
            | (refine And.intro (by omega) ?_; conv => whnf)
            | (refine And.intro rfl ?_; conv => whnf)
            | (refine And.intro (Nat.le_of_ble_eq_true rfl) ?_; conv => whnf)
            | (refine And.intro (fun i hi => ⟨_, rfl⟩) ?_; conv => whnf)
            | (refine And.intro (fun hq => ?_) (fun hq => ?_) <;> (first | (exfalso; simp at hq; done) | (exfalso; simp only [cond_true, cond_false, Bool.not_eq_true', Bool.not_eq_false', decide_eq_true_eq, decide_eq_false_iff_not] at hq; (try dsimp only at hq); omega) | (exfalso; simp at hq; omega) | ((try simp only [cond_true, cond_false, Bool.not_eq_true', Bool.not_eq_false', decide_eq_true_eq, decide_eq_false_iff_not] at hq); (try dsimp only at hq); (conv => whnf))))
            | (refine fun hq => ?_; conv => whnf)
            | (refine And.intro (by first | (show _ * 1 ≤ 140737488355328; omega) | (show _ * 8 ≤ 140737488355328; omega) | (show _ * 24 ≤ 140737488355328; omega) | (show _ * 16 ≤ 140737488355328; omega) | (show _ * 32 ≤ 140737488355328; omega) | (show _ * 120 ≤ 140737488355328; omega) | (show _ * 280 ≤ 140737488355328; omega) | (show _ * 72 ≤ 140737488355328; omega) | (show _ * 48 ≤ 140737488355328; omega)) ?_; conv => whnf)
            | (refine And.intro (by dsimp only; omega) ?_; conv => whnf)
            | fail)
          refine ⟨k + 1, by omega, by dsimp only; omega, ?_⟩
          refine ⟨[], ?_⟩
          conv => whnf
          refine ⟨rfl, ?_, ?_⟩ <;> (repeat' (first | exact trivial | (exact congrArg Value.bool hs2) | exact rfl | exact fun _ _ => rfl | apply And.intro | (intro i hi; rcases i with _ | _ | i <;> first | rfl | (exfalso; omega) | (simp at hi; done) | (simp at hi; omega)) | exact fun _ _ => by simp))
      · obtain rfl : k = L.length := by omega
        rw [gE]
        conv => whnf
        repeat' (first
          | (refine And.intro (by omega) ?_; conv => whnf)
          | (refine And.intro rfl ?_; conv => whnf)
          | (refine And.intro (Nat.le_of_ble_eq_true rfl) ?_; conv => whnf)
          | (refine And.intro (fun i hi => ⟨_, rfl⟩) ?_; conv => whnf)
          | (refine ⟨_, _, _, .gen [] _ _ _ rfl (c6) rfl rfl rfl rfl rfl, ?_⟩; conv => whnf)
          | (refine ⟨_, _, _, .flat _ _ rfl (c5) rfl, ?_⟩; conv => whnf)
          | (refine ⟨_, _, _, .gen [] _ _ _ rfl (ACall.arg ?harg (c6)) rfl rfl rfl rfl rfl, ?_⟩; (case harg => (repeat' (first | exact trivial | exact rfl | exact fun _ _ => rfl | apply And.intro | (intro i hi; rcases i with _ | _ | i <;> first | rfl | (exfalso; omega) | (simp at hi; done) | (simp at hi; omega)) | exact fun _ _ => by simp))); (conv => whnf))
          | (refine ⟨_, _, _, .flat _ _ rfl (ACall.arg ?harg (c5)) rfl, ?_⟩; (case harg => (repeat' (first | exact trivial | exact rfl | exact fun _ _ => rfl | apply And.intro | (intro i hi; rcases i with _ | _ | i <;> first | rfl | (exfalso; omega) | (simp at hi; done) | (simp at hi; omega)) | exact fun _ _ => by simp))); (conv => whnf))
          | (refine And.intro (fun hq => ?_) (fun hq => ?_) <;> (first | (exfalso; simp at hq; done) | (exfalso; simp only [cond_true, cond_false, Bool.not_eq_true', Bool.not_eq_false', decide_eq_true_eq, decide_eq_false_iff_not] at hq; (try dsimp only at hq); omega) | (exfalso; simp at hq; omega) | ((try simp only [cond_true, cond_false, Bool.not_eq_true', Bool.not_eq_false', decide_eq_true_eq, decide_eq_false_iff_not] at hq); (try dsimp only at hq); (conv => whnf))))
          | (refine fun hq => ?_; conv => whnf)
          | (refine And.intro (by first | (show _ * 1 ≤ 140737488355328; omega) | (show _ * 8 ≤ 140737488355328; omega) | (show _ * 24 ≤ 140737488355328; omega) | (show _ * 16 ≤ 140737488355328; omega) | (show _ * 32 ≤ 140737488355328; omega) | (show _ * 120 ≤ 140737488355328; omega) | (show _ * 280 ≤ 140737488355328; omega) | (show _ * 72 ≤ 140737488355328; omega) | (show _ * 48 ≤ 140737488355328; omega)) ?_; conv => whnf)
          | (refine And.intro (by dsimp only; omega) ?_; conv => whnf)
          | fail)
        all_goals first | exact trivial | exact ⟨rfl, by (repeat' (first | exact trivial | exact rfl | exact fun _ _ => rfl | apply And.intro | (intro i hi; rcases i with _ | _ | i <;> first | rfl | (exfalso; omega) | (simp at hi; done) | (simp at hi; omega)) | exact fun _ _ => by simp)), trivial⟩ | exact ⟨by (repeat' (first | exact trivial | exact rfl | exact fun _ _ => rfl | apply And.intro | (intro i hi; rcases i with _ | _ | i <;> first | rfl | (exfalso; omega) | (simp at hi; done) | (simp at hi; omega)) | exact fun _ _ => by simp)), trivial⟩ | exact ⟨by (repeat' (first | exact trivial | exact rfl | exact fun _ _ => rfl | apply And.intro | (intro i hi; rcases i with _ | _ | i <;> first | rfl | (exfalso; omega) | (simp at hi; done) | (simp at hi; omega)) | exact fun _ _ => by simp)), by (repeat' (first | exact trivial | exact rfl | exact fun _ _ => rfl | apply And.intro | (intro i hi; rcases i with _ | _ | i <;> first | rfl | (exfalso; omega) | (simp at hi; done) | (simp at hi; omega)) | exact fun _ _ => by simp))⟩ | exact ⟨rfl, by (repeat' (first | exact trivial | exact rfl | exact fun _ _ => rfl | apply And.intro | (intro i hi; rcases i with _ | _ | i <;> first | rfl | (exfalso; omega) | (simp at hi; done) | (simp at hi; omega)) | exact fun _ _ => by simp)), by (repeat' (first | exact trivial | exact rfl | exact fun _ _ => rfl | apply And.intro | (intro i hi; rcases i with _ | _ | i <;> first | rfl | (exfalso; omega) | (simp at hi; done) | (simp at hi; omega)) | exact fun _ _ => by simp))⟩
end Go.Proofs.Ytglmohcnmpbfmaa
