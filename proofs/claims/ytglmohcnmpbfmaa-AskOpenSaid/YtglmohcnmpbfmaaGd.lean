/- slices.Index, slices.Contains at texts; block.areCols, block.Right. -/
import Derived.Test.YtglmohcnmpbfmaaGn
set_option linter.unusedVariables false
set_option linter.unusedSimpArgs false
namespace Go.Proofs.Ytglmohcnmpbfmaa
open Go.RowKit
set_option maxRecDepth 100000
set_option maxHeartbeats 1000000
/-- where a text stands among the first n, or -1 -/
def idxN (l : List ByteArray) (s : ByteArray) (n : Nat) : Int := match (List.range n).find? (fun i => decide (l.getD i default = s)) with
  | some k => k
  | none => -1
theorem idx_at {l : List ByteArray} {s : ByteArray} {k n : Nat} (hk : k < n) (hn : ∀ i, i < k → l.getD i default ≠ s) (he : l.getD k default = s) : idxN l s n = k := by
  unfold idxN
  have : (List.range n).find? (fun i => decide (l.getD i default = s)) = some k := by
    rw [List.find?_range_eq_some]
    refine ⟨by simpa using he, by simpa using hk, fun j hj => by simpa using hn j hj⟩
  rw [this]
theorem idx_no {l : List ByteArray} {s : ByteArray} {n : Nat} (hn : ∀ i, i < n → l.getD i default ≠ s) : idxN l s n = -1 := by
  unfold idxN
  have : (List.range n).find? (fun i => decide (l.getD i default = s)) = none := by
    rw [List.find?_range_eq_none]
    exact fun j hj => by simpa using hn j hj
  rw [this]
theorem idx_le (l : List ByteArray) (s : ByteArray) (n : Nat) : -1 ≤ idxN l s n ∧ idxN l s n < n := by
  unfold idxN
  split
  · rename_i k hk
    have := List.mem_of_find?_eq_some hk
    simp at this
    omega
  · omega
def strN (l : List ByteArray) (n : Nat) : DV := .sl 1 n (fun i => [.v (.string (l.getD i default))])
theorem index_any (l : List ByteArray) (s : ByteArray) (n : Nat) (h : n ≤ 1000000) : ACall Try.prog 153 [.d (strN l n), exS s] [] (exI .i64 (idxN l s n)) [] := by
  refine acall_of (mu := []) mixed Try.func153 rfl rfl rfl ?_
  conv => whnf
  refine ⟨[], ?_⟩
  conv => whnf
  refine ⟨Nat, fun k => k ≤ n ∧ ∀ i, i < k → l.getD i default ≠ s, fun k => n - k, fun k => [(4, exI .i64 0), (8, exI .i64 k)], fun _ => [], ⟨0, ⟨by omega, fun i hi => by omega⟩, ?_⟩, ?_⟩
  · skip
    refine ⟨[], ?_⟩
    conv => whnf
    refine ⟨rfl, ?_, ?_⟩ <;> (repeat' (first | exact trivial | exact rfl | exact fun _ _ => rfl | apply And.intro | (intro i hi; rcases i with _ | _ | i <;> first | rfl | (exfalso; omega) | (simp at hi; done) | (simp at hi; omega)) | exact fun _ _ => by simp))
  intro k ⟨hk, hn⟩
  conv => whnf
  repeat
    first
      | refine And.intro (by omega) ?_
      | refine And.intro rfl ?_
    conv => whnf
  refine ⟨fun hlt => ?_, fun hge => ?_⟩
  · have hlt : k < n := by simpa using hlt
    conv => whnf
    repeat
      first
        | refine And.intro (by omega) ?_
        | refine And.intro rfl ?_
      conv => whnf
    refine ⟨fun he => ?_, fun he => ?_⟩
    · have he : l.getD k default = s := by simpa [eq_comm] using he
      rw [idx_at hlt hn he]
      conv => whnf
      all_goals first | exact trivial | exact ⟨rfl, by (repeat' (first | exact trivial | exact rfl | exact fun _ _ => rfl | apply And.intro | (intro i hi; rcases i with _ | _ | i <;> first | rfl | (exfalso; omega) | (simp at hi; done) | (simp at hi; omega)) | exact fun _ _ => by simp)), trivial⟩ | exact ⟨by (repeat' (first | exact trivial | exact rfl | exact fun _ _ => rfl | apply And.intro | (intro i hi; rcases i with _ | _ | i <;> first | rfl | (exfalso; omega) | (simp at hi; done) | (simp at hi; omega)) | exact fun _ _ => by simp)), trivial⟩ | exact ⟨by (repeat' (first | exact trivial | exact rfl | exact fun _ _ => rfl | apply And.intro | (intro i hi; rcases i with _ | _ | i <;> first | rfl | (exfalso; omega) | (simp at hi; done) | (simp at hi; omega)) | exact fun _ _ => by simp)), by (repeat' (first | exact trivial | exact rfl | exact fun _ _ => rfl | apply And.intro | (intro i hi; rcases i with _ | _ | i <;> first | rfl | (exfalso; omega) | (simp at hi; done) | (simp at hi; omega)) | exact fun _ _ => by simp))⟩ | exact ⟨rfl, by (repeat' (first | exact trivial | exact rfl | exact fun _ _ => rfl | apply And.intro | (intro i hi; rcases i with _ | _ | i <;> first | rfl | (exfalso; omega) | (simp at hi; done) | (simp at hi; omega)) | exact fun _ _ => by simp)), by (repeat' (first | exact trivial | exact rfl | exact fun _ _ => rfl | apply And.intro | (intro i hi; rcases i with _ | _ | i <;> first | rfl | (exfalso; omega) | (simp at hi; done) | (simp at hi; omega)) | exact fun _ _ => by simp))⟩
    · have he : l.getD k default ≠ s := by simpa [eq_comm] using he
      conv => whnf
      repeat
        first
          | refine And.intro (by omega) ?_
          | refine And.intro rfl ?_
        conv => whnf
      refine ⟨k + 1, ⟨by omega, fun i hi => ?_⟩, by dsimp only; omega, ?_⟩
      · rcases Nat.lt_or_ge i k with q | q
        · exact hn i q
        · obtain rfl : i = k := by omega
          exact he
      · skip
        refine ⟨[], ?_⟩
        conv => whnf
        refine ⟨rfl, ?_, ?_⟩ <;> (repeat' (first | exact trivial | exact rfl | exact fun _ _ => rfl | apply And.intro | (intro i hi; rcases i with _ | _ | i <;> first | rfl | (exfalso; omega) | (simp at hi; done) | (simp at hi; omega)) | exact fun _ _ => by simp))
  · have hge : ¬ k < n := by simpa using hge
    rw [idx_no (l := l) (s := s) (n := n) fun i hi => hn i (by omega)]
    conv => whnf
    all_goals first | exact trivial | exact ⟨rfl, by (repeat' (first | exact trivial | exact rfl | exact fun _ _ => rfl | apply And.intro | (intro i hi; rcases i with _ | _ | i <;> first | rfl | (exfalso; omega) | (simp at hi; done) | (simp at hi; omega)) | exact fun _ _ => by simp)), trivial⟩ | exact ⟨by (repeat' (first | exact trivial | exact rfl | exact fun _ _ => rfl | apply And.intro | (intro i hi; rcases i with _ | _ | i <;> first | rfl | (exfalso; omega) | (simp at hi; done) | (simp at hi; omega)) | exact fun _ _ => by simp)), trivial⟩ | exact ⟨by (repeat' (first | exact trivial | exact rfl | exact fun _ _ => rfl | apply And.intro | (intro i hi; rcases i with _ | _ | i <;> first | rfl | (exfalso; omega) | (simp at hi; done) | (simp at hi; omega)) | exact fun _ _ => by simp)), by (repeat' (first | exact trivial | exact rfl | exact fun _ _ => rfl | apply And.intro | (intro i hi; rcases i with _ | _ | i <;> first | rfl | (exfalso; omega) | (simp at hi; done) | (simp at hi; omega)) | exact fun _ _ => by simp))⟩ | exact ⟨rfl, by (repeat' (first | exact trivial | exact rfl | exact fun _ _ => rfl | apply And.intro | (intro i hi; rcases i with _ | _ | i <;> first | rfl | (exfalso; omega) | (simp at hi; done) | (simp at hi; omega)) | exact fun _ _ => by simp)), by (repeat' (first | exact trivial | exact rfl | exact fun _ _ => rfl | apply And.intro | (intro i hi; rcases i with _ | _ | i <;> first | rfl | (exfalso; omega) | (simp at hi; done) | (simp at hi; omega)) | exact fun _ _ => by simp))⟩
theorem contains_any (l : List ByteArray) (s : ByteArray) (n : Nat) (h : n ≤ 1000000) : ACall Try.prog 234 [.d (strN l n), exS s] [] (exB (decide (0 ≤ idxN l s n))) [] := by
  refine acall_of (mu := []) mixed Try.func234 rfl rfl rfl ?_
  conv => whnf
  repeat' (first
    | (refine And.intro (by omega) ?_; conv => whnf)
    | (refine And.intro rfl ?_; conv => whnf)
    | (refine And.intro (Nat.le_of_ble_eq_true rfl) ?_; conv => whnf)
    | (refine And.intro (fun i hi => ⟨_, rfl⟩) ?_; conv => whnf)
    | (refine ⟨_, _, _, .flat _ _ rfl (index_any l s n h) rfl, ?_⟩; conv => whnf)
    | (refine ⟨_, _, _, .flat _ _ rfl (ACall.arg ?harg (index_any l s n h)) rfl, ?_⟩; (case harg => (repeat' (first | exact trivial | exact rfl | exact fun _ _ => rfl | apply And.intro | (intro i hi; rcases i with _ | _ | i <;> first | rfl | (exfalso; omega) | (simp at hi; done) | (simp at hi; omega)) | exact fun _ _ => by simp))); (conv => whnf))
    | (refine And.intro (fun hq => ?_) (fun hq => ?_) <;> (first | (exfalso; simp at hq; done) | (exfalso; simp at *; omega) | (exfalso; simp_all; done) | (conv => whnf)))
    | (refine And.intro (by first | (show _ * 1 ≤ 140737488355328; omega) | (show _ * 8 ≤ 140737488355328; omega) | (show _ * 24 ≤ 140737488355328; omega) | (show _ * 16 ≤ 140737488355328; omega) | (show _ * 32 ≤ 140737488355328; omega) | (show _ * 120 ≤ 140737488355328; omega) | (show _ * 280 ≤ 140737488355328; omega) | (show _ * 72 ≤ 140737488355328; omega) | (show _ * 48 ≤ 140737488355328; omega)) ?_; conv => whnf)
    | (refine And.intro (by simp at *; omega) ?_; conv => whnf)
    | (refine fun hq => ?_; conv => whnf)
    | fail)
  all_goals first
    | exact trivial
    | (refine And.intro (congrArg Value.bool ?_) trivial; grind)
    | (refine And.intro (congrArg Value.bool ?_) trivial; simp_all []; done)
    | (refine And.intro (congrArg Value.bool ?_) trivial; simp [] at *; omega)
    | skip
def colOk (l : List ByteArray) (k : Nat) : Bool := nameB (nb (l.getD k default)) && (!decide (l.getD k default = idS) && !decide (0 ≤ idxN l (l.getD k default) k))
def colsOk (l : List ByteArray) : Bool := allTo (colOk l) l.length && (decide (0 < l.length) && decide (l.length ≤ 7))
def shortS (s : ByteArray) : Prop := s.size ≤ 140737488351232
theorem arecols_any' (l : List ByteArray) (h : l.length ≤ 1000000) (hs : ∀ i, shortS (l.getD i default)) : ACall Try.prog 214 [.d (strL l)] [] (exB (colsOk l)) [] := by
  refine acall_of (mu := []) mixed Try.func214 rfl rfl rfl ?_
  conv => whnf
  refine ⟨[], ?_⟩
  conv => whnf
  refine ⟨Nat, fun k => k ≤ l.length ∧ ∀ i, i < k → colOk l i = true, fun k => l.length - k, fun k => [(2, exB false), (7, exI .i64 k)], fun _ => [], ⟨0, ⟨by omega, fun i hi => by omega⟩, ?_⟩, ?_⟩
  · skip
    refine ⟨[], ?_⟩
    conv => whnf
    refine ⟨rfl, ?_, ?_⟩ <;> (repeat' (first | exact trivial | exact rfl | exact fun _ _ => rfl | apply And.intro | (intro i hi; rcases i with _ | _ | i <;> first | rfl | (exfalso; omega) | (simp at hi; done) | (simp at hi; omega)) | exact fun _ _ => by simp))
  intro k ⟨hk, hn⟩
  conv => whnf
  repeat
    first
      | refine And.intro (by omega) ?_
      | refine And.intro rfl ?_
    conv => whnf
  refine ⟨fun hlt => ?_, fun hge => ?_⟩
  · have hlt : k < l.length := by simpa using hlt
    have hsk := hs k
    have no : colOk l k = false → colsOk l = false := fun q => by unfold colsOk; rw [allTo_no hlt q]; rfl
    have ye : colOk l k = true → ∀ i, i < k + 1 → colOk l i = true := fun q i hi => by
      rcases Nat.lt_or_ge i k with p | p
      · exact hn i p
      · obtain rfl : i = k := by omega
        exact q
    conv => whnf
    repeat' (first
      | (refine And.intro (by omega) ?_; conv => whnf)
      | (refine And.intro rfl ?_; conv => whnf)
      | (refine And.intro (Nat.le_of_ble_eq_true rfl) ?_; conv => whnf)
      | (refine And.intro (fun i hi => ⟨_, rfl⟩) ?_; conv => whnf)
      | (refine ⟨_, _, _, .flat _ _ rfl (isname_ok (l.getD k default) hsk) rfl, ?_⟩; conv => whnf)
      | (refine ⟨_, _, _, .flat _ _ rfl (contains_any l (l.getD k default) k (by omega)) rfl, ?_⟩; conv => whnf)
      | (refine ⟨_, _, _, .flat _ _ rfl (ACall.arg ?harg (isname_ok (l.getD k default) hsk)) rfl, ?_⟩; (case harg => (repeat' (first | exact trivial | exact rfl | exact fun _ _ => rfl | apply And.intro | (intro i hi; rcases i with _ | _ | i <;> first | rfl | (exfalso; omega) | (simp at hi; done) | (simp at hi; omega)) | exact fun _ _ => by simp))); (conv => whnf))
      | (refine ⟨_, _, _, .flat _ _ rfl (ACall.arg ?harg (contains_any l (l.getD k default) k (by omega))) rfl, ?_⟩; (case harg => (repeat' (first | exact trivial | exact rfl | exact fun _ _ => rfl | apply And.intro | (intro i hi; rcases i with _ | _ | i <;> first | rfl | (exfalso; omega) | (simp at hi; done) | (simp at hi; omega)) | exact fun _ _ => by simp))); (conv => whnf))
      | (refine And.intro (fun hq => ?_) (fun hq => ?_) <;> (first | (exfalso; simp at hq; done) | (exfalso; simp at *; omega) | (exfalso; simp_all; done) | (conv => whnf)))
      | (refine And.intro (by first | (show _ * 1 ≤ 140737488355328; omega) | (show _ * 8 ≤ 140737488355328; omega) | (show _ * 24 ≤ 140737488355328; omega) | (show _ * 16 ≤ 140737488355328; omega) | (show _ * 32 ≤ 140737488355328; omega) | (show _ * 120 ≤ 140737488355328; omega) | (show _ * 280 ≤ 140737488355328; omega) | (show _ * 72 ≤ 140737488355328; omega) | (show _ * 48 ≤ 140737488355328; omega)) ?_; conv => whnf)
      | (refine And.intro (by simp at *; omega) ?_; conv => whnf)
      | (refine fun hq => ?_; conv => whnf)
      | fail)
    all_goals first
      | (refine ⟨k + 1, ⟨by omega, ye (by unfold colOk idS; simp at *; grind)⟩, by dsimp only; omega, [], ?_⟩; (conv => whnf); exact ⟨rfl, ⟨by (repeat' (first | exact trivial | exact rfl | exact fun _ _ => rfl | apply And.intro | (intro i hi; rcases i with _ | _ | i <;> first | rfl | (exfalso; omega) | (simp at hi; done) | (simp at hi; omega)) | exact fun _ _ => by simp)), by (repeat' (first | exact trivial | exact rfl | exact fun _ _ => rfl | apply And.intro | (intro i hi; rcases i with _ | _ | i <;> first | rfl | (exfalso; omega) | (simp at hi; done) | (simp at hi; omega)) | exact fun _ _ => by simp)), trivial⟩, trivial⟩)
      | skip
    all_goals first
      | (refine And.intro (congrArg Value.bool ?_) trivial; rw [no (by unfold colOk idS; simp at *; grind)])
      | skip
  · have hge : ¬ k < l.length := by simpa using hge
    have ha := (allTo_iff (colOk l) l.length).2 fun i hi => hn i (by omega)
    conv => whnf
    repeat' (first
      | (refine And.intro (by omega) ?_; conv => whnf)
      | (refine And.intro rfl ?_; conv => whnf)
      | (refine And.intro (Nat.le_of_ble_eq_true rfl) ?_; conv => whnf)
      | (refine And.intro (fun i hi => ⟨_, rfl⟩) ?_; conv => whnf)
      | (refine And.intro (fun hq => ?_) (fun hq => ?_) <;> (first | (exfalso; simp at hq; done) | (exfalso; simp at *; omega) | (exfalso; simp_all; done) | (conv => whnf)))
      | (refine And.intro (by first | (show _ * 1 ≤ 140737488355328; omega) | (show _ * 8 ≤ 140737488355328; omega) | (show _ * 24 ≤ 140737488355328; omega) | (show _ * 16 ≤ 140737488355328; omega) | (show _ * 32 ≤ 140737488355328; omega) | (show _ * 120 ≤ 140737488355328; omega) | (show _ * 280 ≤ 140737488355328; omega) | (show _ * 72 ≤ 140737488355328; omega) | (show _ * 48 ≤ 140737488355328; omega)) ?_; conv => whnf)
      | (refine And.intro (by simp at *; omega) ?_; conv => whnf)
      | (refine fun hq => ?_; conv => whnf)
      | fail)
    all_goals first
      | exact trivial
      | (refine And.intro (congrArg Value.bool ?_) trivial; grind [colsOk])
      | (refine And.intro (congrArg Value.bool ?_) trivial; simp_all [colsOk]; done)
      | (refine And.intro (congrArg Value.bool ?_) trivial; simp [colsOk] at *; omega)
      | skip
end Go.Proofs.Ytglmohcnmpbfmaa
