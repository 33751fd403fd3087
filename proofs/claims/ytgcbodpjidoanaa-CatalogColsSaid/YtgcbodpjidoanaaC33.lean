/- CatalogCols. -/
import Derived.Test.YtgcbodpjidoanaaC32
set_option linter.unusedVariables false
set_option linter.unusedSimpArgs false
namespace Go.Proofs.Ytgcbodpjidoanaa
open Go.RowKit
set_option maxRecDepth 100000
set_option maxHeartbeats 1000000
def seekP (l : List ByteArray) (s : ByteArray) (x : Nat × Int × Bool) : Prop := x.1 ≤ l.length ∧ ((x.2.2 = false ∧ x.2.1 = 0 ∧ ∀ j, x.1 ≤ j → j < l.length → l.getD j default ≠ s) ∨
  (x.2.2 = true ∧ ∃ j, x.1 ≤ j ∧ j < l.length ∧ x.2.1 = j + 1 ∧ l.getD j default = s ∧ ∀ i, x.1 ≤ i → i < j → l.getD i default ≠ s))
theorem seek_end {l : List ByteArray} {s : ByteArray} {w : Int} {b : Bool} (h : seekP l s (0, w, b)) : w = idxN l s l.length + 1 ∧ b = decide (0 ≤ idxN l s l.length) := by
  obtain ⟨_, ⟨h1, h2, h3⟩ | ⟨h1, j, _, h3, h4, h5, h6⟩⟩ := h
  · simp only at h1 h2
    rw [idx_no fun i hi => h3 i (Nat.zero_le _) hi, h1, h2]
    exact ⟨rfl, rfl⟩
  · simp only at h1 h4
    rw [idx_at h3 (fun i hi => h6 i (Nat.zero_le _) hi) h5, h1, h4]
    exact ⟨rfl, by simp⟩
theorem seek_hit {l : List ByteArray} {s : ByteArray} {k : Nat} {w : Int} {b : Bool} (h : seekP l s (k + 1, w, b)) (e : l.getD k default = s) : seekP l s (k, k + 1, true) :=
  ⟨by have := h.1; simp only at this ⊢; omega, .inr ⟨rfl, k, Nat.le_refl k, h.1, rfl, e, fun i h1 h2 => absurd (Nat.lt_of_le_of_lt h1 h2) (Nat.lt_irrefl _)⟩⟩
theorem seek_miss {l : List ByteArray} {s : ByteArray} {k : Nat} {w : Int} {b : Bool} (h : seekP l s (k + 1, w, b)) (e : l.getD k default ≠ s) : seekP l s (k, w, b) := by
  have at' : ∀ {j : Nat}, k ≤ j → j = k ∨ k + 1 ≤ j := fun h => by omega
  obtain ⟨h0, ⟨h1, h2, h3⟩ | ⟨h1, j, h2, h3, h4, h5, h6⟩⟩ := h
  · exact ⟨by simp only at h0 ⊢; omega, .inl ⟨h1, h2, fun j hj hl => by rcases at' hj with rfl | q; exact e; exact h3 j q hl⟩⟩
  · exact ⟨by simp only at h0 ⊢; omega, .inr ⟨h1, j, by simp only at h2 ⊢; omega, h3, h4, h5, fun i hi hl => by rcases at' hi with rfl | q; exact e; exact h6 i q hl⟩⟩
theorem cols_ok (t : TableD) (nm : ByteArray) : ACall Try.prog 6 [agD (tableL t), exS nm] [] (exB true) [] := by
  refine acall_of (mu := []) mixed Try.func6 rfl rfl rfl ?_
  by_cases hid : nm = idS
  · have c0 : ∀ h : t.cols.length ≤ 1000, ACall Try.prog 31 [agD (tableL t), exS nm] [] (.tup [exI .i64 0, exB true]) [] := fun h => by
      have := col_ok t nm h
      rwa [show colI t nm = 0 by simp [colI, hid], show colB t nm = true by simp [colB, hid]] at this
    have hd : decide (nm = ⟨#[105, 100]⟩) = true := decide_eq_true hid
    conv => whnf
    repeat' (first
      | (refine And.intro (by omega) ?_; conv => whnf)
      | (refine And.intro rfl ?_; conv => whnf)
      | (refine And.intro (Nat.le_of_ble_eq_true rfl) ?_; conv => whnf)
      | (refine And.intro (fun i hi => ⟨_, rfl⟩) ?_; conv => whnf)
      | (refine ⟨_, _, _, .flat _ _ rfl (alive20) rfl, ?_⟩; conv => whnf)
      | (refine ⟨_, _, _, .flat _ _ rfl (c0 (by simp at *; omega)) rfl, ?_⟩; conv => whnf)
      | (refine ⟨_, _, _, .flat _ _ rfl (ACall.arg ?harg (alive20)) rfl, ?_⟩; (case harg => (repeat' (first | exact trivial | exact rfl | exact fun _ _ => rfl | apply And.intro | (intro i hi; rcases i with _ | _ | i <;> first | rfl | (exfalso; omega) | (simp at hi; done) | (simp at hi; omega)) | exact fun _ _ => by simp))); (conv => whnf))
      | (refine ⟨_, _, _, .flat _ _ rfl (ACall.arg ?harg (c0 (by simp at *; omega))) rfl, ?_⟩; (case harg => (repeat' (first | exact trivial | exact rfl | exact fun _ _ => rfl | apply And.intro | (intro i hi; rcases i with _ | _ | i <;> first | rfl | (exfalso; omega) | (simp at hi; done) | (simp at hi; omega)) | exact fun _ _ => by simp))); (conv => whnf))
      | (refine And.intro (fun hq => ?_) (fun hq => ?_) <;> (first | (exfalso; simp at hq; done) | (exfalso; simp at *; omega) | (exfalso; simp_all; done) | (conv => whnf)))
      | (refine And.intro (by simp at *; omega) ?_; conv => whnf)
      | fail)
    · trivial
    have hl : t.cols.length ≤ 50 := by simp at *; omega
    refine ⟨[], ?_⟩
    conv => whnf
    refine ⟨Unit, fun _ => True, fun _ => 0, fun _ => [(9, exI .i64 (t.cols.length - 1)), (7, exI .i64 0), (8, exB (decide (nm = idS)))], fun _ => [], ⟨(), trivial, ?_⟩, ?_⟩
    · skip
      conv => whnf
      exact ⟨rfl, ⟨by (repeat' (first | exact trivial | exact rfl | exact fun _ _ => rfl | apply And.intro | (intro i hi; rcases i with _ | _ | i <;> first | rfl | (exfalso; omega) | (simp at hi; done) | (simp at hi; omega)) | exact fun _ _ => by simp)), by (repeat' (first | exact trivial | exact rfl | exact fun _ _ => rfl | apply And.intro | (intro i hi; rcases i with _ | _ | i <;> first | rfl | (exfalso; omega) | (simp at hi; done) | (simp at hi; omega)) | exact fun _ _ => by simp)), by (repeat' (first | exact trivial | exact rfl | exact fun _ _ => rfl | apply And.intro | (intro i hi; rcases i with _ | _ | i <;> first | rfl | (exfalso; omega) | (simp at hi; done) | (simp at hi; omega)) | exact fun _ _ => by simp)), trivial⟩, trivial⟩
    intro _ _
    conv => whnf
    repeat' (first
      | (refine And.intro (by omega) ?_; conv => whnf)
      | (refine And.intro rfl ?_; conv => whnf)
      | (refine And.intro (Nat.le_of_ble_eq_true rfl) ?_; conv => whnf)
      | (refine And.intro (fun i hi => ⟨_, rfl⟩) ?_; conv => whnf)
      | (refine ⟨_, _, _, .flat _ _ rfl (dims t (by omega)) rfl, ?_⟩; conv => whnf)
      | (refine ⟨_, _, _, .flat _ _ rfl (ACall.arg ?harg (dims t (by omega))) rfl, ?_⟩; (case harg => (repeat' (first | exact trivial | exact rfl | exact fun _ _ => rfl | apply And.intro | (intro i hi; rcases i with _ | _ | i <;> first | rfl | (exfalso; omega) | (simp at hi; done) | (simp at hi; omega)) | exact fun _ _ => by simp))); (conv => whnf))
      | (refine And.intro (fun hq => ?_) (fun hq => ?_) <;> (first | (exfalso; simp at hq; done) | (exfalso; simp at *; omega) | (exfalso; simp_all; done) | (conv => whnf)))
      | (refine And.intro (by simp at *; omega) ?_; conv => whnf)
      | fail)
    all_goals first
      | exact trivial
      | (refine And.intro (congrArg Value.bool ?_) trivial; grind)
      | (refine And.intro (congrArg Value.bool ?_) trivial; simp_all []; done)
      | (refine And.intro (congrArg Value.bool ?_) trivial; simp [] at *; omega)
      | skip
  · have c1 : ∀ h : t.cols.length ≤ 1000, ACall Try.prog 31 [agD (tableL t), exS nm] [] (.tup [exI .i64 (idxN t.cols nm t.cols.length + 1), exB (decide (0 ≤ idxN t.cols nm t.cols.length))]) [] := fun h => by
      have := col_ok t nm h
      rwa [show colI t nm = idxN t.cols nm t.cols.length + 1 by simp [colI, hid], show colB t nm = decide (0 ≤ idxN t.cols nm t.cols.length) by simp [colB, hid]] at this
    have hd : decide (nm = ⟨#[105, 100]⟩) = false := decide_eq_false hid
    conv => whnf
    repeat' (first
      | (refine And.intro (by omega) ?_; conv => whnf)
      | (refine And.intro rfl ?_; conv => whnf)
      | (refine And.intro (Nat.le_of_ble_eq_true rfl) ?_; conv => whnf)
      | (refine And.intro (fun i hi => ⟨_, rfl⟩) ?_; conv => whnf)
      | (refine ⟨_, _, _, .flat _ _ rfl (alive20) rfl, ?_⟩; conv => whnf)
      | (refine ⟨_, _, _, .flat _ _ rfl (c1 (by simp at *; omega)) rfl, ?_⟩; conv => whnf)
      | (refine ⟨_, _, _, .flat _ _ rfl (ACall.arg ?harg (alive20)) rfl, ?_⟩; (case harg => (repeat' (first | exact trivial | exact rfl | exact fun _ _ => rfl | apply And.intro | (intro i hi; rcases i with _ | _ | i <;> first | rfl | (exfalso; omega) | (simp at hi; done) | (simp at hi; omega)) | exact fun _ _ => by simp))); (conv => whnf))
      | (refine ⟨_, _, _, .flat _ _ rfl (ACall.arg ?harg (c1 (by simp at *; omega))) rfl, ?_⟩; (case harg => (repeat' (first | exact trivial | exact rfl | exact fun _ _ => rfl | apply And.intro | (intro i hi; rcases i with _ | _ | i <;> first | rfl | (exfalso; omega) | (simp at hi; done) | (simp at hi; omega)) | exact fun _ _ => by simp))); (conv => whnf))
      | (refine And.intro (fun hq => ?_) (fun hq => ?_) <;> (first | (exfalso; simp at hq; done) | (exfalso; simp at *; omega) | (exfalso; simp_all; done) | (conv => whnf)))
      | (refine And.intro (by simp at *; omega) ?_; conv => whnf)
      | fail)
    · trivial
    have hl : t.cols.length ≤ 50 := by simp at *; omega
    refine ⟨[], ?_⟩
    conv => whnf
    refine ⟨Nat × Int × Bool, seekP t.cols nm, fun x => x.1, fun x => [(9, exI .i64 (x.1 - 1)), (7, exI .i64 x.2.1), (8, exB x.2.2)], fun _ => [], ⟨(t.cols.length, 0, false), ⟨Nat.le_refl _, .inl ⟨rfl, rfl, fun j h1 h2 => absurd h2 (by omega)⟩⟩, ?_⟩, ?_⟩
    · rw [← hd]
      conv => whnf
      exact ⟨rfl, ⟨by (repeat' (first | exact trivial | exact rfl | exact fun _ _ => rfl | apply And.intro | (intro i hi; rcases i with _ | _ | i <;> first | rfl | (exfalso; omega) | (simp at hi; done) | (simp at hi; omega)) | exact fun _ _ => by simp)), by (repeat' (first | exact trivial | exact rfl | exact fun _ _ => rfl | apply And.intro | (intro i hi; rcases i with _ | _ | i <;> first | rfl | (exfalso; omega) | (simp at hi; done) | (simp at hi; omega)) | exact fun _ _ => by simp)), by (repeat' (first | exact trivial | exact rfl | exact fun _ _ => rfl | apply And.intro | (intro i hi; rcases i with _ | _ | i <;> first | rfl | (exfalso; omega) | (simp at hi; done) | (simp at hi; omega)) | exact fun _ _ => by simp)), trivial⟩, trivial⟩
    rintro ⟨k, w, b⟩ hp
    obtain _ | k := k
    · obtain ⟨rfl, rfl⟩ := seek_end hp
      conv => whnf
      repeat' (first
        | (refine And.intro (by omega) ?_; conv => whnf)
        | (refine And.intro rfl ?_; conv => whnf)
        | (refine And.intro (Nat.le_of_ble_eq_true rfl) ?_; conv => whnf)
        | (refine And.intro (fun i hi => ⟨_, rfl⟩) ?_; conv => whnf)
        | (refine ⟨_, _, _, .flat _ _ rfl (dims t (by omega)) rfl, ?_⟩; conv => whnf)
        | (refine ⟨_, _, _, .flat _ _ rfl (ACall.arg ?harg (dims t (by omega))) rfl, ?_⟩; (case harg => (repeat' (first | exact trivial | exact rfl | exact fun _ _ => rfl | apply And.intro | (intro i hi; rcases i with _ | _ | i <;> first | rfl | (exfalso; omega) | (simp at hi; done) | (simp at hi; omega)) | exact fun _ _ => by simp))); (conv => whnf))
        | (refine And.intro (fun hq => ?_) (fun hq => ?_) <;> (first | (exfalso; simp at hq; done) | (exfalso; simp at *; omega) | (exfalso; simp_all; done) | (conv => whnf)))
        | (refine And.intro (by simp at *; omega) ?_; conv => whnf)
        | fail)
      all_goals first
        | exact trivial
        | (refine And.intro (congrArg Value.bool ?_) trivial; grind)
        | (refine And.intro (congrArg Value.bool ?_) trivial; simp_all []; done)
        | (refine And.intro (congrArg Value.bool ?_) trivial; simp [] at *; omega)
        | skip
    · have hk : k + 1 ≤ t.cols.length := hp.1
      have ek : (((k + 1 : Nat) : Int) - 1).toNat = k := by omega
      conv => whnf
      repeat' (first
        | (refine And.intro (by omega) ?_; conv => whnf)
        | (refine And.intro rfl ?_; conv => whnf)
        | (refine And.intro (Nat.le_of_ble_eq_true rfl) ?_; conv => whnf)
        | (refine And.intro (fun i hi => ⟨_, rfl⟩) ?_; conv => whnf)
        | (refine ⟨_, _, _, .flat _ _ rfl (dims t (by omega)) rfl, ?_⟩; conv => whnf)
        | (refine ⟨_, _, _, .flat _ _ rfl (ACall.arg ?harg (dims t (by omega))) rfl, ?_⟩; (case harg => (repeat' (first | exact trivial | exact rfl | exact fun _ _ => rfl | apply And.intro | (intro i hi; rcases i with _ | _ | i <;> first | rfl | (exfalso; omega) | (simp at hi; done) | (simp at hi; omega)) | exact fun _ _ => by simp))); (conv => whnf))
        | (refine And.intro (fun hq => ?_) (fun hq => ?_) <;> (first | (exfalso; simp at hq; done) | (exfalso; simp at *; omega) | (exfalso; simp_all; done) | (conv => whnf)))
        | (refine And.intro (by simp at *; omega) ?_; conv => whnf)
        | fail)
      · have he : t.cols.getD k default = nm := by
          have q : decide (t.cols.getD (((k + 1 : Nat) : Int) - 1).toNat default = nm) = true := hq
          rw [ek] at q
          exact of_decide_eq_true q
        refine ⟨(k, k + 1, true), seek_hit hp he, Nat.lt_succ_self k, ?_⟩
        conv => whnf
        exact ⟨rfl, ⟨congrArg (Value.int .i64) (show ((k + 1 : Nat) : Int) - 1 - 1 = (k : Int) - 1 by omega), congrArg (Value.int .i64) (show ((k + 1 : Nat) : Int) - 1 + 1 = (k : Int) + 1 by omega), rfl, trivial⟩, trivial⟩
      · have he : t.cols.getD k default ≠ nm := by
          have q : decide (t.cols.getD (((k + 1 : Nat) : Int) - 1).toNat default = nm) = false := hq
          rw [ek] at q
          exact of_decide_eq_false q
        refine ⟨(k, w, b), seek_miss hp he, Nat.lt_succ_self k, ?_⟩
        conv => whnf
        exact ⟨rfl, ⟨congrArg (Value.int .i64) (show ((k + 1 : Nat) : Int) - 1 - 1 = (k : Int) - 1 by omega), rfl, rfl, trivial⟩, trivial⟩
end Go.Proofs.Ytgcbodpjidoanaa
