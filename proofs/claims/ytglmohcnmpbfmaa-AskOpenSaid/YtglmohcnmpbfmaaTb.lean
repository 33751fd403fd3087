/- slices' stable sort of rows: insertion sort. -/
import Derived.Test.YtglmohcnmpbfmaaTa
set_option linter.unusedVariables false
set_option linter.unusedSimpArgs false
namespace Go.Proofs.Ytglmohcnmpbfmaa
open Go.RowKit
set_option maxRecDepth 100000
set_option maxHeartbeats 1000000
def bub (cmp : List Int → List Int → Int) (a : Nat) : Nat → List (List Int) → List (List Int)
  | 0, M => M
  | j + 1, M => if a < j + 1 ∧ cmp (M.getD (j + 1) []) (M.getD j []) < 0 then bub cmp a j (swap2 M (j + 1) j) else M
def insS (cmp : List Int → List Int → Int) (a : Nat) : Nat → List (List Int) → List (List Int)
  | 0, M => M
  | k + 1, M => bub cmp a (a + 1 + k) (insS cmp a k M)
theorem bub_len (cmp : List Int → List Int → Int) (a : Nat) : ∀ (j : Nat) (M : List (List Int)), (bub cmp a j M).length = M.length
  | 0, _ => rfl
  | j + 1, M => by
    unfold bub
    split
    · rw [bub_len cmp a j, swap2_len]
    · rfl
theorem insS_len (cmp : List Int → List Int → Int) (a : Nat) : ∀ (k : Nat) (M : List (List Int)), (insS cmp a k M).length = M.length
  | 0, _ => rfl
  | k + 1, M => by unfold insS; rw [bub_len, insS_len cmp a k]
def AllP (P : List Int → Prop) (M : List (List Int)) : Prop := ∀ k, k < M.length → P (M.getD k [])
theorem allP_swap {P : List Int → Prop} {M : List (List Int)} (h : AllP P M) (i j : Nat) (hi : i < M.length) (hj : j < M.length) : AllP P (swap2 M i j) := fun k hk => by
  rw [swap2_len] at hk
  rw [swap2_getD M i j k hi hj]
  split
  · exact h i hi
  · split
    · exact h j hj
    · exact h k hk
theorem allP_bub {P : List Int → Prop} (cmp : List Int → List Int → Int) (a : Nat) : ∀ (j : Nat) (M : List (List Int)), j < M.length → AllP P M → AllP P (bub cmp a j M)
  | 0, _, _, h => h
  | j + 1, M, hj, h => by
    unfold bub
    split
    · exact allP_bub cmp a j _ (by rw [swap2_len]; omega) (allP_swap h _ _ hj (by omega))
    · exact h
theorem allP_insS {P : List Int → Prop} (cmp : List Int → List Int → Int) (a : Nat) : ∀ (k : Nat) (M : List (List Int)), a + k < M.length → AllP P M → AllP P (insS cmp a k M)
  | 0, _, _, h => h
  | k + 1, M, hk, h => by
    unfold insS
    exact allP_bub cmp a _ _ (by rw [insS_len]; omega) (allP_insS cmp a k M (by omega) h)
theorem insort_ok (P : List Int → Prop) (cmp : List Int → List Int → Int) (f : Nat) (c0 c1 c2 : DV)
    (hc : ∀ x y, P x → P y → ACall Try.prog f [.d (i64L x), .d (i64L y), .dp [c0, c1, c2]] [] (exI .i64 (cmp x y)) [])
    (L : List (List Int)) (a b : Nat) (hL : L.length ≤ 1000000) (hP : AllP P L) (ha : a < b) (hb : b ≤ L.length) : ACall Try.prog 243 [.own 901 0, exI .i64 a, exI .i64 b, .fn (.func f) [] [.dp [c0, c1, c2]]] (rowsH L) (.tup []) (rowsH (insS cmp a (b - a - 1) L)) := by
  refine acall_on (mu := []) [] [] mixed Try.func243 rfl rfl rfl ?_
  conv => whnf
  repeat' (first
    | (refine And.intro (by omega) ?_; conv => whnf)
    | (refine And.intro rfl ?_; conv => whnf)
    | (refine And.intro (Nat.le_of_ble_eq_true rfl) ?_; conv => whnf)
    | (refine And.intro (fun i hi => ⟨_, rfl⟩) ?_; conv => whnf)
    | (refine And.intro (fun hq => ?_) (fun hq => ?_) <;> (first | (exfalso; simp at hq; done) | (exfalso; simp at *; omega) | (exfalso; simp_all; done) | (conv => whnf)))
    | (refine And.intro (by first | (show _ * 1 ≤ 140737488355328; omega) | (show _ * 8 ≤ 140737488355328; omega) | (show _ * 24 ≤ 140737488355328; omega) | (show _ * 16 ≤ 140737488355328; omega) | (show _ * 32 ≤ 140737488355328; omega) | (show _ * 120 ≤ 140737488355328; omega) | (show _ * 280 ≤ 140737488355328; omega) | (show _ * 72 ≤ 140737488355328; omega) | (show _ * 48 ≤ 140737488355328; omega)) ?_; conv => whnf)
    | (refine And.intro (by simp at *; omega) ?_; conv => whnf)
    | (refine fun hq => ?_; conv => whnf)
    | fail)
  refine ⟨[], ?_⟩
  conv => whnf
  refine ⟨Nat, fun k => a + 1 + k ≤ b, fun k => b - k, fun k => [(8, exI .i64 (a + 1 + k : Nat))], fun k => rowsH (insS cmp a k L), ⟨0, by omega, ?_⟩, ?_⟩
  · skip
    refine ⟨[], ?_⟩
    conv => whnf
    refine ⟨rfl, ?_, ?_⟩ <;> (repeat' (first | exact trivial | exact rfl | exact fun _ _ => rfl | apply And.intro | (intro i hi; rcases i with _ | _ | i <;> first | rfl | (exfalso; omega) | (simp at hi; done) | (simp at hi; omega)) | exact fun _ _ => by simp))
  intro k hk
  conv => whnf
  have hl := insS_len cmp a k L
  rcases Nat.lt_or_ge (a + 1 + k) b with hlt | hge
  · have hPk := allP_insS cmp a k L (by omega) hP
    have hs : insS cmp a (k + 1) L = bub cmp a (a + 1 + k) (insS cmp a k L) := rfl
    generalize insS cmp a k L = M at hl hs hPk ⊢
    conv => whnf
    repeat' (first
      | (refine And.intro (by omega) ?_; conv => whnf)
      | (refine And.intro rfl ?_; conv => whnf)
      | (refine And.intro (Nat.le_of_ble_eq_true rfl) ?_; conv => whnf)
      | (refine And.intro (fun i hi => ⟨_, rfl⟩) ?_; conv => whnf)
      | (refine And.intro (fun hq => ?_) (fun hq => ?_) <;> (first | (exfalso; simp at hq; done) | (exfalso; simp at *; omega) | (exfalso; simp_all; done) | (conv => whnf)))
      | (refine And.intro (by first | (show _ * 1 ≤ 140737488355328; omega) | (show _ * 8 ≤ 140737488355328; omega) | (show _ * 24 ≤ 140737488355328; omega) | (show _ * 16 ≤ 140737488355328; omega) | (show _ * 32 ≤ 140737488355328; omega) | (show _ * 120 ≤ 140737488355328; omega) | (show _ * 280 ≤ 140737488355328; omega) | (show _ * 72 ≤ 140737488355328; omega) | (show _ * 48 ≤ 140737488355328; omega)) ?_; conv => whnf)
      | (refine And.intro (by simp at *; omega) ?_; conv => whnf)
      | (refine fun hq => ?_; conv => whnf)
      | fail)
    refine ⟨[], ?_⟩
    conv => whnf
    refine ⟨List (List Int) × Nat, fun x => bub cmp a x.2 x.1 = insS cmp a (k + 1) L ∧ x.1.length = L.length ∧ AllP P x.1 ∧ a ≤ x.2 ∧ x.2 ≤ a + 1 + k, fun x => x.2, fun x => [(9, exI .i64 x.2)], fun x => rowsH x.1, ⟨(M, a + 1 + k), ⟨hs.symm, hl, hPk, by dsimp only; omega, Nat.le_refl _⟩, ?_⟩, ?_⟩
    · skip
      refine ⟨[], ?_⟩
      conv => whnf
      refine ⟨rfl, ?_, ?_⟩ <;> (repeat' (first | exact trivial | exact rfl | exact fun _ _ => rfl | apply And.intro | (intro i hi; rcases i with _ | _ | i <;> first | rfl | (exfalso; omega) | (simp at hi; done) | (simp at hi; omega)) | exact fun _ _ => by simp))
    rintro ⟨N, j⟩ ⟨hR, hl2, hPN, hj1, hj2⟩
    dsimp only at hR hl2 hPN hj1 hj2
    rcases Nat.lt_or_ge a j with hja | hja
    · obtain ⟨t, rfl⟩ : ∃ t, j = t + 1 := ⟨j - 1, by omega⟩
      have et : (((t + 1 : Nat) : Int) - 1).toNat = t := by omega
      have q := hc (N.getD (((t + 1 : Nat) : Int)).toNat []) (N.getD (((t + 1 : Nat) : Int) - 1).toNat []) (hPN (t + 1) (by omega)) (by rw [et]; exact hPN t (by omega))
      by_cases hx : cmp (N.getD (((t + 1 : Nat) : Int)).toNat []) (N.getD (((t + 1 : Nat) : Int) - 1).toNat []) < 0
      · have hb1 : bub cmp a (t + 1) N = bub cmp a t (swap2 N (t + 1) t) := by
          rw [et] at hx
          exact if_pos ⟨hja, hx⟩
        rw [hb1] at hR
        have hs2 := swap2_len N (t + 1) t
        have hP2 := allP_swap hPN (t + 1) t (by omega) (by omega)
        conv => whnf
        repeat' (first
          | (refine And.intro (by omega) ?_; conv => whnf)
          | (refine And.intro rfl ?_; conv => whnf)
          | (refine And.intro (Nat.le_of_ble_eq_true rfl) ?_; conv => whnf)
          | (refine And.intro (fun i hi => ⟨_, rfl⟩) ?_; conv => whnf)
          | (refine ⟨_, _, _, .flat _ _ rfl (q) rfl, ?_⟩; conv => whnf)
          | (refine ⟨_, _, _, .flat _ _ rfl (ACall.arg ?harg (q)) rfl, ?_⟩; (case harg => (repeat' (first | exact trivial | exact rfl | exact fun _ _ => rfl | apply And.intro | (intro i hi; rcases i with _ | _ | i <;> first | rfl | (exfalso; omega) | (simp at hi; done) | (simp at hi; omega)) | exact fun _ _ => by simp))); (conv => whnf))
          | (refine And.intro (fun hq => ?_) (fun hq => ?_) <;> (first | (exfalso; simp at hq; done) | (exfalso; simp at *; omega) | (exfalso; simp_all; done) | (conv => whnf)))
          | (refine And.intro (by first | (show _ * 1 ≤ 140737488355328; omega) | (show _ * 8 ≤ 140737488355328; omega) | (show _ * 24 ≤ 140737488355328; omega) | (show _ * 16 ≤ 140737488355328; omega) | (show _ * 32 ≤ 140737488355328; omega) | (show _ * 120 ≤ 140737488355328; omega) | (show _ * 280 ≤ 140737488355328; omega) | (show _ * 72 ≤ 140737488355328; omega) | (show _ * 48 ≤ 140737488355328; omega)) ?_; conv => whnf)
          | (refine And.intro (by simp at *; omega) ?_; conv => whnf)
          | (refine fun hq => ?_; conv => whnf)
          | fail)
        refine ⟨(swap2 N (t + 1) t, t), ⟨hR, by rw [hs2]; exact hl2, hP2, by dsimp only; omega, by dsimp only; omega⟩, by dsimp only; omega, ?_⟩
        refine ⟨[], ?_⟩
        conv => whnf
        refine ⟨rfl, ?_, ?_⟩ <;> (repeat' (first | exact trivial | (exact congrArg (Value.int .i64) (by (try dsimp only); omega)) | (exact swap_same N _ _ (t + 1) t (by (try dsimp only); omega) (by (try dsimp only); omega) (by omega) (by omega)) | (exact hs2.symm) | exact rfl | exact fun _ _ => rfl | apply And.intro | (intro i hi; rcases i with _ | _ | i <;> first | rfl | (exfalso; omega) | (simp at hi; done) | (simp at hi; omega)) | exact fun _ _ => by simp))
      · have hb1 : bub cmp a (t + 1) N = N := by
          rw [et] at hx
          exact if_neg fun z => hx z.2
        rw [hb1] at hR
        conv => whnf
        repeat' (first
          | (refine And.intro (by omega) ?_; conv => whnf)
          | (refine And.intro rfl ?_; conv => whnf)
          | (refine And.intro (Nat.le_of_ble_eq_true rfl) ?_; conv => whnf)
          | (refine And.intro (fun i hi => ⟨_, rfl⟩) ?_; conv => whnf)
          | (refine ⟨_, _, _, .flat _ _ rfl (q) rfl, ?_⟩; conv => whnf)
          | (refine ⟨_, _, _, .flat _ _ rfl (ACall.arg ?harg (q)) rfl, ?_⟩; (case harg => (repeat' (first | exact trivial | exact rfl | exact fun _ _ => rfl | apply And.intro | (intro i hi; rcases i with _ | _ | i <;> first | rfl | (exfalso; omega) | (simp at hi; done) | (simp at hi; omega)) | exact fun _ _ => by simp))); (conv => whnf))
          | (refine And.intro (fun hq => ?_) (fun hq => ?_) <;> (first | (exfalso; simp at hq; done) | (exfalso; simp at *; omega) | (exfalso; simp_all; done) | (conv => whnf)))
          | (refine And.intro (by first | (show _ * 1 ≤ 140737488355328; omega) | (show _ * 8 ≤ 140737488355328; omega) | (show _ * 24 ≤ 140737488355328; omega) | (show _ * 16 ≤ 140737488355328; omega) | (show _ * 32 ≤ 140737488355328; omega) | (show _ * 120 ≤ 140737488355328; omega) | (show _ * 280 ≤ 140737488355328; omega) | (show _ * 72 ≤ 140737488355328; omega) | (show _ * 48 ≤ 140737488355328; omega)) ?_; conv => whnf)
          | (refine And.intro (by simp at *; omega) ?_; conv => whnf)
          | (refine fun hq => ?_; conv => whnf)
          | fail)
        refine ⟨k + 1, by omega, by dsimp only; omega, ?_⟩
        subst hR
        refine ⟨[], ?_⟩
        conv => whnf
        refine ⟨rfl, ?_, ?_⟩ <;> (repeat' (first | exact trivial | (exact congrArg (Value.int .i64) (by (try dsimp only); omega)) | exact rfl | exact fun _ _ => rfl | apply And.intro | (intro i hi; rcases i with _ | _ | i <;> first | rfl | (exfalso; omega) | (simp at hi; done) | (simp at hi; omega)) | exact fun _ _ => by simp))
    · obtain rfl : j = a := by omega
      have hb1 : bub cmp j j N = N := by
        cases j with
        | zero => rfl
        | succ j => exact if_neg fun z => absurd z.1 (Nat.lt_irrefl _)
      rw [hb1] at hR
      conv => whnf
      repeat' (first
        | (refine And.intro (by omega) ?_; conv => whnf)
        | (refine And.intro rfl ?_; conv => whnf)
        | (refine And.intro (Nat.le_of_ble_eq_true rfl) ?_; conv => whnf)
        | (refine And.intro (fun i hi => ⟨_, rfl⟩) ?_; conv => whnf)
        | (refine And.intro (fun hq => ?_) (fun hq => ?_) <;> (first | (exfalso; simp at hq; done) | (exfalso; simp at *; omega) | (exfalso; simp_all; done) | (conv => whnf)))
        | (refine And.intro (by first | (show _ * 1 ≤ 140737488355328; omega) | (show _ * 8 ≤ 140737488355328; omega) | (show _ * 24 ≤ 140737488355328; omega) | (show _ * 16 ≤ 140737488355328; omega) | (show _ * 32 ≤ 140737488355328; omega) | (show _ * 120 ≤ 140737488355328; omega) | (show _ * 280 ≤ 140737488355328; omega) | (show _ * 72 ≤ 140737488355328; omega) | (show _ * 48 ≤ 140737488355328; omega)) ?_; conv => whnf)
        | (refine And.intro (by simp at *; omega) ?_; conv => whnf)
        | (refine fun hq => ?_; conv => whnf)
        | fail)
      refine ⟨k + 1, by omega, by dsimp only; omega, ?_⟩
      subst hR
      refine ⟨[], ?_⟩
      conv => whnf
      refine ⟨rfl, ?_, ?_⟩ <;> (repeat' (first | exact trivial | (exact congrArg (Value.int .i64) (by (try dsimp only); omega)) | exact rfl | exact fun _ _ => rfl | apply And.intro | (intro i hi; rcases i with _ | _ | i <;> first | rfl | (exfalso; omega) | (simp at hi; done) | (simp at hi; omega)) | exact fun _ _ => by simp))
  · obtain rfl : k = b - a - 1 := by omega
    conv => whnf
    repeat' (first
      | (refine And.intro (by omega) ?_; conv => whnf)
      | (refine And.intro rfl ?_; conv => whnf)
      | (refine And.intro (Nat.le_of_ble_eq_true rfl) ?_; conv => whnf)
      | (refine And.intro (fun i hi => ⟨_, rfl⟩) ?_; conv => whnf)
      | (refine And.intro (fun hq => ?_) (fun hq => ?_) <;> (first | (exfalso; simp at hq; done) | (exfalso; simp at *; omega) | (exfalso; simp_all; done) | (conv => whnf)))
      | (refine And.intro (by first | (show _ * 1 ≤ 140737488355328; omega) | (show _ * 8 ≤ 140737488355328; omega) | (show _ * 24 ≤ 140737488355328; omega) | (show _ * 16 ≤ 140737488355328; omega) | (show _ * 32 ≤ 140737488355328; omega) | (show _ * 120 ≤ 140737488355328; omega) | (show _ * 280 ≤ 140737488355328; omega) | (show _ * 72 ≤ 140737488355328; omega) | (show _ * 48 ≤ 140737488355328; omega)) ?_; conv => whnf)
      | (refine And.intro (by simp at *; omega) ?_; conv => whnf)
      | (refine fun hq => ?_; conv => whnf)
      | fail)
    all_goals first | exact trivial | exact ⟨rfl, by (repeat' (first | exact trivial | exact rfl | exact fun _ _ => rfl | apply And.intro | (intro i hi; rcases i with _ | _ | i <;> first | rfl | (exfalso; omega) | (simp at hi; done) | (simp at hi; omega)) | exact fun _ _ => by simp)), trivial⟩ | exact ⟨by (repeat' (first | exact trivial | exact rfl | exact fun _ _ => rfl | apply And.intro | (intro i hi; rcases i with _ | _ | i <;> first | rfl | (exfalso; omega) | (simp at hi; done) | (simp at hi; omega)) | exact fun _ _ => by simp)), trivial⟩ | exact ⟨by (repeat' (first | exact trivial | exact rfl | exact fun _ _ => rfl | apply And.intro | (intro i hi; rcases i with _ | _ | i <;> first | rfl | (exfalso; omega) | (simp at hi; done) | (simp at hi; omega)) | exact fun _ _ => by simp)), by (repeat' (first | exact trivial | exact rfl | exact fun _ _ => rfl | apply And.intro | (intro i hi; rcases i with _ | _ | i <;> first | rfl | (exfalso; omega) | (simp at hi; done) | (simp at hi; omega)) | exact fun _ _ => by simp))⟩ | exact ⟨rfl, by (repeat' (first | exact trivial | exact rfl | exact fun _ _ => rfl | apply And.intro | (intro i hi; rcases i with _ | _ | i <;> first | rfl | (exfalso; omega) | (simp at hi; done) | (simp at hi; omega)) | exact fun _ _ => by simp)), by (repeat' (first | exact trivial | exact rfl | exact fun _ _ => rfl | apply And.intro | (intro i hi; rcases i with _ | _ | i <;> first | rfl | (exfalso; omega) | (simp at hi; done) | (simp at hi; omega)) | exact fun _ _ => by simp))⟩
end Go.Proofs.Ytglmohcnmpbfmaa
