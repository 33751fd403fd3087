/- slices' stable sort of rows: symMerge. -/
import Derived.Test.YtglmohcnmpbfmaaTd
set_option linter.unusedVariables false
set_option linter.unusedSimpArgs false
namespace Go.Proofs.Ytglmohcnmpbfmaa
open Go.RowKit
set_option maxRecDepth 100000
set_option maxHeartbeats 1000000
theorem half_ok (a b : Nat) (h : a + b ≤ 4000000) : IntKind.i64.wrap ((IntKind.u64.wrap ((a : Int) + b)).fdiv (2 ^ min (Int.toNat 1) IntKind.u64.bits)) = (((a + b) / 2 : Nat) : Int) := by
  have : IntKind.u64.wrap ((a : Int) + b) = a + b := by
    simp [IntKind.wrap, IntKind.bits, IntKind.signed]; omega
  rw [this]
  show IntKind.i64.wrap (Int.fdiv _ 2) = _
  rw [Int.fdiv_eq_ediv_of_nonneg _ (by omega), IntWalk.i64_in _ ⟨by omega, by omega⟩]
  omega
theorem getD_X (A X Y B : List Rw) (k : Nat) (h1 : A.length ≤ k) (h2 : k < A.length + X.length) : (A ++ (X ++ (Y ++ B))).getD k [] = X.getD (k - A.length) [] := by
  rw [getD_app_r h1, getD_app_l (by omega)]
theorem getD_Y (A X Y B : List Rw) (k : Nat) (h1 : A.length + X.length ≤ k) (h2 : k < A.length + X.length + Y.length) : (A ++ (X ++ (Y ++ B))).getD k [] = Y.getD (k - (A.length + X.length)) [] := by
  rw [getD_app_r (by omega), getD_app_r (by omega), getD_app_l (by omega)]
  congr 1; omega
theorem getD_mem {L : List Rw} {k : Nat} (h : k < L.length) : L.getD k [] ∈ L := by
  rw [List.getD_eq_getElem?_getD, List.getElem?_eq_getElem h]; exact List.getElem_mem _
theorem srt_at {lt : Rw → Rw → Bool} {L : List Rw} (h : Srt lt L) (hir : ∀ x, lt x x = false) {i j : Nat} (hij : i ≤ j) (hj : j < L.length) : lt (L.getD j []) (L.getD i []) = false := by
  rcases Nat.lt_or_ge i j with q | q
  · have := List.pairwise_iff_getElem.1 h i j (by omega) hj q
    simpa [List.getD_eq_getElem?_getD, List.getElem?_eq_getElem hj, List.getElem?_eq_getElem (show i < L.length by omega)] using this
  · obtain rfl : i = j := by omega
    exact hir _
theorem mem_take_ix {L : List Rw} {t : Nat} {x : Rw} (h : x ∈ L.take t) : ∃ i, i < t ∧ i < L.length ∧ x = L.getD i [] := by
  obtain ⟨i, hi, rfl⟩ := List.getElem_of_mem h
  have h2 : i < t ∧ i < L.length := by simp at hi; omega
  exact ⟨i, h2.1, h2.2, by rw [List.getElem_take, List.getD_eq_getElem?_getD, List.getElem?_eq_getElem h2.2]; rfl⟩
theorem mem_drop_ix {L : List Rw} {t : Nat} {x : Rw} (h : x ∈ L.drop t) : ∃ i, t ≤ i ∧ i < L.length ∧ x = L.getD i [] := by
  obtain ⟨i, hi, rfl⟩ := List.getElem_of_mem h
  have h2 : t + i < L.length := by simp at hi; omega
  exact ⟨t + i, by omega, h2, by rw [List.getElem_drop, List.getD_eq_getElem?_getD, List.getElem?_eq_getElem h2]; rfl⟩
theorem drop_cons (L : List Rw) {t : Nat} (h : t < L.length) : L.drop t = L.getD t [] :: L.drop (t + 1) := by
  rw [List.drop_eq_getElem_cons h, List.getD_eq_getElem?_getD, List.getElem?_eq_getElem h]; rfl
theorem take_snoc (L : List Rw) {t : Nat} (h : t < L.length) : L.take (t + 1) = L.take t ++ [L.getD t []] := by
  rw [List.take_add_one, List.getElem?_eq_getElem h, List.getD_eq_getElem?_getD, List.getElem?_eq_getElem h]; rfl
section
variable {lt : Rw → Rw → Bool}
theorem mrg_head (x : Rw) (Y : List Rw) (t : Nat) (h1 : ∀ k, k < t → lt (Y.getD k []) x = true) (h2 : ∀ k, t ≤ k → k < Y.length → lt (Y.getD k []) x = false) : mrg lt [x] Y = Y.take t ++ x :: Y.drop t := by
  have e := mrg_cut (lt := lt) [x] (Y.drop t) _ [] (Y.take t) rfl (fun r hr l hl => by
    obtain ⟨i, q1, q2, rfl⟩ := mem_take_ix hr
    simp only [List.mem_singleton] at hl; subst hl
    exact h1 i q1) (fun l hl => by cases hl)
  rw [List.take_append_drop, mrg_nil, List.nil_append] at e
  rw [e]
  congr 1
  rcases Nat.lt_or_ge t Y.length with q | q
  · rw [drop_cons Y q, mrg_ge _ _ (h2 t (Nat.le_refl _) q), mrg_nil]
  · rw [List.drop_eq_nil_of_le q, mrg_nil']
theorem mrg_last (y : Rw) (X : List Rw) (t : Nat) (h1 : ∀ k, k < t → k < X.length → lt y (X.getD k []) = false) (h2 : ∀ k, t ≤ k → k < X.length → lt y (X.getD k []) = true) : mrg lt X [y] = X.take t ++ y :: X.drop t := by
  have e := mrg_cut (lt := lt) (X.drop t) [y] _ (X.take t) [] rfl (fun r hr => by cases hr) (fun l hl r hr => by
    obtain ⟨i, q1, q2, rfl⟩ := mem_take_ix hl
    simp only [List.mem_singleton] at hr; subst hr
    exact h1 i q1 q2)
  rw [List.take_append_drop, mrg_nil', List.nil_append] at e
  rw [e]
  congr 1
  rcases Nat.lt_or_ge t X.length with q | q
  · rw [drop_cons X q, mrg_lt _ _ (h2 t (Nat.le_refl _) q), mrg_nil']
  · rw [List.drop_eq_nil_of_le q, mrg_nil]
/-- where both sides are cut at the place that symMerge finds -/
theorem mrg_sym (H : Swo lt) (X Y : List Rw) (t u : Nat) (hX : Srt lt X) (hY : Srt lt Y) (h1 : t < X.length → 0 < u → u ≤ Y.length ∧ lt (Y.getD (u - 1) []) (X.getD t []) = true) (h2 : 0 < t → u < Y.length → t ≤ X.length ∧ lt (Y.getD u []) (X.getD (t - 1) []) = false) :
    mrg lt X Y = mrg lt (X.take t) (Y.take u) ++ mrg lt (X.drop t) (Y.drop u) := by
  have e := mrg_cut (lt := lt) (X.drop t) (Y.drop u) _ (X.take t) (Y.take u) rfl (fun r hr l hl => by
    obtain ⟨i, q1, q2, rfl⟩ := mem_take_ix hr
    obtain ⟨j, q3, q4, rfl⟩ := mem_drop_ix hl
    obtain ⟨q5, q6⟩ := h1 (by omega) (by omega)
    exact H.lt_le (H.le_lt (srt_at hY H.ir (show i ≤ u - 1 by omega) (by omega)) q6) (srt_at hX H.ir q3 q4)) (fun l hl r hr => by
    obtain ⟨i, q1, q2, rfl⟩ := mem_take_ix hl
    obtain ⟨j, q3, q4, rfl⟩ := mem_drop_ix hr
    obtain ⟨q5, q6⟩ := h2 (by omega) (by omega)
    exact H.ng _ _ _ (H.ng _ _ _ (srt_at hY H.ir q3 q4) q6) (srt_at hX H.ir (show i ≤ t - 1 by omega) (by omega)))
  rw [List.take_append_drop, List.take_append_drop] at e
  exact e
end
end Go.Proofs.Ytglmohcnmpbfmaa
