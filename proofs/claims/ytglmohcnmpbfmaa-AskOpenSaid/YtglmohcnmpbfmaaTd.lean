/- Stable sort of rows: what the moves make, in parts of the list. -/
import Derived.Test.YtglmohcnmpbfmaaTc
set_option linter.unusedVariables false
set_option linter.unusedSimpArgs false
namespace Go.Proofs.Ytglmohcnmpbfmaa
abbrev Rw := List Int
theorem getD_app_l {L M : List Rw} {k : Nat} (h : k < L.length) : (L ++ M).getD k [] = L.getD k [] := by
  simp [List.getD_eq_getElem?_getD, List.getElem?_append_left h]
theorem getD_app_r {L M : List Rw} {k : Nat} (h : L.length ≤ k) : (L ++ M).getD k [] = M.getD (k - L.length) [] := by
  simp [List.getD_eq_getElem?_getD, List.getElem?_append_right h]
theorem getD_app_at (L : List Rw) (x : Rw) (M : List Rw) {k : Nat} (h : k = L.length) : (L ++ x :: M).getD k [] = x := by
  subst h; rw [getD_app_r (Nat.le_refl _)]; simp
theorem swap2_adj (U V : List Rw) (x y : Rw) (i j : Nat) (hi : i = U.length) (hj : j = U.length + 1) : swap2 (U ++ x :: y :: V) i j = U ++ y :: x :: V := by
  subst hi hj
  have hl : (U ++ x :: y :: V).length = U.length + 2 + V.length := by simp; omega
  refine ext_getD (by rw [swap2_len]; simp) fun k hk => ?_
  rw [swap2_len] at hk
  rw [swap2_getD _ _ _ _ (by omega) (by omega)]
  have ex : (U ++ x :: y :: V).getD U.length [] = x := getD_app_at U x _ rfl
  have ey : (U ++ x :: y :: V).getD (U.length + 1) [] = y := by rw [show U ++ x :: y :: V = (U ++ [x]) ++ y :: V by simp]; exact getD_app_at _ y _ (by simp)
  by_cases q : k = U.length + 1
  · rw [if_pos q, ex, show U ++ y :: x :: V = (U ++ [y]) ++ x :: V by simp]
    exact (getD_app_at _ x _ (by simp [q])).symm
  · rw [if_neg q]
    by_cases q2 : k = U.length
    · rw [if_pos q2, ey]; exact (getD_app_at U y _ q2).symm
    · rw [if_neg q2]
      rcases Nat.lt_or_ge k U.length with h | h
      · rw [getD_app_l h, getD_app_l h]
      · rw [show U ++ x :: y :: V = (U ++ [x, y]) ++ V by simp, show U ++ y :: x :: V = (U ++ [y, x]) ++ V by simp, getD_app_r (by simp; omega), getD_app_r (by simp; omega)]
        simp
theorem swap2_adj' (U V : List Rw) (x y : Rw) (i j : Nat) (hi : i = U.length + 1) (hj : j = U.length) : swap2 (U ++ x :: y :: V) i j = U ++ y :: x :: V := by
  have e := swap2_adj U V x y j i hj hi
  rw [← e]
  have hl : (U ++ x :: y :: V).length = U.length + 2 + V.length := by simp; omega
  refine ext_getD (by rw [swap2_len, swap2_len]) fun k hk => ?_
  rw [swap2_getD _ _ _ _ (by omega) (by omega), swap2_getD _ _ _ _ (by omega) (by omega)]
  by_cases q : k = i
  · have q2 : k ≠ j := by omega
    simp only [q, q2, if_true, if_false]
    rw [if_neg (by omega)]
  · by_cases q2 : k = j
    · rw [if_pos q2, if_neg q, if_pos q2]
    · rw [if_neg q2, if_neg q, if_neg q, if_neg q2]
theorem rotL_parts (A U V B : List Rw) (m i j : Nat) (hm : m = A.length + U.length) (hi : i = U.length) (hj : j = V.length) : rotL (A ++ (U ++ (V ++ B))) m i j = A ++ (V ++ (U ++ B)) := by
  subst hm hi hj
  have hl : (A ++ (U ++ (V ++ B))).length = A.length + U.length + V.length + B.length := by simp; omega
  refine ext_getD (by unfold rotL; rw [perm_len]; simp; omega) fun k hk => ?_
  unfold rotL at hk ⊢
  rw [perm_len] at hk
  rw [perm_getD _ _ hk]
  unfold rotI
  by_cases q1 : k < A.length
  · rw [if_pos (by omega), getD_app_l q1, getD_app_l q1]
  · rw [if_neg (by omega)]
    by_cases q2 : k < A.length + V.length
    · rw [if_pos (by omega), getD_app_r (by omega), getD_app_r (by omega), getD_app_l (M := B) (by omega), getD_app_r (by omega), getD_app_l (by omega)]
      congr 1; omega
    · rw [if_neg (by omega)]
      by_cases q3 : k < A.length + U.length + V.length
      · rw [if_pos (by omega), getD_app_r (by omega), getD_app_l (by omega), getD_app_r (by omega), getD_app_r (by omega), getD_app_l (by omega)]
        congr 1; omega
      · rw [if_neg (by omega), getD_app_r (by omega), getD_app_r (by omega), getD_app_r (by omega), getD_app_r (by omega), getD_app_r (by omega), getD_app_r (by omega)]
        congr 1; omega
section
variable (cmp : Rw → Rw → Int)
def ltC (x y : Rw) : Bool := decide (cmp x y < 0)
theorem bub_parts (H : Swo (ltC cmp)) (A : List Rw) (x : Rw) : ∀ (S B : List Rw) (j : Nat), j = A.length + S.length → Srt (ltC cmp) S → bub cmp A.length j (A ++ (S ++ x :: B)) = A ++ (mrg (ltC cmp) S [x] ++ B) := by
  intro S
  induction S using snoc_ind with
  | h0 =>
    intro B j hj _
    rw [mrg_nil]
    cases j with
    | zero => rfl
    | succ j => unfold bub; rw [if_neg (by simp at hj; omega)]; rfl
  | h1 S y ih =>
    intro B j hj hS
    obtain ⟨t, rfl⟩ : ∃ t, j = t + 1 := ⟨j - 1, by simp at hj; omega⟩
    have ht : t = A.length + S.length := by simp at hj; omega
    have e1 : (A ++ (S ++ [y] ++ x :: B)).getD (t + 1) [] = x := by rw [show A ++ (S ++ [y] ++ x :: B) = (A ++ S ++ [y]) ++ x :: B by simp]; exact getD_app_at _ _ _ (by simp; omega)
    have e2 : (A ++ (S ++ [y] ++ x :: B)).getD t [] = y := by rw [show A ++ (S ++ [y] ++ x :: B) = (A ++ S) ++ y :: x :: B by simp]; exact getD_app_at _ _ _ (by simp; omega)
    unfold bub
    rw [e1, e2, mrg_one_end H S y x hS]
    by_cases h : ltC cmp x y = true
    · rw [if_pos h, if_pos ⟨by omega, of_decide_eq_true h⟩, show A ++ (S ++ [y] ++ x :: B) = (A ++ S) ++ y :: x :: B by simp, swap2_adj' _ _ _ _ _ _ (by simp; omega) (by simp; omega),
        show A ++ S ++ x :: y :: B = A ++ (S ++ x :: (y :: B)) by simp, ih (y :: B) t ht (List.pairwise_append.1 hS).1]
      simp
    · rw [if_neg h, if_neg (fun z => h (decide_eq_true z.2))]
      simp
theorem insS_parts (H : Swo (ltC cmp)) (A : List Rw) : ∀ (S B : List Rw) (k : Nat), S.length = k + 1 → insS cmp A.length k (A ++ (S ++ B)) = A ++ (srt (ltC cmp) S ++ B) := by
  intro S
  induction S using snoc_ind with
  | h0 => intro B k h; simp at h
  | h1 S x ih =>
    intro B k hk
    have hk : S.length = k := by simpa using hk
    cases k with
    | zero =>
      obtain rfl := List.length_eq_zero_iff.1 hk
      show _ = A ++ (srt (ltC cmp) ([] ++ [x]) ++ B)
      rw [srt_snoc, show srt (ltC cmp) [] = [] from rfl, mrg_nil]
      rfl
    | succ k =>
      unfold insS
      rw [show A ++ (S ++ [x] ++ B) = A ++ (S ++ x :: B) by simp, ih (x :: B) k hk, srt_snoc]
      exact bub_parts cmp H A x (srt (ltC cmp) S) B _ (by rw [srt_len]; omega) (srt_srt H S)
end
/-! ### blocks -/
def full {α : Type} (lt : α → α → Bool) (bs : Nat) (M : List α) : List α :=
  if h : M.length ≤ bs ∨ bs = 0 then srt lt M else srt lt (M.take bs) ++ full lt bs (M.drop bs)
termination_by M.length
decreasing_by simp; omega
section
variable {α : Type} {lt : α → α → Bool}
theorem full_small {bs : Nat} {M : List α} (h : M.length ≤ bs) : full lt bs M = srt lt M := by rw [full, dif_pos (.inl h)]
theorem full_step {bs : Nat} {M : List α} (h : bs ≤ M.length) (hb : 0 < bs) : full lt bs M = srt lt (M.take bs) ++ full lt bs (M.drop bs) := by
  rcases Nat.lt_or_ge bs M.length with q | q
  · rw [full, dif_neg (by omega)]
  · have e : M.drop bs = [] := List.drop_eq_nil_of_le q
    have e2 : M.take bs = M := List.take_of_length_le q
    rw [full_small q, e, e2, full_small (by simp), show srt lt ([] : List α) = [] from rfl, List.append_nil]
theorem full_len {bs : Nat} : ∀ (n : Nat) (M : List α), M.length = n → (full lt bs M).length = n := by
  intro n
  induction n using Nat.strongRecOn with
  | _ n ih =>
    intro M h
    rw [full]
    split
    · rw [srt_len, h]
    · rw [List.length_append, srt_len, ih (M.drop bs).length (by simp; omega) _ rfl]
      simp; omega
theorem full_two {bs : Nat} {M : List α} (h : 2 * bs ≤ M.length) (hb : 0 < bs) : full lt bs M = srt lt (M.take bs) ++ (srt lt ((M.drop bs).take bs) ++ full lt bs (M.drop (2 * bs))) := by
  rw [full_step (by omega) hb, full_step (M := M.drop bs) (by simp; omega) hb, List.drop_drop, show bs + bs = 2 * bs by omega]
theorem srt_two (H : Swo lt) (bs : Nat) (M : List α) : mrg lt (srt lt (M.take bs)) (srt lt ((M.drop bs).take bs)) = srt lt (M.take (2 * bs)) := by
  rw [← srt_app H]
  congr 1
  rw [show 2 * bs = bs + bs by omega, List.take_add]
theorem srt_rest (H : Swo lt) (bs : Nat) (M : List α) : mrg lt (srt lt (M.take bs)) (srt lt (M.drop bs)) = srt lt M := by
  rw [← srt_app H, List.take_append_drop]
end
end Go.Proofs.Ytglmohcnmpbfmaa
