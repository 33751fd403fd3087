/- slices' stable sort of rows: stableCmpFunc, SortStableFunc. -/
import Derived.Test.YtglmohcnmpbfmaaTf
set_option linter.unusedVariables false
set_option linter.unusedSimpArgs false
namespace Go.Proofs.Ytglmohcnmpbfmaa
open Go.RowKit
set_option maxRecDepth 100000
set_option maxHeartbeats 4000000
section
variable (P : Rw → Prop) (cmp : Rw → Rw → Int) (f : Nat) (c0 c1 c2 : DV)
  (hc : ∀ x y, P x → P y → ACall Try.prog f [.d (i64L x), .d (i64L y), .dp [c0, c1, c2]] [] (exI .i64 (cmp x y)) []) (H : Swo (ltC cmp))
theorem allP_mem {P : Rw → Prop} {L : List Rw} : AllP P L ↔ ∀ x ∈ L, P x := by
  constructor
  · intro h x hx
    obtain ⟨i, hi, rfl⟩ := List.getElem_of_mem hx
    have := h i hi
    rwa [List.getD_eq_getElem?_getD, List.getElem?_eq_getElem hi] at this
  · exact fun h k hk => h _ (getD_mem hk)
theorem insort_none (L : List Rw) (a : Nat) (hL : L.length ≤ 1000000) (ha : a ≤ L.length) : ACall Try.prog 243 [.own 901 0, exI .i64 a, exI .i64 a, .fn (.func f) [] [.dp [c0, c1, c2]]] (rowsH L) (.tup []) (rowsH L) := by
  refine acall_on (mu := []) [] [] mixed Try.func243 rfl rfl rfl ?_
  conv => whnf
  repeat' (first
    | (refine And.intro (by omega) ?_; conv => whnf)
    | (refine And.intro rfl ?_; conv => whnf)
    | (refine And.intro (Nat.le_of_ble_eq_true rfl) ?_; conv => whnf)
    | (refine And.intro (fun i hi => ⟨_, rfl⟩) ?_; conv => whnf)
    | (refine And.intro (fun hq => ?_) (fun hq => ?_) <;> (first | (exfalso; simp at hq; done) | (exfalso; simp only [cond_true, cond_false, Bool.not_eq_true', Bool.not_eq_false', decide_eq_true_eq, decide_eq_false_iff_not] at hq; (try dsimp only at hq); omega) | (exfalso; simp at hq; omega) | (conv => whnf)))
    | (refine fun hq => ?_; conv => whnf)
    | (refine And.intro (by first | (show _ * 1 ≤ 140737488355328; omega) | (show _ * 8 ≤ 140737488355328; omega) | (show _ * 24 ≤ 140737488355328; omega) | (show _ * 16 ≤ 140737488355328; omega) | (show _ * 32 ≤ 140737488355328; omega) | (show _ * 120 ≤ 140737488355328; omega) | (show _ * 280 ≤ 140737488355328; omega) | (show _ * 72 ≤ 140737488355328; omega) | (show _ * 48 ≤ 140737488355328; omega)) ?_; conv => whnf)
    | (refine And.intro (by dsimp only; omega) ?_; conv => whnf)
    | fail)
  refine ⟨[], ?_⟩
  conv => whnf
  refine ⟨Unit, fun _ => True, fun _ => 0, fun _ => [(8, exI .i64 (a + 1 : Nat))], fun _ => rowsH L, ⟨(), trivial, ?_⟩, ?_⟩
  · skip
    refine ⟨[], ?_⟩
    conv => whnf
    refine ⟨rfl, ?_, ?_⟩ <;> (repeat' (first | exact trivial | exact rfl | exact fun _ _ => rfl | apply And.intro | (intro i hi; rcases i with _ | _ | i <;> first | rfl | (exfalso; omega) | (simp at hi; done) | (simp at hi; omega)) | exact fun _ _ => by simp))
  intro _ _
  conv => whnf
  repeat' (first
    | (refine And.intro (by omega) ?_; conv => whnf)
    | (refine And.intro rfl ?_; conv => whnf)
    | (refine And.intro (Nat.le_of_ble_eq_true rfl) ?_; conv => whnf)
    | (refine And.intro (fun i hi => ⟨_, rfl⟩) ?_; conv => whnf)
    | (refine And.intro (fun hq => ?_) (fun hq => ?_) <;> (first | (exfalso; simp at hq; done) | (exfalso; simp only [cond_true, cond_false, Bool.not_eq_true', Bool.not_eq_false', decide_eq_true_eq, decide_eq_false_iff_not] at hq; (try dsimp only at hq); omega) | (exfalso; simp at hq; omega) | (conv => whnf)))
    | (refine fun hq => ?_; conv => whnf)
    | (refine And.intro (by first | (show _ * 1 ≤ 140737488355328; omega) | (show _ * 8 ≤ 140737488355328; omega) | (show _ * 24 ≤ 140737488355328; omega) | (show _ * 16 ≤ 140737488355328; omega) | (show _ * 32 ≤ 140737488355328; omega) | (show _ * 120 ≤ 140737488355328; omega) | (show _ * 280 ≤ 140737488355328; omega) | (show _ * 72 ≤ 140737488355328; omega) | (show _ * 48 ≤ 140737488355328; omega)) ?_; conv => whnf)
    | (refine And.intro (by dsimp only; omega) ?_; conv => whnf)
    | fail)
  all_goals first | exact trivial | exact ⟨rfl, by (repeat' (first | exact trivial | exact rfl | exact fun _ _ => rfl | apply And.intro | (intro i hi; rcases i with _ | _ | i <;> first | rfl | (exfalso; omega) | (simp at hi; done) | (simp at hi; omega)) | exact fun _ _ => by simp)), trivial⟩ | exact ⟨by (repeat' (first | exact trivial | exact rfl | exact fun _ _ => rfl | apply And.intro | (intro i hi; rcases i with _ | _ | i <;> first | rfl | (exfalso; omega) | (simp at hi; done) | (simp at hi; omega)) | exact fun _ _ => by simp)), trivial⟩ | exact ⟨by (repeat' (first | exact trivial | exact rfl | exact fun _ _ => rfl | apply And.intro | (intro i hi; rcases i with _ | _ | i <;> first | rfl | (exfalso; omega) | (simp at hi; done) | (simp at hi; omega)) | exact fun _ _ => by simp)), by (repeat' (first | exact trivial | exact rfl | exact fun _ _ => rfl | apply And.intro | (intro i hi; rcases i with _ | _ | i <;> first | rfl | (exfalso; omega) | (simp at hi; done) | (simp at hi; omega)) | exact fun _ _ => by simp))⟩ | exact ⟨rfl, by (repeat' (first | exact trivial | exact rfl | exact fun _ _ => rfl | apply And.intro | (intro i hi; rcases i with _ | _ | i <;> first | rfl | (exfalso; omega) | (simp at hi; done) | (simp at hi; omega)) | exact fun _ _ => by simp)), by (repeat' (first | exact trivial | exact rfl | exact fun _ _ => rfl | apply And.intro | (intro i hi; rcases i with _ | _ | i <;> first | rfl | (exfalso; omega) | (simp at hi; done) | (simp at hi; omega)) | exact fun _ _ => by simp))⟩
include hc H in
/-- a part of the list, sorted by insertion -/
theorem insort_part (A S B : List Rw) (a b : Nat) (ha : a = A.length) (hb : b = a + S.length) (hL : (A ++ (S ++ B)).length ≤ 1000000) (hP : ∀ x ∈ A ++ (S ++ B), P x) : ACall Try.prog 243 [.own 901 0, exI .i64 a, exI .i64 b, .fn (.func f) [] [.dp [c0, c1, c2]]] (rowsH (A ++ (S ++ B))) (.tup []) (rowsH (A ++ (srt (ltC cmp) S ++ B))) := by
  subst ha
  rcases Nat.eq_zero_or_pos S.length with h0 | h0
  · obtain rfl := List.eq_nil_of_length_eq_zero h0
    obtain rfl : b = A.length := by omega
    exact insort_none f c0 c1 c2 _ A.length hL (by simp)
  · have := insort_ok P cmp f c0 c1 c2 hc (A ++ (S ++ B)) A.length b hL (allP_mem.2 hP) (by omega) (by simp; omega)
    rwa [insS_parts cmp H A S B (b - A.length - 1) (by omega)] at this
theorem st_of {D M L : List Rw} (bs : Nat) (h : D ++ full (ltC cmp) bs M = full (ltC cmp) bs L) : D.length + M.length = L.length := by
  have := congrArg List.length h
  rwa [List.length_append, full_len _ _ rfl, full_len _ _ rfl] at this
theorem memfull {lt : Rw → Rw → Bool} {bs : Nat} {x : Rw} : ∀ (n : Nat) (M : List Rw), M.length = n → (x ∈ full lt bs M ↔ x ∈ M) := by
  intro n
  induction n using Nat.strongRecOn with
  | _ n ih =>
    intro M h
    rw [full]
    split
    · exact srt_mem M
    · rename_i hb
      rw [List.mem_append, srt_mem, ih (M.drop bs).length (by simp; omega) _ rfl]
      conv => rhs; rw [← List.take_append_drop bs M]
      rw [List.mem_append]
include hc H in
theorem stable_ok (L : List Rw) (n : Nat) (hn : n = L.length) (hL : L.length ≤ 100000) (hP : ∀ x ∈ L, P x) : ACall Try.prog 191 [.own 901 0, exI .i64 n, .fn (.func f) [] [.dp [c0, c1, c2]]] (rowsH L) (.tup []) (rowsH (srt (ltC cmp) L)) := by
  obtain ⟨R, hR⟩ : ∃ R, R = srt (ltC cmp) L := ⟨_, rfl⟩
  rw [← hR]
  have rl : R.length = L.length := by rw [hR, srt_len]
  have mf := fun (bs : Nat) (M : List Rw) (x : Rw) => memfull (lt := ltC cmp) (bs := bs) (x := x) _ M rfl
  refine acall_on (mu := []) [] [] mixed Try.func191 rfl rfl rfl ?_
  conv => whnf
  repeat' (first
    | (refine And.intro (by omega) ?_; conv => whnf)
    | (refine And.intro rfl ?_; conv => whnf)
    | (refine And.intro (Nat.le_of_ble_eq_true rfl) ?_; conv => whnf)
    | (refine And.intro (fun i hi => ⟨_, rfl⟩) ?_; conv => whnf)
    | (refine And.intro (fun hq => ?_) (fun hq => ?_) <;> (first | (exfalso; simp at hq; done) | (exfalso; simp only [cond_true, cond_false, Bool.not_eq_true', Bool.not_eq_false', decide_eq_true_eq, decide_eq_false_iff_not] at hq; (try dsimp only at hq); omega) | (exfalso; simp at hq; omega) | (conv => whnf)))
    | (refine fun hq => ?_; conv => whnf)
    | (refine And.intro (by first | (show _ * 1 ≤ 140737488355328; omega) | (show _ * 8 ≤ 140737488355328; omega) | (show _ * 24 ≤ 140737488355328; omega) | (show _ * 16 ≤ 140737488355328; omega) | (show _ * 32 ≤ 140737488355328; omega) | (show _ * 120 ≤ 140737488355328; omega) | (show _ * 280 ≤ 140737488355328; omega) | (show _ * 72 ≤ 140737488355328; omega) | (show _ * 48 ≤ 140737488355328; omega)) ?_; conv => whnf)
    | (refine And.intro (by dsimp only; omega) ?_; conv => whnf)
    | fail)
  refine ⟨[], ?_⟩
  conv => whnf
  refine ⟨List Rw × List Rw, fun q => q.1 ++ full (ltC cmp) 20 q.2 = full (ltC cmp) 20 L ∧ ∀ x ∈ q.1 ++ q.2, P x, fun q => q.2.length, fun q => [(7, exI .i64 q.1.length), (8, exI .i64 (q.1.length + 20 : Nat))], fun q => rowsH (q.1 ++ q.2), ⟨([], L), ⟨rfl, hP⟩, ?_⟩, ?_⟩
  · skip
    refine ⟨[], ?_⟩
    conv => whnf
    refine ⟨rfl, ?_, ?_⟩ <;> (repeat' (first | exact trivial | exact rfl | exact fun _ _ => rfl | apply And.intro | (intro i hi; rcases i with _ | _ | i <;> first | rfl | (exfalso; omega) | (simp at hi; done) | (simp at hi; omega)) | exact fun _ _ => by simp))
  rintro ⟨D, M⟩ ⟨h1, h2⟩
  dsimp only at h1 h2
  have hl := st_of cmp 20 h1
  conv => whnf
  rcases Nat.lt_or_ge M.length 20 with hs | hs
  · have q := insort_part P cmp f c0 c1 c2 hc H D M [] D.length n rfl (by omega) (by simp; omega) (by simpa using h2)
    rw [List.append_nil, List.append_nil] at q
    rw [full_small (by omega)] at h1
    have hdm : (D ++ M).length = L.length := by simp; omega
    rw [h1] at q
    have hfl := full_len (lt := ltC cmp) (bs := 20) _ L rfl
    obtain ⟨S0, hS0⟩ : ∃ S, S = full (ltC cmp) 20 L := ⟨_, rfl⟩
    rw [← hS0] at q hfl
    generalize D ++ M = DM at q hdm ⊢
    conv => whnf
    repeat' (first
      | (refine And.intro (by omega) ?_; conv => whnf)
      | (refine And.intro rfl ?_; conv => whnf)
      | (refine And.intro (Nat.le_of_ble_eq_true rfl) ?_; conv => whnf)
      | (refine And.intro (fun i hi => ⟨_, rfl⟩) ?_; conv => whnf)
      | (refine ⟨_, _, _, .gen [901] _ _ _ rfl (q) rfl rfl rfl rfl rfl, ?_⟩; conv => whnf)
      | (refine ⟨_, _, _, .gen [901] _ _ _ rfl (ACall.arg ?harg (q)) rfl rfl rfl rfl rfl, ?_⟩; (case harg => (repeat' (first | exact trivial | exact rfl | exact fun _ _ => rfl | apply And.intro | (intro i hi; rcases i with _ | _ | i <;> first | rfl | (exfalso; omega) | (simp at hi; done) | (simp at hi; omega)) | exact fun _ _ => by simp))); (conv => whnf))
      | (refine And.intro (fun hq => ?_) (fun hq => ?_) <;> (first | (exfalso; simp at hq; done) | (exfalso; simp only [cond_true, cond_false, Bool.not_eq_true', Bool.not_eq_false', decide_eq_true_eq, decide_eq_false_iff_not] at hq; (try dsimp only at hq); omega) | (exfalso; simp at hq; omega) | (conv => whnf)))
      | (refine fun hq => ?_; conv => whnf)
      | (refine And.intro (by first | (show _ * 1 ≤ 140737488355328; omega) | (show _ * 8 ≤ 140737488355328; omega) | (show _ * 24 ≤ 140737488355328; omega) | (show _ * 16 ≤ 140737488355328; omega) | (show _ * 32 ≤ 140737488355328; omega) | (show _ * 120 ≤ 140737488355328; omega) | (show _ * 280 ≤ 140737488355328; omega) | (show _ * 72 ≤ 140737488355328; omega) | (show _ * 48 ≤ 140737488355328; omega)) ?_; conv => whnf)
      | (refine And.intro (by dsimp only; omega) ?_; conv => whnf)
      | fail)
    refine ⟨[], ?_⟩
    conv => whnf
    refine ⟨Nat, fun bs => 20 ≤ bs ∧ bs ≤ 2 * n + 20, fun bs => 2 * n + 20 - bs, fun bs => [(6, exI .i64 bs)], fun bs => rowsH (full (ltC cmp) bs L), ⟨20, ⟨by omega, by omega⟩, ?_⟩, ?_⟩
    · subst hS0
      refine ⟨[], ?_⟩
      conv => whnf
      refine ⟨rfl, ?_, ?_⟩ <;> (repeat' (first | exact trivial | exact rfl | exact fun _ _ => rfl | apply And.intro | (intro i hi; rcases i with _ | _ | i <;> first | rfl | (exfalso; omega) | (simp at hi; done) | (simp at hi; omega)) | exact fun _ _ => by simp))
    rintro bs ⟨b1, b2⟩
    have hfl := full_len (lt := ltC cmp) (bs := bs) _ L rfl
    conv => whnf
    rcases Nat.lt_or_ge bs n with hlt | hge
    · obtain ⟨S1, hS1⟩ : ∃ S, S = full (ltC cmp) bs L := ⟨_, rfl⟩
      rw [← hS1] at hfl ⊢
      conv => whnf
      repeat' (first
        | (refine And.intro (by omega) ?_; conv => whnf)
        | (refine And.intro rfl ?_; conv => whnf)
        | (refine And.intro (Nat.le_of_ble_eq_true rfl) ?_; conv => whnf)
        | (refine And.intro (fun i hi => ⟨_, rfl⟩) ?_; conv => whnf)
        | (refine And.intro (fun hq => ?_) (fun hq => ?_) <;> (first | (exfalso; simp at hq; done) | (exfalso; simp only [cond_true, cond_false, Bool.not_eq_true', Bool.not_eq_false', decide_eq_true_eq, decide_eq_false_iff_not] at hq; (try dsimp only at hq); omega) | (exfalso; simp at hq; omega) | (conv => whnf)))
        | (refine fun hq => ?_; conv => whnf)
        | (refine And.intro (by first | (show _ * 1 ≤ 140737488355328; omega) | (show _ * 8 ≤ 140737488355328; omega) | (show _ * 24 ≤ 140737488355328; omega) | (show _ * 16 ≤ 140737488355328; omega) | (show _ * 32 ≤ 140737488355328; omega) | (show _ * 120 ≤ 140737488355328; omega) | (show _ * 280 ≤ 140737488355328; omega) | (show _ * 72 ≤ 140737488355328; omega) | (show _ * 48 ≤ 140737488355328; omega)) ?_; conv => whnf)
        | (refine And.intro (by dsimp only; omega) ?_; conv => whnf)
        | fail)
      refine ⟨[], ?_⟩
      conv => whnf
      refine ⟨List Rw × List Rw, fun q => q.1 ++ full (ltC cmp) (2 * bs) q.2 = full (ltC cmp) (2 * bs) L ∧ ∀ x ∈ q.1 ++ q.2, P x, fun q => q.2.length, fun q => [(7, exI .i64 q.1.length), (8, exI .i64 (q.1.length + 2 * bs : Nat))], fun q => rowsH (q.1 ++ full (ltC cmp) bs q.2), ⟨([], L), ⟨rfl, hP⟩, ?_⟩, ?_⟩
      · subst hS1
        refine ⟨[], ?_⟩
        conv => whnf
        refine ⟨rfl, ?_, ?_⟩ <;> (repeat' (first | exact trivial | (exact congrArg (Value.int .i64) (by (try dsimp only); (try simp) <;> omega)) | exact rfl | exact fun _ _ => rfl | apply And.intro | (intro i hi; rcases i with _ | _ | i <;> first | rfl | (exfalso; omega) | (simp at hi; done) | (simp at hi; omega)) | exact fun _ _ => by simp))
      rintro ⟨D, M⟩ ⟨h1, h2⟩
      dsimp only at h1 h2
      have hl := st_of cmp (2 * bs) h1
      have hfl2 := full_len (lt := ltC cmp) (bs := bs) _ M rfl
      conv => whnf
      rcases Nat.lt_or_ge M.length (2 * bs) with hs2 | hs2
      · rw [full_small (by omega)] at h1
        rcases Nat.lt_or_ge bs M.length with hb | hb
        · have q := sym_ok P cmp f c0 c1 c2 hc H _ D (srt (ltC cmp) (M.take bs)) (srt (ltC cmp) (M.drop bs)) [] D.length (D.length + bs) n rfl rfl (by rw [srt_len]; simp; omega) (by rw [srt_len]; simp; omega) (by rw [srt_len]; simp; omega) (by rw [srt_len]; simp; omega) (by simp [srt_len]; omega)
            (allP_mem.2 fun x hx => h2 x (by
              simp only [List.mem_append, srt_mem, List.append_nil] at hx ⊢
              rcases hx with hx | hx | hx
              · exact .inl hx
              · exact .inr (List.mem_of_mem_take hx)
              · exact .inr (List.mem_of_mem_drop hx))) (srt_srt H _) (srt_srt H _)
          rw [srt_rest H, List.append_nil, List.append_nil, h1] at q
          have e2 : D ++ (srt (ltC cmp) (M.take bs) ++ srt (ltC cmp) (M.drop bs)) = D ++ full (ltC cmp) bs M := by
            rw [full_step (by omega) (by omega), full_small (M := M.drop bs) (by simp; omega)]
          rw [e2] at q
          have el : (D ++ full (ltC cmp) bs M).length = L.length := by rw [List.length_append, hfl2]; omega
          generalize D ++ full (ltC cmp) bs M = DM at q el ⊢
          conv => whnf
          repeat' (first
            | (refine And.intro (by omega) ?_; conv => whnf)
            | (refine And.intro rfl ?_; conv => whnf)
            | (refine And.intro (Nat.le_of_ble_eq_true rfl) ?_; conv => whnf)
            | (refine And.intro (fun i hi => ⟨_, rfl⟩) ?_; conv => whnf)
            | (refine ⟨_, _, _, .gen [901] _ _ _ rfl (q) rfl rfl rfl rfl rfl, ?_⟩; conv => whnf)
            | (refine ⟨_, _, _, .gen [901] _ _ _ rfl (ACall.arg ?harg (q)) rfl rfl rfl rfl rfl, ?_⟩; (case harg => (repeat' (first | exact trivial | (exact congrArg (Value.int .i64) (by (try dsimp only); omega)) | exact rfl | exact fun _ _ => rfl | apply And.intro | (intro i hi; rcases i with _ | _ | i <;> first | rfl | (exfalso; omega) | (simp at hi; done) | (simp at hi; omega)) | exact fun _ _ => by simp))); (conv => whnf))
            | (refine And.intro (fun hq => ?_) (fun hq => ?_) <;> (first | (exfalso; simp at hq; done) | (exfalso; simp only [cond_true, cond_false, Bool.not_eq_true', Bool.not_eq_false', decide_eq_true_eq, decide_eq_false_iff_not] at hq; (try dsimp only at hq); omega) | (exfalso; simp at hq; omega) | (conv => whnf)))
            | (refine fun hq => ?_; conv => whnf)
            | (refine And.intro (by first | (show _ * 1 ≤ 140737488355328; omega) | (show _ * 8 ≤ 140737488355328; omega) | (show _ * 24 ≤ 140737488355328; omega) | (show _ * 16 ≤ 140737488355328; omega) | (show _ * 32 ≤ 140737488355328; omega) | (show _ * 120 ≤ 140737488355328; omega) | (show _ * 280 ≤ 140737488355328; omega) | (show _ * 72 ≤ 140737488355328; omega) | (show _ * 48 ≤ 140737488355328; omega)) ?_; conv => whnf)
            | (refine And.intro (by dsimp only; omega) ?_; conv => whnf)
            | fail)
          refine ⟨2 * bs, ⟨by omega, by omega⟩, by dsimp only; omega, ?_⟩
          refine ⟨[], ?_⟩
          conv => whnf
          refine ⟨rfl, ?_, ?_⟩ <;> (repeat' (first | exact trivial | (exact congrArg (Value.int .i64) (by (try dsimp only); omega)) | exact rfl | exact fun _ _ => rfl | apply And.intro | (intro i hi; rcases i with _ | _ | i <;> first | rfl | (exfalso; omega) | (simp at hi; done) | (simp at hi; omega)) | exact fun _ _ => by simp))
        · have e2 : D ++ full (ltC cmp) bs M = full (ltC cmp) (2 * bs) L := by rw [full_small hb]; exact h1
          have el : (D ++ full (ltC cmp) bs M).length = L.length := by rw [List.length_append, hfl2]; omega
          obtain ⟨S2, hS2⟩ : ∃ S, S = full (ltC cmp) (2 * bs) L := ⟨_, rfl⟩
          rw [← hS2] at e2
          generalize D ++ full (ltC cmp) bs M = DM at e2 el ⊢
          conv => whnf
          repeat' (first
            | (refine And.intro (by omega) ?_; conv => whnf)
            | (refine And.intro rfl ?_; conv => whnf)
            | (refine And.intro (Nat.le_of_ble_eq_true rfl) ?_; conv => whnf)
            | (refine And.intro (fun i hi => ⟨_, rfl⟩) ?_; conv => whnf)
            | (refine And.intro (fun hq => ?_) (fun hq => ?_) <;> (first | (exfalso; simp at hq; done) | (exfalso; simp only [cond_true, cond_false, Bool.not_eq_true', Bool.not_eq_false', decide_eq_true_eq, decide_eq_false_iff_not] at hq; (try dsimp only at hq); omega) | (exfalso; simp at hq; omega) | (conv => whnf)))
            | (refine fun hq => ?_; conv => whnf)
            | (refine And.intro (by first | (show _ * 1 ≤ 140737488355328; omega) | (show _ * 8 ≤ 140737488355328; omega) | (show _ * 24 ≤ 140737488355328; omega) | (show _ * 16 ≤ 140737488355328; omega) | (show _ * 32 ≤ 140737488355328; omega) | (show _ * 120 ≤ 140737488355328; omega) | (show _ * 280 ≤ 140737488355328; omega) | (show _ * 72 ≤ 140737488355328; omega) | (show _ * 48 ≤ 140737488355328; omega)) ?_; conv => whnf)
            | (refine And.intro (by dsimp only; omega) ?_; conv => whnf)
            | fail)
          refine ⟨2 * bs, ⟨by omega, by omega⟩, by dsimp only; omega, ?_⟩
          subst e2; subst hS2
          refine ⟨[], ?_⟩
          conv => whnf
          refine ⟨rfl, ?_, ?_⟩ <;> (repeat' (first | exact trivial | (exact congrArg (Value.int .i64) (by (try dsimp only); omega)) | exact rfl | exact fun _ _ => rfl | apply And.intro | (intro i hi; rcases i with _ | _ | i <;> first | rfl | (exfalso; omega) | (simp at hi; done) | (simp at hi; omega)) | exact fun _ _ => by simp))
      · have ld : ((M.drop bs).take bs).length = bs := by simp; omega
        have q := sym_ok P cmp f c0 c1 c2 hc H _ D (srt (ltC cmp) (M.take bs)) (srt (ltC cmp) ((M.drop bs).take bs)) (full (ltC cmp) bs (M.drop (2 * bs))) D.length (D.length + bs) (D.length + 2 * bs) rfl rfl (by rw [srt_len]; simp; omega) (by rw [srt_len, ld]; omega) (by rw [srt_len]; simp; omega) (by rw [srt_len, ld]; omega) (by simp [srt_len, full_len _ _ rfl]; omega)
          (allP_mem.2 fun x hx => h2 x (by
            simp only [List.mem_append, srt_mem, mf] at hx ⊢
            rcases hx with hx | hx | hx | hx
            · exact .inl hx
            · exact .inr (List.mem_of_mem_take hx)
            · exact .inr (List.mem_of_mem_drop (List.mem_of_mem_take hx))
            · exact .inr (List.mem_of_mem_drop hx))) (srt_srt H _) (srt_srt H _)
        rw [srt_two H, ← full_two hs2 (by omega)] at q
        have e3 : (D ++ srt (ltC cmp) (M.take (2 * bs))) ++ full (ltC cmp) (2 * bs) (M.drop (2 * bs)) = full (ltC cmp) (2 * bs) L := by
          rw [← h1, full_step (M := M) hs2 (by omega), List.append_assoc]
        have el : (D ++ full (ltC cmp) bs M).length = L.length := by rw [List.length_append, hfl2]; omega
        have hx2 : ∀ x ∈ (D ++ srt (ltC cmp) (M.take (2 * bs))) ++ M.drop (2 * bs), P x := fun x hx => h2 x (by
          simp only [List.mem_append, srt_mem] at hx ⊢
          rcases hx with (hx | hx) | hx
          · exact .inl hx
          · exact .inr (List.mem_of_mem_take hx)
          · exact .inr (List.mem_of_mem_drop hx))
        have lD : (D ++ srt (ltC cmp) (M.take (2 * bs))).length = D.length + 2 * bs := by rw [List.length_append, srt_len]; simp; omega
        have e4 : (M.drop (2 * bs)).length < M.length := by simp; omega
        rw [← List.append_assoc] at q
        generalize D ++ srt (ltC cmp) (M.take (2 * bs)) = D2 at q e3 hx2 lD ⊢
        have er : D2.length + (M.drop (2 * bs)).length = L.length := st_of cmp (2 * bs) e3
        generalize M.drop (2 * bs) = M2 at q e3 hx2 e4 er ⊢
        have el2 : (D2 ++ full (ltC cmp) bs M2).length = L.length := by rw [List.length_append, full_len _ _ rfl]; omega
        generalize D ++ full (ltC cmp) bs M = DM at q el ⊢
        conv => whnf
        repeat' (first
          | (refine And.intro (by omega) ?_; conv => whnf)
          | (refine And.intro rfl ?_; conv => whnf)
          | (refine And.intro (Nat.le_of_ble_eq_true rfl) ?_; conv => whnf)
          | (refine And.intro (fun i hi => ⟨_, rfl⟩) ?_; conv => whnf)
          | (refine ⟨_, _, _, .gen [901] _ _ _ rfl (q) rfl rfl rfl rfl rfl, ?_⟩; conv => whnf)
          | (refine ⟨_, _, _, .gen [901] _ _ _ rfl (ACall.arg ?harg (q)) rfl rfl rfl rfl rfl, ?_⟩; (case harg => (repeat' (first | exact trivial | (exact congrArg (Value.int .i64) (by (try dsimp only); omega)) | exact rfl | exact fun _ _ => rfl | apply And.intro | (intro i hi; rcases i with _ | _ | i <;> first | rfl | (exfalso; omega) | (simp at hi; done) | (simp at hi; omega)) | exact fun _ _ => by simp))); (conv => whnf))
          | (refine And.intro (fun hq => ?_) (fun hq => ?_) <;> (first | (exfalso; simp at hq; done) | (exfalso; simp only [cond_true, cond_false, Bool.not_eq_true', Bool.not_eq_false', decide_eq_true_eq, decide_eq_false_iff_not] at hq; (try dsimp only at hq); omega) | (exfalso; simp at hq; omega) | (conv => whnf)))
          | (refine fun hq => ?_; conv => whnf)
          | (refine And.intro (by first | (show _ * 1 ≤ 140737488355328; omega) | (show _ * 8 ≤ 140737488355328; omega) | (show _ * 24 ≤ 140737488355328; omega) | (show _ * 16 ≤ 140737488355328; omega) | (show _ * 32 ≤ 140737488355328; omega) | (show _ * 120 ≤ 140737488355328; omega) | (show _ * 280 ≤ 140737488355328; omega) | (show _ * 72 ≤ 140737488355328; omega) | (show _ * 48 ≤ 140737488355328; omega)) ?_; conv => whnf)
          | (refine And.intro (by dsimp only; omega) ?_; conv => whnf)
          | fail)
        refine ⟨(D2, M2), ⟨e3, hx2⟩, by dsimp only; omega, ?_⟩
        refine ⟨[], ?_⟩
        conv => whnf
        refine ⟨rfl, ?_, ?_⟩ <;> (repeat' (first | exact trivial | (exact congrArg (Value.int .i64) (by (try dsimp only); omega)) | exact rfl | exact fun _ _ => rfl | apply And.intro | (intro i hi; rcases i with _ | _ | i <;> first | rfl | (exfalso; omega) | (simp at hi; done) | (simp at hi; omega)) | exact fun _ _ => by simp))
    · rw [full_small (by omega)] at hfl ⊢
      rw [← hR] at hfl ⊢
      conv => whnf
      repeat' (first
        | (refine And.intro (by omega) ?_; conv => whnf)
        | (refine And.intro rfl ?_; conv => whnf)
        | (refine And.intro (Nat.le_of_ble_eq_true rfl) ?_; conv => whnf)
        | (refine And.intro (fun i hi => ⟨_, rfl⟩) ?_; conv => whnf)
        | (refine And.intro (fun hq => ?_) (fun hq => ?_) <;> (first | (exfalso; simp at hq; done) | (exfalso; simp only [cond_true, cond_false, Bool.not_eq_true', Bool.not_eq_false', decide_eq_true_eq, decide_eq_false_iff_not] at hq; (try dsimp only at hq); omega) | (exfalso; simp at hq; omega) | (conv => whnf)))
        | (refine fun hq => ?_; conv => whnf)
        | (refine And.intro (by first | (show _ * 1 ≤ 140737488355328; omega) | (show _ * 8 ≤ 140737488355328; omega) | (show _ * 24 ≤ 140737488355328; omega) | (show _ * 16 ≤ 140737488355328; omega) | (show _ * 32 ≤ 140737488355328; omega) | (show _ * 120 ≤ 140737488355328; omega) | (show _ * 280 ≤ 140737488355328; omega) | (show _ * 72 ≤ 140737488355328; omega) | (show _ * 48 ≤ 140737488355328; omega)) ?_; conv => whnf)
        | (refine And.intro (by dsimp only; omega) ?_; conv => whnf)
        | fail)
      all_goals first | exact trivial | exact ⟨rfl, by (repeat' (first | exact trivial | exact rfl | exact fun _ _ => rfl | apply And.intro | (intro i hi; rcases i with _ | _ | i <;> first | rfl | (exfalso; omega) | (simp at hi; done) | (simp at hi; omega)) | exact fun _ _ => by simp)), trivial⟩ | exact ⟨by (repeat' (first | exact trivial | exact rfl | exact fun _ _ => rfl | apply And.intro | (intro i hi; rcases i with _ | _ | i <;> first | rfl | (exfalso; omega) | (simp at hi; done) | (simp at hi; omega)) | exact fun _ _ => by simp)), trivial⟩ | exact ⟨by (repeat' (first | exact trivial | exact rfl | exact fun _ _ => rfl | apply And.intro | (intro i hi; rcases i with _ | _ | i <;> first | rfl | (exfalso; omega) | (simp at hi; done) | (simp at hi; omega)) | exact fun _ _ => by simp)), by (repeat' (first | exact trivial | exact rfl | exact fun _ _ => rfl | apply And.intro | (intro i hi; rcases i with _ | _ | i <;> first | rfl | (exfalso; omega) | (simp at hi; done) | (simp at hi; omega)) | exact fun _ _ => by simp))⟩ | exact ⟨rfl, by (repeat' (first | exact trivial | exact rfl | exact fun _ _ => rfl | apply And.intro | (intro i hi; rcases i with _ | _ | i <;> first | rfl | (exfalso; omega) | (simp at hi; done) | (simp at hi; omega)) | exact fun _ _ => by simp)), by (repeat' (first | exact trivial | exact rfl | exact fun _ _ => rfl | apply And.intro | (intro i hi; rcases i with _ | _ | i <;> first | rfl | (exfalso; omega) | (simp at hi; done) | (simp at hi; omega)) | exact fun _ _ => by simp))⟩
  · have q := insort_part P cmp f c0 c1 c2 hc H D (M.take 20) (M.drop 20) D.length (D.length + 20) rfl (by simp; omega) (by simp; omega) (by simpa using h2)
    rw [List.take_append_drop] at q
    have e3 : (D ++ srt (ltC cmp) (M.take 20)) ++ full (ltC cmp) 20 (M.drop 20) = full (ltC cmp) 20 L := by
      rw [← h1, full_step (M := M) hs (by omega), List.append_assoc]
    have hx2 : ∀ x ∈ (D ++ srt (ltC cmp) (M.take 20)) ++ M.drop 20, P x := fun x hx => h2 x (by
      simp only [List.mem_append, srt_mem] at hx ⊢
      rcases hx with (hx | hx) | hx
      · exact .inl hx
      · exact .inr (List.mem_of_mem_take hx)
      · exact .inr (List.mem_of_mem_drop hx))
    have lD : (D ++ srt (ltC cmp) (M.take 20)).length = D.length + 20 := by rw [List.length_append, srt_len]; simp; omega
    have e4 : (M.drop 20).length < M.length := by simp; omega
    rw [← List.append_assoc] at q
    generalize D ++ srt (ltC cmp) (M.take 20) = D2 at q e3 hx2 lD ⊢
    have er : D2.length + (M.drop 20).length = L.length := st_of cmp 20 e3
    generalize M.drop 20 = M2 at q e3 hx2 e4 er ⊢
    have el2 : (D2 ++ M2).length = L.length := by rw [List.length_append]; omega
    have el : (D ++ M).length = L.length := by rw [List.length_append]; omega
    generalize D ++ M = DM at q el ⊢
    conv => whnf
    repeat' (first
      | (refine And.intro (by omega) ?_; conv => whnf)
      | (refine And.intro rfl ?_; conv => whnf)
      | (refine And.intro (Nat.le_of_ble_eq_true rfl) ?_; conv => whnf)
      | (refine And.intro (fun i hi => ⟨_, rfl⟩) ?_; conv => whnf)
      | (refine ⟨_, _, _, .gen [901] _ _ _ rfl (q) rfl rfl rfl rfl rfl, ?_⟩; conv => whnf)
      | (refine ⟨_, _, _, .gen [901] _ _ _ rfl (ACall.arg ?harg (q)) rfl rfl rfl rfl rfl, ?_⟩; (case harg => (repeat' (first | exact trivial | (exact congrArg (Value.int .i64) (by (try dsimp only); omega)) | exact rfl | exact fun _ _ => rfl | apply And.intro | (intro i hi; rcases i with _ | _ | i <;> first | rfl | (exfalso; omega) | (simp at hi; done) | (simp at hi; omega)) | exact fun _ _ => by simp))); (conv => whnf))
      | (refine And.intro (fun hq => ?_) (fun hq => ?_) <;> (first | (exfalso; simp at hq; done) | (exfalso; simp only [cond_true, cond_false, Bool.not_eq_true', Bool.not_eq_false', decide_eq_true_eq, decide_eq_false_iff_not] at hq; (try dsimp only at hq); omega) | (exfalso; simp at hq; omega) | (conv => whnf)))
      | (refine fun hq => ?_; conv => whnf)
      | (refine And.intro (by first | (show _ * 1 ≤ 140737488355328; omega) | (show _ * 8 ≤ 140737488355328; omega) | (show _ * 24 ≤ 140737488355328; omega) | (show _ * 16 ≤ 140737488355328; omega) | (show _ * 32 ≤ 140737488355328; omega) | (show _ * 120 ≤ 140737488355328; omega) | (show _ * 280 ≤ 140737488355328; omega) | (show _ * 72 ≤ 140737488355328; omega) | (show _ * 48 ≤ 140737488355328; omega)) ?_; conv => whnf)
      | (refine And.intro (by dsimp only; omega) ?_; conv => whnf)
      | fail)
    refine ⟨(D2, M2), ⟨e3, hx2⟩, by dsimp only; omega, ?_⟩
    refine ⟨[], ?_⟩
    conv => whnf
    refine ⟨rfl, ?_, ?_⟩ <;> (repeat' (first | exact trivial | (exact congrArg (Value.int .i64) (by (try dsimp only); omega)) | exact rfl | exact fun _ _ => rfl | apply And.intro | (intro i hi; rcases i with _ | _ | i <;> first | rfl | (exfalso; omega) | (simp at hi; done) | (simp at hi; omega)) | exact fun _ _ => by simp))
include hc H in
theorem sortstable_ok (L : List Rw) (hL : L.length ≤ 100000) (hP : ∀ x ∈ L, P x) : ACall Try.prog 128 [.own 901 0, .fn (.func f) [] [.dp [c0, c1, c2]]] (rowsH L) (.tup []) (rowsH (srt (ltC cmp) L)) := by
  have q := stable_ok P cmp f c0 c1 c2 hc H L L.length rfl hL hP
  refine acall_on (mu := []) [] [] mixed Try.func128 rfl rfl rfl ?_
  conv => whnf
  repeat' (first
    | (refine And.intro (by omega) ?_; conv => whnf)
    | (refine And.intro rfl ?_; conv => whnf)
    | (refine And.intro (Nat.le_of_ble_eq_true rfl) ?_; conv => whnf)
    | (refine And.intro (fun i hi => ⟨_, rfl⟩) ?_; conv => whnf)
    | (refine ⟨_, _, _, .gen [901] _ _ _ rfl (q) rfl rfl rfl rfl rfl, ?_⟩; conv => whnf)
    | (refine ⟨_, _, _, .gen [901] _ _ _ rfl (ACall.arg ?harg (q)) rfl rfl rfl rfl rfl, ?_⟩; (case harg => (repeat' (first | exact trivial | exact rfl | exact fun _ _ => rfl | apply And.intro | (intro i hi; rcases i with _ | _ | i <;> first | rfl | (exfalso; omega) | (simp at hi; done) | (simp at hi; omega)) | exact fun _ _ => by simp))); (conv => whnf))
    | (refine And.intro (fun hq => ?_) (fun hq => ?_) <;> (first | (exfalso; simp at hq; done) | (exfalso; simp only [cond_true, cond_false, Bool.not_eq_true', Bool.not_eq_false', decide_eq_true_eq, decide_eq_false_iff_not] at hq; (try dsimp only at hq); omega) | (exfalso; simp at hq; omega) | (conv => whnf)))
    | (refine fun hq => ?_; conv => whnf)
    | (refine And.intro (by first | (show _ * 1 ≤ 140737488355328; omega) | (show _ * 8 ≤ 140737488355328; omega) | (show _ * 24 ≤ 140737488355328; omega) | (show _ * 16 ≤ 140737488355328; omega) | (show _ * 32 ≤ 140737488355328; omega) | (show _ * 120 ≤ 140737488355328; omega) | (show _ * 280 ≤ 140737488355328; omega) | (show _ * 72 ≤ 140737488355328; omega) | (show _ * 48 ≤ 140737488355328; omega)) ?_; conv => whnf)
    | (refine And.intro (by dsimp only; omega) ?_; conv => whnf)
    | fail)
  all_goals first | exact trivial | exact ⟨rfl, by (repeat' (first | exact trivial | exact rfl | exact fun _ _ => rfl | apply And.intro | (intro i hi; rcases i with _ | _ | i <;> first | rfl | (exfalso; omega) | (simp at hi; done) | (simp at hi; omega)) | exact fun _ _ => by simp)), trivial⟩ | exact ⟨by (repeat' (first | exact trivial | exact rfl | exact fun _ _ => rfl | apply And.intro | (intro i hi; rcases i with _ | _ | i <;> first | rfl | (exfalso; omega) | (simp at hi; done) | (simp at hi; omega)) | exact fun _ _ => by simp)), trivial⟩ | exact ⟨by (repeat' (first | exact trivial | exact rfl | exact fun _ _ => rfl | apply And.intro | (intro i hi; rcases i with _ | _ | i <;> first | rfl | (exfalso; omega) | (simp at hi; done) | (simp at hi; omega)) | exact fun _ _ => by simp)), by (repeat' (first | exact trivial | exact rfl | exact fun _ _ => rfl | apply And.intro | (intro i hi; rcases i with _ | _ | i <;> first | rfl | (exfalso; omega) | (simp at hi; done) | (simp at hi; omega)) | exact fun _ _ => by simp))⟩ | exact ⟨rfl, by (repeat' (first | exact trivial | exact rfl | exact fun _ _ => rfl | apply And.intro | (intro i hi; rcases i with _ | _ | i <;> first | rfl | (exfalso; omega) | (simp at hi; done) | (simp at hi; omega)) | exact fun _ _ => by simp)), by (repeat' (first | exact trivial | exact rfl | exact fun _ _ => rfl | apply And.intro | (intro i hi; rcases i with _ | _ | i <;> first | rfl | (exfalso; omega) | (simp at hi; done) | (simp at hi; omega)) | exact fun _ _ => by simp))⟩
end
end Go.Proofs.Ytglmohcnmpbfmaa
