/- slices' stable sort of rows: swapRange, rotate. -/
import Derived.Test.YtglmohcnmpbfmaaFx
import Derived.Test.YtglmohcnmpbfmaaGa
import Derived.Test.YtglmohcnmpbfmaaFv
set_option linter.unusedVariables false
set_option linter.unusedSimpArgs false
namespace Go.Proofs.Ytglmohcnmpbfmaa
open Go.RowKit
set_option maxRecDepth 100000
set_option maxHeartbeats 1000000
def rowsF (L : List (List Int)) (k : Nat) : List DV := [i64L (L.getD k [])]
def rowsH (L : List (List Int)) : List (Nat × Ob) := [(901, .row 31 1 0 false L.length (rowsF L))]
def swap2 (L : List (List Int)) (i j : Nat) : List (List Int) := (L.set i (L.getD j [])).set j (L.getD i [])
theorem swap2_len (L : List (List Int)) (i j : Nat) : (swap2 L i j).length = L.length := by simp [swap2]
def swapN (L : List (List Int)) (a b : Nat) : Nat → List (List Int)
  | 0 => L
  | n + 1 => swap2 (swapN L a b n) (a + n) (b + n)
theorem swapN_len (L : List (List Int)) (a b : Nat) : ∀ n, (swapN L a b n).length = L.length
  | 0 => rfl
  | n + 1 => (swap2_len _ _ _).trans (swapN_len L a b n)
theorem set_getD (L : List (List Int)) (i : Nat) (x : List Int) (hi : i < L.length) {k : Nat} : (L.set i x).getD k [] = if k = i then x else L.getD k [] := by
  rw [List.getD_eq_getElem?_getD, List.getElem?_set]
  split
  · subst i; simp [hi]
  · rename_i h; rw [if_neg (fun z => h z.symm), List.getD_eq_getElem?_getD]
theorem spl_one (x d : DV) : spl [x] 0 [d] = [d] := rfl
theorem swap_same (M : List (List Int)) (z1 z2 : Int) (i j : Nat) (h1 : z1.toNat = i) (h2 : z2.toNat = j) (hi : i < M.length) (hj : j < M.length) : ∀ k, k < M.length →
    (if k = z2.toNat then spl ((fun k => if k = z1.toNat then spl (rowsF M z1.toNat) 0 [i64L (M.getD z2.toNat [])] else rowsF M k) z2.toNat) 0 [i64L (M.getD z1.toNat [])] else (fun k => if k = z1.toNat then spl (rowsF M z1.toNat) 0 [i64L (M.getD z2.toNat [])] else rowsF M k) k) = rowsF (swap2 M i j) k := fun k hk => by
  rw [h1, h2]
  have e : ∀ y, rowsF M y = [i64L (M.getD y [])] := fun _ => rfl
  have g : (swap2 M i j).getD k [] = if k = j then M.getD i [] else if k = i then M.getD j [] else M.getD k [] := by
    unfold swap2
    rw [set_getD _ _ _ (by rw [List.length_set]; exact hj), set_getD _ _ _ hi]
  have g2 : rowsF (swap2 M i j) k = [i64L (if k = j then M.getD i [] else if k = i then M.getD j [] else M.getD k [])] := by unfold rowsF; rw [g]
  rw [g2]
  dsimp only
  by_cases q : k = j
  · rw [if_pos q, if_pos q]
    split <;> rfl
  · rw [if_neg q, if_neg q]
    by_cases q2 : k = i
    · rw [if_pos q2, if_pos q2]; rfl
    · rw [if_neg q2, if_neg q2]; rfl
theorem swaprange_ok (L : List (List Int)) (a b n f : Nat) (c0 c1 c2 : DV) (hL : L.length ≤ 1000000) (ha : a + n ≤ L.length) (hb : b + n ≤ L.length) : ACall Try.prog 287 [.own 901 0, exI .i64 a, exI .i64 b, exI .i64 n, .fn (.func f) [] [.dp [c0, c1, c2]]] (rowsH L) (.tup []) (rowsH (swapN L a b n)) := by
  refine acall_on (mu := []) [] [] mixed Try.func287 rfl rfl rfl ?_
  conv => whnf
  repeat' (first
    | (refine And.intro (by omega) ?_; conv => whnf)
    | (refine And.intro rfl ?_; conv => whnf)
    | (refine And.intro (Nat.le_of_ble_eq_true rfl) ?_; conv => whnf)
    | (refine And.intro (fun i hi => ⟨_, rfl⟩) ?_; conv => whnf)
    | (refine And.intro (fun hq => ?_) (fun hq => ?_) <;> (first | (exfalso; simp at hq; done) | (exfalso; simp at *; omega) | (exfalso; simp_all; done) | (conv => whnf)))
    | (refine And.intro (by first | (show _ * 1 ≤ 140737488355328; omega) | (show _ * 8 ≤ 140737488355328; omega) | (show _ * 24 ≤ 140737488355328; omega) | (show _ * 16 ≤ 140737488355328; omega) | (show _ * 32 ≤ 140737488355328; omega) | (show _ * 120 ≤ 140737488355328; omega) | (show _ * 280 ≤ 140737488355328; omega) | (show _ * 72 ≤ 140737488355328; omega) | (show _ * 48 ≤ 140737488355328; omega)) ?_; conv => whnf)
    | (refine And.intro (by simp at *; omega) ?_; conv => whnf)
    | (refine fun hq => ?_; conv => whnf)
    | fail)
  refine ⟨[], ?_⟩
  conv => whnf
  refine ⟨Nat, fun i => i ≤ n, fun i => n - i, fun i => [(10, exI .i64 i)], fun i => rowsH (swapN L a b i), ⟨0, by omega, ?_⟩, ?_⟩
  · skip
    refine ⟨[], ?_⟩
    conv => whnf
    refine ⟨rfl, ?_, ?_⟩ <;> (repeat' (first | exact trivial | exact rfl | exact fun _ _ => rfl | apply And.intro | (intro i hi; rcases i with _ | _ | i <;> first | rfl | (exfalso; omega) | (simp at hi; done) | (simp at hi; omega)) | exact fun _ _ => by simp))
  intro i hi
  conv => whnf
  have hl := swapN_len L a b i
  rcases Nat.lt_or_ge i n with hlt | hge
  · have hs : swapN L a b (i + 1) = swap2 (swapN L a b i) (a + i) (b + i) := rfl
    generalize swapN L a b i = M at hl hs ⊢
    conv => whnf
    repeat' (first
      | (refine And.intro (by omega) ?_; conv => whnf)
      | (refine And.intro rfl ?_; conv => whnf)
      | (refine And.intro (Nat.le_of_ble_eq_true rfl) ?_; conv => whnf)
      | (refine And.intro (fun i hi => ⟨_, rfl⟩) ?_; conv => whnf)
      | (refine And.intro (fun hq => ?_) (fun hq => ?_) <;> (first | (exfalso; simp at hq; done) | (exfalso; simp at *; omega) | (exfalso; simp_all; done) | (conv => whnf)))
      | (refine And.intro (by first | (show _ * 1 ≤ 140737488355328; omega) | (show _ * 8 ≤ 140737488355328; omega) | (show _ * 24 ≤ 140737488355328; omega) | (show _ * 16 ≤ 140737488355328; omega) | (show _ * 32 ≤ 140737488355328; omega) | (show _ * 120 ≤ 140737488355328; omega) | (show _ * 280 ≤ 140737488355328; omega) | (show _ * 72 ≤ 140737488355328; omega) | (show _ * 48 ≤ 140737488355328; omega)) ?_; conv => whnf)
      | (refine And.intro (by simp at *; omega) ?_; conv => whnf)
      | (refine fun hq => ?_; conv => whnf)
      | fail)
    refine ⟨i + 1, by omega, by dsimp only; omega, ?_⟩
    refine ⟨[], ?_⟩
    conv => whnf
    refine ⟨rfl, ?_, ?_⟩ <;> (repeat' (first | exact trivial | ((rw [hs]; exact swap_same M _ _ (a + i) (b + i) (by omega) (by omega) (by omega) (by omega))) | ((rw [hs]; exact (swap2_len _ _ _).symm)) | exact rfl | exact fun _ _ => rfl | apply And.intro | (intro i hi; rcases i with _ | _ | i <;> first | rfl | (exfalso; omega) | (simp at hi; done) | (simp at hi; omega)) | exact fun _ _ => by simp))
  · obtain rfl : i = n := by omega
    conv => whnf
    repeat' (first
      | (refine And.intro (by omega) ?_; conv => whnf)
      | (refine And.intro rfl ?_; conv => whnf)
      | (refine And.intro (Nat.le_of_ble_eq_true rfl) ?_; conv => whnf)
      | (refine And.intro (fun i hi => ⟨_, rfl⟩) ?_; conv => whnf)
      | (refine And.intro (fun hq => ?_) (fun hq => ?_) <;> (first | (exfalso; simp at hq; done) | (exfalso; simp at *; omega) | (exfalso; simp_all; done) | (conv => whnf)))
      | (refine And.intro (by first | (show _ * 1 ≤ 140737488355328; omega) | (show _ * 8 ≤ 140737488355328; omega) | (show _ * 24 ≤ 140737488355328; omega) | (show _ * 16 ≤ 140737488355328; omega) | (show _ * 32 ≤ 140737488355328; omega) | (show _ * 120 ≤ 140737488355328; omega) | (show _ * 280 ≤ 140737488355328; omega) | (show _ * 72 ≤ 140737488355328; omega) | (show _ * 48 ≤ 140737488355328; omega)) ?_; conv => whnf)
      | (refine And.intro (by simp at *; omega) ?_; conv => whnf)
      | (refine fun hq => ?_; conv => whnf)
      | fail)
    all_goals first | exact trivial | exact ⟨rfl, by (repeat' (first | exact trivial | exact rfl | exact fun _ _ => rfl | apply And.intro | (intro i hi; rcases i with _ | _ | i <;> first | rfl | (exfalso; omega) | (simp at hi; done) | (simp at hi; omega)) | exact fun _ _ => by simp)), trivial⟩ | exact ⟨by (repeat' (first | exact trivial | exact rfl | exact fun _ _ => rfl | apply And.intro | (intro i hi; rcases i with _ | _ | i <;> first | rfl | (exfalso; omega) | (simp at hi; done) | (simp at hi; omega)) | exact fun _ _ => by simp)), trivial⟩ | exact ⟨by (repeat' (first | exact trivial | exact rfl | exact fun _ _ => rfl | apply And.intro | (intro i hi; rcases i with _ | _ | i <;> first | rfl | (exfalso; omega) | (simp at hi; done) | (simp at hi; omega)) | exact fun _ _ => by simp)), by (repeat' (first | exact trivial | exact rfl | exact fun _ _ => rfl | apply And.intro | (intro i hi; rcases i with _ | _ | i <;> first | rfl | (exfalso; omega) | (simp at hi; done) | (simp at hi; omega)) | exact fun _ _ => by simp))⟩ | exact ⟨rfl, by (repeat' (first | exact trivial | exact rfl | exact fun _ _ => rfl | apply And.intro | (intro i hi; rcases i with _ | _ | i <;> first | rfl | (exfalso; omega) | (simp at hi; done) | (simp at hi; omega)) | exact fun _ _ => by simp)), by (repeat' (first | exact trivial | exact rfl | exact fun _ _ => rfl | apply And.intro | (intro i hi; rcases i with _ | _ | i <;> first | rfl | (exfalso; omega) | (simp at hi; done) | (simp at hi; omega)) | exact fun _ _ => by simp))⟩
def swI (a b n k : Nat) : Nat := if a ≤ k ∧ k < a + n then b + (k - a) else if b ≤ k ∧ k < b + n then a + (k - b) else k
theorem swap2_getD (M : List (List Int)) (i j k : Nat) (hi : i < M.length) (hj : j < M.length) : (swap2 M i j).getD k [] = if k = j then M.getD i [] else if k = i then M.getD j [] else M.getD k [] := by
  unfold swap2
  rw [set_getD _ _ _ (by rw [List.length_set]; exact hj), set_getD _ _ _ hi]
theorem swapN_getD (L : List (List Int)) (a b : Nat) : ∀ n, (a + n ≤ b ∨ b + n ≤ a) → a + n ≤ L.length → b + n ≤ L.length → ∀ k, (swapN L a b n).getD k [] = L.getD (swI a b n k) []
  | 0, _, _, _, k => by
    have e : swI a b 0 k = k := by unfold swI; split; omega; split; omega; rfl
    rw [e]; rfl
  | n + 1, h, ha, hb, k => by
    have ih := swapN_getD L a b n (by omega) (by omega) (by omega)
    have hl := swapN_len L a b n
    rw [show swapN L a b (n + 1) = swap2 (swapN L a b n) (a + n) (b + n) from rfl, swap2_getD _ _ _ _ (by omega) (by omega), ih, ih, ih]
    have e1 : swI a b n (a + n) = a + n := by unfold swI; split; omega; split; omega; rfl
    have e2 : swI a b n (b + n) = b + n := by unfold swI; split; omega; split; omega; rfl
    rw [e1, e2]
    by_cases q : k = b + n
    · rw [if_pos q]
      congr 1
      unfold swI; split; omega; split <;> omega
    · rw [if_neg q]
      by_cases q2 : k = a + n
      · rw [if_pos q2]
        congr 1
        unfold swI; split <;> omega
      · rw [if_neg q2]
        congr 1
        unfold swI
        by_cases c1 : a ≤ k ∧ k < a + n
        · rw [if_pos c1, if_pos (by omega)]
        · rw [if_neg c1, if_neg (c := a ≤ k ∧ k < a + (n + 1)) (by omega)]
          by_cases c2 : b ≤ k ∧ k < b + n
          · rw [if_pos c2, if_pos (by omega)]
          · rw [if_neg c2, if_neg (by omega)]
def perm (L : List (List Int)) (s : Nat → Nat) : List (List Int) := (List.range L.length).map fun k => L.getD (s k) []
theorem perm_len (L : List (List Int)) (s : Nat → Nat) : (perm L s).length = L.length := by simp [perm]
theorem perm_getD (L : List (List Int)) (s : Nat → Nat) {k : Nat} (h : k < L.length) : (perm L s).getD k [] = L.getD (s k) [] := by
  unfold perm
  rw [List.getD_eq_getElem?_getD, List.getElem?_map, List.getElem?_range h]; rfl
theorem ext_getD {L M : List (List Int)} (hl : L.length = M.length) (h : ∀ k, k < L.length → L.getD k [] = M.getD k []) : L = M := by
  apply List.ext_getElem hl
  intro k h1 h2
  have := h k h1
  rwa [List.getD_eq_getElem?_getD, List.getD_eq_getElem?_getD, List.getElem?_eq_getElem h1, List.getElem?_eq_getElem h2] at this
def rotI (m i j k : Nat) : Nat := if k < m - i then k else if k < m - i + j then k + i else if k < m + j then k - j else k
def rotL (L : List (List Int)) (m i j : Nat) : List (List Int) := perm L (rotI m i j)
theorem rot_gt (L : List (List Int)) (m i j : Nat) (h : j < i) (hi : i ≤ m) (hb : m + j ≤ L.length) : rotL (swapN L (m - i) m j) m (i - j) j = rotL L m i j := by
  have hl := swapN_len L (m - i) m j
  refine ext_getD (by unfold rotL; rw [perm_len, perm_len, hl]) fun k hk => ?_
  unfold rotL at hk ⊢
  rw [perm_len, hl] at hk
  rw [perm_getD _ _ (by omega), perm_getD _ _ hk, swapN_getD L (m - i) m j (by omega) (by omega) (by omega)]
  congr 1
  unfold rotI swI
  repeat' split
  all_goals omega
theorem rot_lt (L : List (List Int)) (m i j : Nat) (h : i < j) (hi : i ≤ m) (hb : m + j ≤ L.length) : rotL (swapN L (m - i) (m + j - i) i) m i (j - i) = rotL L m i j := by
  have hl := swapN_len L (m - i) (m + j - i) i
  refine ext_getD (by unfold rotL; rw [perm_len, perm_len, hl]) fun k hk => ?_
  unfold rotL at hk ⊢
  rw [perm_len, hl] at hk
  rw [perm_getD _ _ (by omega), perm_getD _ _ hk, swapN_getD L (m - i) (m + j - i) i (by omega) (by omega) (by omega)]
  congr 1
  unfold rotI swI
  repeat' split
  all_goals omega
theorem rot_eq (L : List (List Int)) (m i : Nat) (hi : i ≤ m) (hb : m + i ≤ L.length) : swapN L (m - i) m i = rotL L m i i := by
  have hl := swapN_len L (m - i) m i
  refine ext_getD (by unfold rotL; rw [perm_len, hl]) fun k hk => ?_
  unfold rotL
  rw [perm_getD _ _ (by omega), swapN_getD L (m - i) m i (by omega) (by omega) (by omega)]
  congr 1
  unfold rotI swI
  repeat' split
  all_goals omega
theorem rotate_ok (L : List (List Int)) (a m b f : Nat) (c0 c1 c2 : DV) (hL : L.length ≤ 1000000) (ha : a < m) (hm : m < b) (hb : b ≤ L.length) : ACall Try.prog 272 [.own 901 0, exI .i64 a, exI .i64 m, exI .i64 b, .fn (.func f) [] [.dp [c0, c1, c2]]] (rowsH L) (.tup []) (rowsH (rotL L m (m - a) (b - m))) := by
  refine acall_on (mu := []) [] [] mixed Try.func272 rfl rfl rfl ?_
  conv => whnf
  repeat' (first
    | (refine And.intro (by omega) ?_; conv => whnf)
    | (refine And.intro rfl ?_; conv => whnf)
    | (refine And.intro (Nat.le_of_ble_eq_true rfl) ?_; conv => whnf)
    | (refine And.intro (fun i hi => ⟨_, rfl⟩) ?_; conv => whnf)
    | (refine And.intro (fun hq => ?_) (fun hq => ?_) <;> (first | (exfalso; simp at hq; done) | (exfalso; simp at *; omega) | (exfalso; simp_all; done) | (conv => whnf)))
    | (refine And.intro (by first | (show _ * 1 ≤ 140737488355328; omega) | (show _ * 8 ≤ 140737488355328; omega) | (show _ * 24 ≤ 140737488355328; omega) | (show _ * 16 ≤ 140737488355328; omega) | (show _ * 32 ≤ 140737488355328; omega) | (show _ * 120 ≤ 140737488355328; omega) | (show _ * 280 ≤ 140737488355328; omega) | (show _ * 72 ≤ 140737488355328; omega) | (show _ * 48 ≤ 140737488355328; omega)) ?_; conv => whnf)
    | (refine And.intro (by simp at *; omega) ?_; conv => whnf)
    | (refine fun hq => ?_; conv => whnf)
    | fail)
  refine ⟨[], ?_⟩
  conv => whnf
  refine ⟨List (List Int) × Nat × Nat, fun x => rotL x.1 m x.2.1 x.2.2 = rotL L m (m - a) (b - m) ∧ x.1.length = L.length ∧ 0 < x.2.1 ∧ 0 < x.2.2 ∧ x.2.1 ≤ m ∧ m + x.2.2 ≤ L.length, fun x => x.2.1 + x.2.2, fun x => [(10, exI .i64 x.2.1), (11, exI .i64 x.2.2)], fun x => rowsH x.1, ⟨(L, m - a, b - m), ⟨rfl, rfl, by dsimp only; omega, by dsimp only; omega, by dsimp only; omega, by dsimp only; omega⟩, ?_⟩, ?_⟩
  · skip
    refine ⟨[], ?_⟩
    conv => whnf
    refine ⟨rfl, ?_, ?_⟩ <;> (repeat' (first | exact trivial | (exact congrArg (Value.int .i64) (by (try dsimp only); omega)) | exact rfl | exact fun _ _ => rfl | apply And.intro | (intro i hi; rcases i with _ | _ | i <;> first | rfl | (exfalso; omega) | (simp at hi; done) | (simp at hi; omega)) | exact fun _ _ => by simp))
  rintro ⟨M, i, j⟩ ⟨hR, hl, hi, hj, him, hjm⟩
  dsimp only at hR hl hi hj him hjm
  conv => whnf
  rcases Nat.lt_trichotomy i j with h | h | h
  · have q := swaprange_ok M (m - i) (m + j - i) i f c0 c1 c2 (by omega) (by omega) (by omega)
    have e := rot_lt M m i j h him (by omega)
    have hl2 := swapN_len M (m - i) (m + j - i) i
    generalize swapN M (m - i) (m + j - i) i = M2 at q e hl2
    conv => whnf
    repeat' (first
      | (refine And.intro (by omega) ?_; conv => whnf)
      | (refine And.intro rfl ?_; conv => whnf)
      | (refine And.intro (Nat.le_of_ble_eq_true rfl) ?_; conv => whnf)
      | (refine And.intro (fun i hi => ⟨_, rfl⟩) ?_; conv => whnf)
      | (refine ⟨_, _, _, .gen [901] _ _ _ rfl (q) rfl rfl rfl rfl rfl, ?_⟩; conv => whnf)
      | (refine ⟨_, _, _, .gen [901] _ _ _ rfl (ACall.arg ?harg (q)) rfl rfl rfl rfl rfl, ?_⟩; (case harg => (repeat' (first | exact trivial | (exact congrArg (Value.int .i64) (by (try dsimp only); omega)) | exact rfl | exact fun _ _ => rfl | apply And.intro | (intro i hi; rcases i with _ | _ | i <;> first | rfl | (exfalso; omega) | (simp at hi; done) | (simp at hi; omega)) | exact fun _ _ => by simp))); (conv => whnf))
      | (refine And.intro (fun hq => ?_) (fun hq => ?_) <;> (first | (exfalso; simp at hq; done) | (exfalso; simp at *; omega) | (exfalso; simp_all; done) | (conv => whnf)))
      | (refine And.intro (by first | (show _ * 1 ≤ 140737488355328; omega) | (show _ * 8 ≤ 140737488355328; omega) | (show _ * 24 ≤ 140737488355328; omega) | (show _ * 16 ≤ 140737488355328; omega) | (show _ * 32 ≤ 140737488355328; omega) | (show _ * 120 ≤ 140737488355328; omega) | (show _ * 280 ≤ 140737488355328; omega) | (show _ * 72 ≤ 140737488355328; omega) | (show _ * 48 ≤ 140737488355328; omega)) ?_; conv => whnf)
      | (refine And.intro (by simp at *; omega) ?_; conv => whnf)
      | (refine fun hq => ?_; conv => whnf)
      | fail)
    refine ⟨(M2, i, j - i), ⟨by dsimp only; rw [e]; exact hR, by dsimp only; omega, hi, by dsimp only; omega, him, by dsimp only; omega⟩, by dsimp only; omega, ?_⟩
    refine ⟨[], ?_⟩
    conv => whnf
    refine ⟨rfl, ?_, ?_⟩ <;> (repeat' (first | exact trivial | (exact congrArg (Value.int .i64) (by (try dsimp only); omega)) | exact rfl | exact fun _ _ => rfl | apply And.intro | (intro i hi; rcases i with _ | _ | i <;> first | rfl | (exfalso; omega) | (simp at hi; done) | (simp at hi; omega)) | exact fun _ _ => by simp))
  · subst h
    have q := swaprange_ok M (m - i) m i f c0 c1 c2 (by omega) (by omega) (by omega)
    rw [rot_eq M m i him (by omega), hR] at q
    generalize rotL L m (m - a) (b - m) = R at q hR ⊢
    conv => whnf
    repeat' (first
      | (refine And.intro (by omega) ?_; conv => whnf)
      | (refine And.intro rfl ?_; conv => whnf)
      | (refine And.intro (Nat.le_of_ble_eq_true rfl) ?_; conv => whnf)
      | (refine And.intro (fun i hi => ⟨_, rfl⟩) ?_; conv => whnf)
      | (refine ⟨_, _, _, .gen [901] _ _ _ rfl (q) rfl rfl rfl rfl rfl, ?_⟩; conv => whnf)
      | (refine ⟨_, _, _, .gen [901] _ _ _ rfl (ACall.arg ?harg (q)) rfl rfl rfl rfl rfl, ?_⟩; (case harg => (repeat' (first | exact trivial | (exact congrArg (Value.int .i64) (by (try dsimp only); omega)) | exact rfl | exact fun _ _ => rfl | apply And.intro | (intro i hi; rcases i with _ | _ | i <;> first | rfl | (exfalso; omega) | (simp at hi; done) | (simp at hi; omega)) | exact fun _ _ => by simp))); (conv => whnf))
      | (refine And.intro (fun hq => ?_) (fun hq => ?_) <;> (first | (exfalso; simp at hq; done) | (exfalso; simp at *; omega) | (exfalso; simp_all; done) | (conv => whnf)))
      | (refine And.intro (by first | (show _ * 1 ≤ 140737488355328; omega) | (show _ * 8 ≤ 140737488355328; omega) | (show _ * 24 ≤ 140737488355328; omega) | (show _ * 16 ≤ 140737488355328; omega) | (show _ * 32 ≤ 140737488355328; omega) | (show _ * 120 ≤ 140737488355328; omega) | (show _ * 280 ≤ 140737488355328; omega) | (show _ * 72 ≤ 140737488355328; omega) | (show _ * 48 ≤ 140737488355328; omega)) ?_; conv => whnf)
      | (refine And.intro (by simp at *; omega) ?_; conv => whnf)
      | (refine fun hq => ?_; conv => whnf)
      | fail)
    all_goals first | exact trivial | exact ⟨rfl, by (repeat' (first | exact trivial | exact rfl | exact fun _ _ => rfl | apply And.intro | (intro i hi; rcases i with _ | _ | i <;> first | rfl | (exfalso; omega) | (simp at hi; done) | (simp at hi; omega)) | exact fun _ _ => by simp)), trivial⟩ | exact ⟨by (repeat' (first | exact trivial | exact rfl | exact fun _ _ => rfl | apply And.intro | (intro i hi; rcases i with _ | _ | i <;> first | rfl | (exfalso; omega) | (simp at hi; done) | (simp at hi; omega)) | exact fun _ _ => by simp)), trivial⟩ | exact ⟨by (repeat' (first | exact trivial | exact rfl | exact fun _ _ => rfl | apply And.intro | (intro i hi; rcases i with _ | _ | i <;> first | rfl | (exfalso; omega) | (simp at hi; done) | (simp at hi; omega)) | exact fun _ _ => by simp)), by (repeat' (first | exact trivial | exact rfl | exact fun _ _ => rfl | apply And.intro | (intro i hi; rcases i with _ | _ | i <;> first | rfl | (exfalso; omega) | (simp at hi; done) | (simp at hi; omega)) | exact fun _ _ => by simp))⟩ | exact ⟨rfl, by (repeat' (first | exact trivial | exact rfl | exact fun _ _ => rfl | apply And.intro | (intro i hi; rcases i with _ | _ | i <;> first | rfl | (exfalso; omega) | (simp at hi; done) | (simp at hi; omega)) | exact fun _ _ => by simp)), by (repeat' (first | exact trivial | exact rfl | exact fun _ _ => rfl | apply And.intro | (intro i hi; rcases i with _ | _ | i <;> first | rfl | (exfalso; omega) | (simp at hi; done) | (simp at hi; omega)) | exact fun _ _ => by simp))⟩
  · have q := swaprange_ok M (m - i) m j f c0 c1 c2 (by omega) (by omega) (by omega)
    have e := rot_gt M m i j h him (by omega)
    have hl2 := swapN_len M (m - i) m j
    generalize swapN M (m - i) m j = M2 at q e hl2
    conv => whnf
    repeat' (first
      | (refine And.intro (by omega) ?_; conv => whnf)
      | (refine And.intro rfl ?_; conv => whnf)
      | (refine And.intro (Nat.le_of_ble_eq_true rfl) ?_; conv => whnf)
      | (refine And.intro (fun i hi => ⟨_, rfl⟩) ?_; conv => whnf)
      | (refine ⟨_, _, _, .gen [901] _ _ _ rfl (q) rfl rfl rfl rfl rfl, ?_⟩; conv => whnf)
      | (refine ⟨_, _, _, .gen [901] _ _ _ rfl (ACall.arg ?harg (q)) rfl rfl rfl rfl rfl, ?_⟩; (case harg => (repeat' (first | exact trivial | (exact congrArg (Value.int .i64) (by (try dsimp only); omega)) | exact rfl | exact fun _ _ => rfl | apply And.intro | (intro i hi; rcases i with _ | _ | i <;> first | rfl | (exfalso; omega) | (simp at hi; done) | (simp at hi; omega)) | exact fun _ _ => by simp))); (conv => whnf))
      | (refine And.intro (fun hq => ?_) (fun hq => ?_) <;> (first | (exfalso; simp at hq; done) | (exfalso; simp at *; omega) | (exfalso; simp_all; done) | (conv => whnf)))
      | (refine And.intro (by first | (show _ * 1 ≤ 140737488355328; omega) | (show _ * 8 ≤ 140737488355328; omega) | (show _ * 24 ≤ 140737488355328; omega) | (show _ * 16 ≤ 140737488355328; omega) | (show _ * 32 ≤ 140737488355328; omega) | (show _ * 120 ≤ 140737488355328; omega) | (show _ * 280 ≤ 140737488355328; omega) | (show _ * 72 ≤ 140737488355328; omega) | (show _ * 48 ≤ 140737488355328; omega)) ?_; conv => whnf)
      | (refine And.intro (by simp at *; omega) ?_; conv => whnf)
      | (refine fun hq => ?_; conv => whnf)
      | fail)
    refine ⟨(M2, i - j, j), ⟨by dsimp only; rw [e]; exact hR, by dsimp only; omega, by dsimp only; omega, hj, by dsimp only; omega, hjm⟩, by dsimp only; omega, ?_⟩
    refine ⟨[], ?_⟩
    conv => whnf
    refine ⟨rfl, ?_, ?_⟩ <;> (repeat' (first | exact trivial | (exact congrArg (Value.int .i64) (by (try dsimp only); omega)) | exact rfl | exact fun _ _ => rfl | apply And.intro | (intro i hi; rcases i with _ | _ | i <;> first | rfl | (exfalso; omega) | (simp at hi; done) | (simp at hi; omega)) | exact fun _ _ => by simp))
end Go.Proofs.Ytglmohcnmpbfmaa
