/- slices' stable sort of rows: symMerge, the walk. -/
import Derived.Test.YtglmohcnmpbfmaaTe
set_option linter.unusedVariables false
set_option linter.unusedSimpArgs false
namespace Go.Proofs.Ytglmohcnmpbfmaa
open Go.RowKit
set_option maxRecDepth 100000
set_option maxHeartbeats 1000000
section
variable (P : Rw → Prop) (cmp : Rw → Rw → Int) (f : Nat) (c0 c1 c2 : DV)
  (hc : ∀ x y, P x → P y → ACall Try.prog f [.d (i64L x), .d (i64L y), .dp [c0, c1, c2]] [] (exI .i64 (cmp x y)) []) (H : Swo (ltC cmp))
include hc H
theorem sym_one (A Y B : List Rw) (x : Rw) (a m b : Nat) (ha : a = A.length) (hm : m = a + 1) (hb : b = m + Y.length) (hY0 : 0 < Y.length) (hn : (A ++ ([x] ++ (Y ++ B))).length ≤ 1000000) (hP : AllP P (A ++ ([x] ++ (Y ++ B)))) (hY : Srt (ltC cmp) Y) :
    ACall Try.prog 244 [.own 901 0, exI .i64 a, exI .i64 m, exI .i64 b, .fn (.func f) [] [.dp [c0, c1, c2]]] (rowsH (A ++ ([x] ++ (Y ++ B)))) (.tup []) (rowsH (A ++ (mrg (ltC cmp) [x] Y ++ B))) := by
  obtain ⟨L, hL⟩ : ∃ L, L = A ++ ([x] ++ (Y ++ B)) := ⟨_, rfl⟩
  obtain ⟨R, hR⟩ : ∃ R, R = A ++ (mrg (ltC cmp) [x] Y ++ B) := ⟨_, rfl⟩
  have hlen : L.length = A.length + 1 + Y.length + B.length := by rw [hL]; simp; omega
  have gY : ∀ k, k < Y.length → L.getD (m + k) [] = Y.getD k [] := fun k hk => by
    rw [hL, getD_Y A [x] Y B (m + k) (by simp; omega) (by simp; omega)]
    congr 1; simp; omega
  have gx : L.getD a [] = x := by rw [hL, getD_X A [x] Y B a (by omega) (by simp; omega)]; simp [ha]
  rw [← hL] at hn hP ⊢
  rw [← hR]
  refine acall_on (mu := []) [] [] mixed Try.func244 rfl rfl rfl ?_
  conv => whnf
  repeat' (first
    | (refine And.intro (by omega) ?_; conv => whnf)
    | (refine And.intro rfl ?_; conv => whnf)
    | (refine And.intro (Nat.le_of_ble_eq_true rfl) ?_; conv => whnf)
    | (refine And.intro (fun i hi => ⟨_, rfl⟩) ?_; conv => whnf)
    | (refine And.intro (fun hq => ?_) (fun hq => ?_) <;> (first | (exfalso; simp at hq; done) | (exfalso; simp only [cond_true, cond_false, Bool.not_eq_true', Bool.not_eq_false', decide_eq_true_eq, decide_eq_false_iff_not] at hq; (try dsimp only at hq); omega) | (exfalso; simp at hq; omega) | (conv => whnf)))
    | (refine fun hq => ?_; conv => whnf)
    | (refine And.intro (by first | (show _ * 1 ≤ 140737488355328; omega) | (show _ * 8 ≤ 140737488355328; omega) | (show _ * 24 ≤ 140737488355328; omega) | (show _ * 16 ≤ 140737488355328; omega) | (show _ * 32 ≤ 140737488355328; omega) | (show _ * 120 ≤ 140737488355328; omega) | (show _ * 280 ≤ 140737488355328; omega) | (show _ * 72 ≤ 140737488355328; omega) | (show _ * 48 ≤ 140737488355328; omega)) ?_; conv => whnf)
    | (refine And.intro (by dsimp only; omega) ?_; conv => whnf)
    | fail)
  refine ⟨[], ?_⟩
  conv => whnf
  refine ⟨Nat × Nat, fun q => m ≤ q.1 ∧ q.1 ≤ q.2 ∧ q.2 ≤ b ∧ (∀ k, k < q.1 - m → ltC cmp (Y.getD k []) x = true) ∧ (∀ k, q.2 - m ≤ k → k < Y.length → ltC cmp (Y.getD k []) x = false), fun q => q.2 - q.1, fun q => [(10, exI .i64 q.1), (11, exI .i64 q.2)], fun _ => rowsH L, ⟨(m, b), ⟨by dsimp only; omega, by dsimp only; omega, by dsimp only; omega, fun k hk => by dsimp only at hk; omega, fun k hk hk2 => by dsimp only at hk; omega⟩, ?_⟩, ?_⟩
  · skip
    refine ⟨[], ?_⟩
    conv => whnf
    refine ⟨rfl, ?_, ?_⟩ <;> (repeat' (first | exact trivial | exact rfl | exact fun _ _ => rfl | apply And.intro | (intro i hi; rcases i with _ | _ | i <;> first | rfl | (exfalso; omega) | (simp at hi; done) | (simp at hi; omega)) | exact fun _ _ => by simp))
  rintro ⟨i, j⟩ ⟨h1, h2, h3, h4, h5⟩
  dsimp only at h1 h2 h3 h4 h5
  conv => whnf
  have hM := half_ok i j (by omega)
  rcases Nat.lt_or_ge i j with hlt | hge
  · obtain ⟨h, hh⟩ : ∃ h, h = (i + j) / 2 := ⟨_, rfl⟩
    rw [← hh] at hM
    have q := hc (L.getD ((h : Int)).toNat []) (L.getD ((a : Int)).toNat []) (hP _ (by omega)) (hP _ (by omega))
    have eh : ((h : Int)).toNat = m + (h - m) := by omega
    have ea : ((a : Int)).toNat = a := by omega
    have gh : L.getD ((h : Int)).toNat [] = Y.getD (h - m) [] := by rw [eh]; exact gY _ (by omega)
    by_cases hx : cmp (L.getD ((h : Int)).toNat []) (L.getD ((a : Int)).toNat []) < 0
    · have hx2 : ltC cmp (Y.getD (h - m) []) x = true := by rw [gh, ea, gx] at hx; exact decide_eq_true hx
      conv => whnf
      repeat' (first
        | (refine And.intro (by omega) ?_; conv => whnf)
        | (refine And.intro rfl ?_; conv => whnf)
        | (refine And.intro (Nat.le_of_ble_eq_true rfl) ?_; conv => whnf)
        | (refine And.intro (fun i hi => ⟨_, rfl⟩) ?_; conv => whnf)
        | (refine And.intro (fun hq => ?_) (fun hq => ?_) <;> (first | (exfalso; simp at hq; done) | (exfalso; simp only [cond_true, cond_false, Bool.not_eq_true', Bool.not_eq_false', decide_eq_true_eq, decide_eq_false_iff_not] at hq; (try dsimp only at hq); omega) | (exfalso; simp at hq; omega) | (conv => whnf)))
        | (refine fun hq => ?_; conv => whnf)
        | (refine And.intro (by first | (show _ * 1 ≤ 140737488355328; omega) | (show _ * 8 ≤ 140737488355328; omega) | (show _ * 24 ≤ 140737488355328; omega) | (show _ * 16 ≤ 140737488355328; omega) | (show _ * 32 ≤ 140737488355328; omega) | (show _ * 120 ≤ 140737488355328; omega) | (show _ * 280 ≤ 140737488355328; omega) | (show _ * 72 ≤ 140737488355328; omega) | (show _ * 48 ≤ 140737488355328; omega)) ?_; conv => whnf)
        | (refine And.intro (by dsimp only; omega) ?_; conv => whnf)
        | fail)
      rw [hM]
      conv => whnf
      repeat' (first
        | (refine And.intro (by omega) ?_; conv => whnf)
        | (refine And.intro rfl ?_; conv => whnf)
        | (refine And.intro (Nat.le_of_ble_eq_true rfl) ?_; conv => whnf)
        | (refine And.intro (fun i hi => ⟨_, rfl⟩) ?_; conv => whnf)
        | (refine ⟨_, _, _, .flat _ _ rfl (q) rfl, ?_⟩; conv => whnf)
        | (refine ⟨_, _, _, .flat _ _ rfl (ACall.arg ?harg (q)) rfl, ?_⟩; (case harg => (repeat' (first | exact trivial | exact rfl | exact fun _ _ => rfl | apply And.intro | (intro i hi; rcases i with _ | _ | i <;> first | rfl | (exfalso; omega) | (simp at hi; done) | (simp at hi; omega)) | exact fun _ _ => by simp))); (conv => whnf))
        | (refine And.intro (fun hq => ?_) (fun hq => ?_) <;> (first | (exfalso; simp at hq; done) | (exfalso; simp only [cond_true, cond_false, Bool.not_eq_true', Bool.not_eq_false', decide_eq_true_eq, decide_eq_false_iff_not] at hq; (try dsimp only at hq); omega) | (exfalso; simp at hq; omega) | (conv => whnf)))
        | (refine fun hq => ?_; conv => whnf)
        | (refine And.intro (by first | (show _ * 1 ≤ 140737488355328; omega) | (show _ * 8 ≤ 140737488355328; omega) | (show _ * 24 ≤ 140737488355328; omega) | (show _ * 16 ≤ 140737488355328; omega) | (show _ * 32 ≤ 140737488355328; omega) | (show _ * 120 ≤ 140737488355328; omega) | (show _ * 280 ≤ 140737488355328; omega) | (show _ * 72 ≤ 140737488355328; omega) | (show _ * 48 ≤ 140737488355328; omega)) ?_; conv => whnf)
        | (refine And.intro (by dsimp only; omega) ?_; conv => whnf)
        | fail)
      refine ⟨(h + 1, j), ⟨by dsimp only; omega, by dsimp only; omega, h3, fun k hk => ?_, h5⟩, by dsimp only; omega, ?_⟩
      · dsimp only at hk
        rcases Nat.lt_or_ge k (h - m) with z | z
        · exact H.lt_le (H.le_lt (srt_at hY H.ir (show k ≤ h - m by omega) (by omega)) hx2) (H.ir _)
        · obtain rfl : k = h - m := by omega
          exact hx2
      · skip
        refine ⟨[], ?_⟩
        conv => whnf
        refine ⟨rfl, ?_, ?_⟩ <;> (repeat' (first | exact trivial | exact rfl | exact fun _ _ => rfl | apply And.intro | (intro i hi; rcases i with _ | _ | i <;> first | rfl | (exfalso; omega) | (simp at hi; done) | (simp at hi; omega)) | exact fun _ _ => by simp))
    · have hx2 : ltC cmp (Y.getD (h - m) []) x = false := by rw [gh, ea, gx] at hx; exact decide_eq_false hx
      conv => whnf
      repeat' (first
        | (refine And.intro (by omega) ?_; conv => whnf)
        | (refine And.intro rfl ?_; conv => whnf)
        | (refine And.intro (Nat.le_of_ble_eq_true rfl) ?_; conv => whnf)
        | (refine And.intro (fun i hi => ⟨_, rfl⟩) ?_; conv => whnf)
        | (refine And.intro (fun hq => ?_) (fun hq => ?_) <;> (first | (exfalso; simp at hq; done) | (exfalso; simp only [cond_true, cond_false, Bool.not_eq_true', Bool.not_eq_false', decide_eq_true_eq, decide_eq_false_iff_not] at hq; (try dsimp only at hq); omega) | (exfalso; simp at hq; omega) | (conv => whnf)))
        | (refine fun hq => ?_; conv => whnf)
        | (refine And.intro (by first | (show _ * 1 ≤ 140737488355328; omega) | (show _ * 8 ≤ 140737488355328; omega) | (show _ * 24 ≤ 140737488355328; omega) | (show _ * 16 ≤ 140737488355328; omega) | (show _ * 32 ≤ 140737488355328; omega) | (show _ * 120 ≤ 140737488355328; omega) | (show _ * 280 ≤ 140737488355328; omega) | (show _ * 72 ≤ 140737488355328; omega) | (show _ * 48 ≤ 140737488355328; omega)) ?_; conv => whnf)
        | (refine And.intro (by dsimp only; omega) ?_; conv => whnf)
        | fail)
      rw [hM]
      conv => whnf
      repeat' (first
        | (refine And.intro (by omega) ?_; conv => whnf)
        | (refine And.intro rfl ?_; conv => whnf)
        | (refine And.intro (Nat.le_of_ble_eq_true rfl) ?_; conv => whnf)
        | (refine And.intro (fun i hi => ⟨_, rfl⟩) ?_; conv => whnf)
        | (refine ⟨_, _, _, .flat _ _ rfl (q) rfl, ?_⟩; conv => whnf)
        | (refine ⟨_, _, _, .flat _ _ rfl (ACall.arg ?harg (q)) rfl, ?_⟩; (case harg => (repeat' (first | exact trivial | exact rfl | exact fun _ _ => rfl | apply And.intro | (intro i hi; rcases i with _ | _ | i <;> first | rfl | (exfalso; omega) | (simp at hi; done) | (simp at hi; omega)) | exact fun _ _ => by simp))); (conv => whnf))
        | (refine And.intro (fun hq => ?_) (fun hq => ?_) <;> (first | (exfalso; simp at hq; done) | (exfalso; simp only [cond_true, cond_false, Bool.not_eq_true', Bool.not_eq_false', decide_eq_true_eq, decide_eq_false_iff_not] at hq; (try dsimp only at hq); omega) | (exfalso; simp at hq; omega) | (conv => whnf)))
        | (refine fun hq => ?_; conv => whnf)
        | (refine And.intro (by first | (show _ * 1 ≤ 140737488355328; omega) | (show _ * 8 ≤ 140737488355328; omega) | (show _ * 24 ≤ 140737488355328; omega) | (show _ * 16 ≤ 140737488355328; omega) | (show _ * 32 ≤ 140737488355328; omega) | (show _ * 120 ≤ 140737488355328; omega) | (show _ * 280 ≤ 140737488355328; omega) | (show _ * 72 ≤ 140737488355328; omega) | (show _ * 48 ≤ 140737488355328; omega)) ?_; conv => whnf)
        | (refine And.intro (by dsimp only; omega) ?_; conv => whnf)
        | fail)
      refine ⟨(i, h), ⟨by dsimp only; omega, by dsimp only; omega, by dsimp only; omega, h4, fun k hk hk2 => ?_⟩, by dsimp only; omega, ?_⟩
      · dsimp only at hk
        exact H.ng _ _ _ (srt_at hY H.ir hk hk2) hx2
      · skip
        refine ⟨[], ?_⟩
        conv => whnf
        refine ⟨rfl, ?_, ?_⟩ <;> (repeat' (first | exact trivial | exact rfl | exact fun _ _ => rfl | apply And.intro | (intro i hi; rcases i with _ | _ | i <;> first | rfl | (exfalso; omega) | (simp at hi; done) | (simp at hi; omega)) | exact fun _ _ => by simp))
  · obtain rfl : i = j := by omega
    have hmr := mrg_head (lt := ltC cmp) x Y (i - m) h4 h5
    rw [hmr] at hR
    obtain ⟨st, hst⟩ : ∃ st : Nat → List Rw, ∀ k, st k = A ++ (Y.take (k - a) ++ x :: (Y.drop (k - a) ++ B)) := ⟨_, fun _ => rfl⟩
    conv => whnf
    repeat' (first
      | (refine And.intro (by omega) ?_; conv => whnf)
      | (refine And.intro rfl ?_; conv => whnf)
      | (refine And.intro (Nat.le_of_ble_eq_true rfl) ?_; conv => whnf)
      | (refine And.intro (fun i hi => ⟨_, rfl⟩) ?_; conv => whnf)
      | (refine And.intro (fun hq => ?_) (fun hq => ?_) <;> (first | (exfalso; simp at hq; done) | (exfalso; simp only [cond_true, cond_false, Bool.not_eq_true', Bool.not_eq_false', decide_eq_true_eq, decide_eq_false_iff_not] at hq; (try dsimp only at hq); omega) | (exfalso; simp at hq; omega) | (conv => whnf)))
      | (refine fun hq => ?_; conv => whnf)
      | (refine And.intro (by first | (show _ * 1 ≤ 140737488355328; omega) | (show _ * 8 ≤ 140737488355328; omega) | (show _ * 24 ≤ 140737488355328; omega) | (show _ * 16 ≤ 140737488355328; omega) | (show _ * 32 ≤ 140737488355328; omega) | (show _ * 120 ≤ 140737488355328; omega) | (show _ * 280 ≤ 140737488355328; omega) | (show _ * 72 ≤ 140737488355328; omega) | (show _ * 48 ≤ 140737488355328; omega)) ?_; conv => whnf)
      | (refine And.intro (by dsimp only; omega) ?_; conv => whnf)
      | fail)
    refine ⟨[], ?_⟩
    conv => whnf
    refine ⟨Nat, fun k => a ≤ k ∧ k ≤ i - 1, fun k => i - k, fun k => [(13, exI .i64 k)], fun k => rowsH (st k), ⟨a, ⟨Nat.le_refl _, by omega⟩, ?_⟩, ?_⟩
    · have e : st a = L := by rw [hst, hL, Nat.sub_self]; simp
      refine ⟨[], ?_⟩
      conv => whnf
      refine ⟨rfl, ?_, ?_⟩ <;> (repeat' (first | exact trivial | ((rw [e]; done)) | ((intro i hi; rw [e])) | exact rfl | exact fun _ _ => rfl | apply And.intro | (intro i hi; rcases i with _ | _ | i <;> first | rfl | (exfalso; omega) | (simp at hi; done) | (simp at hi; omega)) | exact fun _ _ => by simp))
    rintro k ⟨k1, k2⟩
    conv => whnf
    have hl2 : (st k).length = L.length := by rw [hst, hlen]; simp; omega
    rcases Nat.lt_or_ge k (i - 1) with z | z
    · have hs : st (k + 1) = swap2 (st k) k (k + 1) := by
        rw [hst, hst]
        have e1 : k + 1 - a = k - a + 1 := by omega
        have hk : k - a < Y.length := by omega
        rw [e1, take_snoc Y hk, drop_cons Y hk]
        have := swap2_adj (A ++ Y.take (k - a)) (Y.drop (k - a + 1) ++ B) x (Y.getD (k - a) []) k (k + 1) (by simp; omega) (by simp; omega)
        simp only [List.append_assoc, List.cons_append] at this ⊢
        rw [this]; simp
      generalize st k = M at hl2 hs ⊢
      have hs2 := swap2_len M k (k + 1)
      conv => whnf
      repeat' (first
        | (refine And.intro (by omega) ?_; conv => whnf)
        | (refine And.intro rfl ?_; conv => whnf)
        | (refine And.intro (Nat.le_of_ble_eq_true rfl) ?_; conv => whnf)
        | (refine And.intro (fun i hi => ⟨_, rfl⟩) ?_; conv => whnf)
        | (refine And.intro (fun hq => ?_) (fun hq => ?_) <;> (first | (exfalso; simp at hq; done) | (exfalso; simp only [cond_true, cond_false, Bool.not_eq_true', Bool.not_eq_false', decide_eq_true_eq, decide_eq_false_iff_not] at hq; (try dsimp only at hq); omega) | (exfalso; simp at hq; omega) | (conv => whnf)))
        | (refine fun hq => ?_; conv => whnf)
        | (refine And.intro (by first | (show _ * 1 ≤ 140737488355328; omega) | (show _ * 8 ≤ 140737488355328; omega) | (show _ * 24 ≤ 140737488355328; omega) | (show _ * 16 ≤ 140737488355328; omega) | (show _ * 32 ≤ 140737488355328; omega) | (show _ * 120 ≤ 140737488355328; omega) | (show _ * 280 ≤ 140737488355328; omega) | (show _ * 72 ≤ 140737488355328; omega) | (show _ * 48 ≤ 140737488355328; omega)) ?_; conv => whnf)
        | (refine And.intro (by dsimp only; omega) ?_; conv => whnf)
        | fail)
      refine ⟨k + 1, ⟨by omega, by omega⟩, by dsimp only; omega, ?_⟩
      refine ⟨[], ?_⟩
      conv => whnf
      refine ⟨rfl, ?_, ?_⟩ <;> (repeat' (first | exact trivial | ((rw [hs]; exact swap_same M _ _ k (k + 1) (by omega) (by omega) (by omega) (by omega))) | ((rw [hs]; exact hs2.symm)) | exact rfl | exact fun _ _ => rfl | apply And.intro | (intro i hi; rcases i with _ | _ | i <;> first | rfl | (exfalso; omega) | (simp at hi; done) | (simp at hi; omega)) | exact fun _ _ => by simp))
    · obtain rfl : k = i - 1 := by omega
      have e : st (i - 1) = R := by rw [hst, hR, show i - 1 - a = i - m by omega]; simp
      conv => whnf
      repeat' (first
        | (refine And.intro (by omega) ?_; conv => whnf)
        | (refine And.intro rfl ?_; conv => whnf)
        | (refine And.intro (Nat.le_of_ble_eq_true rfl) ?_; conv => whnf)
        | (refine And.intro (fun i hi => ⟨_, rfl⟩) ?_; conv => whnf)
        | (refine And.intro (fun hq => ?_) (fun hq => ?_) <;> (first | (exfalso; simp at hq; done) | (exfalso; simp only [cond_true, cond_false, Bool.not_eq_true', Bool.not_eq_false', decide_eq_true_eq, decide_eq_false_iff_not] at hq; (try dsimp only at hq); omega) | (exfalso; simp at hq; omega) | (conv => whnf)))
        | (refine fun hq => ?_; conv => whnf)
        | (refine And.intro (by first | (show _ * 1 ≤ 140737488355328; omega) | (show _ * 8 ≤ 140737488355328; omega) | (show _ * 24 ≤ 140737488355328; omega) | (show _ * 16 ≤ 140737488355328; omega) | (show _ * 32 ≤ 140737488355328; omega) | (show _ * 120 ≤ 140737488355328; omega) | (show _ * 280 ≤ 140737488355328; omega) | (show _ * 72 ≤ 140737488355328; omega) | (show _ * 48 ≤ 140737488355328; omega)) ?_; conv => whnf)
        | (refine And.intro (by dsimp only; omega) ?_; conv => whnf)
        | fail)
      all_goals first | exact trivial | exact ⟨rfl, by (repeat' (first | exact trivial | ((rw [e]; done)) | ((intro i hi; rw [e])) | exact rfl | exact fun _ _ => rfl | apply And.intro | (intro i hi; rcases i with _ | _ | i <;> first | rfl | (exfalso; omega) | (simp at hi; done) | (simp at hi; omega)) | exact fun _ _ => by simp)), trivial⟩ | exact ⟨by (repeat' (first | exact trivial | ((rw [e]; done)) | ((intro i hi; rw [e])) | exact rfl | exact fun _ _ => rfl | apply And.intro | (intro i hi; rcases i with _ | _ | i <;> first | rfl | (exfalso; omega) | (simp at hi; done) | (simp at hi; omega)) | exact fun _ _ => by simp)), trivial⟩ | exact ⟨by (repeat' (first | exact trivial | ((rw [e]; done)) | ((intro i hi; rw [e])) | exact rfl | exact fun _ _ => rfl | apply And.intro | (intro i hi; rcases i with _ | _ | i <;> first | rfl | (exfalso; omega) | (simp at hi; done) | (simp at hi; omega)) | exact fun _ _ => by simp)), by (repeat' (first | exact trivial | ((rw [e]; done)) | ((intro i hi; rw [e])) | exact rfl | exact fun _ _ => rfl | apply And.intro | (intro i hi; rcases i with _ | _ | i <;> first | rfl | (exfalso; omega) | (simp at hi; done) | (simp at hi; omega)) | exact fun _ _ => by simp))⟩ | exact ⟨rfl, by (repeat' (first | exact trivial | ((rw [e]; done)) | ((intro i hi; rw [e])) | exact rfl | exact fun _ _ => rfl | apply And.intro | (intro i hi; rcases i with _ | _ | i <;> first | rfl | (exfalso; omega) | (simp at hi; done) | (simp at hi; omega)) | exact fun _ _ => by simp)), by (repeat' (first | exact trivial | ((rw [e]; done)) | ((intro i hi; rw [e])) | exact rfl | exact fun _ _ => rfl | apply And.intro | (intro i hi; rcases i with _ | _ | i <;> first | rfl | (exfalso; omega) | (simp at hi; done) | (simp at hi; omega)) | exact fun _ _ => by simp))⟩
theorem sym_last (A X B : List Rw) (y : Rw) (a m b : Nat) (ha : a = A.length) (hm : m = a + X.length) (hb : b = m + 1) (hX0 : 1 < X.length) (hn : (A ++ (X ++ ([y] ++ B))).length ≤ 1000000) (hP : AllP P (A ++ (X ++ ([y] ++ B)))) (hX : Srt (ltC cmp) X) :
    ACall Try.prog 244 [.own 901 0, exI .i64 a, exI .i64 m, exI .i64 b, .fn (.func f) [] [.dp [c0, c1, c2]]] (rowsH (A ++ (X ++ ([y] ++ B)))) (.tup []) (rowsH (A ++ (mrg (ltC cmp) X [y] ++ B))) := by
  obtain ⟨L, hL⟩ : ∃ L, L = A ++ (X ++ ([y] ++ B)) := ⟨_, rfl⟩
  obtain ⟨R, hR⟩ : ∃ R, R = A ++ (mrg (ltC cmp) X [y] ++ B) := ⟨_, rfl⟩
  have hlen : L.length = A.length + X.length + 1 + B.length := by rw [hL]; simp; omega
  have gX : ∀ k, k < X.length → L.getD (a + k) [] = X.getD k [] := fun k hk => by
    rw [hL, getD_X A X [y] B (a + k) (by omega) (by omega)]
    congr 1; omega
  have gy : L.getD m [] = y := by rw [hL, getD_Y A X [y] B m (by omega) (by simp; omega), show m - (A.length + X.length) = 0 by omega]; rfl
  rw [← hL] at hn hP ⊢
  rw [← hR]
  refine acall_on (mu := []) [] [] mixed Try.func244 rfl rfl rfl ?_
  conv => whnf
  repeat' (first
    | (refine And.intro (by omega) ?_; conv => whnf)
    | (refine And.intro rfl ?_; conv => whnf)
    | (refine And.intro (Nat.le_of_ble_eq_true rfl) ?_; conv => whnf)
    | (refine And.intro (fun i hi => ⟨_, rfl⟩) ?_; conv => whnf)
    | (refine And.intro (fun hq => ?_) (fun hq => ?_) <;> (first | (exfalso; simp at hq; done) | (exfalso; simp only [cond_true, cond_false, Bool.not_eq_true', Bool.not_eq_false', decide_eq_true_eq, decide_eq_false_iff_not] at hq; (try dsimp only at hq); omega) | (exfalso; simp at hq; omega) | (conv => whnf)))
    | (refine fun hq => ?_; conv => whnf)
    | (refine And.intro (by first | (show _ * 1 ≤ 140737488355328; omega) | (show _ * 8 ≤ 140737488355328; omega) | (show _ * 24 ≤ 140737488355328; omega) | (show _ * 16 ≤ 140737488355328; omega) | (show _ * 32 ≤ 140737488355328; omega) | (show _ * 120 ≤ 140737488355328; omega) | (show _ * 280 ≤ 140737488355328; omega) | (show _ * 72 ≤ 140737488355328; omega) | (show _ * 48 ≤ 140737488355328; omega)) ?_; conv => whnf)
    | (refine And.intro (by dsimp only; omega) ?_; conv => whnf)
    | fail)
  refine ⟨[], ?_⟩
  conv => whnf
  refine ⟨Nat × Nat, fun q => a ≤ q.1 ∧ q.1 ≤ q.2 ∧ q.2 ≤ m ∧ (∀ k, k < q.1 - a → k < X.length → ltC cmp y (X.getD k []) = false) ∧ (∀ k, q.2 - a ≤ k → k < X.length → ltC cmp y (X.getD k []) = true), fun q => q.2 - q.1, fun q => [(14, exI .i64 q.1), (15, exI .i64 q.2)], fun _ => rowsH L, ⟨(a, m), ⟨by dsimp only; omega, by dsimp only; omega, by dsimp only; omega, fun k hk _ => by dsimp only at hk; omega, fun k hk hk2 => by dsimp only at hk; omega⟩, ?_⟩, ?_⟩
  · skip
    refine ⟨[], ?_⟩
    conv => whnf
    refine ⟨rfl, ?_, ?_⟩ <;> (repeat' (first | exact trivial | exact rfl | exact fun _ _ => rfl | apply And.intro | (intro i hi; rcases i with _ | _ | i <;> first | rfl | (exfalso; omega) | (simp at hi; done) | (simp at hi; omega)) | exact fun _ _ => by simp))
  rintro ⟨i, j⟩ ⟨h1, h2, h3, h4, h5⟩
  dsimp only at h1 h2 h3 h4 h5
  conv => whnf
  have hM := half_ok i j (by omega)
  rcases Nat.lt_or_ge i j with hlt | hge
  · obtain ⟨h, hh⟩ : ∃ h, h = (i + j) / 2 := ⟨_, rfl⟩
    rw [← hh] at hM
    have q := hc (L.getD ((m : Int)).toNat []) (L.getD ((h : Int)).toNat []) (hP _ (by omega)) (hP _ (by omega))
    have eh : ((h : Int)).toNat = a + (h - a) := by omega
    have ea : ((m : Int)).toNat = m := by omega
    have gh : L.getD ((h : Int)).toNat [] = X.getD (h - a) [] := by rw [eh]; exact gX _ (by omega)
    by_cases hx : cmp (L.getD ((m : Int)).toNat []) (L.getD ((h : Int)).toNat []) < 0
    · have hx2 : ltC cmp y (X.getD (h - a) []) = true := by rw [gh, ea, gy] at hx; exact decide_eq_true hx
      conv => whnf
      repeat' (first
        | (refine And.intro (by omega) ?_; conv => whnf)
        | (refine And.intro rfl ?_; conv => whnf)
        | (refine And.intro (Nat.le_of_ble_eq_true rfl) ?_; conv => whnf)
        | (refine And.intro (fun i hi => ⟨_, rfl⟩) ?_; conv => whnf)
        | (refine And.intro (fun hq => ?_) (fun hq => ?_) <;> (first | (exfalso; simp at hq; done) | (exfalso; simp only [cond_true, cond_false, Bool.not_eq_true', Bool.not_eq_false', decide_eq_true_eq, decide_eq_false_iff_not] at hq; (try dsimp only at hq); omega) | (exfalso; simp at hq; omega) | (conv => whnf)))
        | (refine fun hq => ?_; conv => whnf)
        | (refine And.intro (by first | (show _ * 1 ≤ 140737488355328; omega) | (show _ * 8 ≤ 140737488355328; omega) | (show _ * 24 ≤ 140737488355328; omega) | (show _ * 16 ≤ 140737488355328; omega) | (show _ * 32 ≤ 140737488355328; omega) | (show _ * 120 ≤ 140737488355328; omega) | (show _ * 280 ≤ 140737488355328; omega) | (show _ * 72 ≤ 140737488355328; omega) | (show _ * 48 ≤ 140737488355328; omega)) ?_; conv => whnf)
        | (refine And.intro (by dsimp only; omega) ?_; conv => whnf)
        | fail)
      rw [hM]
      conv => whnf
      repeat' (first
        | (refine And.intro (by omega) ?_; conv => whnf)
        | (refine And.intro rfl ?_; conv => whnf)
        | (refine And.intro (Nat.le_of_ble_eq_true rfl) ?_; conv => whnf)
        | (refine And.intro (fun i hi => ⟨_, rfl⟩) ?_; conv => whnf)
        | (refine ⟨_, _, _, .flat _ _ rfl (q) rfl, ?_⟩; conv => whnf)
        | (refine ⟨_, _, _, .flat _ _ rfl (ACall.arg ?harg (q)) rfl, ?_⟩; (case harg => (repeat' (first | exact trivial | exact rfl | exact fun _ _ => rfl | apply And.intro | (intro i hi; rcases i with _ | _ | i <;> first | rfl | (exfalso; omega) | (simp at hi; done) | (simp at hi; omega)) | exact fun _ _ => by simp))); (conv => whnf))
        | (refine And.intro (fun hq => ?_) (fun hq => ?_) <;> (first | (exfalso; simp at hq; done) | (exfalso; simp only [cond_true, cond_false, Bool.not_eq_true', Bool.not_eq_false', decide_eq_true_eq, decide_eq_false_iff_not] at hq; (try dsimp only at hq); omega) | (exfalso; simp at hq; omega) | (conv => whnf)))
        | (refine fun hq => ?_; conv => whnf)
        | (refine And.intro (by first | (show _ * 1 ≤ 140737488355328; omega) | (show _ * 8 ≤ 140737488355328; omega) | (show _ * 24 ≤ 140737488355328; omega) | (show _ * 16 ≤ 140737488355328; omega) | (show _ * 32 ≤ 140737488355328; omega) | (show _ * 120 ≤ 140737488355328; omega) | (show _ * 280 ≤ 140737488355328; omega) | (show _ * 72 ≤ 140737488355328; omega) | (show _ * 48 ≤ 140737488355328; omega)) ?_; conv => whnf)
        | (refine And.intro (by dsimp only; omega) ?_; conv => whnf)
        | fail)
      refine ⟨(i, h), ⟨by dsimp only; omega, by dsimp only; omega, by dsimp only; omega, h4, fun k hk hk2 => ?_⟩, by dsimp only; omega, ?_⟩
      · dsimp only at hk
        exact H.lt_le hx2 (srt_at hX H.ir hk hk2)
      · skip
        refine ⟨[], ?_⟩
        conv => whnf
        refine ⟨rfl, ?_, ?_⟩ <;> (repeat' (first | exact trivial | exact rfl | exact fun _ _ => rfl | apply And.intro | (intro i hi; rcases i with _ | _ | i <;> first | rfl | (exfalso; omega) | (simp at hi; done) | (simp at hi; omega)) | exact fun _ _ => by simp))
    · have hx2 : ltC cmp y (X.getD (h - a) []) = false := by rw [gh, ea, gy] at hx; exact decide_eq_false hx
      conv => whnf
      repeat' (first
        | (refine And.intro (by omega) ?_; conv => whnf)
        | (refine And.intro rfl ?_; conv => whnf)
        | (refine And.intro (Nat.le_of_ble_eq_true rfl) ?_; conv => whnf)
        | (refine And.intro (fun i hi => ⟨_, rfl⟩) ?_; conv => whnf)
        | (refine And.intro (fun hq => ?_) (fun hq => ?_) <;> (first | (exfalso; simp at hq; done) | (exfalso; simp only [cond_true, cond_false, Bool.not_eq_true', Bool.not_eq_false', decide_eq_true_eq, decide_eq_false_iff_not] at hq; (try dsimp only at hq); omega) | (exfalso; simp at hq; omega) | (conv => whnf)))
        | (refine fun hq => ?_; conv => whnf)
        | (refine And.intro (by first | (show _ * 1 ≤ 140737488355328; omega) | (show _ * 8 ≤ 140737488355328; omega) | (show _ * 24 ≤ 140737488355328; omega) | (show _ * 16 ≤ 140737488355328; omega) | (show _ * 32 ≤ 140737488355328; omega) | (show _ * 120 ≤ 140737488355328; omega) | (show _ * 280 ≤ 140737488355328; omega) | (show _ * 72 ≤ 140737488355328; omega) | (show _ * 48 ≤ 140737488355328; omega)) ?_; conv => whnf)
        | (refine And.intro (by dsimp only; omega) ?_; conv => whnf)
        | fail)
      rw [hM]
      conv => whnf
      repeat' (first
        | (refine And.intro (by omega) ?_; conv => whnf)
        | (refine And.intro rfl ?_; conv => whnf)
        | (refine And.intro (Nat.le_of_ble_eq_true rfl) ?_; conv => whnf)
        | (refine And.intro (fun i hi => ⟨_, rfl⟩) ?_; conv => whnf)
        | (refine ⟨_, _, _, .flat _ _ rfl (q) rfl, ?_⟩; conv => whnf)
        | (refine ⟨_, _, _, .flat _ _ rfl (ACall.arg ?harg (q)) rfl, ?_⟩; (case harg => (repeat' (first | exact trivial | exact rfl | exact fun _ _ => rfl | apply And.intro | (intro i hi; rcases i with _ | _ | i <;> first | rfl | (exfalso; omega) | (simp at hi; done) | (simp at hi; omega)) | exact fun _ _ => by simp))); (conv => whnf))
        | (refine And.intro (fun hq => ?_) (fun hq => ?_) <;> (first | (exfalso; simp at hq; done) | (exfalso; simp only [cond_true, cond_false, Bool.not_eq_true', Bool.not_eq_false', decide_eq_true_eq, decide_eq_false_iff_not] at hq; (try dsimp only at hq); omega) | (exfalso; simp at hq; omega) | (conv => whnf)))
        | (refine fun hq => ?_; conv => whnf)
        | (refine And.intro (by first | (show _ * 1 ≤ 140737488355328; omega) | (show _ * 8 ≤ 140737488355328; omega) | (show _ * 24 ≤ 140737488355328; omega) | (show _ * 16 ≤ 140737488355328; omega) | (show _ * 32 ≤ 140737488355328; omega) | (show _ * 120 ≤ 140737488355328; omega) | (show _ * 280 ≤ 140737488355328; omega) | (show _ * 72 ≤ 140737488355328; omega) | (show _ * 48 ≤ 140737488355328; omega)) ?_; conv => whnf)
        | (refine And.intro (by dsimp only; omega) ?_; conv => whnf)
        | fail)
      refine ⟨(h + 1, j), ⟨by dsimp only; omega, by dsimp only; omega, h3, fun k hk hk2 => ?_, h5⟩, by dsimp only; omega, ?_⟩
      · dsimp only at hk
        exact H.ng _ _ _ hx2 (srt_at hX H.ir (show k ≤ h - a by omega) (by omega))
      · skip
        refine ⟨[], ?_⟩
        conv => whnf
        refine ⟨rfl, ?_, ?_⟩ <;> (repeat' (first | exact trivial | exact rfl | exact fun _ _ => rfl | apply And.intro | (intro i hi; rcases i with _ | _ | i <;> first | rfl | (exfalso; omega) | (simp at hi; done) | (simp at hi; omega)) | exact fun _ _ => by simp))
  · obtain rfl : i = j := by omega
    have hmr := mrg_last (lt := ltC cmp) y X (i - a) h4 h5
    rw [hmr] at hR
    obtain ⟨st, hst⟩ : ∃ st : Nat → List Rw, ∀ k, st k = A ++ (X.take (k - a) ++ y :: (X.drop (k - a) ++ B)) := ⟨_, fun _ => rfl⟩
    conv => whnf
    repeat' (first
      | (refine And.intro (by omega) ?_; conv => whnf)
      | (refine And.intro rfl ?_; conv => whnf)
      | (refine And.intro (Nat.le_of_ble_eq_true rfl) ?_; conv => whnf)
      | (refine And.intro (fun i hi => ⟨_, rfl⟩) ?_; conv => whnf)
      | (refine And.intro (fun hq => ?_) (fun hq => ?_) <;> (first | (exfalso; simp at hq; done) | (exfalso; simp only [cond_true, cond_false, Bool.not_eq_true', Bool.not_eq_false', decide_eq_true_eq, decide_eq_false_iff_not] at hq; (try dsimp only at hq); omega) | (exfalso; simp at hq; omega) | (conv => whnf)))
      | (refine fun hq => ?_; conv => whnf)
      | (refine And.intro (by first | (show _ * 1 ≤ 140737488355328; omega) | (show _ * 8 ≤ 140737488355328; omega) | (show _ * 24 ≤ 140737488355328; omega) | (show _ * 16 ≤ 140737488355328; omega) | (show _ * 32 ≤ 140737488355328; omega) | (show _ * 120 ≤ 140737488355328; omega) | (show _ * 280 ≤ 140737488355328; omega) | (show _ * 72 ≤ 140737488355328; omega) | (show _ * 48 ≤ 140737488355328; omega)) ?_; conv => whnf)
      | (refine And.intro (by dsimp only; omega) ?_; conv => whnf)
      | fail)
    refine ⟨[], ?_⟩
    conv => whnf
    refine ⟨Nat, fun k => i ≤ k ∧ k ≤ m, fun k => k, fun k => [(17, exI .i64 k)], fun k => rowsH (st k), ⟨m, ⟨by omega, Nat.le_refl _⟩, ?_⟩, ?_⟩
    · have e : st m = L := by rw [hst, hL, show m - a = X.length by omega]; simp
      refine ⟨[], ?_⟩
      conv => whnf
      refine ⟨rfl, ?_, ?_⟩ <;> (repeat' (first | exact trivial | ((rw [e]; done)) | ((intro i hi; rw [e])) | exact rfl | exact fun _ _ => rfl | apply And.intro | (intro i hi; rcases i with _ | _ | i <;> first | rfl | (exfalso; omega) | (simp at hi; done) | (simp at hi; omega)) | exact fun _ _ => by simp))
    rintro k ⟨k1, k2⟩
    conv => whnf
    have hl2 : (st k).length = L.length := by rw [hst, hlen]; simp; omega
    rcases Nat.lt_or_ge i k with z | z
    · have hs : st (k - 1) = swap2 (st k) k (k - 1) := by
        rw [hst, hst]
        have e1 : k - a = k - 1 - a + 1 := by omega
        have hk : k - 1 - a < X.length := by omega
        rw [e1, take_snoc X hk, drop_cons X hk]
        have := swap2_adj' (A ++ X.take (k - 1 - a)) (X.drop (k - 1 - a + 1) ++ B) (X.getD (k - 1 - a) []) y k (k - 1) (by simp; omega) (by simp; omega)
        simp only [List.append_assoc, List.cons_append, List.nil_append] at this ⊢
        rw [this]
      generalize st k = M at hl2 hs ⊢
      have hs2 := swap2_len M k (k - 1)
      conv => whnf
      repeat' (first
        | (refine And.intro (by omega) ?_; conv => whnf)
        | (refine And.intro rfl ?_; conv => whnf)
        | (refine And.intro (Nat.le_of_ble_eq_true rfl) ?_; conv => whnf)
        | (refine And.intro (fun i hi => ⟨_, rfl⟩) ?_; conv => whnf)
        | (refine And.intro (fun hq => ?_) (fun hq => ?_) <;> (first | (exfalso; simp at hq; done) | (exfalso; simp only [cond_true, cond_false, Bool.not_eq_true', Bool.not_eq_false', decide_eq_true_eq, decide_eq_false_iff_not] at hq; (try dsimp only at hq); omega) | (exfalso; simp at hq; omega) | (conv => whnf)))
        | (refine fun hq => ?_; conv => whnf)
        | (refine And.intro (by first | (show _ * 1 ≤ 140737488355328; omega) | (show _ * 8 ≤ 140737488355328; omega) | (show _ * 24 ≤ 140737488355328; omega) | (show _ * 16 ≤ 140737488355328; omega) | (show _ * 32 ≤ 140737488355328; omega) | (show _ * 120 ≤ 140737488355328; omega) | (show _ * 280 ≤ 140737488355328; omega) | (show _ * 72 ≤ 140737488355328; omega) | (show _ * 48 ≤ 140737488355328; omega)) ?_; conv => whnf)
        | (refine And.intro (by dsimp only; omega) ?_; conv => whnf)
        | fail)
      refine ⟨k - 1, ⟨by omega, by omega⟩, by dsimp only; omega, ?_⟩
      refine ⟨[], ?_⟩
      conv => whnf
      refine ⟨rfl, ?_, ?_⟩ <;> (repeat' (first | exact trivial | ((rw [hs]; exact swap_same M _ _ k (k - 1) (by omega) (by omega) (by omega) (by omega))) | ((rw [hs]; exact hs2.symm)) | (exact congrArg (Value.int .i64) (by (try dsimp only); omega)) | exact rfl | exact fun _ _ => rfl | apply And.intro | (intro i hi; rcases i with _ | _ | i <;> first | rfl | (exfalso; omega) | (simp at hi; done) | (simp at hi; omega)) | exact fun _ _ => by simp))
    · obtain rfl : k = i := by omega
      have e : st k = R := by rw [hst, hR]; simp
      conv => whnf
      repeat' (first
        | (refine And.intro (by omega) ?_; conv => whnf)
        | (refine And.intro rfl ?_; conv => whnf)
        | (refine And.intro (Nat.le_of_ble_eq_true rfl) ?_; conv => whnf)
        | (refine And.intro (fun i hi => ⟨_, rfl⟩) ?_; conv => whnf)
        | (refine And.intro (fun hq => ?_) (fun hq => ?_) <;> (first | (exfalso; simp at hq; done) | (exfalso; simp only [cond_true, cond_false, Bool.not_eq_true', Bool.not_eq_false', decide_eq_true_eq, decide_eq_false_iff_not] at hq; (try dsimp only at hq); omega) | (exfalso; simp at hq; omega) | (conv => whnf)))
        | (refine fun hq => ?_; conv => whnf)
        | (refine And.intro (by first | (show _ * 1 ≤ 140737488355328; omega) | (show _ * 8 ≤ 140737488355328; omega) | (show _ * 24 ≤ 140737488355328; omega) | (show _ * 16 ≤ 140737488355328; omega) | (show _ * 32 ≤ 140737488355328; omega) | (show _ * 120 ≤ 140737488355328; omega) | (show _ * 280 ≤ 140737488355328; omega) | (show _ * 72 ≤ 140737488355328; omega) | (show _ * 48 ≤ 140737488355328; omega)) ?_; conv => whnf)
        | (refine And.intro (by dsimp only; omega) ?_; conv => whnf)
        | fail)
      all_goals first | exact trivial | exact ⟨rfl, by (repeat' (first | exact trivial | ((rw [e]; done)) | ((intro i hi; rw [e])) | exact rfl | exact fun _ _ => rfl | apply And.intro | (intro i hi; rcases i with _ | _ | i <;> first | rfl | (exfalso; omega) | (simp at hi; done) | (simp at hi; omega)) | exact fun _ _ => by simp)), trivial⟩ | exact ⟨by (repeat' (first | exact trivial | ((rw [e]; done)) | ((intro i hi; rw [e])) | exact rfl | exact fun _ _ => rfl | apply And.intro | (intro i hi; rcases i with _ | _ | i <;> first | rfl | (exfalso; omega) | (simp at hi; done) | (simp at hi; omega)) | exact fun _ _ => by simp)), trivial⟩ | exact ⟨by (repeat' (first | exact trivial | ((rw [e]; done)) | ((intro i hi; rw [e])) | exact rfl | exact fun _ _ => rfl | apply And.intro | (intro i hi; rcases i with _ | _ | i <;> first | rfl | (exfalso; omega) | (simp at hi; done) | (simp at hi; omega)) | exact fun _ _ => by simp)), by (repeat' (first | exact trivial | ((rw [e]; done)) | ((intro i hi; rw [e])) | exact rfl | exact fun _ _ => rfl | apply And.intro | (intro i hi; rcases i with _ | _ | i <;> first | rfl | (exfalso; omega) | (simp at hi; done) | (simp at hi; omega)) | exact fun _ _ => by simp))⟩ | exact ⟨rfl, by (repeat' (first | exact trivial | ((rw [e]; done)) | ((intro i hi; rw [e])) | exact rfl | exact fun _ _ => rfl | apply And.intro | (intro i hi; rcases i with _ | _ | i <;> first | rfl | (exfalso; omega) | (simp at hi; done) | (simp at hi; omega)) | exact fun _ _ => by simp)), by (repeat' (first | exact trivial | ((rw [e]; done)) | ((intro i hi; rw [e])) | exact rfl | exact fun _ _ => rfl | apply And.intro | (intro i hi; rcases i with _ | _ | i <;> first | rfl | (exfalso; omega) | (simp at hi; done) | (simp at hi; omega)) | exact fun _ _ => by simp))⟩
set_option maxHeartbeats 16000000 in
/-- the loop that finds the place, and what is done behind it -/
theorem sym_ok : ∀ (n : Nat) (A X Y B : List Rw) (a m b : Nat), X.length + Y.length = n → a = A.length → m = a + X.length → b = m + Y.length → 0 < X.length → 0 < Y.length → (A ++ (X ++ (Y ++ B))).length ≤ 1000000 → AllP P (A ++ (X ++ (Y ++ B))) → Srt (ltC cmp) X → Srt (ltC cmp) Y →
    ACall Try.prog 244 [.own 901 0, exI .i64 a, exI .i64 m, exI .i64 b, .fn (.func f) [] [.dp [c0, c1, c2]]] (rowsH (A ++ (X ++ (Y ++ B)))) (.tup []) (rowsH (A ++ (mrg (ltC cmp) X Y ++ B))) := by
  intro n
  induction n using Nat.strongRecOn with
  | _ n ih =>
  intro A X Y B a m b hXY ha hm hb hX0 hY0 hn hP hX hY
  rcases Nat.lt_or_ge 1 X.length with x1 | x1
  rotate_left
  · obtain ⟨x, rfl⟩ : ∃ x, X = [x] := by match X, hX0, x1 with | [x], _, _ => exact ⟨x, rfl⟩
    exact sym_one P cmp f c0 c1 c2 hc H A Y B x a m b ha hm hb hY0 hn hP hY
  rcases Nat.lt_or_ge 1 Y.length with y1 | y1
  rotate_left
  · obtain ⟨y, rfl⟩ : ∃ y, Y = [y] := by match Y, hY0, y1 with | [y], _, _ => exact ⟨y, rfl⟩
    exact sym_last P cmp f c0 c1 c2 hc H A X B y a m b ha hm hb x1 hn hP hX
  obtain ⟨L, hL⟩ : ∃ L, L = A ++ (X ++ (Y ++ B)) := ⟨_, rfl⟩
  have hlen : L.length = A.length + X.length + Y.length + B.length := by rw [hL]; simp; omega
  have gX : ∀ k, k < X.length → L.getD (a + k) [] = X.getD k [] := fun k hk => by
    rw [hL, getD_X A X Y B (a + k) (by omega) (by omega)]; congr 1; omega
  have gY : ∀ k, k < Y.length → L.getD (m + k) [] = Y.getD k [] := fun k hk => by
    rw [hL, getD_Y A X Y B (m + k) (by omega) (by omega)]; congr 1; omega
  obtain ⟨R, hR⟩ : ∃ R, R = A ++ (mrg (ltC cmp) X Y ++ B) := ⟨_, rfl⟩
  rw [← hR]
  have hn' : L.length ≤ 1000000 := by rw [hL]; exact hn
  have hP' : AllP P L := by rw [hL]; exact hP
  have hMd := half_ok a b (by omega)
  obtain ⟨mid, hmid⟩ : ∃ mid, mid = (a + b) / 2 := ⟨_, rfl⟩
  rw [← hmid] at hMd
  rw [← hL]
  have tail : ∀ s : Nat, a ≤ s → s ≤ m → s ≤ mid → mid + m ≤ s + b → (s < mid → s < m → ltC cmp (Y.getD (mid - s - 1) []) (X.getD (s - a) []) = true) → (a < s → mid + m < s + b → ltC cmp (Y.getD (mid - s) []) (X.getD (s - 1 - a) []) = false) →
      ∃ M1 M2 : List Rw, M1.length = L.length ∧ M2.length = L.length ∧
        ((s < m ∧ s < mid) → ACall Try.prog 272 [.own 901 0, exI .i64 s, exI .i64 m, exI .i64 ((mid + m - s : Nat) : Int), .fn (.func f) [] [.dp [c0, c1, c2]]] (rowsH L) (.tup []) (rowsH M1)) ∧ (¬ (s < m ∧ s < mid) → M1 = L) ∧
        ((a < s ∧ s < mid) → ACall Try.prog 244 [.own 901 0, exI .i64 a, exI .i64 s, exI .i64 mid, .fn (.func f) [] [.dp [c0, c1, c2]]] (rowsH M1) (.tup []) (rowsH M2)) ∧ (¬ (a < s ∧ s < mid) → M2 = M1) ∧
        ((s < m ∧ mid + m < s + b) → ACall Try.prog 244 [.own 901 0, exI .i64 mid, exI .i64 ((mid + m - s : Nat) : Int), exI .i64 b, .fn (.func f) [] [.dp [c0, c1, c2]]] (rowsH M2) (.tup []) (rowsH R)) ∧ (¬ (s < m ∧ mid + m < s + b) → R = M2) := by
    intro s s1 s2 s3 s4 s5 s6
    obtain ⟨t, ht⟩ : ∃ t, t = s - a := ⟨_, rfl⟩
    obtain ⟨u, hu⟩ : ∃ u, u = mid - s := ⟨_, rfl⟩
    have hcut := mrg_sym H X Y t u hX hY (fun h1 h2 => ⟨by omega, by
        have := s5 (by omega) (by omega)
        rwa [← hu, ← ht] at this⟩) (fun h1 h2 => ⟨by omega, by
        have := s6 (by omega) (by omega)
        rwa [← hu, show s - 1 - a = t - 1 by omega] at this⟩)
    have lX1 : (X.take t).length = t := by simp; omega
    have lX2 : (X.drop t).length = X.length - t := by simp
    have lY1 : (Y.take u).length = u := by simp; omega
    have lY2 : (Y.drop u).length = Y.length - u := by simp
    have sX1 : Srt (ltC cmp) (X.take t) := hX.sublist (List.take_sublist _ _)
    have sX2 : Srt (ltC cmp) (X.drop t) := hX.sublist (List.drop_sublist _ _)
    have sY1 : Srt (ltC cmp) (Y.take u) := hY.sublist (List.take_sublist _ _)
    have sY2 : Srt (ltC cmp) (Y.drop u) := hY.sublist (List.drop_sublist _ _)
    have eL : L = (A ++ X.take t) ++ (X.drop t ++ (Y.take u ++ (Y.drop u ++ B))) := by
      rw [hL]
      conv => lhs; rw [← List.take_append_drop t X, ← List.take_append_drop u Y]
      simp only [List.append_assoc]
    generalize X.take t = X1 at *
    generalize X.drop t = X2 at *
    generalize Y.take u = Y1 at *
    generalize Y.drop u = Y2 at *
    have allM : ∀ M : List Rw, (∀ z, z ∈ M → z ∈ L) → AllP P M := fun M hM k hk => by
      obtain ⟨i, hi, e⟩ := List.getElem_of_mem (hM _ (getD_mem hk))
      have := hP' i hi
      rwa [List.getD_eq_getElem?_getD, List.getElem?_eq_getElem hi, show (some L[i]).getD [] = L[i] from rfl, e] at this
    refine ⟨A ++ (X1 ++ (Y1 ++ (X2 ++ (Y2 ++ B)))), (A ++ mrg (ltC cmp) X1 Y1) ++ (X2 ++ (Y2 ++ B)), ?_, ?_, fun k => ?_, fun k => ?_, fun k => ?_, fun k => ?_, fun k => ?_, fun k => ?_⟩
    · rw [eL]; simp; omega
    · rw [eL]; simp [mrg_len _ _ _ rfl]; omega
    · have := rotate_ok L s m (mid + m - s) f c0 c1 c2 hn' k.1 (by omega) (by omega)
      rwa [show rotL L m (m - s) (mid + m - s - m) = A ++ (X1 ++ (Y1 ++ (X2 ++ (Y2 ++ B)))) by
        rw [eL, rotL_parts (A ++ X1) X2 Y1 (Y2 ++ B) m (m - s) (mid + m - s - m) (by simp; omega) (by omega) (by omega)]; simp] at this
    · have : X2 = [] ∨ Y1 = [] := by
        rcases Nat.lt_or_ge s m with z | z
        · right; exact List.eq_nil_of_length_eq_zero (by omega)
        · left; exact List.eq_nil_of_length_eq_zero (by omega)
      rw [eL]
      rcases this with rfl | rfl <;> simp
    · have := ih (X1.length + Y1.length) (by omega) A X1 Y1 (X2 ++ (Y2 ++ B)) a s mid rfl ha (by omega) (by omega) (by omega) (by omega) (by rw [eL] at hn'; simp at hn' ⊢; omega) (allM _ fun z hz => by rw [eL]; simp at hz ⊢; grind) sX1 sY1
      simpa using this
    · have : X1 = [] ∨ Y1 = [] := by
        rcases Nat.lt_or_ge a s with z | z
        · right; exact List.eq_nil_of_length_eq_zero (by omega)
        · left; exact List.eq_nil_of_length_eq_zero (by omega)
      rcases this with rfl | rfl <;> simp [mrg_nil, mrg_nil']
    · have lm := mrg_len (lt := ltC cmp) _ X1 Y1 rfl
      have := ih (X2.length + Y2.length) (by omega) (A ++ mrg (ltC cmp) X1 Y1) X2 Y2 B mid (mid + m - s) b rfl (by simp; omega) (by omega) (by omega) (by omega) (by omega) (by rw [eL] at hn'; simp [lm] at hn' ⊢; omega) (allM _ fun z hz => by rw [eL]; simp [mrg_mem _ _ _ rfl] at hz ⊢; grind) sX2 sY2
      rw [hR, hcut]
      simpa using this
    · have : X2 = [] ∨ Y2 = [] := by
        rcases Nat.lt_or_ge s m with z | z
        · right; exact List.eq_nil_of_length_eq_zero (by omega)
        · left; exact List.eq_nil_of_length_eq_zero (by omega)
      rw [hR, hcut]
      rcases this with rfl | rfl <;> simp [mrg_nil, mrg_nil']
  clear ih hL hXY hn hP
  have hXs := fun (i j : Nat) (h1 : i ≤ j) (h2 : j < X.length) => srt_at hX H.ir h1 h2
  have hYs := fun (i j : Nat) (h1 : i ≤ j) (h2 : j < Y.length) => srt_at hY H.ir h1 h2
  clear hX hY hR
  have loopq : ∀ c s : Nat, a ≤ c → c < m → c < mid → mid + m ≤ c + b → ltC cmp (L.getD ((mid : Int) + m - 1 - c).toNat []) (L.getD ((c : Nat) : Int).toNat []) = ltC cmp (Y.getD (mid - 1 - c) []) (X.getD (c - a) []) := fun c s q1 q2 q3 q4 => by
    rw [show ((mid : Int) + m - 1 - c).toNat = m + (mid - 1 - c) by omega, show ((c : Nat) : Int).toNat = a + (c - a) by omega, gX _ (by omega), gY _ (by omega)]
  refine acall_on (mu := []) [] [] mixed Try.func244 rfl rfl rfl ?_
  rcases Nat.lt_or_ge mid m with hmm | hmm
  · skip
    skip
    conv => whnf
    repeat' (first
      | (refine And.intro (by omega) ?_; conv => whnf)
      | (refine And.intro rfl ?_; conv => whnf)
      | (refine And.intro (Nat.le_of_ble_eq_true rfl) ?_; conv => whnf)
      | (refine And.intro (fun i hi => ⟨_, rfl⟩) ?_; conv => whnf)
      | (refine And.intro (fun hq => ?_) (fun hq => ?_) <;> (first | (exfalso; simp at hq; done) | (exfalso; simp only [cond_true, cond_false, Bool.not_eq_true', Bool.not_eq_false', decide_eq_true_eq, decide_eq_false_iff_not] at hq; (try dsimp only at hq); omega) | (exfalso; simp at hq; omega) | (conv => whnf)))
      | (refine fun hq => ?_; conv => whnf)
      | (refine And.intro (by first | (show _ * 1 ≤ 140737488355328; omega) | (show _ * 8 ≤ 140737488355328; omega) | (show _ * 24 ≤ 140737488355328; omega) | (show _ * 16 ≤ 140737488355328; omega) | (show _ * 32 ≤ 140737488355328; omega) | (show _ * 120 ≤ 140737488355328; omega) | (show _ * 280 ≤ 140737488355328; omega) | (show _ * 72 ≤ 140737488355328; omega) | (show _ * 48 ≤ 140737488355328; omega)) ?_; conv => whnf)
      | (refine And.intro (by dsimp only; omega) ?_; conv => whnf)
      | fail)
    rw [hMd]
    conv => whnf
    repeat' (first
      | (refine And.intro (by omega) ?_; conv => whnf)
      | (refine And.intro rfl ?_; conv => whnf)
      | (refine And.intro (Nat.le_of_ble_eq_true rfl) ?_; conv => whnf)
      | (refine And.intro (fun i hi => ⟨_, rfl⟩) ?_; conv => whnf)
      | (refine And.intro (fun hq => ?_) (fun hq => ?_) <;> (first | (exfalso; simp at hq; done) | (exfalso; simp only [cond_true, cond_false, Bool.not_eq_true', Bool.not_eq_false', decide_eq_true_eq, decide_eq_false_iff_not] at hq; (try dsimp only at hq); omega) | (exfalso; simp at hq; omega) | (conv => whnf)))
      | (refine fun hq => ?_; conv => whnf)
      | (refine And.intro (by first | (show _ * 1 ≤ 140737488355328; omega) | (show _ * 8 ≤ 140737488355328; omega) | (show _ * 24 ≤ 140737488355328; omega) | (show _ * 16 ≤ 140737488355328; omega) | (show _ * 32 ≤ 140737488355328; omega) | (show _ * 120 ≤ 140737488355328; omega) | (show _ * 280 ≤ 140737488355328; omega) | (show _ * 72 ≤ 140737488355328; omega) | (show _ * 48 ≤ 140737488355328; omega)) ?_; conv => whnf)
      | (refine And.intro (by dsimp only; omega) ?_; conv => whnf)
      | fail)
    refine ⟨[], ?_⟩
    conv => whnf
    refine ⟨Nat × Nat, fun q => mid + m - b ≤ q.1 ∧ q.1 ≤ q.2 ∧ q.2 ≤ mid ∧ (mid + m - b < q.1 → ltC cmp (Y.getD (mid - q.1) []) (X.getD (q.1 - 1 - a) []) = false) ∧ (q.2 < mid → ltC cmp (Y.getD (mid - q.2 - 1) []) (X.getD (q.2 - a) []) = true), fun q => q.2 - q.1, fun q => [(20, exI .i64 q.1), (21, exI .i64 q.2)], fun _ => rowsH L, ⟨(mid + m - b, mid), ⟨by dsimp only; omega, by dsimp only; omega, by dsimp only; omega, fun k => by dsimp only at k; omega, fun k => by dsimp only at k; omega⟩, ?_⟩, ?_⟩
    · skip
      refine ⟨[], ?_⟩
      conv => whnf
      refine ⟨rfl, ?_, ?_⟩ <;> (repeat' (first | exact trivial | (exact congrArg (Value.int .i64) (by (try dsimp only); omega)) | exact rfl | exact fun _ _ => rfl | apply And.intro | (intro i hi; rcases i with _ | _ | i <;> first | rfl | (exfalso; omega) | (simp at hi; done) | (simp at hi; omega)) | exact fun _ _ => by simp))
    rintro ⟨s, r⟩ ⟨h1, h2, h3, h4, h5⟩
    dsimp only at h1 h2 h3 h4 h5
    conv => whnf
    rcases Nat.lt_or_ge s r with hlt | hge
    · have hM := half_ok s r (by omega)
      obtain ⟨c, hcc⟩ : ∃ c, c = (s + r) / 2 := ⟨_, rfl⟩
      rw [← hcc] at hM
      have q := hc (L.getD ((mid : Int) + m - 1 - c).toNat []) (L.getD ((c : Nat) : Int).toNat []) (hP' _ (by omega)) (hP' _ (by omega))
      have hq2 := loopq c s (by omega) (by omega) (by omega) (by omega)
      by_cases hx : cmp (L.getD ((mid : Int) + m - 1 - c).toNat []) (L.getD ((c : Nat) : Int).toNat []) < 0
      · rw [show ltC cmp (L.getD ((mid : Int) + m - 1 - c).toNat []) (L.getD ((c : Nat) : Int).toNat []) = true from decide_eq_true hx] at hq2
        conv => whnf
        repeat' (first
          | (refine And.intro (by omega) ?_; conv => whnf)
          | (refine And.intro rfl ?_; conv => whnf)
          | (refine And.intro (Nat.le_of_ble_eq_true rfl) ?_; conv => whnf)
          | (refine And.intro (fun i hi => ⟨_, rfl⟩) ?_; conv => whnf)
          | (refine And.intro (fun hq => ?_) (fun hq => ?_) <;> (first | (exfalso; simp at hq; done) | (exfalso; simp only [cond_true, cond_false, Bool.not_eq_true', Bool.not_eq_false', decide_eq_true_eq, decide_eq_false_iff_not] at hq; (try dsimp only at hq); omega) | (exfalso; simp at hq; omega) | (conv => whnf)))
          | (refine fun hq => ?_; conv => whnf)
          | (refine And.intro (by first | (show _ * 1 ≤ 140737488355328; omega) | (show _ * 8 ≤ 140737488355328; omega) | (show _ * 24 ≤ 140737488355328; omega) | (show _ * 16 ≤ 140737488355328; omega) | (show _ * 32 ≤ 140737488355328; omega) | (show _ * 120 ≤ 140737488355328; omega) | (show _ * 280 ≤ 140737488355328; omega) | (show _ * 72 ≤ 140737488355328; omega) | (show _ * 48 ≤ 140737488355328; omega)) ?_; conv => whnf)
          | (refine And.intro (by dsimp only; omega) ?_; conv => whnf)
          | fail)
        rw [hM]
        conv => whnf
        repeat' (first
          | (refine And.intro (by omega) ?_; conv => whnf)
          | (refine And.intro rfl ?_; conv => whnf)
          | (refine And.intro (Nat.le_of_ble_eq_true rfl) ?_; conv => whnf)
          | (refine And.intro (fun i hi => ⟨_, rfl⟩) ?_; conv => whnf)
          | (refine ⟨_, _, _, .flat _ _ rfl (q) rfl, ?_⟩; conv => whnf)
          | (refine ⟨_, _, _, .flat _ _ rfl (ACall.arg ?harg (q)) rfl, ?_⟩; (case harg => (repeat' (first | exact trivial | exact rfl | exact fun _ _ => rfl | apply And.intro | (intro i hi; rcases i with _ | _ | i <;> first | rfl | (exfalso; omega) | (simp at hi; done) | (simp at hi; omega)) | exact fun _ _ => by simp))); (conv => whnf))
          | (refine And.intro (fun hq => ?_) (fun hq => ?_) <;> (first | (exfalso; simp at hq; done) | (exfalso; simp only [cond_true, cond_false, Bool.not_eq_true', Bool.not_eq_false', decide_eq_true_eq, decide_eq_false_iff_not] at hq; (try dsimp only at hq); omega) | (exfalso; simp at hq; omega) | (conv => whnf)))
          | (refine fun hq => ?_; conv => whnf)
          | (refine And.intro (by first | (show _ * 1 ≤ 140737488355328; omega) | (show _ * 8 ≤ 140737488355328; omega) | (show _ * 24 ≤ 140737488355328; omega) | (show _ * 16 ≤ 140737488355328; omega) | (show _ * 32 ≤ 140737488355328; omega) | (show _ * 120 ≤ 140737488355328; omega) | (show _ * 280 ≤ 140737488355328; omega) | (show _ * 72 ≤ 140737488355328; omega) | (show _ * 48 ≤ 140737488355328; omega)) ?_; conv => whnf)
          | (refine And.intro (by dsimp only; omega) ?_; conv => whnf)
          | fail)
        refine ⟨(s, c), ⟨by dsimp only; omega, by dsimp only; omega, by dsimp only; omega, h4, fun k => by rw [hq2]; congr 2; dsimp only; omega⟩, by dsimp only; omega, ?_⟩
        refine ⟨[], ?_⟩
        conv => whnf
        refine ⟨rfl, ?_, ?_⟩ <;> (repeat' (first | exact trivial | exact rfl | exact fun _ _ => rfl | apply And.intro | (intro i hi; rcases i with _ | _ | i <;> first | rfl | (exfalso; omega) | (simp at hi; done) | (simp at hi; omega)) | exact fun _ _ => by simp))
      · rw [show ltC cmp (L.getD ((mid : Int) + m - 1 - c).toNat []) (L.getD ((c : Nat) : Int).toNat []) = false from decide_eq_false hx] at hq2
        conv => whnf
        repeat' (first
          | (refine And.intro (by omega) ?_; conv => whnf)
          | (refine And.intro rfl ?_; conv => whnf)
          | (refine And.intro (Nat.le_of_ble_eq_true rfl) ?_; conv => whnf)
          | (refine And.intro (fun i hi => ⟨_, rfl⟩) ?_; conv => whnf)
          | (refine And.intro (fun hq => ?_) (fun hq => ?_) <;> (first | (exfalso; simp at hq; done) | (exfalso; simp only [cond_true, cond_false, Bool.not_eq_true', Bool.not_eq_false', decide_eq_true_eq, decide_eq_false_iff_not] at hq; (try dsimp only at hq); omega) | (exfalso; simp at hq; omega) | (conv => whnf)))
          | (refine fun hq => ?_; conv => whnf)
          | (refine And.intro (by first | (show _ * 1 ≤ 140737488355328; omega) | (show _ * 8 ≤ 140737488355328; omega) | (show _ * 24 ≤ 140737488355328; omega) | (show _ * 16 ≤ 140737488355328; omega) | (show _ * 32 ≤ 140737488355328; omega) | (show _ * 120 ≤ 140737488355328; omega) | (show _ * 280 ≤ 140737488355328; omega) | (show _ * 72 ≤ 140737488355328; omega) | (show _ * 48 ≤ 140737488355328; omega)) ?_; conv => whnf)
          | (refine And.intro (by dsimp only; omega) ?_; conv => whnf)
          | fail)
        rw [hM]
        conv => whnf
        repeat' (first
          | (refine And.intro (by omega) ?_; conv => whnf)
          | (refine And.intro rfl ?_; conv => whnf)
          | (refine And.intro (Nat.le_of_ble_eq_true rfl) ?_; conv => whnf)
          | (refine And.intro (fun i hi => ⟨_, rfl⟩) ?_; conv => whnf)
          | (refine ⟨_, _, _, .flat _ _ rfl (q) rfl, ?_⟩; conv => whnf)
          | (refine ⟨_, _, _, .flat _ _ rfl (ACall.arg ?harg (q)) rfl, ?_⟩; (case harg => (repeat' (first | exact trivial | exact rfl | exact fun _ _ => rfl | apply And.intro | (intro i hi; rcases i with _ | _ | i <;> first | rfl | (exfalso; omega) | (simp at hi; done) | (simp at hi; omega)) | exact fun _ _ => by simp))); (conv => whnf))
          | (refine And.intro (fun hq => ?_) (fun hq => ?_) <;> (first | (exfalso; simp at hq; done) | (exfalso; simp only [cond_true, cond_false, Bool.not_eq_true', Bool.not_eq_false', decide_eq_true_eq, decide_eq_false_iff_not] at hq; (try dsimp only at hq); omega) | (exfalso; simp at hq; omega) | (conv => whnf)))
          | (refine fun hq => ?_; conv => whnf)
          | (refine And.intro (by first | (show _ * 1 ≤ 140737488355328; omega) | (show _ * 8 ≤ 140737488355328; omega) | (show _ * 24 ≤ 140737488355328; omega) | (show _ * 16 ≤ 140737488355328; omega) | (show _ * 32 ≤ 140737488355328; omega) | (show _ * 120 ≤ 140737488355328; omega) | (show _ * 280 ≤ 140737488355328; omega) | (show _ * 72 ≤ 140737488355328; omega) | (show _ * 48 ≤ 140737488355328; omega)) ?_; conv => whnf)
          | (refine And.intro (by dsimp only; omega) ?_; conv => whnf)
          | fail)
        refine ⟨(c + 1, r), ⟨by dsimp only; omega, by dsimp only; omega, h3, fun k => by rw [hq2]; congr 2 <;> (dsimp only; omega), h5⟩, by dsimp only; omega, ?_⟩
        refine ⟨[], ?_⟩
        conv => whnf
        refine ⟨rfl, ?_, ?_⟩ <;> (repeat' (first | exact trivial | exact rfl | exact fun _ _ => rfl | apply And.intro | (intro i hi; rcases i with _ | _ | i <;> first | rfl | (exfalso; omega) | (simp at hi; done) | (simp at hi; omega)) | exact fun _ _ => by simp))
    · obtain rfl : s = r := by omega
      obtain ⟨M1, M2, l1, l2, k1, n1, k2, n2, k3, n3⟩ := tail s (by omega) (by omega) (by omega) (by omega) (fun w1 w2 => h5 (by omega)) (fun w1 w2 => h4 (by omega))
      clear tail loopq hXs hYs gX gY hP' h4 h5
      by_cases e1 : s < m ∧ s < mid
      · have q1 := k1 e1
        clear k1 n1
        by_cases e2 : a < s ∧ s < mid
        · have q2 := k2 e2
          clear k2 n2
          by_cases e3 : s < m ∧ mid + m < s + b
          · have q3 := k3 e3
            clear k3 n3
            conv => whnf
            repeat' (first
              | (refine And.intro (by omega) ?_; conv => whnf)
              | (refine And.intro rfl ?_; conv => whnf)
              | (refine And.intro (Nat.le_of_ble_eq_true rfl) ?_; conv => whnf)
              | (refine And.intro (fun i hi => ⟨_, rfl⟩) ?_; conv => whnf)
              | (refine ⟨_, _, _, .gen [901] _ _ _ rfl (q1) rfl rfl rfl rfl rfl, ?_⟩; conv => whnf)
              | (refine ⟨_, _, _, .gen [901] _ _ _ rfl (q2) rfl rfl rfl rfl rfl, ?_⟩; conv => whnf)
              | (refine ⟨_, _, _, .gen [901] _ _ _ rfl (q3) rfl rfl rfl rfl rfl, ?_⟩; conv => whnf)
              | (refine ⟨_, _, _, .gen [901] _ _ _ rfl (ACall.arg ?harg (q1)) rfl rfl rfl rfl rfl, ?_⟩; (case harg => (repeat' (first | exact trivial | (exact congrArg (Value.int .i64) (by (try dsimp only); omega)) | exact rfl | exact fun _ _ => rfl | apply And.intro | (intro i hi; rcases i with _ | _ | i <;> first | rfl | (exfalso; omega) | (simp at hi; done) | (simp at hi; omega)) | exact fun _ _ => by simp))); (conv => whnf))
              | (refine ⟨_, _, _, .gen [901] _ _ _ rfl (ACall.arg ?harg (q2)) rfl rfl rfl rfl rfl, ?_⟩; (case harg => (repeat' (first | exact trivial | (exact congrArg (Value.int .i64) (by (try dsimp only); omega)) | exact rfl | exact fun _ _ => rfl | apply And.intro | (intro i hi; rcases i with _ | _ | i <;> first | rfl | (exfalso; omega) | (simp at hi; done) | (simp at hi; omega)) | exact fun _ _ => by simp))); (conv => whnf))
              | (refine ⟨_, _, _, .gen [901] _ _ _ rfl (ACall.arg ?harg (q3)) rfl rfl rfl rfl rfl, ?_⟩; (case harg => (repeat' (first | exact trivial | (exact congrArg (Value.int .i64) (by (try dsimp only); omega)) | exact rfl | exact fun _ _ => rfl | apply And.intro | (intro i hi; rcases i with _ | _ | i <;> first | rfl | (exfalso; omega) | (simp at hi; done) | (simp at hi; omega)) | exact fun _ _ => by simp))); (conv => whnf))
              | (refine And.intro (fun hq => ?_) (fun hq => ?_) <;> (first | (exfalso; simp at hq; done) | (exfalso; simp only [cond_true, cond_false, Bool.not_eq_true', Bool.not_eq_false', decide_eq_true_eq, decide_eq_false_iff_not] at hq; (try dsimp only at hq); omega) | (exfalso; simp at hq; omega) | (conv => whnf)))
              | (refine fun hq => ?_; conv => whnf)
              | (refine And.intro (by first | (show _ * 1 ≤ 140737488355328; omega) | (show _ * 8 ≤ 140737488355328; omega) | (show _ * 24 ≤ 140737488355328; omega) | (show _ * 16 ≤ 140737488355328; omega) | (show _ * 32 ≤ 140737488355328; omega) | (show _ * 120 ≤ 140737488355328; omega) | (show _ * 280 ≤ 140737488355328; omega) | (show _ * 72 ≤ 140737488355328; omega) | (show _ * 48 ≤ 140737488355328; omega)) ?_; conv => whnf)
              | (refine And.intro (by dsimp only; omega) ?_; conv => whnf)
              | fail)
            all_goals first | exact trivial | exact ⟨rfl, by (repeat' (first | exact trivial | exact rfl | exact fun _ _ => rfl | apply And.intro | (intro i hi; rcases i with _ | _ | i <;> first | rfl | (exfalso; omega) | (simp at hi; done) | (simp at hi; omega)) | exact fun _ _ => by simp)), trivial⟩ | exact ⟨by (repeat' (first | exact trivial | exact rfl | exact fun _ _ => rfl | apply And.intro | (intro i hi; rcases i with _ | _ | i <;> first | rfl | (exfalso; omega) | (simp at hi; done) | (simp at hi; omega)) | exact fun _ _ => by simp)), trivial⟩ | exact ⟨by (repeat' (first | exact trivial | exact rfl | exact fun _ _ => rfl | apply And.intro | (intro i hi; rcases i with _ | _ | i <;> first | rfl | (exfalso; omega) | (simp at hi; done) | (simp at hi; omega)) | exact fun _ _ => by simp)), by (repeat' (first | exact trivial | exact rfl | exact fun _ _ => rfl | apply And.intro | (intro i hi; rcases i with _ | _ | i <;> first | rfl | (exfalso; omega) | (simp at hi; done) | (simp at hi; omega)) | exact fun _ _ => by simp))⟩ | exact ⟨rfl, by (repeat' (first | exact trivial | exact rfl | exact fun _ _ => rfl | apply And.intro | (intro i hi; rcases i with _ | _ | i <;> first | rfl | (exfalso; omega) | (simp at hi; done) | (simp at hi; omega)) | exact fun _ _ => by simp)), by (repeat' (first | exact trivial | exact rfl | exact fun _ _ => rfl | apply And.intro | (intro i hi; rcases i with _ | _ | i <;> first | rfl | (exfalso; omega) | (simp at hi; done) | (simp at hi; omega)) | exact fun _ _ => by simp))⟩
          · have z3 := n3 e3
            clear k3 n3
            conv => whnf
            repeat' (first
              | (refine And.intro (by omega) ?_; conv => whnf)
              | (refine And.intro rfl ?_; conv => whnf)
              | (refine And.intro (Nat.le_of_ble_eq_true rfl) ?_; conv => whnf)
              | (refine And.intro (fun i hi => ⟨_, rfl⟩) ?_; conv => whnf)
              | (refine ⟨_, _, _, .gen [901] _ _ _ rfl (q1) rfl rfl rfl rfl rfl, ?_⟩; conv => whnf)
              | (refine ⟨_, _, _, .gen [901] _ _ _ rfl (q2) rfl rfl rfl rfl rfl, ?_⟩; conv => whnf)
              | (refine ⟨_, _, _, .gen [901] _ _ _ rfl (ACall.arg ?harg (q1)) rfl rfl rfl rfl rfl, ?_⟩; (case harg => (repeat' (first | exact trivial | (exact congrArg (Value.int .i64) (by (try dsimp only); omega)) | exact rfl | exact fun _ _ => rfl | apply And.intro | (intro i hi; rcases i with _ | _ | i <;> first | rfl | (exfalso; omega) | (simp at hi; done) | (simp at hi; omega)) | exact fun _ _ => by simp))); (conv => whnf))
              | (refine ⟨_, _, _, .gen [901] _ _ _ rfl (ACall.arg ?harg (q2)) rfl rfl rfl rfl rfl, ?_⟩; (case harg => (repeat' (first | exact trivial | (exact congrArg (Value.int .i64) (by (try dsimp only); omega)) | exact rfl | exact fun _ _ => rfl | apply And.intro | (intro i hi; rcases i with _ | _ | i <;> first | rfl | (exfalso; omega) | (simp at hi; done) | (simp at hi; omega)) | exact fun _ _ => by simp))); (conv => whnf))
              | (refine And.intro (fun hq => ?_) (fun hq => ?_) <;> (first | (exfalso; simp at hq; done) | (exfalso; simp only [cond_true, cond_false, Bool.not_eq_true', Bool.not_eq_false', decide_eq_true_eq, decide_eq_false_iff_not] at hq; (try dsimp only at hq); omega) | (exfalso; simp at hq; omega) | (conv => whnf)))
              | (refine fun hq => ?_; conv => whnf)
              | (refine And.intro (by first | (show _ * 1 ≤ 140737488355328; omega) | (show _ * 8 ≤ 140737488355328; omega) | (show _ * 24 ≤ 140737488355328; omega) | (show _ * 16 ≤ 140737488355328; omega) | (show _ * 32 ≤ 140737488355328; omega) | (show _ * 120 ≤ 140737488355328; omega) | (show _ * 280 ≤ 140737488355328; omega) | (show _ * 72 ≤ 140737488355328; omega) | (show _ * 48 ≤ 140737488355328; omega)) ?_; conv => whnf)
              | (refine And.intro (by dsimp only; omega) ?_; conv => whnf)
              | fail)
            all_goals first | exact trivial | exact ⟨rfl, by (repeat' (first | exact trivial | ((rw [z3]; done)) | ((intro i hi; rw [z3])) | exact rfl | exact fun _ _ => rfl | apply And.intro | (intro i hi; rcases i with _ | _ | i <;> first | rfl | (exfalso; omega) | (simp at hi; done) | (simp at hi; omega)) | exact fun _ _ => by simp)), trivial⟩ | exact ⟨by (repeat' (first | exact trivial | ((rw [z3]; done)) | ((intro i hi; rw [z3])) | exact rfl | exact fun _ _ => rfl | apply And.intro | (intro i hi; rcases i with _ | _ | i <;> first | rfl | (exfalso; omega) | (simp at hi; done) | (simp at hi; omega)) | exact fun _ _ => by simp)), trivial⟩ | exact ⟨by (repeat' (first | exact trivial | ((rw [z3]; done)) | ((intro i hi; rw [z3])) | exact rfl | exact fun _ _ => rfl | apply And.intro | (intro i hi; rcases i with _ | _ | i <;> first | rfl | (exfalso; omega) | (simp at hi; done) | (simp at hi; omega)) | exact fun _ _ => by simp)), by (repeat' (first | exact trivial | ((rw [z3]; done)) | ((intro i hi; rw [z3])) | exact rfl | exact fun _ _ => rfl | apply And.intro | (intro i hi; rcases i with _ | _ | i <;> first | rfl | (exfalso; omega) | (simp at hi; done) | (simp at hi; omega)) | exact fun _ _ => by simp))⟩ | exact ⟨rfl, by (repeat' (first | exact trivial | ((rw [z3]; done)) | ((intro i hi; rw [z3])) | exact rfl | exact fun _ _ => rfl | apply And.intro | (intro i hi; rcases i with _ | _ | i <;> first | rfl | (exfalso; omega) | (simp at hi; done) | (simp at hi; omega)) | exact fun _ _ => by simp)), by (repeat' (first | exact trivial | ((rw [z3]; done)) | ((intro i hi; rw [z3])) | exact rfl | exact fun _ _ => rfl | apply And.intro | (intro i hi; rcases i with _ | _ | i <;> first | rfl | (exfalso; omega) | (simp at hi; done) | (simp at hi; omega)) | exact fun _ _ => by simp))⟩
        · have z2 := n2 e2
          rw [z2] at k3 n3
          clear k2 n2
          by_cases e3 : s < m ∧ mid + m < s + b
          · have q3 := k3 e3
            clear k3 n3
            conv => whnf
            repeat' (first
              | (refine And.intro (by omega) ?_; conv => whnf)
              | (refine And.intro rfl ?_; conv => whnf)
              | (refine And.intro (Nat.le_of_ble_eq_true rfl) ?_; conv => whnf)
              | (refine And.intro (fun i hi => ⟨_, rfl⟩) ?_; conv => whnf)
              | (refine ⟨_, _, _, .gen [901] _ _ _ rfl (q1) rfl rfl rfl rfl rfl, ?_⟩; conv => whnf)
              | (refine ⟨_, _, _, .gen [901] _ _ _ rfl (q3) rfl rfl rfl rfl rfl, ?_⟩; conv => whnf)
              | (refine ⟨_, _, _, .gen [901] _ _ _ rfl (ACall.arg ?harg (q1)) rfl rfl rfl rfl rfl, ?_⟩; (case harg => (repeat' (first | exact trivial | (exact congrArg (Value.int .i64) (by (try dsimp only); omega)) | exact rfl | exact fun _ _ => rfl | apply And.intro | (intro i hi; rcases i with _ | _ | i <;> first | rfl | (exfalso; omega) | (simp at hi; done) | (simp at hi; omega)) | exact fun _ _ => by simp))); (conv => whnf))
              | (refine ⟨_, _, _, .gen [901] _ _ _ rfl (ACall.arg ?harg (q3)) rfl rfl rfl rfl rfl, ?_⟩; (case harg => (repeat' (first | exact trivial | (exact congrArg (Value.int .i64) (by (try dsimp only); omega)) | exact rfl | exact fun _ _ => rfl | apply And.intro | (intro i hi; rcases i with _ | _ | i <;> first | rfl | (exfalso; omega) | (simp at hi; done) | (simp at hi; omega)) | exact fun _ _ => by simp))); (conv => whnf))
              | (refine And.intro (fun hq => ?_) (fun hq => ?_) <;> (first | (exfalso; simp at hq; done) | (exfalso; simp only [cond_true, cond_false, Bool.not_eq_true', Bool.not_eq_false', decide_eq_true_eq, decide_eq_false_iff_not] at hq; (try dsimp only at hq); omega) | (exfalso; simp at hq; omega) | (conv => whnf)))
              | (refine fun hq => ?_; conv => whnf)
              | (refine And.intro (by first | (show _ * 1 ≤ 140737488355328; omega) | (show _ * 8 ≤ 140737488355328; omega) | (show _ * 24 ≤ 140737488355328; omega) | (show _ * 16 ≤ 140737488355328; omega) | (show _ * 32 ≤ 140737488355328; omega) | (show _ * 120 ≤ 140737488355328; omega) | (show _ * 280 ≤ 140737488355328; omega) | (show _ * 72 ≤ 140737488355328; omega) | (show _ * 48 ≤ 140737488355328; omega)) ?_; conv => whnf)
              | (refine And.intro (by dsimp only; omega) ?_; conv => whnf)
              | fail)
            all_goals first | exact trivial | exact ⟨rfl, by (repeat' (first | exact trivial | exact rfl | exact fun _ _ => rfl | apply And.intro | (intro i hi; rcases i with _ | _ | i <;> first | rfl | (exfalso; omega) | (simp at hi; done) | (simp at hi; omega)) | exact fun _ _ => by simp)), trivial⟩ | exact ⟨by (repeat' (first | exact trivial | exact rfl | exact fun _ _ => rfl | apply And.intro | (intro i hi; rcases i with _ | _ | i <;> first | rfl | (exfalso; omega) | (simp at hi; done) | (simp at hi; omega)) | exact fun _ _ => by simp)), trivial⟩ | exact ⟨by (repeat' (first | exact trivial | exact rfl | exact fun _ _ => rfl | apply And.intro | (intro i hi; rcases i with _ | _ | i <;> first | rfl | (exfalso; omega) | (simp at hi; done) | (simp at hi; omega)) | exact fun _ _ => by simp)), by (repeat' (first | exact trivial | exact rfl | exact fun _ _ => rfl | apply And.intro | (intro i hi; rcases i with _ | _ | i <;> first | rfl | (exfalso; omega) | (simp at hi; done) | (simp at hi; omega)) | exact fun _ _ => by simp))⟩ | exact ⟨rfl, by (repeat' (first | exact trivial | exact rfl | exact fun _ _ => rfl | apply And.intro | (intro i hi; rcases i with _ | _ | i <;> first | rfl | (exfalso; omega) | (simp at hi; done) | (simp at hi; omega)) | exact fun _ _ => by simp)), by (repeat' (first | exact trivial | exact rfl | exact fun _ _ => rfl | apply And.intro | (intro i hi; rcases i with _ | _ | i <;> first | rfl | (exfalso; omega) | (simp at hi; done) | (simp at hi; omega)) | exact fun _ _ => by simp))⟩
          · have z3 := n3 e3
            clear k3 n3
            conv => whnf
            repeat' (first
              | (refine And.intro (by omega) ?_; conv => whnf)
              | (refine And.intro rfl ?_; conv => whnf)
              | (refine And.intro (Nat.le_of_ble_eq_true rfl) ?_; conv => whnf)
              | (refine And.intro (fun i hi => ⟨_, rfl⟩) ?_; conv => whnf)
              | (refine ⟨_, _, _, .gen [901] _ _ _ rfl (q1) rfl rfl rfl rfl rfl, ?_⟩; conv => whnf)
              | (refine ⟨_, _, _, .gen [901] _ _ _ rfl (ACall.arg ?harg (q1)) rfl rfl rfl rfl rfl, ?_⟩; (case harg => (repeat' (first | exact trivial | (exact congrArg (Value.int .i64) (by (try dsimp only); omega)) | exact rfl | exact fun _ _ => rfl | apply And.intro | (intro i hi; rcases i with _ | _ | i <;> first | rfl | (exfalso; omega) | (simp at hi; done) | (simp at hi; omega)) | exact fun _ _ => by simp))); (conv => whnf))
              | (refine And.intro (fun hq => ?_) (fun hq => ?_) <;> (first | (exfalso; simp at hq; done) | (exfalso; simp only [cond_true, cond_false, Bool.not_eq_true', Bool.not_eq_false', decide_eq_true_eq, decide_eq_false_iff_not] at hq; (try dsimp only at hq); omega) | (exfalso; simp at hq; omega) | (conv => whnf)))
              | (refine fun hq => ?_; conv => whnf)
              | (refine And.intro (by first | (show _ * 1 ≤ 140737488355328; omega) | (show _ * 8 ≤ 140737488355328; omega) | (show _ * 24 ≤ 140737488355328; omega) | (show _ * 16 ≤ 140737488355328; omega) | (show _ * 32 ≤ 140737488355328; omega) | (show _ * 120 ≤ 140737488355328; omega) | (show _ * 280 ≤ 140737488355328; omega) | (show _ * 72 ≤ 140737488355328; omega) | (show _ * 48 ≤ 140737488355328; omega)) ?_; conv => whnf)
              | (refine And.intro (by dsimp only; omega) ?_; conv => whnf)
              | fail)
            all_goals first | exact trivial | exact ⟨rfl, by (repeat' (first | exact trivial | ((rw [z3]; done)) | ((intro i hi; rw [z3])) | exact rfl | exact fun _ _ => rfl | apply And.intro | (intro i hi; rcases i with _ | _ | i <;> first | rfl | (exfalso; omega) | (simp at hi; done) | (simp at hi; omega)) | exact fun _ _ => by simp)), trivial⟩ | exact ⟨by (repeat' (first | exact trivial | ((rw [z3]; done)) | ((intro i hi; rw [z3])) | exact rfl | exact fun _ _ => rfl | apply And.intro | (intro i hi; rcases i with _ | _ | i <;> first | rfl | (exfalso; omega) | (simp at hi; done) | (simp at hi; omega)) | exact fun _ _ => by simp)), trivial⟩ | exact ⟨by (repeat' (first | exact trivial | ((rw [z3]; done)) | ((intro i hi; rw [z3])) | exact rfl | exact fun _ _ => rfl | apply And.intro | (intro i hi; rcases i with _ | _ | i <;> first | rfl | (exfalso; omega) | (simp at hi; done) | (simp at hi; omega)) | exact fun _ _ => by simp)), by (repeat' (first | exact trivial | ((rw [z3]; done)) | ((intro i hi; rw [z3])) | exact rfl | exact fun _ _ => rfl | apply And.intro | (intro i hi; rcases i with _ | _ | i <;> first | rfl | (exfalso; omega) | (simp at hi; done) | (simp at hi; omega)) | exact fun _ _ => by simp))⟩ | exact ⟨rfl, by (repeat' (first | exact trivial | ((rw [z3]; done)) | ((intro i hi; rw [z3])) | exact rfl | exact fun _ _ => rfl | apply And.intro | (intro i hi; rcases i with _ | _ | i <;> first | rfl | (exfalso; omega) | (simp at hi; done) | (simp at hi; omega)) | exact fun _ _ => by simp)), by (repeat' (first | exact trivial | ((rw [z3]; done)) | ((intro i hi; rw [z3])) | exact rfl | exact fun _ _ => rfl | apply And.intro | (intro i hi; rcases i with _ | _ | i <;> first | rfl | (exfalso; omega) | (simp at hi; done) | (simp at hi; omega)) | exact fun _ _ => by simp))⟩
      · rw [n1 e1] at k2 n2
        clear k1 n1
        by_cases e2 : a < s ∧ s < mid
        · have q2 := k2 e2
          clear k2 n2
          by_cases e3 : s < m ∧ mid + m < s + b
          · have q3 := k3 e3
            clear k3 n3
            conv => whnf
            repeat' (first
              | (refine And.intro (by omega) ?_; conv => whnf)
              | (refine And.intro rfl ?_; conv => whnf)
              | (refine And.intro (Nat.le_of_ble_eq_true rfl) ?_; conv => whnf)
              | (refine And.intro (fun i hi => ⟨_, rfl⟩) ?_; conv => whnf)
              | (refine ⟨_, _, _, .gen [901] _ _ _ rfl (q2) rfl rfl rfl rfl rfl, ?_⟩; conv => whnf)
              | (refine ⟨_, _, _, .gen [901] _ _ _ rfl (q3) rfl rfl rfl rfl rfl, ?_⟩; conv => whnf)
              | (refine ⟨_, _, _, .gen [901] _ _ _ rfl (ACall.arg ?harg (q2)) rfl rfl rfl rfl rfl, ?_⟩; (case harg => (repeat' (first | exact trivial | (exact congrArg (Value.int .i64) (by (try dsimp only); omega)) | exact rfl | exact fun _ _ => rfl | apply And.intro | (intro i hi; rcases i with _ | _ | i <;> first | rfl | (exfalso; omega) | (simp at hi; done) | (simp at hi; omega)) | exact fun _ _ => by simp))); (conv => whnf))
              | (refine ⟨_, _, _, .gen [901] _ _ _ rfl (ACall.arg ?harg (q3)) rfl rfl rfl rfl rfl, ?_⟩; (case harg => (repeat' (first | exact trivial | (exact congrArg (Value.int .i64) (by (try dsimp only); omega)) | exact rfl | exact fun _ _ => rfl | apply And.intro | (intro i hi; rcases i with _ | _ | i <;> first | rfl | (exfalso; omega) | (simp at hi; done) | (simp at hi; omega)) | exact fun _ _ => by simp))); (conv => whnf))
              | (refine And.intro (fun hq => ?_) (fun hq => ?_) <;> (first | (exfalso; simp at hq; done) | (exfalso; simp only [cond_true, cond_false, Bool.not_eq_true', Bool.not_eq_false', decide_eq_true_eq, decide_eq_false_iff_not] at hq; (try dsimp only at hq); omega) | (exfalso; simp at hq; omega) | (conv => whnf)))
              | (refine fun hq => ?_; conv => whnf)
              | (refine And.intro (by first | (show _ * 1 ≤ 140737488355328; omega) | (show _ * 8 ≤ 140737488355328; omega) | (show _ * 24 ≤ 140737488355328; omega) | (show _ * 16 ≤ 140737488355328; omega) | (show _ * 32 ≤ 140737488355328; omega) | (show _ * 120 ≤ 140737488355328; omega) | (show _ * 280 ≤ 140737488355328; omega) | (show _ * 72 ≤ 140737488355328; omega) | (show _ * 48 ≤ 140737488355328; omega)) ?_; conv => whnf)
              | (refine And.intro (by dsimp only; omega) ?_; conv => whnf)
              | fail)
            all_goals first | exact trivial | exact ⟨rfl, by (repeat' (first | exact trivial | exact rfl | exact fun _ _ => rfl | apply And.intro | (intro i hi; rcases i with _ | _ | i <;> first | rfl | (exfalso; omega) | (simp at hi; done) | (simp at hi; omega)) | exact fun _ _ => by simp)), trivial⟩ | exact ⟨by (repeat' (first | exact trivial | exact rfl | exact fun _ _ => rfl | apply And.intro | (intro i hi; rcases i with _ | _ | i <;> first | rfl | (exfalso; omega) | (simp at hi; done) | (simp at hi; omega)) | exact fun _ _ => by simp)), trivial⟩ | exact ⟨by (repeat' (first | exact trivial | exact rfl | exact fun _ _ => rfl | apply And.intro | (intro i hi; rcases i with _ | _ | i <;> first | rfl | (exfalso; omega) | (simp at hi; done) | (simp at hi; omega)) | exact fun _ _ => by simp)), by (repeat' (first | exact trivial | exact rfl | exact fun _ _ => rfl | apply And.intro | (intro i hi; rcases i with _ | _ | i <;> first | rfl | (exfalso; omega) | (simp at hi; done) | (simp at hi; omega)) | exact fun _ _ => by simp))⟩ | exact ⟨rfl, by (repeat' (first | exact trivial | exact rfl | exact fun _ _ => rfl | apply And.intro | (intro i hi; rcases i with _ | _ | i <;> first | rfl | (exfalso; omega) | (simp at hi; done) | (simp at hi; omega)) | exact fun _ _ => by simp)), by (repeat' (first | exact trivial | exact rfl | exact fun _ _ => rfl | apply And.intro | (intro i hi; rcases i with _ | _ | i <;> first | rfl | (exfalso; omega) | (simp at hi; done) | (simp at hi; omega)) | exact fun _ _ => by simp))⟩
          · have z3 := n3 e3
            clear k3 n3
            conv => whnf
            repeat' (first
              | (refine And.intro (by omega) ?_; conv => whnf)
              | (refine And.intro rfl ?_; conv => whnf)
              | (refine And.intro (Nat.le_of_ble_eq_true rfl) ?_; conv => whnf)
              | (refine And.intro (fun i hi => ⟨_, rfl⟩) ?_; conv => whnf)
              | (refine ⟨_, _, _, .gen [901] _ _ _ rfl (q2) rfl rfl rfl rfl rfl, ?_⟩; conv => whnf)
              | (refine ⟨_, _, _, .gen [901] _ _ _ rfl (ACall.arg ?harg (q2)) rfl rfl rfl rfl rfl, ?_⟩; (case harg => (repeat' (first | exact trivial | (exact congrArg (Value.int .i64) (by (try dsimp only); omega)) | exact rfl | exact fun _ _ => rfl | apply And.intro | (intro i hi; rcases i with _ | _ | i <;> first | rfl | (exfalso; omega) | (simp at hi; done) | (simp at hi; omega)) | exact fun _ _ => by simp))); (conv => whnf))
              | (refine And.intro (fun hq => ?_) (fun hq => ?_) <;> (first | (exfalso; simp at hq; done) | (exfalso; simp only [cond_true, cond_false, Bool.not_eq_true', Bool.not_eq_false', decide_eq_true_eq, decide_eq_false_iff_not] at hq; (try dsimp only at hq); omega) | (exfalso; simp at hq; omega) | (conv => whnf)))
              | (refine fun hq => ?_; conv => whnf)
              | (refine And.intro (by first | (show _ * 1 ≤ 140737488355328; omega) | (show _ * 8 ≤ 140737488355328; omega) | (show _ * 24 ≤ 140737488355328; omega) | (show _ * 16 ≤ 140737488355328; omega) | (show _ * 32 ≤ 140737488355328; omega) | (show _ * 120 ≤ 140737488355328; omega) | (show _ * 280 ≤ 140737488355328; omega) | (show _ * 72 ≤ 140737488355328; omega) | (show _ * 48 ≤ 140737488355328; omega)) ?_; conv => whnf)
              | (refine And.intro (by dsimp only; omega) ?_; conv => whnf)
              | fail)
            all_goals first | exact trivial | exact ⟨rfl, by (repeat' (first | exact trivial | ((rw [z3]; done)) | ((intro i hi; rw [z3])) | exact rfl | exact fun _ _ => rfl | apply And.intro | (intro i hi; rcases i with _ | _ | i <;> first | rfl | (exfalso; omega) | (simp at hi; done) | (simp at hi; omega)) | exact fun _ _ => by simp)), trivial⟩ | exact ⟨by (repeat' (first | exact trivial | ((rw [z3]; done)) | ((intro i hi; rw [z3])) | exact rfl | exact fun _ _ => rfl | apply And.intro | (intro i hi; rcases i with _ | _ | i <;> first | rfl | (exfalso; omega) | (simp at hi; done) | (simp at hi; omega)) | exact fun _ _ => by simp)), trivial⟩ | exact ⟨by (repeat' (first | exact trivial | ((rw [z3]; done)) | ((intro i hi; rw [z3])) | exact rfl | exact fun _ _ => rfl | apply And.intro | (intro i hi; rcases i with _ | _ | i <;> first | rfl | (exfalso; omega) | (simp at hi; done) | (simp at hi; omega)) | exact fun _ _ => by simp)), by (repeat' (first | exact trivial | ((rw [z3]; done)) | ((intro i hi; rw [z3])) | exact rfl | exact fun _ _ => rfl | apply And.intro | (intro i hi; rcases i with _ | _ | i <;> first | rfl | (exfalso; omega) | (simp at hi; done) | (simp at hi; omega)) | exact fun _ _ => by simp))⟩ | exact ⟨rfl, by (repeat' (first | exact trivial | ((rw [z3]; done)) | ((intro i hi; rw [z3])) | exact rfl | exact fun _ _ => rfl | apply And.intro | (intro i hi; rcases i with _ | _ | i <;> first | rfl | (exfalso; omega) | (simp at hi; done) | (simp at hi; omega)) | exact fun _ _ => by simp)), by (repeat' (first | exact trivial | ((rw [z3]; done)) | ((intro i hi; rw [z3])) | exact rfl | exact fun _ _ => rfl | apply And.intro | (intro i hi; rcases i with _ | _ | i <;> first | rfl | (exfalso; omega) | (simp at hi; done) | (simp at hi; omega)) | exact fun _ _ => by simp))⟩
        · have z2 := n2 e2
          rw [z2] at k3 n3
          clear k2 n2
          by_cases e3 : s < m ∧ mid + m < s + b
          · have q3 := k3 e3
            clear k3 n3
            conv => whnf
            repeat' (first
              | (refine And.intro (by omega) ?_; conv => whnf)
              | (refine And.intro rfl ?_; conv => whnf)
              | (refine And.intro (Nat.le_of_ble_eq_true rfl) ?_; conv => whnf)
              | (refine And.intro (fun i hi => ⟨_, rfl⟩) ?_; conv => whnf)
              | (refine ⟨_, _, _, .gen [901] _ _ _ rfl (q3) rfl rfl rfl rfl rfl, ?_⟩; conv => whnf)
              | (refine ⟨_, _, _, .gen [901] _ _ _ rfl (ACall.arg ?harg (q3)) rfl rfl rfl rfl rfl, ?_⟩; (case harg => (repeat' (first | exact trivial | (exact congrArg (Value.int .i64) (by (try dsimp only); omega)) | exact rfl | exact fun _ _ => rfl | apply And.intro | (intro i hi; rcases i with _ | _ | i <;> first | rfl | (exfalso; omega) | (simp at hi; done) | (simp at hi; omega)) | exact fun _ _ => by simp))); (conv => whnf))
              | (refine And.intro (fun hq => ?_) (fun hq => ?_) <;> (first | (exfalso; simp at hq; done) | (exfalso; simp only [cond_true, cond_false, Bool.not_eq_true', Bool.not_eq_false', decide_eq_true_eq, decide_eq_false_iff_not] at hq; (try dsimp only at hq); omega) | (exfalso; simp at hq; omega) | (conv => whnf)))
              | (refine fun hq => ?_; conv => whnf)
              | (refine And.intro (by first | (show _ * 1 ≤ 140737488355328; omega) | (show _ * 8 ≤ 140737488355328; omega) | (show _ * 24 ≤ 140737488355328; omega) | (show _ * 16 ≤ 140737488355328; omega) | (show _ * 32 ≤ 140737488355328; omega) | (show _ * 120 ≤ 140737488355328; omega) | (show _ * 280 ≤ 140737488355328; omega) | (show _ * 72 ≤ 140737488355328; omega) | (show _ * 48 ≤ 140737488355328; omega)) ?_; conv => whnf)
              | (refine And.intro (by dsimp only; omega) ?_; conv => whnf)
              | fail)
            all_goals first | exact trivial | exact ⟨rfl, by (repeat' (first | exact trivial | exact rfl | exact fun _ _ => rfl | apply And.intro | (intro i hi; rcases i with _ | _ | i <;> first | rfl | (exfalso; omega) | (simp at hi; done) | (simp at hi; omega)) | exact fun _ _ => by simp)), trivial⟩ | exact ⟨by (repeat' (first | exact trivial | exact rfl | exact fun _ _ => rfl | apply And.intro | (intro i hi; rcases i with _ | _ | i <;> first | rfl | (exfalso; omega) | (simp at hi; done) | (simp at hi; omega)) | exact fun _ _ => by simp)), trivial⟩ | exact ⟨by (repeat' (first | exact trivial | exact rfl | exact fun _ _ => rfl | apply And.intro | (intro i hi; rcases i with _ | _ | i <;> first | rfl | (exfalso; omega) | (simp at hi; done) | (simp at hi; omega)) | exact fun _ _ => by simp)), by (repeat' (first | exact trivial | exact rfl | exact fun _ _ => rfl | apply And.intro | (intro i hi; rcases i with _ | _ | i <;> first | rfl | (exfalso; omega) | (simp at hi; done) | (simp at hi; omega)) | exact fun _ _ => by simp))⟩ | exact ⟨rfl, by (repeat' (first | exact trivial | exact rfl | exact fun _ _ => rfl | apply And.intro | (intro i hi; rcases i with _ | _ | i <;> first | rfl | (exfalso; omega) | (simp at hi; done) | (simp at hi; omega)) | exact fun _ _ => by simp)), by (repeat' (first | exact trivial | exact rfl | exact fun _ _ => rfl | apply And.intro | (intro i hi; rcases i with _ | _ | i <;> first | rfl | (exfalso; omega) | (simp at hi; done) | (simp at hi; omega)) | exact fun _ _ => by simp))⟩
          · have z3 := n3 e3
            clear k3 n3
            conv => whnf
            repeat' (first
              | (refine And.intro (by omega) ?_; conv => whnf)
              | (refine And.intro rfl ?_; conv => whnf)
              | (refine And.intro (Nat.le_of_ble_eq_true rfl) ?_; conv => whnf)
              | (refine And.intro (fun i hi => ⟨_, rfl⟩) ?_; conv => whnf)
              | (refine ⟨_, _, _, .flat _ _ rfl (exact congrArg (Value.int .i64) (by (try dsimp only); omega)) rfl, ?_⟩; conv => whnf)
              | (refine ⟨_, _, _, .flat _ _ rfl (ACall.arg ?harg (exact congrArg (Value.int .i64) (by (try dsimp only); omega))) rfl, ?_⟩; (case harg => (repeat' (first | exact trivial | exact rfl | exact fun _ _ => rfl | apply And.intro | (intro i hi; rcases i with _ | _ | i <;> first | rfl | (exfalso; omega) | (simp at hi; done) | (simp at hi; omega)) | exact fun _ _ => by simp))); (conv => whnf))
              | (refine And.intro (fun hq => ?_) (fun hq => ?_) <;> (first | (exfalso; simp at hq; done) | (exfalso; simp only [cond_true, cond_false, Bool.not_eq_true', Bool.not_eq_false', decide_eq_true_eq, decide_eq_false_iff_not] at hq; (try dsimp only at hq); omega) | (exfalso; simp at hq; omega) | (conv => whnf)))
              | (refine fun hq => ?_; conv => whnf)
              | (refine And.intro (by first | (show _ * 1 ≤ 140737488355328; omega) | (show _ * 8 ≤ 140737488355328; omega) | (show _ * 24 ≤ 140737488355328; omega) | (show _ * 16 ≤ 140737488355328; omega) | (show _ * 32 ≤ 140737488355328; omega) | (show _ * 120 ≤ 140737488355328; omega) | (show _ * 280 ≤ 140737488355328; omega) | (show _ * 72 ≤ 140737488355328; omega) | (show _ * 48 ≤ 140737488355328; omega)) ?_; conv => whnf)
              | (refine And.intro (by dsimp only; omega) ?_; conv => whnf)
              | fail)
            all_goals first | exact trivial | exact ⟨rfl, by (repeat' (first | exact trivial | ((rw [z3]; done)) | ((intro i hi; rw [z3])) | exact rfl | exact fun _ _ => rfl | apply And.intro | (intro i hi; rcases i with _ | _ | i <;> first | rfl | (exfalso; omega) | (simp at hi; done) | (simp at hi; omega)) | exact fun _ _ => by simp)), trivial⟩ | exact ⟨by (repeat' (first | exact trivial | ((rw [z3]; done)) | ((intro i hi; rw [z3])) | exact rfl | exact fun _ _ => rfl | apply And.intro | (intro i hi; rcases i with _ | _ | i <;> first | rfl | (exfalso; omega) | (simp at hi; done) | (simp at hi; omega)) | exact fun _ _ => by simp)), trivial⟩ | exact ⟨by (repeat' (first | exact trivial | ((rw [z3]; done)) | ((intro i hi; rw [z3])) | exact rfl | exact fun _ _ => rfl | apply And.intro | (intro i hi; rcases i with _ | _ | i <;> first | rfl | (exfalso; omega) | (simp at hi; done) | (simp at hi; omega)) | exact fun _ _ => by simp)), by (repeat' (first | exact trivial | ((rw [z3]; done)) | ((intro i hi; rw [z3])) | exact rfl | exact fun _ _ => rfl | apply And.intro | (intro i hi; rcases i with _ | _ | i <;> first | rfl | (exfalso; omega) | (simp at hi; done) | (simp at hi; omega)) | exact fun _ _ => by simp))⟩ | exact ⟨rfl, by (repeat' (first | exact trivial | ((rw [z3]; done)) | ((intro i hi; rw [z3])) | exact rfl | exact fun _ _ => rfl | apply And.intro | (intro i hi; rcases i with _ | _ | i <;> first | rfl | (exfalso; omega) | (simp at hi; done) | (simp at hi; omega)) | exact fun _ _ => by simp)), by (repeat' (first | exact trivial | ((rw [z3]; done)) | ((intro i hi; rw [z3])) | exact rfl | exact fun _ _ => rfl | apply And.intro | (intro i hi; rcases i with _ | _ | i <;> first | rfl | (exfalso; omega) | (simp at hi; done) | (simp at hi; omega)) | exact fun _ _ => by simp))⟩
  · skip
    skip
    conv => whnf
    repeat' (first
      | (refine And.intro (by omega) ?_; conv => whnf)
      | (refine And.intro rfl ?_; conv => whnf)
      | (refine And.intro (Nat.le_of_ble_eq_true rfl) ?_; conv => whnf)
      | (refine And.intro (fun i hi => ⟨_, rfl⟩) ?_; conv => whnf)
      | (refine And.intro (fun hq => ?_) (fun hq => ?_) <;> (first | (exfalso; simp at hq; done) | (exfalso; simp only [cond_true, cond_false, Bool.not_eq_true', Bool.not_eq_false', decide_eq_true_eq, decide_eq_false_iff_not] at hq; (try dsimp only at hq); omega) | (exfalso; simp at hq; omega) | (conv => whnf)))
      | (refine fun hq => ?_; conv => whnf)
      | (refine And.intro (by first | (show _ * 1 ≤ 140737488355328; omega) | (show _ * 8 ≤ 140737488355328; omega) | (show _ * 24 ≤ 140737488355328; omega) | (show _ * 16 ≤ 140737488355328; omega) | (show _ * 32 ≤ 140737488355328; omega) | (show _ * 120 ≤ 140737488355328; omega) | (show _ * 280 ≤ 140737488355328; omega) | (show _ * 72 ≤ 140737488355328; omega) | (show _ * 48 ≤ 140737488355328; omega)) ?_; conv => whnf)
      | (refine And.intro (by dsimp only; omega) ?_; conv => whnf)
      | fail)
    rw [hMd]
    conv => whnf
    repeat' (first
      | (refine And.intro (by omega) ?_; conv => whnf)
      | (refine And.intro rfl ?_; conv => whnf)
      | (refine And.intro (Nat.le_of_ble_eq_true rfl) ?_; conv => whnf)
      | (refine And.intro (fun i hi => ⟨_, rfl⟩) ?_; conv => whnf)
      | (refine And.intro (fun hq => ?_) (fun hq => ?_) <;> (first | (exfalso; simp at hq; done) | (exfalso; simp only [cond_true, cond_false, Bool.not_eq_true', Bool.not_eq_false', decide_eq_true_eq, decide_eq_false_iff_not] at hq; (try dsimp only at hq); omega) | (exfalso; simp at hq; omega) | (conv => whnf)))
      | (refine fun hq => ?_; conv => whnf)
      | (refine And.intro (by first | (show _ * 1 ≤ 140737488355328; omega) | (show _ * 8 ≤ 140737488355328; omega) | (show _ * 24 ≤ 140737488355328; omega) | (show _ * 16 ≤ 140737488355328; omega) | (show _ * 32 ≤ 140737488355328; omega) | (show _ * 120 ≤ 140737488355328; omega) | (show _ * 280 ≤ 140737488355328; omega) | (show _ * 72 ≤ 140737488355328; omega) | (show _ * 48 ≤ 140737488355328; omega)) ?_; conv => whnf)
      | (refine And.intro (by dsimp only; omega) ?_; conv => whnf)
      | fail)
    refine ⟨[], ?_⟩
    conv => whnf
    refine ⟨Nat × Nat, fun q => a ≤ q.1 ∧ q.1 ≤ q.2 ∧ q.2 ≤ m ∧ (a < q.1 → ltC cmp (Y.getD (mid - q.1) []) (X.getD (q.1 - 1 - a) []) = false) ∧ (q.2 < m → ltC cmp (Y.getD (mid - q.2 - 1) []) (X.getD (q.2 - a) []) = true), fun q => q.2 - q.1, fun q => [(20, exI .i64 q.1), (21, exI .i64 q.2)], fun _ => rowsH L, ⟨(a, m), ⟨by dsimp only; omega, by dsimp only; omega, by dsimp only; omega, fun k => by dsimp only at k; omega, fun k => by dsimp only at k; omega⟩, ?_⟩, ?_⟩
    · skip
      refine ⟨[], ?_⟩
      conv => whnf
      refine ⟨rfl, ?_, ?_⟩ <;> (repeat' (first | exact trivial | (exact congrArg (Value.int .i64) (by (try dsimp only); omega)) | exact rfl | exact fun _ _ => rfl | apply And.intro | (intro i hi; rcases i with _ | _ | i <;> first | rfl | (exfalso; omega) | (simp at hi; done) | (simp at hi; omega)) | exact fun _ _ => by simp))
    rintro ⟨s, r⟩ ⟨h1, h2, h3, h4, h5⟩
    dsimp only at h1 h2 h3 h4 h5
    conv => whnf
    rcases Nat.lt_or_ge s r with hlt | hge
    · have hM := half_ok s r (by omega)
      obtain ⟨c, hcc⟩ : ∃ c, c = (s + r) / 2 := ⟨_, rfl⟩
      rw [← hcc] at hM
      have q := hc (L.getD ((mid : Int) + m - 1 - c).toNat []) (L.getD ((c : Nat) : Int).toNat []) (hP' _ (by omega)) (hP' _ (by omega))
      have hq2 := loopq c s (by omega) (by omega) (by omega) (by omega)
      by_cases hx : cmp (L.getD ((mid : Int) + m - 1 - c).toNat []) (L.getD ((c : Nat) : Int).toNat []) < 0
      · rw [show ltC cmp (L.getD ((mid : Int) + m - 1 - c).toNat []) (L.getD ((c : Nat) : Int).toNat []) = true from decide_eq_true hx] at hq2
        conv => whnf
        repeat' (first
          | (refine And.intro (by omega) ?_; conv => whnf)
          | (refine And.intro rfl ?_; conv => whnf)
          | (refine And.intro (Nat.le_of_ble_eq_true rfl) ?_; conv => whnf)
          | (refine And.intro (fun i hi => ⟨_, rfl⟩) ?_; conv => whnf)
          | (refine And.intro (fun hq => ?_) (fun hq => ?_) <;> (first | (exfalso; simp at hq; done) | (exfalso; simp only [cond_true, cond_false, Bool.not_eq_true', Bool.not_eq_false', decide_eq_true_eq, decide_eq_false_iff_not] at hq; (try dsimp only at hq); omega) | (exfalso; simp at hq; omega) | (conv => whnf)))
          | (refine fun hq => ?_; conv => whnf)
          | (refine And.intro (by first | (show _ * 1 ≤ 140737488355328; omega) | (show _ * 8 ≤ 140737488355328; omega) | (show _ * 24 ≤ 140737488355328; omega) | (show _ * 16 ≤ 140737488355328; omega) | (show _ * 32 ≤ 140737488355328; omega) | (show _ * 120 ≤ 140737488355328; omega) | (show _ * 280 ≤ 140737488355328; omega) | (show _ * 72 ≤ 140737488355328; omega) | (show _ * 48 ≤ 140737488355328; omega)) ?_; conv => whnf)
          | (refine And.intro (by dsimp only; omega) ?_; conv => whnf)
          | fail)
        rw [hM]
        conv => whnf
        repeat' (first
          | (refine And.intro (by omega) ?_; conv => whnf)
          | (refine And.intro rfl ?_; conv => whnf)
          | (refine And.intro (Nat.le_of_ble_eq_true rfl) ?_; conv => whnf)
          | (refine And.intro (fun i hi => ⟨_, rfl⟩) ?_; conv => whnf)
          | (refine ⟨_, _, _, .flat _ _ rfl (q) rfl, ?_⟩; conv => whnf)
          | (refine ⟨_, _, _, .flat _ _ rfl (ACall.arg ?harg (q)) rfl, ?_⟩; (case harg => (repeat' (first | exact trivial | exact rfl | exact fun _ _ => rfl | apply And.intro | (intro i hi; rcases i with _ | _ | i <;> first | rfl | (exfalso; omega) | (simp at hi; done) | (simp at hi; omega)) | exact fun _ _ => by simp))); (conv => whnf))
          | (refine And.intro (fun hq => ?_) (fun hq => ?_) <;> (first | (exfalso; simp at hq; done) | (exfalso; simp only [cond_true, cond_false, Bool.not_eq_true', Bool.not_eq_false', decide_eq_true_eq, decide_eq_false_iff_not] at hq; (try dsimp only at hq); omega) | (exfalso; simp at hq; omega) | (conv => whnf)))
          | (refine fun hq => ?_; conv => whnf)
          | (refine And.intro (by first | (show _ * 1 ≤ 140737488355328; omega) | (show _ * 8 ≤ 140737488355328; omega) | (show _ * 24 ≤ 140737488355328; omega) | (show _ * 16 ≤ 140737488355328; omega) | (show _ * 32 ≤ 140737488355328; omega) | (show _ * 120 ≤ 140737488355328; omega) | (show _ * 280 ≤ 140737488355328; omega) | (show _ * 72 ≤ 140737488355328; omega) | (show _ * 48 ≤ 140737488355328; omega)) ?_; conv => whnf)
          | (refine And.intro (by dsimp only; omega) ?_; conv => whnf)
          | fail)
        refine ⟨(s, c), ⟨by dsimp only; omega, by dsimp only; omega, by dsimp only; omega, h4, fun k => by rw [hq2]; congr 2; dsimp only; omega⟩, by dsimp only; omega, ?_⟩
        refine ⟨[], ?_⟩
        conv => whnf
        refine ⟨rfl, ?_, ?_⟩ <;> (repeat' (first | exact trivial | exact rfl | exact fun _ _ => rfl | apply And.intro | (intro i hi; rcases i with _ | _ | i <;> first | rfl | (exfalso; omega) | (simp at hi; done) | (simp at hi; omega)) | exact fun _ _ => by simp))
      · rw [show ltC cmp (L.getD ((mid : Int) + m - 1 - c).toNat []) (L.getD ((c : Nat) : Int).toNat []) = false from decide_eq_false hx] at hq2
        conv => whnf
        repeat' (first
          | (refine And.intro (by omega) ?_; conv => whnf)
          | (refine And.intro rfl ?_; conv => whnf)
          | (refine And.intro (Nat.le_of_ble_eq_true rfl) ?_; conv => whnf)
          | (refine And.intro (fun i hi => ⟨_, rfl⟩) ?_; conv => whnf)
          | (refine And.intro (fun hq => ?_) (fun hq => ?_) <;> (first | (exfalso; simp at hq; done) | (exfalso; simp only [cond_true, cond_false, Bool.not_eq_true', Bool.not_eq_false', decide_eq_true_eq, decide_eq_false_iff_not] at hq; (try dsimp only at hq); omega) | (exfalso; simp at hq; omega) | (conv => whnf)))
          | (refine fun hq => ?_; conv => whnf)
          | (refine And.intro (by first | (show _ * 1 ≤ 140737488355328; omega) | (show _ * 8 ≤ 140737488355328; omega) | (show _ * 24 ≤ 140737488355328; omega) | (show _ * 16 ≤ 140737488355328; omega) | (show _ * 32 ≤ 140737488355328; omega) | (show _ * 120 ≤ 140737488355328; omega) | (show _ * 280 ≤ 140737488355328; omega) | (show _ * 72 ≤ 140737488355328; omega) | (show _ * 48 ≤ 140737488355328; omega)) ?_; conv => whnf)
          | (refine And.intro (by dsimp only; omega) ?_; conv => whnf)
          | fail)
        rw [hM]
        conv => whnf
        repeat' (first
          | (refine And.intro (by omega) ?_; conv => whnf)
          | (refine And.intro rfl ?_; conv => whnf)
          | (refine And.intro (Nat.le_of_ble_eq_true rfl) ?_; conv => whnf)
          | (refine And.intro (fun i hi => ⟨_, rfl⟩) ?_; conv => whnf)
          | (refine ⟨_, _, _, .flat _ _ rfl (q) rfl, ?_⟩; conv => whnf)
          | (refine ⟨_, _, _, .flat _ _ rfl (ACall.arg ?harg (q)) rfl, ?_⟩; (case harg => (repeat' (first | exact trivial | exact rfl | exact fun _ _ => rfl | apply And.intro | (intro i hi; rcases i with _ | _ | i <;> first | rfl | (exfalso; omega) | (simp at hi; done) | (simp at hi; omega)) | exact fun _ _ => by simp))); (conv => whnf))
          | (refine And.intro (fun hq => ?_) (fun hq => ?_) <;> (first | (exfalso; simp at hq; done) | (exfalso; simp only [cond_true, cond_false, Bool.not_eq_true', Bool.not_eq_false', decide_eq_true_eq, decide_eq_false_iff_not] at hq; (try dsimp only at hq); omega) | (exfalso; simp at hq; omega) | (conv => whnf)))
          | (refine fun hq => ?_; conv => whnf)
          | (refine And.intro (by first | (show _ * 1 ≤ 140737488355328; omega) | (show _ * 8 ≤ 140737488355328; omega) | (show _ * 24 ≤ 140737488355328; omega) | (show _ * 16 ≤ 140737488355328; omega) | (show _ * 32 ≤ 140737488355328; omega) | (show _ * 120 ≤ 140737488355328; omega) | (show _ * 280 ≤ 140737488355328; omega) | (show _ * 72 ≤ 140737488355328; omega) | (show _ * 48 ≤ 140737488355328; omega)) ?_; conv => whnf)
          | (refine And.intro (by dsimp only; omega) ?_; conv => whnf)
          | fail)
        refine ⟨(c + 1, r), ⟨by dsimp only; omega, by dsimp only; omega, h3, fun k => by rw [hq2]; congr 2 <;> (dsimp only; omega), h5⟩, by dsimp only; omega, ?_⟩
        refine ⟨[], ?_⟩
        conv => whnf
        refine ⟨rfl, ?_, ?_⟩ <;> (repeat' (first | exact trivial | exact rfl | exact fun _ _ => rfl | apply And.intro | (intro i hi; rcases i with _ | _ | i <;> first | rfl | (exfalso; omega) | (simp at hi; done) | (simp at hi; omega)) | exact fun _ _ => by simp))
    · obtain rfl : s = r := by omega
      obtain ⟨M1, M2, l1, l2, k1, n1, k2, n2, k3, n3⟩ := tail s (by omega) (by omega) (by omega) (by omega) (fun w1 w2 => h5 (by omega)) (fun w1 w2 => h4 (by omega))
      clear tail loopq hXs hYs gX gY hP' h4 h5
      by_cases e1 : s < m ∧ s < mid
      · have q1 := k1 e1
        clear k1 n1
        by_cases e2 : a < s ∧ s < mid
        · have q2 := k2 e2
          clear k2 n2
          by_cases e3 : s < m ∧ mid + m < s + b
          · have q3 := k3 e3
            clear k3 n3
            conv => whnf
            repeat' (first
              | (refine And.intro (by omega) ?_; conv => whnf)
              | (refine And.intro rfl ?_; conv => whnf)
              | (refine And.intro (Nat.le_of_ble_eq_true rfl) ?_; conv => whnf)
              | (refine And.intro (fun i hi => ⟨_, rfl⟩) ?_; conv => whnf)
              | (refine ⟨_, _, _, .gen [901] _ _ _ rfl (q1) rfl rfl rfl rfl rfl, ?_⟩; conv => whnf)
              | (refine ⟨_, _, _, .gen [901] _ _ _ rfl (q2) rfl rfl rfl rfl rfl, ?_⟩; conv => whnf)
              | (refine ⟨_, _, _, .gen [901] _ _ _ rfl (q3) rfl rfl rfl rfl rfl, ?_⟩; conv => whnf)
              | (refine ⟨_, _, _, .gen [901] _ _ _ rfl (ACall.arg ?harg (q1)) rfl rfl rfl rfl rfl, ?_⟩; (case harg => (repeat' (first | exact trivial | (exact congrArg (Value.int .i64) (by (try dsimp only); omega)) | exact rfl | exact fun _ _ => rfl | apply And.intro | (intro i hi; rcases i with _ | _ | i <;> first | rfl | (exfalso; omega) | (simp at hi; done) | (simp at hi; omega)) | exact fun _ _ => by simp))); (conv => whnf))
              | (refine ⟨_, _, _, .gen [901] _ _ _ rfl (ACall.arg ?harg (q2)) rfl rfl rfl rfl rfl, ?_⟩; (case harg => (repeat' (first | exact trivial | (exact congrArg (Value.int .i64) (by (try dsimp only); omega)) | exact rfl | exact fun _ _ => rfl | apply And.intro | (intro i hi; rcases i with _ | _ | i <;> first | rfl | (exfalso; omega) | (simp at hi; done) | (simp at hi; omega)) | exact fun _ _ => by simp))); (conv => whnf))
              | (refine ⟨_, _, _, .gen [901] _ _ _ rfl (ACall.arg ?harg (q3)) rfl rfl rfl rfl rfl, ?_⟩; (case harg => (repeat' (first | exact trivial | (exact congrArg (Value.int .i64) (by (try dsimp only); omega)) | exact rfl | exact fun _ _ => rfl | apply And.intro | (intro i hi; rcases i with _ | _ | i <;> first | rfl | (exfalso; omega) | (simp at hi; done) | (simp at hi; omega)) | exact fun _ _ => by simp))); (conv => whnf))
              | (refine And.intro (fun hq => ?_) (fun hq => ?_) <;> (first | (exfalso; simp at hq; done) | (exfalso; simp only [cond_true, cond_false, Bool.not_eq_true', Bool.not_eq_false', decide_eq_true_eq, decide_eq_false_iff_not] at hq; (try dsimp only at hq); omega) | (exfalso; simp at hq; omega) | (conv => whnf)))
              | (refine fun hq => ?_; conv => whnf)
              | (refine And.intro (by first | (show _ * 1 ≤ 140737488355328; omega) | (show _ * 8 ≤ 140737488355328; omega) | (show _ * 24 ≤ 140737488355328; omega) | (show _ * 16 ≤ 140737488355328; omega) | (show _ * 32 ≤ 140737488355328; omega) | (show _ * 120 ≤ 140737488355328; omega) | (show _ * 280 ≤ 140737488355328; omega) | (show _ * 72 ≤ 140737488355328; omega) | (show _ * 48 ≤ 140737488355328; omega)) ?_; conv => whnf)
              | (refine And.intro (by dsimp only; omega) ?_; conv => whnf)
              | fail)
            all_goals first | exact trivial | exact ⟨rfl, by (repeat' (first | exact trivial | exact rfl | exact fun _ _ => rfl | apply And.intro | (intro i hi; rcases i with _ | _ | i <;> first | rfl | (exfalso; omega) | (simp at hi; done) | (simp at hi; omega)) | exact fun _ _ => by simp)), trivial⟩ | exact ⟨by (repeat' (first | exact trivial | exact rfl | exact fun _ _ => rfl | apply And.intro | (intro i hi; rcases i with _ | _ | i <;> first | rfl | (exfalso; omega) | (simp at hi; done) | (simp at hi; omega)) | exact fun _ _ => by simp)), trivial⟩ | exact ⟨by (repeat' (first | exact trivial | exact rfl | exact fun _ _ => rfl | apply And.intro | (intro i hi; rcases i with _ | _ | i <;> first | rfl | (exfalso; omega) | (simp at hi; done) | (simp at hi; omega)) | exact fun _ _ => by simp)), by (repeat' (first | exact trivial | exact rfl | exact fun _ _ => rfl | apply And.intro | (intro i hi; rcases i with _ | _ | i <;> first | rfl | (exfalso; omega) | (simp at hi; done) | (simp at hi; omega)) | exact fun _ _ => by simp))⟩ | exact ⟨rfl, by (repeat' (first | exact trivial | exact rfl | exact fun _ _ => rfl | apply And.intro | (intro i hi; rcases i with _ | _ | i <;> first | rfl | (exfalso; omega) | (simp at hi; done) | (simp at hi; omega)) | exact fun _ _ => by simp)), by (repeat' (first | exact trivial | exact rfl | exact fun _ _ => rfl | apply And.intro | (intro i hi; rcases i with _ | _ | i <;> first | rfl | (exfalso; omega) | (simp at hi; done) | (simp at hi; omega)) | exact fun _ _ => by simp))⟩
          · have z3 := n3 e3
            clear k3 n3
            conv => whnf
            repeat' (first
              | (refine And.intro (by omega) ?_; conv => whnf)
              | (refine And.intro rfl ?_; conv => whnf)
              | (refine And.intro (Nat.le_of_ble_eq_true rfl) ?_; conv => whnf)
              | (refine And.intro (fun i hi => ⟨_, rfl⟩) ?_; conv => whnf)
              | (refine ⟨_, _, _, .gen [901] _ _ _ rfl (q1) rfl rfl rfl rfl rfl, ?_⟩; conv => whnf)
              | (refine ⟨_, _, _, .gen [901] _ _ _ rfl (q2) rfl rfl rfl rfl rfl, ?_⟩; conv => whnf)
              | (refine ⟨_, _, _, .gen [901] _ _ _ rfl (ACall.arg ?harg (q1)) rfl rfl rfl rfl rfl, ?_⟩; (case harg => (repeat' (first | exact trivial | (exact congrArg (Value.int .i64) (by (try dsimp only); omega)) | exact rfl | exact fun _ _ => rfl | apply And.intro | (intro i hi; rcases i with _ | _ | i <;> first | rfl | (exfalso; omega) | (simp at hi; done) | (simp at hi; omega)) | exact fun _ _ => by simp))); (conv => whnf))
              | (refine ⟨_, _, _, .gen [901] _ _ _ rfl (ACall.arg ?harg (q2)) rfl rfl rfl rfl rfl, ?_⟩; (case harg => (repeat' (first | exact trivial | (exact congrArg (Value.int .i64) (by (try dsimp only); omega)) | exact rfl | exact fun _ _ => rfl | apply And.intro | (intro i hi; rcases i with _ | _ | i <;> first | rfl | (exfalso; omega) | (simp at hi; done) | (simp at hi; omega)) | exact fun _ _ => by simp))); (conv => whnf))
              | (refine And.intro (fun hq => ?_) (fun hq => ?_) <;> (first | (exfalso; simp at hq; done) | (exfalso; simp only [cond_true, cond_false, Bool.not_eq_true', Bool.not_eq_false', decide_eq_true_eq, decide_eq_false_iff_not] at hq; (try dsimp only at hq); omega) | (exfalso; simp at hq; omega) | (conv => whnf)))
              | (refine fun hq => ?_; conv => whnf)
              | (refine And.intro (by first | (show _ * 1 ≤ 140737488355328; omega) | (show _ * 8 ≤ 140737488355328; omega) | (show _ * 24 ≤ 140737488355328; omega) | (show _ * 16 ≤ 140737488355328; omega) | (show _ * 32 ≤ 140737488355328; omega) | (show _ * 120 ≤ 140737488355328; omega) | (show _ * 280 ≤ 140737488355328; omega) | (show _ * 72 ≤ 140737488355328; omega) | (show _ * 48 ≤ 140737488355328; omega)) ?_; conv => whnf)
              | (refine And.intro (by dsimp only; omega) ?_; conv => whnf)
              | fail)
            all_goals first | exact trivial | exact ⟨rfl, by (repeat' (first | exact trivial | ((rw [z3]; done)) | ((intro i hi; rw [z3])) | exact rfl | exact fun _ _ => rfl | apply And.intro | (intro i hi; rcases i with _ | _ | i <;> first | rfl | (exfalso; omega) | (simp at hi; done) | (simp at hi; omega)) | exact fun _ _ => by simp)), trivial⟩ | exact ⟨by (repeat' (first | exact trivial | ((rw [z3]; done)) | ((intro i hi; rw [z3])) | exact rfl | exact fun _ _ => rfl | apply And.intro | (intro i hi; rcases i with _ | _ | i <;> first | rfl | (exfalso; omega) | (simp at hi; done) | (simp at hi; omega)) | exact fun _ _ => by simp)), trivial⟩ | exact ⟨by (repeat' (first | exact trivial | ((rw [z3]; done)) | ((intro i hi; rw [z3])) | exact rfl | exact fun _ _ => rfl | apply And.intro | (intro i hi; rcases i with _ | _ | i <;> first | rfl | (exfalso; omega) | (simp at hi; done) | (simp at hi; omega)) | exact fun _ _ => by simp)), by (repeat' (first | exact trivial | ((rw [z3]; done)) | ((intro i hi; rw [z3])) | exact rfl | exact fun _ _ => rfl | apply And.intro | (intro i hi; rcases i with _ | _ | i <;> first | rfl | (exfalso; omega) | (simp at hi; done) | (simp at hi; omega)) | exact fun _ _ => by simp))⟩ | exact ⟨rfl, by (repeat' (first | exact trivial | ((rw [z3]; done)) | ((intro i hi; rw [z3])) | exact rfl | exact fun _ _ => rfl | apply And.intro | (intro i hi; rcases i with _ | _ | i <;> first | rfl | (exfalso; omega) | (simp at hi; done) | (simp at hi; omega)) | exact fun _ _ => by simp)), by (repeat' (first | exact trivial | ((rw [z3]; done)) | ((intro i hi; rw [z3])) | exact rfl | exact fun _ _ => rfl | apply And.intro | (intro i hi; rcases i with _ | _ | i <;> first | rfl | (exfalso; omega) | (simp at hi; done) | (simp at hi; omega)) | exact fun _ _ => by simp))⟩
        · have z2 := n2 e2
          rw [z2] at k3 n3
          clear k2 n2
          by_cases e3 : s < m ∧ mid + m < s + b
          · have q3 := k3 e3
            clear k3 n3
            conv => whnf
            repeat' (first
              | (refine And.intro (by omega) ?_; conv => whnf)
              | (refine And.intro rfl ?_; conv => whnf)
              | (refine And.intro (Nat.le_of_ble_eq_true rfl) ?_; conv => whnf)
              | (refine And.intro (fun i hi => ⟨_, rfl⟩) ?_; conv => whnf)
              | (refine ⟨_, _, _, .gen [901] _ _ _ rfl (q1) rfl rfl rfl rfl rfl, ?_⟩; conv => whnf)
              | (refine ⟨_, _, _, .gen [901] _ _ _ rfl (q3) rfl rfl rfl rfl rfl, ?_⟩; conv => whnf)
              | (refine ⟨_, _, _, .gen [901] _ _ _ rfl (ACall.arg ?harg (q1)) rfl rfl rfl rfl rfl, ?_⟩; (case harg => (repeat' (first | exact trivial | (exact congrArg (Value.int .i64) (by (try dsimp only); omega)) | exact rfl | exact fun _ _ => rfl | apply And.intro | (intro i hi; rcases i with _ | _ | i <;> first | rfl | (exfalso; omega) | (simp at hi; done) | (simp at hi; omega)) | exact fun _ _ => by simp))); (conv => whnf))
              | (refine ⟨_, _, _, .gen [901] _ _ _ rfl (ACall.arg ?harg (q3)) rfl rfl rfl rfl rfl, ?_⟩; (case harg => (repeat' (first | exact trivial | (exact congrArg (Value.int .i64) (by (try dsimp only); omega)) | exact rfl | exact fun _ _ => rfl | apply And.intro | (intro i hi; rcases i with _ | _ | i <;> first | rfl | (exfalso; omega) | (simp at hi; done) | (simp at hi; omega)) | exact fun _ _ => by simp))); (conv => whnf))
              | (refine And.intro (fun hq => ?_) (fun hq => ?_) <;> (first | (exfalso; simp at hq; done) | (exfalso; simp only [cond_true, cond_false, Bool.not_eq_true', Bool.not_eq_false', decide_eq_true_eq, decide_eq_false_iff_not] at hq; (try dsimp only at hq); omega) | (exfalso; simp at hq; omega) | (conv => whnf)))
              | (refine fun hq => ?_; conv => whnf)
              | (refine And.intro (by first | (show _ * 1 ≤ 140737488355328; omega) | (show _ * 8 ≤ 140737488355328; omega) | (show _ * 24 ≤ 140737488355328; omega) | (show _ * 16 ≤ 140737488355328; omega) | (show _ * 32 ≤ 140737488355328; omega) | (show _ * 120 ≤ 140737488355328; omega) | (show _ * 280 ≤ 140737488355328; omega) | (show _ * 72 ≤ 140737488355328; omega) | (show _ * 48 ≤ 140737488355328; omega)) ?_; conv => whnf)
              | (refine And.intro (by dsimp only; omega) ?_; conv => whnf)
              | fail)
            all_goals first | exact trivial | exact ⟨rfl, by (repeat' (first | exact trivial | exact rfl | exact fun _ _ => rfl | apply And.intro | (intro i hi; rcases i with _ | _ | i <;> first | rfl | (exfalso; omega) | (simp at hi; done) | (simp at hi; omega)) | exact fun _ _ => by simp)), trivial⟩ | exact ⟨by (repeat' (first | exact trivial | exact rfl | exact fun _ _ => rfl | apply And.intro | (intro i hi; rcases i with _ | _ | i <;> first | rfl | (exfalso; omega) | (simp at hi; done) | (simp at hi; omega)) | exact fun _ _ => by simp)), trivial⟩ | exact ⟨by (repeat' (first | exact trivial | exact rfl | exact fun _ _ => rfl | apply And.intro | (intro i hi; rcases i with _ | _ | i <;> first | rfl | (exfalso; omega) | (simp at hi; done) | (simp at hi; omega)) | exact fun _ _ => by simp)), by (repeat' (first | exact trivial | exact rfl | exact fun _ _ => rfl | apply And.intro | (intro i hi; rcases i with _ | _ | i <;> first | rfl | (exfalso; omega) | (simp at hi; done) | (simp at hi; omega)) | exact fun _ _ => by simp))⟩ | exact ⟨rfl, by (repeat' (first | exact trivial | exact rfl | exact fun _ _ => rfl | apply And.intro | (intro i hi; rcases i with _ | _ | i <;> first | rfl | (exfalso; omega) | (simp at hi; done) | (simp at hi; omega)) | exact fun _ _ => by simp)), by (repeat' (first | exact trivial | exact rfl | exact fun _ _ => rfl | apply And.intro | (intro i hi; rcases i with _ | _ | i <;> first | rfl | (exfalso; omega) | (simp at hi; done) | (simp at hi; omega)) | exact fun _ _ => by simp))⟩
          · have z3 := n3 e3
            clear k3 n3
            conv => whnf
            repeat' (first
              | (refine And.intro (by omega) ?_; conv => whnf)
              | (refine And.intro rfl ?_; conv => whnf)
              | (refine And.intro (Nat.le_of_ble_eq_true rfl) ?_; conv => whnf)
              | (refine And.intro (fun i hi => ⟨_, rfl⟩) ?_; conv => whnf)
              | (refine ⟨_, _, _, .gen [901] _ _ _ rfl (q1) rfl rfl rfl rfl rfl, ?_⟩; conv => whnf)
              | (refine ⟨_, _, _, .gen [901] _ _ _ rfl (ACall.arg ?harg (q1)) rfl rfl rfl rfl rfl, ?_⟩; (case harg => (repeat' (first | exact trivial | (exact congrArg (Value.int .i64) (by (try dsimp only); omega)) | exact rfl | exact fun _ _ => rfl | apply And.intro | (intro i hi; rcases i with _ | _ | i <;> first | rfl | (exfalso; omega) | (simp at hi; done) | (simp at hi; omega)) | exact fun _ _ => by simp))); (conv => whnf))
              | (refine And.intro (fun hq => ?_) (fun hq => ?_) <;> (first | (exfalso; simp at hq; done) | (exfalso; simp only [cond_true, cond_false, Bool.not_eq_true', Bool.not_eq_false', decide_eq_true_eq, decide_eq_false_iff_not] at hq; (try dsimp only at hq); omega) | (exfalso; simp at hq; omega) | (conv => whnf)))
              | (refine fun hq => ?_; conv => whnf)
              | (refine And.intro (by first | (show _ * 1 ≤ 140737488355328; omega) | (show _ * 8 ≤ 140737488355328; omega) | (show _ * 24 ≤ 140737488355328; omega) | (show _ * 16 ≤ 140737488355328; omega) | (show _ * 32 ≤ 140737488355328; omega) | (show _ * 120 ≤ 140737488355328; omega) | (show _ * 280 ≤ 140737488355328; omega) | (show _ * 72 ≤ 140737488355328; omega) | (show _ * 48 ≤ 140737488355328; omega)) ?_; conv => whnf)
              | (refine And.intro (by dsimp only; omega) ?_; conv => whnf)
              | fail)
            all_goals first | exact trivial | exact ⟨rfl, by (repeat' (first | exact trivial | ((rw [z3]; done)) | ((intro i hi; rw [z3])) | exact rfl | exact fun _ _ => rfl | apply And.intro | (intro i hi; rcases i with _ | _ | i <;> first | rfl | (exfalso; omega) | (simp at hi; done) | (simp at hi; omega)) | exact fun _ _ => by simp)), trivial⟩ | exact ⟨by (repeat' (first | exact trivial | ((rw [z3]; done)) | ((intro i hi; rw [z3])) | exact rfl | exact fun _ _ => rfl | apply And.intro | (intro i hi; rcases i with _ | _ | i <;> first | rfl | (exfalso; omega) | (simp at hi; done) | (simp at hi; omega)) | exact fun _ _ => by simp)), trivial⟩ | exact ⟨by (repeat' (first | exact trivial | ((rw [z3]; done)) | ((intro i hi; rw [z3])) | exact rfl | exact fun _ _ => rfl | apply And.intro | (intro i hi; rcases i with _ | _ | i <;> first | rfl | (exfalso; omega) | (simp at hi; done) | (simp at hi; omega)) | exact fun _ _ => by simp)), by (repeat' (first | exact trivial | ((rw [z3]; done)) | ((intro i hi; rw [z3])) | exact rfl | exact fun _ _ => rfl | apply And.intro | (intro i hi; rcases i with _ | _ | i <;> first | rfl | (exfalso; omega) | (simp at hi; done) | (simp at hi; omega)) | exact fun _ _ => by simp))⟩ | exact ⟨rfl, by (repeat' (first | exact trivial | ((rw [z3]; done)) | ((intro i hi; rw [z3])) | exact rfl | exact fun _ _ => rfl | apply And.intro | (intro i hi; rcases i with _ | _ | i <;> first | rfl | (exfalso; omega) | (simp at hi; done) | (simp at hi; omega)) | exact fun _ _ => by simp)), by (repeat' (first | exact trivial | ((rw [z3]; done)) | ((intro i hi; rw [z3])) | exact rfl | exact fun _ _ => rfl | apply And.intro | (intro i hi; rcases i with _ | _ | i <;> first | rfl | (exfalso; omega) | (simp at hi; done) | (simp at hi; omega)) | exact fun _ _ => by simp))⟩
      · rw [n1 e1] at k2 n2
        clear k1 n1
        by_cases e2 : a < s ∧ s < mid
        · have q2 := k2 e2
          clear k2 n2
          by_cases e3 : s < m ∧ mid + m < s + b
          · have q3 := k3 e3
            clear k3 n3
            conv => whnf
            repeat' (first
              | (refine And.intro (by omega) ?_; conv => whnf)
              | (refine And.intro rfl ?_; conv => whnf)
              | (refine And.intro (Nat.le_of_ble_eq_true rfl) ?_; conv => whnf)
              | (refine And.intro (fun i hi => ⟨_, rfl⟩) ?_; conv => whnf)
              | (refine ⟨_, _, _, .gen [901] _ _ _ rfl (q2) rfl rfl rfl rfl rfl, ?_⟩; conv => whnf)
              | (refine ⟨_, _, _, .gen [901] _ _ _ rfl (q3) rfl rfl rfl rfl rfl, ?_⟩; conv => whnf)
              | (refine ⟨_, _, _, .gen [901] _ _ _ rfl (ACall.arg ?harg (q2)) rfl rfl rfl rfl rfl, ?_⟩; (case harg => (repeat' (first | exact trivial | (exact congrArg (Value.int .i64) (by (try dsimp only); omega)) | exact rfl | exact fun _ _ => rfl | apply And.intro | (intro i hi; rcases i with _ | _ | i <;> first | rfl | (exfalso; omega) | (simp at hi; done) | (simp at hi; omega)) | exact fun _ _ => by simp))); (conv => whnf))
              | (refine ⟨_, _, _, .gen [901] _ _ _ rfl (ACall.arg ?harg (q3)) rfl rfl rfl rfl rfl, ?_⟩; (case harg => (repeat' (first | exact trivial | (exact congrArg (Value.int .i64) (by (try dsimp only); omega)) | exact rfl | exact fun _ _ => rfl | apply And.intro | (intro i hi; rcases i with _ | _ | i <;> first | rfl | (exfalso; omega) | (simp at hi; done) | (simp at hi; omega)) | exact fun _ _ => by simp))); (conv => whnf))
              | (refine And.intro (fun hq => ?_) (fun hq => ?_) <;> (first | (exfalso; simp at hq; done) | (exfalso; simp only [cond_true, cond_false, Bool.not_eq_true', Bool.not_eq_false', decide_eq_true_eq, decide_eq_false_iff_not] at hq; (try dsimp only at hq); omega) | (exfalso; simp at hq; omega) | (conv => whnf)))
              | (refine fun hq => ?_; conv => whnf)
              | (refine And.intro (by first | (show _ * 1 ≤ 140737488355328; omega) | (show _ * 8 ≤ 140737488355328; omega) | (show _ * 24 ≤ 140737488355328; omega) | (show _ * 16 ≤ 140737488355328; omega) | (show _ * 32 ≤ 140737488355328; omega) | (show _ * 120 ≤ 140737488355328; omega) | (show _ * 280 ≤ 140737488355328; omega) | (show _ * 72 ≤ 140737488355328; omega) | (show _ * 48 ≤ 140737488355328; omega)) ?_; conv => whnf)
              | (refine And.intro (by dsimp only; omega) ?_; conv => whnf)
              | fail)
            all_goals first | exact trivial | exact ⟨rfl, by (repeat' (first | exact trivial | exact rfl | exact fun _ _ => rfl | apply And.intro | (intro i hi; rcases i with _ | _ | i <;> first | rfl | (exfalso; omega) | (simp at hi; done) | (simp at hi; omega)) | exact fun _ _ => by simp)), trivial⟩ | exact ⟨by (repeat' (first | exact trivial | exact rfl | exact fun _ _ => rfl | apply And.intro | (intro i hi; rcases i with _ | _ | i <;> first | rfl | (exfalso; omega) | (simp at hi; done) | (simp at hi; omega)) | exact fun _ _ => by simp)), trivial⟩ | exact ⟨by (repeat' (first | exact trivial | exact rfl | exact fun _ _ => rfl | apply And.intro | (intro i hi; rcases i with _ | _ | i <;> first | rfl | (exfalso; omega) | (simp at hi; done) | (simp at hi; omega)) | exact fun _ _ => by simp)), by (repeat' (first | exact trivial | exact rfl | exact fun _ _ => rfl | apply And.intro | (intro i hi; rcases i with _ | _ | i <;> first | rfl | (exfalso; omega) | (simp at hi; done) | (simp at hi; omega)) | exact fun _ _ => by simp))⟩ | exact ⟨rfl, by (repeat' (first | exact trivial | exact rfl | exact fun _ _ => rfl | apply And.intro | (intro i hi; rcases i with _ | _ | i <;> first | rfl | (exfalso; omega) | (simp at hi; done) | (simp at hi; omega)) | exact fun _ _ => by simp)), by (repeat' (first | exact trivial | exact rfl | exact fun _ _ => rfl | apply And.intro | (intro i hi; rcases i with _ | _ | i <;> first | rfl | (exfalso; omega) | (simp at hi; done) | (simp at hi; omega)) | exact fun _ _ => by simp))⟩
          · have z3 := n3 e3
            clear k3 n3
            conv => whnf
            repeat' (first
              | (refine And.intro (by omega) ?_; conv => whnf)
              | (refine And.intro rfl ?_; conv => whnf)
              | (refine And.intro (Nat.le_of_ble_eq_true rfl) ?_; conv => whnf)
              | (refine And.intro (fun i hi => ⟨_, rfl⟩) ?_; conv => whnf)
              | (refine ⟨_, _, _, .gen [901] _ _ _ rfl (q2) rfl rfl rfl rfl rfl, ?_⟩; conv => whnf)
              | (refine ⟨_, _, _, .gen [901] _ _ _ rfl (ACall.arg ?harg (q2)) rfl rfl rfl rfl rfl, ?_⟩; (case harg => (repeat' (first | exact trivial | (exact congrArg (Value.int .i64) (by (try dsimp only); omega)) | exact rfl | exact fun _ _ => rfl | apply And.intro | (intro i hi; rcases i with _ | _ | i <;> first | rfl | (exfalso; omega) | (simp at hi; done) | (simp at hi; omega)) | exact fun _ _ => by simp))); (conv => whnf))
              | (refine And.intro (fun hq => ?_) (fun hq => ?_) <;> (first | (exfalso; simp at hq; done) | (exfalso; simp only [cond_true, cond_false, Bool.not_eq_true', Bool.not_eq_false', decide_eq_true_eq, decide_eq_false_iff_not] at hq; (try dsimp only at hq); omega) | (exfalso; simp at hq; omega) | (conv => whnf)))
              | (refine fun hq => ?_; conv => whnf)
              | (refine And.intro (by first | (show _ * 1 ≤ 140737488355328; omega) | (show _ * 8 ≤ 140737488355328; omega) | (show _ * 24 ≤ 140737488355328; omega) | (show _ * 16 ≤ 140737488355328; omega) | (show _ * 32 ≤ 140737488355328; omega) | (show _ * 120 ≤ 140737488355328; omega) | (show _ * 280 ≤ 140737488355328; omega) | (show _ * 72 ≤ 140737488355328; omega) | (show _ * 48 ≤ 140737488355328; omega)) ?_; conv => whnf)
              | (refine And.intro (by dsimp only; omega) ?_; conv => whnf)
              | fail)
            all_goals first | exact trivial | exact ⟨rfl, by (repeat' (first | exact trivial | ((rw [z3]; done)) | ((intro i hi; rw [z3])) | exact rfl | exact fun _ _ => rfl | apply And.intro | (intro i hi; rcases i with _ | _ | i <;> first | rfl | (exfalso; omega) | (simp at hi; done) | (simp at hi; omega)) | exact fun _ _ => by simp)), trivial⟩ | exact ⟨by (repeat' (first | exact trivial | ((rw [z3]; done)) | ((intro i hi; rw [z3])) | exact rfl | exact fun _ _ => rfl | apply And.intro | (intro i hi; rcases i with _ | _ | i <;> first | rfl | (exfalso; omega) | (simp at hi; done) | (simp at hi; omega)) | exact fun _ _ => by simp)), trivial⟩ | exact ⟨by (repeat' (first | exact trivial | ((rw [z3]; done)) | ((intro i hi; rw [z3])) | exact rfl | exact fun _ _ => rfl | apply And.intro | (intro i hi; rcases i with _ | _ | i <;> first | rfl | (exfalso; omega) | (simp at hi; done) | (simp at hi; omega)) | exact fun _ _ => by simp)), by (repeat' (first | exact trivial | ((rw [z3]; done)) | ((intro i hi; rw [z3])) | exact rfl | exact fun _ _ => rfl | apply And.intro | (intro i hi; rcases i with _ | _ | i <;> first | rfl | (exfalso; omega) | (simp at hi; done) | (simp at hi; omega)) | exact fun _ _ => by simp))⟩ | exact ⟨rfl, by (repeat' (first | exact trivial | ((rw [z3]; done)) | ((intro i hi; rw [z3])) | exact rfl | exact fun _ _ => rfl | apply And.intro | (intro i hi; rcases i with _ | _ | i <;> first | rfl | (exfalso; omega) | (simp at hi; done) | (simp at hi; omega)) | exact fun _ _ => by simp)), by (repeat' (first | exact trivial | ((rw [z3]; done)) | ((intro i hi; rw [z3])) | exact rfl | exact fun _ _ => rfl | apply And.intro | (intro i hi; rcases i with _ | _ | i <;> first | rfl | (exfalso; omega) | (simp at hi; done) | (simp at hi; omega)) | exact fun _ _ => by simp))⟩
        · have z2 := n2 e2
          rw [z2] at k3 n3
          clear k2 n2
          by_cases e3 : s < m ∧ mid + m < s + b
          · have q3 := k3 e3
            clear k3 n3
            conv => whnf
            repeat' (first
              | (refine And.intro (by omega) ?_; conv => whnf)
              | (refine And.intro rfl ?_; conv => whnf)
              | (refine And.intro (Nat.le_of_ble_eq_true rfl) ?_; conv => whnf)
              | (refine And.intro (fun i hi => ⟨_, rfl⟩) ?_; conv => whnf)
              | (refine ⟨_, _, _, .gen [901] _ _ _ rfl (q3) rfl rfl rfl rfl rfl, ?_⟩; conv => whnf)
              | (refine ⟨_, _, _, .gen [901] _ _ _ rfl (ACall.arg ?harg (q3)) rfl rfl rfl rfl rfl, ?_⟩; (case harg => (repeat' (first | exact trivial | (exact congrArg (Value.int .i64) (by (try dsimp only); omega)) | exact rfl | exact fun _ _ => rfl | apply And.intro | (intro i hi; rcases i with _ | _ | i <;> first | rfl | (exfalso; omega) | (simp at hi; done) | (simp at hi; omega)) | exact fun _ _ => by simp))); (conv => whnf))
              | (refine And.intro (fun hq => ?_) (fun hq => ?_) <;> (first | (exfalso; simp at hq; done) | (exfalso; simp only [cond_true, cond_false, Bool.not_eq_true', Bool.not_eq_false', decide_eq_true_eq, decide_eq_false_iff_not] at hq; (try dsimp only at hq); omega) | (exfalso; simp at hq; omega) | (conv => whnf)))
              | (refine fun hq => ?_; conv => whnf)
              | (refine And.intro (by first | (show _ * 1 ≤ 140737488355328; omega) | (show _ * 8 ≤ 140737488355328; omega) | (show _ * 24 ≤ 140737488355328; omega) | (show _ * 16 ≤ 140737488355328; omega) | (show _ * 32 ≤ 140737488355328; omega) | (show _ * 120 ≤ 140737488355328; omega) | (show _ * 280 ≤ 140737488355328; omega) | (show _ * 72 ≤ 140737488355328; omega) | (show _ * 48 ≤ 140737488355328; omega)) ?_; conv => whnf)
              | (refine And.intro (by dsimp only; omega) ?_; conv => whnf)
              | fail)
            all_goals first | exact trivial | exact ⟨rfl, by (repeat' (first | exact trivial | exact rfl | exact fun _ _ => rfl | apply And.intro | (intro i hi; rcases i with _ | _ | i <;> first | rfl | (exfalso; omega) | (simp at hi; done) | (simp at hi; omega)) | exact fun _ _ => by simp)), trivial⟩ | exact ⟨by (repeat' (first | exact trivial | exact rfl | exact fun _ _ => rfl | apply And.intro | (intro i hi; rcases i with _ | _ | i <;> first | rfl | (exfalso; omega) | (simp at hi; done) | (simp at hi; omega)) | exact fun _ _ => by simp)), trivial⟩ | exact ⟨by (repeat' (first | exact trivial | exact rfl | exact fun _ _ => rfl | apply And.intro | (intro i hi; rcases i with _ | _ | i <;> first | rfl | (exfalso; omega) | (simp at hi; done) | (simp at hi; omega)) | exact fun _ _ => by simp)), by (repeat' (first | exact trivial | exact rfl | exact fun _ _ => rfl | apply And.intro | (intro i hi; rcases i with _ | _ | i <;> first | rfl | (exfalso; omega) | (simp at hi; done) | (simp at hi; omega)) | exact fun _ _ => by simp))⟩ | exact ⟨rfl, by (repeat' (first | exact trivial | exact rfl | exact fun _ _ => rfl | apply And.intro | (intro i hi; rcases i with _ | _ | i <;> first | rfl | (exfalso; omega) | (simp at hi; done) | (simp at hi; omega)) | exact fun _ _ => by simp)), by (repeat' (first | exact trivial | exact rfl | exact fun _ _ => rfl | apply And.intro | (intro i hi; rcases i with _ | _ | i <;> first | rfl | (exfalso; omega) | (simp at hi; done) | (simp at hi; omega)) | exact fun _ _ => by simp))⟩
          · have z3 := n3 e3
            clear k3 n3
            conv => whnf
            repeat' (first
              | (refine And.intro (by omega) ?_; conv => whnf)
              | (refine And.intro rfl ?_; conv => whnf)
              | (refine And.intro (Nat.le_of_ble_eq_true rfl) ?_; conv => whnf)
              | (refine And.intro (fun i hi => ⟨_, rfl⟩) ?_; conv => whnf)
              | (refine ⟨_, _, _, .flat _ _ rfl (exact congrArg (Value.int .i64) (by (try dsimp only); omega)) rfl, ?_⟩; conv => whnf)
              | (refine ⟨_, _, _, .flat _ _ rfl (ACall.arg ?harg (exact congrArg (Value.int .i64) (by (try dsimp only); omega))) rfl, ?_⟩; (case harg => (repeat' (first | exact trivial | exact rfl | exact fun _ _ => rfl | apply And.intro | (intro i hi; rcases i with _ | _ | i <;> first | rfl | (exfalso; omega) | (simp at hi; done) | (simp at hi; omega)) | exact fun _ _ => by simp))); (conv => whnf))
              | (refine And.intro (fun hq => ?_) (fun hq => ?_) <;> (first | (exfalso; simp at hq; done) | (exfalso; simp only [cond_true, cond_false, Bool.not_eq_true', Bool.not_eq_false', decide_eq_true_eq, decide_eq_false_iff_not] at hq; (try dsimp only at hq); omega) | (exfalso; simp at hq; omega) | (conv => whnf)))
              | (refine fun hq => ?_; conv => whnf)
              | (refine And.intro (by first | (show _ * 1 ≤ 140737488355328; omega) | (show _ * 8 ≤ 140737488355328; omega) | (show _ * 24 ≤ 140737488355328; omega) | (show _ * 16 ≤ 140737488355328; omega) | (show _ * 32 ≤ 140737488355328; omega) | (show _ * 120 ≤ 140737488355328; omega) | (show _ * 280 ≤ 140737488355328; omega) | (show _ * 72 ≤ 140737488355328; omega) | (show _ * 48 ≤ 140737488355328; omega)) ?_; conv => whnf)
              | (refine And.intro (by dsimp only; omega) ?_; conv => whnf)
              | fail)
            all_goals first | exact trivial | exact ⟨rfl, by (repeat' (first | exact trivial | ((rw [z3]; done)) | ((intro i hi; rw [z3])) | exact rfl | exact fun _ _ => rfl | apply And.intro | (intro i hi; rcases i with _ | _ | i <;> first | rfl | (exfalso; omega) | (simp at hi; done) | (simp at hi; omega)) | exact fun _ _ => by simp)), trivial⟩ | exact ⟨by (repeat' (first | exact trivial | ((rw [z3]; done)) | ((intro i hi; rw [z3])) | exact rfl | exact fun _ _ => rfl | apply And.intro | (intro i hi; rcases i with _ | _ | i <;> first | rfl | (exfalso; omega) | (simp at hi; done) | (simp at hi; omega)) | exact fun _ _ => by simp)), trivial⟩ | exact ⟨by (repeat' (first | exact trivial | ((rw [z3]; done)) | ((intro i hi; rw [z3])) | exact rfl | exact fun _ _ => rfl | apply And.intro | (intro i hi; rcases i with _ | _ | i <;> first | rfl | (exfalso; omega) | (simp at hi; done) | (simp at hi; omega)) | exact fun _ _ => by simp)), by (repeat' (first | exact trivial | ((rw [z3]; done)) | ((intro i hi; rw [z3])) | exact rfl | exact fun _ _ => rfl | apply And.intro | (intro i hi; rcases i with _ | _ | i <;> first | rfl | (exfalso; omega) | (simp at hi; done) | (simp at hi; omega)) | exact fun _ _ => by simp))⟩ | exact ⟨rfl, by (repeat' (first | exact trivial | ((rw [z3]; done)) | ((intro i hi; rw [z3])) | exact rfl | exact fun _ _ => rfl | apply And.intro | (intro i hi; rcases i with _ | _ | i <;> first | rfl | (exfalso; omega) | (simp at hi; done) | (simp at hi; omega)) | exact fun _ _ => by simp)), by (repeat' (first | exact trivial | ((rw [z3]; done)) | ((intro i hi; rw [z3])) | exact rfl | exact fun _ _ => rfl | apply And.intro | (intro i hi; rcases i with _ | _ | i <;> first | rfl | (exfalso; omega) | (simp at hi; done) | (simp at hi; omega)) | exact fun _ _ => by simp))⟩
end
end Go.Proofs.Ytglmohcnmpbfmaa
