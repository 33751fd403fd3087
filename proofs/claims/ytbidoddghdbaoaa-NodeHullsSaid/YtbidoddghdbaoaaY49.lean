/- The reference's Has where a point is in a box; NodeHulls. -/
import Derived.Test.YtbidoddghdbaoaaY48
set_option linter.unusedVariables false
set_option linter.unusedSimpArgs false
namespace Go.Proofs.Ytbidoddghdbaoaa
open Go.RowKit
set_option maxRecDepth 100000
set_option maxHeartbeats 4000000
theorem rright_yes (b : BoxD) (d : Nat) (h : Pl.rightB b.lo b.hi d = true) : ACall Try.prog 38 [agD (boxL b), exI .i64 d] [] (exB true) [] := by
  have hl := Pl.rightB_len h
  have hle := Pl.right_le h
  refine acall_on (mu := []) [] [] mixed Try.func38 rfl rfl rfl ?_
  conv => whnf
  repeat' (first
    | (refine And.intro (by omega) ?_; conv => whnf)
    | (refine And.intro rfl ?_; conv => whnf)
    | (refine And.intro (Nat.le_of_ble_eq_true rfl) ?_; conv => whnf)
    | (refine And.intro (fun i hi => ⟨_, rfl⟩) ?_; conv => whnf)
    | (refine And.intro (fun hq => ?_) (fun hq => ?_) <;> (first | (exfalso; simp at hq; done) | (exfalso; simp only [cond_true, cond_false, Bool.not_eq_true', Bool.not_eq_false', decide_eq_true_eq, decide_eq_false_iff_not] at hq; (try dsimp only at hq); omega) | (exfalso; simp at hq; omega) | ((try simp only [cond_true, cond_false, Bool.not_eq_true', Bool.not_eq_false', decide_eq_true_eq, decide_eq_false_iff_not] at hq); (try dsimp only at hq); (conv => whnf))))
    | (refine fun hq => ?_; conv => whnf)
    | (refine And.intro (by dsimp only; omega) ?_; conv => whnf)
    | fail)
  refine ⟨[], ?_⟩
  conv => whnf
  refine ⟨Nat, fun i => i ≤ d, fun i => d - i, fun i => [(4, exB false), (5, exI .i64 i)], fun _ => [], ⟨0, by omega, ?_⟩, ?_⟩
  · skip
    refine ⟨[], ?_⟩
    conv => whnf
    refine ⟨rfl, ?_, ?_⟩ <;> (repeat' (first | exact trivial | exact rfl | exact fun _ _ => rfl | apply And.intro | (intro i hi; rcases i with _ | _ | i <;> first | rfl | (exfalso; omega) | (simp at hi; done) | (simp at hi; omega)) | exact fun _ _ => by simp))
  intro i hi
  conv => whnf
  rcases Nat.lt_or_ge i d with hlt | hge
  · have q : b.lo.getD ((i : Int)).toNat 0 ≤ b.hi.getD ((i : Int)).toNat 0 := hle i hlt
    conv => whnf
    repeat' (first
      | (refine And.intro (by omega) ?_; conv => whnf)
      | (refine And.intro rfl ?_; conv => whnf)
      | (refine And.intro (Nat.le_of_ble_eq_true rfl) ?_; conv => whnf)
      | (refine And.intro (fun i hi => ⟨_, rfl⟩) ?_; conv => whnf)
      | (refine And.intro (fun hq => ?_) (fun hq => ?_) <;> (first | (exfalso; simp at hq; done) | (exfalso; simp only [cond_true, cond_false, Bool.not_eq_true', Bool.not_eq_false', decide_eq_true_eq, decide_eq_false_iff_not] at hq; (try dsimp only at hq); omega) | (exfalso; simp at hq; omega) | ((try simp only [cond_true, cond_false, Bool.not_eq_true', Bool.not_eq_false', decide_eq_true_eq, decide_eq_false_iff_not] at hq); (try dsimp only at hq); (conv => whnf))))
      | (refine fun hq => ?_; conv => whnf)
      | (refine And.intro (by dsimp only; omega) ?_; conv => whnf)
      | fail)
    refine ⟨i + 1, by omega, by dsimp only; omega, ?_⟩
    refine ⟨[], ?_⟩
    conv => whnf
    refine ⟨rfl, ?_, ?_⟩ <;> (repeat' (first | exact trivial | exact rfl | exact fun _ _ => rfl | apply And.intro | (intro i hi; rcases i with _ | _ | i <;> first | rfl | (exfalso; omega) | (simp at hi; done) | (simp at hi; omega)) | exact fun _ _ => by simp))
  · obtain rfl : i = d := by omega
    conv => whnf
    repeat' (first
      | (refine And.intro (by omega) ?_; conv => whnf)
      | (refine And.intro rfl ?_; conv => whnf)
      | (refine And.intro (Nat.le_of_ble_eq_true rfl) ?_; conv => whnf)
      | (refine And.intro (fun i hi => ⟨_, rfl⟩) ?_; conv => whnf)
      | (refine And.intro (fun hq => ?_) (fun hq => ?_) <;> (first | (exfalso; simp at hq; done) | (exfalso; simp only [cond_true, cond_false, Bool.not_eq_true', Bool.not_eq_false', decide_eq_true_eq, decide_eq_false_iff_not] at hq; (try dsimp only at hq); omega) | (exfalso; simp at hq; omega) | ((try simp only [cond_true, cond_false, Bool.not_eq_true', Bool.not_eq_false', decide_eq_true_eq, decide_eq_false_iff_not] at hq); (try dsimp only at hq); (conv => whnf))))
      | (refine fun hq => ?_; conv => whnf)
      | (refine And.intro (by dsimp only; omega) ?_; conv => whnf)
      | fail)
    all_goals (repeat' (first | exact trivial | exact rfl | exact fun _ _ => rfl | apply And.intro | (intro i hi; rcases i with _ | _ | i <;> first | rfl | (exfalso; omega) | (simp at hi; done) | (simp at hi; omega)) | exact fun _ _ => by simp))
theorem rhas_yes (b : BoxD) (p : List Int) (h : Pl.hasB b.lo b.hi p = true) : ACall Try.prog 9 [agD (boxL b), .d (i64L p)] [] (exB true) [] := by
  unfold Pl.hasB at h
  simp only [Bool.and_eq_true, List.all_eq_true, List.mem_range, decide_eq_true_eq] at h
  have hl := Pl.rightB_len h.1
  have c := rright_yes b p.length h.1
  refine acall_on (mu := []) [] [] mixed Try.func9 rfl rfl rfl ?_
  conv => whnf
  repeat' (first
    | (refine And.intro (by omega) ?_; conv => whnf)
    | (refine And.intro rfl ?_; conv => whnf)
    | (refine And.intro (Nat.le_of_ble_eq_true rfl) ?_; conv => whnf)
    | (refine And.intro (fun i hi => ⟨_, rfl⟩) ?_; conv => whnf)
    | (refine ⟨_, _, _, .flat _ _ rfl (c) rfl, ?_⟩; conv => whnf)
    | (refine ⟨_, _, _, .flat _ _ rfl (ACall.arg ?harg (c)) rfl, ?_⟩; (case harg => (repeat' (first | exact trivial | exact rfl | exact fun _ _ => rfl | apply And.intro | (intro i hi; rcases i with _ | _ | i <;> first | rfl | (exfalso; omega) | (simp at hi; done) | (simp at hi; omega)) | exact fun _ _ => by simp))); (conv => whnf))
    | (refine And.intro (fun hq => ?_) (fun hq => ?_) <;> (first | (exfalso; simp at hq; done) | (exfalso; simp only [cond_true, cond_false, Bool.not_eq_true', Bool.not_eq_false', decide_eq_true_eq, decide_eq_false_iff_not] at hq; (try dsimp only at hq); omega) | (exfalso; simp at hq; omega) | ((try simp only [cond_true, cond_false, Bool.not_eq_true', Bool.not_eq_false', decide_eq_true_eq, decide_eq_false_iff_not] at hq); (try dsimp only at hq); (conv => whnf))))
    | (refine fun hq => ?_; conv => whnf)
    | (refine And.intro (by dsimp only; omega) ?_; conv => whnf)
    | fail)
  refine ⟨[], ?_⟩
  conv => whnf
  refine ⟨Nat, fun i => i ≤ p.length, fun i => p.length - i, fun i => [(4, exB false), (5, exI .i64 i)], fun _ => [], ⟨0, by omega, ?_⟩, ?_⟩
  · skip
    refine ⟨[], ?_⟩
    conv => whnf
    refine ⟨rfl, ?_, ?_⟩ <;> (repeat' (first | exact trivial | exact rfl | exact fun _ _ => rfl | apply And.intro | (intro i hi; rcases i with _ | _ | i <;> first | rfl | (exfalso; omega) | (simp at hi; done) | (simp at hi; omega)) | exact fun _ _ => by simp))
  intro i hi
  conv => whnf
  rcases Nat.lt_or_ge i p.length with hlt | hge
  · have q : b.lo.getD ((i : Int)).toNat 0 ≤ p.getD ((i : Int)).toNat 0 ∧ p.getD ((i : Int)).toNat 0 ≤ b.hi.getD ((i : Int)).toNat 0 := h.2 i hlt
    conv => whnf
    repeat' (first
      | (refine And.intro (by omega) ?_; conv => whnf)
      | (refine And.intro rfl ?_; conv => whnf)
      | (refine And.intro (Nat.le_of_ble_eq_true rfl) ?_; conv => whnf)
      | (refine And.intro (fun i hi => ⟨_, rfl⟩) ?_; conv => whnf)
      | (refine And.intro (fun hq => ?_) (fun hq => ?_) <;> (first | (exfalso; simp at hq; done) | (exfalso; simp only [cond_true, cond_false, Bool.not_eq_true', Bool.not_eq_false', decide_eq_true_eq, decide_eq_false_iff_not] at hq; (try dsimp only at hq); omega) | (exfalso; simp at hq; omega) | ((try simp only [cond_true, cond_false, Bool.not_eq_true', Bool.not_eq_false', decide_eq_true_eq, decide_eq_false_iff_not] at hq); (try dsimp only at hq); (conv => whnf))))
      | (refine fun hq => ?_; conv => whnf)
      | (refine And.intro (by dsimp only; omega) ?_; conv => whnf)
      | fail)
    refine ⟨i + 1, by omega, by dsimp only; omega, ?_⟩
    refine ⟨[], ?_⟩
    conv => whnf
    refine ⟨rfl, ?_, ?_⟩ <;> (repeat' (first | exact trivial | exact rfl | exact fun _ _ => rfl | apply And.intro | (intro i hi; rcases i with _ | _ | i <;> first | rfl | (exfalso; omega) | (simp at hi; done) | (simp at hi; omega)) | exact fun _ _ => by simp))
  · obtain rfl : i = p.length := by omega
    conv => whnf
    repeat' (first
      | (refine And.intro (by omega) ?_; conv => whnf)
      | (refine And.intro rfl ?_; conv => whnf)
      | (refine And.intro (Nat.le_of_ble_eq_true rfl) ?_; conv => whnf)
      | (refine And.intro (fun i hi => ⟨_, rfl⟩) ?_; conv => whnf)
      | (refine And.intro (fun hq => ?_) (fun hq => ?_) <;> (first | (exfalso; simp at hq; done) | (exfalso; simp only [cond_true, cond_false, Bool.not_eq_true', Bool.not_eq_false', decide_eq_true_eq, decide_eq_false_iff_not] at hq; (try dsimp only at hq); omega) | (exfalso; simp at hq; omega) | ((try simp only [cond_true, cond_false, Bool.not_eq_true', Bool.not_eq_false', decide_eq_true_eq, decide_eq_false_iff_not] at hq); (try dsimp only at hq); (conv => whnf))))
      | (refine fun hq => ?_; conv => whnf)
      | (refine And.intro (by dsimp only; omega) ?_; conv => whnf)
      | fail)
    all_goals (repeat' (first | exact trivial | exact rfl | exact fun _ _ => rfl | apply And.intro | (intro i hi; rcases i with _ | _ | i <;> first | rfl | (exfalso; omega) | (simp at hi; done) | (simp at hi; omega)) | exact fun _ _ => by simp))
namespace Pl
theorem any_take_succ {α : Type} [Inhabited α] (f : α → Bool) (l : List α) (i : Nat) (hi : i < l.length) : (l.take (i + 1)).any f = ((l.take i).any f || f (l.getD i default)) := by
  rw [List.take_add_one, List.any_append, List.getElem?_eq_getElem hi]
  simp [List.getD, List.getElem?_eq_getElem hi]
theorem loAt_row (n : NodeD) (S : List Int) (i j : Nat) (hi : i < n.rows.length) : loAt n S (i + 1) 0 j = (loAt n S i 0 j || ((n.rows.getD i default).live && decide ((n.rows.getD i default).row.getD j 0 = S.getD j 0))) := by
  unfold loAt; rw [any_take_succ _ _ _ hi]; simp
theorem hiAt_row (n : NodeD) (S : List Int) (i j : Nat) (hi : i < n.rows.length) : hiAt n S (i + 1) 0 j = (hiAt n S i 0 j || ((n.rows.getD i default).live && decide ((n.rows.getD i default).row.getD j 0 = S.getD j 0))) := by
  unfold hiAt; rw [any_take_succ _ _ _ hi]; simp
theorem loAt_kid (n : NodeD) (S : List Int) (i k j : Nat) (hk : k < n.kids.length) : loAt n S i (k + 1) j = (loAt n S i k j || (!decide ((n.kids.getD k default).live = 0) && decide ((n.kids.getD k default).lo.getD j 0 = S.getD j 0))) := by
  unfold loAt; rw [any_take_succ _ _ _ hk, Bool.or_assoc]
theorem hiAt_kid (n : NodeD) (S : List Int) (i k j : Nat) (hk : k < n.kids.length) : hiAt n S i (k + 1) j = (hiAt n S i k j || (!decide ((n.kids.getD k default).live = 0) && decide ((n.kids.getD k default).hi.getD j 0 = S.getD j 0))) := by
  unfold hiAt; rw [any_take_succ _ _ _ hk, Bool.or_assoc]
end Pl
/-- the first ones by g, the rest by f -/
structure Mix (F : Nat → Nat → Bool) (f g : Nat → Bool) : Prop where
  z : ∀ k, F 0 k = f k
  s : ∀ j k, F (j + 1) k = if k = j then g j else F j k
  c : ∀ j, F j j = f j
  e : ∀ d k, k < d → F d k = g k
theorem mix_ex (f g : Nat → Bool) : ∃ F, Mix F f g := by
  refine ⟨fun j k => if k < j then g k else f k, fun k => if_neg (by omega), fun j k => ?_, fun j => if_neg (by omega), fun d k h => if_pos h⟩
  by_cases e : k = j
  · subst e; rw [if_pos (by omega), if_pos rfl]
  · rw [if_neg e]
    by_cases q : k < j
    · rw [if_pos q, if_pos (by omega)]
    · rw [if_neg q, if_neg (by omega)]
def boF (F : Nat → Bool) (k : Nat) : List DV := [.v (.bool (F k))]
theorem store_bo {F : Nat → Nat → Bool} {f g : Nat → Bool} (h : Mix F f g) (j : Nat) (z : Int) (b : Bool) (hz : z.toNat = j) (hb : b = g j) (n : Nat) : ∀ k, k < n → (if k = z.toNat then spl (boF (F j) z.toNat) 0 [DV.v (.bool b)] else boF (F j) k) = boF (F (j + 1)) k := fun k hk => by
  rw [hz]
  unfold boF
  rw [h.s]
  by_cases e : k = j
  · rw [if_pos e, if_pos e, hb]; rfl
  · rw [if_neg e, if_neg e]
theorem bo_same {F G : Nat → Bool} (n : Nat) (h : ∀ k, k < n → F k = G k) : ∀ k, k < n → boF F k = boF G k := fun k hk => by unfold boF; rw [h k hk]
theorem nodehulls_ok (n : NodeD) (d : Int) (h : Pl.NodeOk n) (hr0 : n.rows.length ≤ maxLen) (hk0 : n.kids.length ≤ maxLen) : ACall Try.prog 3 [agD (nodeL n), exI .i64 d] [] (exB true) [] := by
  have q0 := alive10
  have q1 := great10 n hr0 hk0
  refine acall_on (mu := []) [] [] mixed Try.func3 rfl rfl rfl ?_
  cases hg : greatB n with
  | true =>
    rw [hg] at q1
    conv => whnf
    repeat' (first
      | (refine And.intro (by omega) ?_; conv => whnf)
      | (refine And.intro rfl ?_; conv => whnf)
      | (refine And.intro (Nat.le_of_ble_eq_true rfl) ?_; conv => whnf)
      | (refine And.intro (fun i hi => ⟨_, rfl⟩) ?_; conv => whnf)
      | (refine ⟨_, _, _, .flat _ _ rfl (q0) rfl, ?_⟩; conv => whnf)
      | (refine ⟨_, _, _, .flat _ _ rfl (q1) rfl, ?_⟩; conv => whnf)
      | (refine ⟨_, _, _, .flat _ _ rfl (ACall.arg ?harg (q0)) rfl, ?_⟩; (case harg => (repeat' (first | exact trivial | exact rfl | exact fun _ _ => rfl | apply And.intro | (intro i hi; rcases i with _ | _ | i <;> first | rfl | (exfalso; omega) | (simp at hi; done) | (simp at hi; omega)) | exact fun _ _ => by simp))); (conv => whnf))
      | (refine ⟨_, _, _, .flat _ _ rfl (ACall.arg ?harg (q1)) rfl, ?_⟩; (case harg => (repeat' (first | exact trivial | exact rfl | exact fun _ _ => rfl | apply And.intro | (intro i hi; rcases i with _ | _ | i <;> first | rfl | (exfalso; omega) | (simp at hi; done) | (simp at hi; omega)) | exact fun _ _ => by simp))); (conv => whnf))
      | (refine And.intro (fun hq => ?_) (fun hq => ?_) <;> (first | (exfalso; simp at hq; done) | (exfalso; simp only [cond_true, cond_false, Bool.not_eq_true', Bool.not_eq_false', decide_eq_true_eq, decide_eq_false_iff_not] at hq; (try dsimp only at hq); omega) | (exfalso; simp at hq; omega) | ((try simp only [cond_true, cond_false, Bool.not_eq_true', Bool.not_eq_false', decide_eq_true_eq, decide_eq_false_iff_not] at hq); (try dsimp only at hq); (conv => whnf))))
      | (refine fun hq => ?_; conv => whnf)
      | (refine And.intro (by dsimp only; omega) ?_; conv => whnf)
      | fail)
    all_goals (repeat' (first | exact trivial | exact rfl | exact fun _ _ => rfl | apply And.intro | (intro i hi; rcases i with _ | _ | i <;> first | rfl | (exfalso; omega) | (simp at hi; done) | (simp at hi; omega)) | exact fun _ _ => by simp))
  | false =>
    rw [hg] at q1
    cases hR : Pl.nodeR n d with
    | false =>
      have q2 := nsay_no n d h hR
      conv => whnf
      repeat' (first
        | (refine And.intro (by omega) ?_; conv => whnf)
        | (refine And.intro rfl ?_; conv => whnf)
        | (refine And.intro (Nat.le_of_ble_eq_true rfl) ?_; conv => whnf)
        | (refine And.intro (fun i hi => ⟨_, rfl⟩) ?_; conv => whnf)
        | (refine ⟨_, _, _, .flat _ _ rfl (q0) rfl, ?_⟩; conv => whnf)
        | (refine ⟨_, _, _, .flat _ _ rfl (q1) rfl, ?_⟩; conv => whnf)
        | (refine ⟨_, _, _, .gen [] _ _ _ rfl (q2) rfl rfl rfl rfl rfl, ?_⟩; conv => whnf)
        | (refine ⟨_, _, _, .flat _ _ rfl (ACall.arg ?harg (q0)) rfl, ?_⟩; (case harg => (repeat' (first | exact trivial | exact rfl | exact fun _ _ => rfl | apply And.intro | (intro i hi; rcases i with _ | _ | i <;> first | rfl | (exfalso; omega) | (simp at hi; done) | (simp at hi; omega)) | exact fun _ _ => by simp))); (conv => whnf))
        | (refine ⟨_, _, _, .flat _ _ rfl (ACall.arg ?harg (q1)) rfl, ?_⟩; (case harg => (repeat' (first | exact trivial | exact rfl | exact fun _ _ => rfl | apply And.intro | (intro i hi; rcases i with _ | _ | i <;> first | rfl | (exfalso; omega) | (simp at hi; done) | (simp at hi; omega)) | exact fun _ _ => by simp))); (conv => whnf))
        | (refine ⟨_, _, _, .gen [] _ _ _ rfl (ACall.arg ?harg (q2)) rfl rfl rfl rfl rfl, ?_⟩; (case harg => (repeat' (first | exact trivial | exact rfl | exact fun _ _ => rfl | apply And.intro | (intro i hi; rcases i with _ | _ | i <;> first | rfl | (exfalso; omega) | (simp at hi; done) | (simp at hi; omega)) | exact fun _ _ => by simp))); (conv => whnf))
        | (refine And.intro (fun hq => ?_) (fun hq => ?_) <;> (first | (exfalso; simp at hq; done) | (exfalso; simp only [cond_true, cond_false, Bool.not_eq_true', Bool.not_eq_false', decide_eq_true_eq, decide_eq_false_iff_not] at hq; (try dsimp only at hq); omega) | (exfalso; simp at hq; omega) | ((try simp only [cond_true, cond_false, Bool.not_eq_true', Bool.not_eq_false', decide_eq_true_eq, decide_eq_false_iff_not] at hq); (try dsimp only at hq); (conv => whnf))))
        | (refine fun hq => ?_; conv => whnf)
        | (refine And.intro (by dsimp only; omega) ?_; conv => whnf)
        | fail)
      all_goals (repeat' (first | exact trivial | exact rfl | exact fun _ _ => rfl | apply And.intro | (intro i hi; rcases i with _ | _ | i <;> first | rfl | (exfalso; omega) | (simp at hi; done) | (simp at hi; omega)) | exact fun _ _ => by simp))
    | true =>
      have q2 := nsay_ok n d h hR
      obtain ⟨D, rfl, hrt⟩ := Pl.nodeR_rt hR
      have hd := hrt.dd
      have hr4 := hrt.rows
      have hk4 := hrt.kids
      by_cases hz : (Pl.sayN n).size ≤ 1048576
      · rw [if_pos hz] at q2
        by_cases hl : (Pl.sayN n).live = 0
        · obtain ⟨e1, e2⟩ := Pl.say_none hrt h hl
          replace e1 : (Pl.sayN n).lo.length = 0 := by rw [e1]; rfl
          replace e2 : (Pl.sayN n).hi.length = 0 := by rw [e2]; rfl
          conv => whnf
          repeat' (first
            | (refine And.intro (by omega) ?_; conv => whnf)
            | (refine And.intro rfl ?_; conv => whnf)
            | (refine And.intro (Nat.le_of_ble_eq_true rfl) ?_; conv => whnf)
            | (refine And.intro (fun i hi => ⟨_, rfl⟩) ?_; conv => whnf)
            | (refine ⟨_, _, _, .flat _ _ rfl (q0) rfl, ?_⟩; conv => whnf)
            | (refine ⟨_, _, _, .flat _ _ rfl (q1) rfl, ?_⟩; conv => whnf)
            | (refine ⟨_, _, _, .gen [] _ _ _ rfl (q2) rfl rfl rfl rfl rfl, ?_⟩; conv => whnf)
            | (refine ⟨_, _, _, .flat _ _ rfl (ACall.arg ?harg (q0)) rfl, ?_⟩; (case harg => (repeat' (first | exact trivial | exact rfl | exact fun _ _ => rfl | apply And.intro | (intro i hi; rcases i with _ | _ | i <;> first | rfl | (exfalso; omega) | (simp at hi; done) | (simp at hi; omega)) | exact fun _ _ => by simp))); (conv => whnf))
            | (refine ⟨_, _, _, .flat _ _ rfl (ACall.arg ?harg (q1)) rfl, ?_⟩; (case harg => (repeat' (first | exact trivial | exact rfl | exact fun _ _ => rfl | apply And.intro | (intro i hi; rcases i with _ | _ | i <;> first | rfl | (exfalso; omega) | (simp at hi; done) | (simp at hi; omega)) | exact fun _ _ => by simp))); (conv => whnf))
            | (refine ⟨_, _, _, .gen [] _ _ _ rfl (ACall.arg ?harg (q2)) rfl rfl rfl rfl rfl, ?_⟩; (case harg => (repeat' (first | exact trivial | exact rfl | exact fun _ _ => rfl | apply And.intro | (intro i hi; rcases i with _ | _ | i <;> first | rfl | (exfalso; omega) | (simp at hi; done) | (simp at hi; omega)) | exact fun _ _ => by simp))); (conv => whnf))
            | (refine And.intro (fun hq => ?_) (fun hq => ?_) <;> (first | (exfalso; simp at hq; done) | (exfalso; simp only [cond_true, cond_false, Bool.not_eq_true', Bool.not_eq_false', decide_eq_true_eq, decide_eq_false_iff_not] at hq; (try dsimp only at hq); omega) | (exfalso; simp at hq; omega) | ((try simp only [cond_true, cond_false, Bool.not_eq_true', Bool.not_eq_false', decide_eq_true_eq, decide_eq_false_iff_not] at hq); (try dsimp only at hq); (conv => whnf))))
            | (refine fun hq => ?_; conv => whnf)
            | (refine And.intro (by dsimp only; omega) ?_; conv => whnf)
            | fail)
          refine And.intro (congrArg Value.bool ?_) trivial
          rw [e2]; rfl
        · have hrow := Pl.say_row hrt h hl
          have hkid := Pl.say_kid hrt h hl
          have hbox := Pl.say_box hrt h hl
          have hsides := Pl.say_sides hrt h hl
          have hbl := Pl.rightB_len hbox
          have lenL : (Pl.sayN n).lo.length = D := by omega
          have lenH : (Pl.sayN n).hi.length = D := by omega
          obtain ⟨GL, hGL⟩ : ∃ G : Nat → Nat → Bool, ∀ i k, G i k = Pl.loAt n (Pl.sayN n).lo i 0 k := ⟨_, fun _ _ => rfl⟩
          obtain ⟨GH, hGH⟩ : ∃ G : Nat → Nat → Bool, ∀ i k, G i k = Pl.hiAt n (Pl.sayN n).hi i 0 k := ⟨_, fun _ _ => rfl⟩
          have zL : ∀ k, GL 0 k = false := fun k => by rw [hGL]; rfl
          have zH : ∀ k, GH 0 k = false := fun k => by rw [hGH]; rfl
          have nL : ∀ i, i < n.rows.length → ∀ k, GL (i + 1) k = (GL i k || ((n.rows.getD i default).live && decide ((n.rows.getD i default).row.getD k 0 = (Pl.sayN n).lo.getD k 0))) := fun i hi k => by rw [hGL, hGL]; exact Pl.loAt_row n _ i k hi
          have nH : ∀ i, i < n.rows.length → ∀ k, GH (i + 1) k = (GH i k || ((n.rows.getD i default).live && decide ((n.rows.getD i default).row.getD k 0 = (Pl.sayN n).hi.getD k 0))) := fun i hi k => by rw [hGH, hGH]; exact Pl.hiAt_row n _ i k hi
          obtain ⟨KL, hKL⟩ : ∃ G : Nat → Nat → Bool, ∀ i k, G i k = Pl.loAt n (Pl.sayN n).lo n.rows.length i k := ⟨_, fun _ _ => rfl⟩
          obtain ⟨KH, hKH⟩ : ∃ G : Nat → Nat → Bool, ∀ i k, G i k = Pl.hiAt n (Pl.sayN n).hi n.rows.length i k := ⟨_, fun _ _ => rfl⟩
          have wL : ∀ k, KL 0 k = GL n.rows.length k := fun k => by rw [hKL, hGL]
          have wH : ∀ k, KH 0 k = GH n.rows.length k := fun k => by rw [hKH, hGH]
          have oL : ∀ i, i < n.kids.length → ∀ k, KL (i + 1) k = (KL i k || (!decide ((n.kids.getD i default).live = 0) && decide ((n.kids.getD i default).lo.getD k 0 = (Pl.sayN n).lo.getD k 0))) := fun i hi k => by rw [hKL, hKL]; exact Pl.loAt_kid n _ _ i k hi
          have oH : ∀ i, i < n.kids.length → ∀ k, KH (i + 1) k = (KH i k || (!decide ((n.kids.getD i default).live = 0) && decide ((n.kids.getD i default).hi.getD k 0 = (Pl.sayN n).hi.getD k 0))) := fun i hi k => by rw [hKH, hKH]; exact Pl.hiAt_kid n _ _ i k hi
          have fL : ∀ k, k < D → KL n.kids.length k = true := fun k hk => by rw [hKL]; exact (hsides k hk).1
          have fH : ∀ k, k < D → KH n.kids.length k = true := fun k hk => by rw [hKH]; exact (hsides k hk).2
          clear hGL hGH hKL hKH hsides
          conv => whnf
          repeat' (first
            | (refine And.intro (by omega) ?_; conv => whnf)
            | (refine And.intro rfl ?_; conv => whnf)
            | (refine And.intro (Nat.le_of_ble_eq_true rfl) ?_; conv => whnf)
            | (refine And.intro (fun i hi => ⟨_, rfl⟩) ?_; conv => whnf)
            | (refine ⟨_, _, _, .flat _ _ rfl (q0) rfl, ?_⟩; conv => whnf)
            | (refine ⟨_, _, _, .flat _ _ rfl (q1) rfl, ?_⟩; conv => whnf)
            | (refine ⟨_, _, _, .gen [] _ _ _ rfl (q2) rfl rfl rfl rfl rfl, ?_⟩; conv => whnf)
            | (refine ⟨_, _, _, .flat _ _ rfl (ACall.arg ?harg (q0)) rfl, ?_⟩; (case harg => (repeat' (first | exact trivial | exact rfl | exact fun _ _ => rfl | apply And.intro | (intro i hi; rcases i with _ | _ | i <;> first | rfl | (exfalso; omega) | (simp at hi; done) | (simp at hi; omega)) | exact fun _ _ => by simp))); (conv => whnf))
            | (refine ⟨_, _, _, .flat _ _ rfl (ACall.arg ?harg (q1)) rfl, ?_⟩; (case harg => (repeat' (first | exact trivial | exact rfl | exact fun _ _ => rfl | apply And.intro | (intro i hi; rcases i with _ | _ | i <;> first | rfl | (exfalso; omega) | (simp at hi; done) | (simp at hi; omega)) | exact fun _ _ => by simp))); (conv => whnf))
            | (refine ⟨_, _, _, .gen [] _ _ _ rfl (ACall.arg ?harg (q2)) rfl rfl rfl rfl rfl, ?_⟩; (case harg => (repeat' (first | exact trivial | exact rfl | exact fun _ _ => rfl | apply And.intro | (intro i hi; rcases i with _ | _ | i <;> first | rfl | (exfalso; omega) | (simp at hi; done) | (simp at hi; omega)) | exact fun _ _ => by simp))); (conv => whnf))
            | (refine And.intro (fun hq => ?_) (fun hq => ?_) <;> (first | (exfalso; simp at hq; done) | (exfalso; simp only [cond_true, cond_false, Bool.not_eq_true', Bool.not_eq_false', decide_eq_true_eq, decide_eq_false_iff_not] at hq; (try dsimp only at hq); omega) | (exfalso; simp at hq; omega) | ((try simp only [cond_true, cond_false, Bool.not_eq_true', Bool.not_eq_false', decide_eq_true_eq, decide_eq_false_iff_not] at hq); (try dsimp only at hq); (conv => whnf))))
            | (refine fun hq => ?_; conv => whnf)
            | (refine And.intro (by dsimp only; omega) ?_; conv => whnf)
            | fail)
          refine And.intro (by show _ * 1 ≤ 16777216; omega) ?_
          conv => whnf
          repeat' (first
            | (refine And.intro (by omega) ?_; conv => whnf)
            | (refine And.intro rfl ?_; conv => whnf)
            | (refine And.intro (Nat.le_of_ble_eq_true rfl) ?_; conv => whnf)
            | (refine And.intro (fun i hi => ⟨_, rfl⟩) ?_; conv => whnf)
            | (refine And.intro (fun hq => ?_) (fun hq => ?_) <;> (first | (exfalso; simp at hq; done) | (exfalso; simp only [cond_true, cond_false, Bool.not_eq_true', Bool.not_eq_false', decide_eq_true_eq, decide_eq_false_iff_not] at hq; (try dsimp only at hq); omega) | (exfalso; simp at hq; omega) | ((try simp only [cond_true, cond_false, Bool.not_eq_true', Bool.not_eq_false', decide_eq_true_eq, decide_eq_false_iff_not] at hq); (try dsimp only at hq); (conv => whnf))))
            | (refine fun hq => ?_; conv => whnf)
            | (refine And.intro (by dsimp only; omega) ?_; conv => whnf)
            | fail)
          refine And.intro (by show _ * 1 ≤ 16777216; omega) ?_
          conv => whnf
          repeat' (first
            | (refine And.intro (by omega) ?_; conv => whnf)
            | (refine And.intro rfl ?_; conv => whnf)
            | (refine And.intro (Nat.le_of_ble_eq_true rfl) ?_; conv => whnf)
            | (refine And.intro (fun i hi => ⟨_, rfl⟩) ?_; conv => whnf)
            | (refine And.intro (fun hq => ?_) (fun hq => ?_) <;> (first | (exfalso; simp at hq; done) | (exfalso; simp only [cond_true, cond_false, Bool.not_eq_true', Bool.not_eq_false', decide_eq_true_eq, decide_eq_false_iff_not] at hq; (try dsimp only at hq); omega) | (exfalso; simp at hq; omega) | ((try simp only [cond_true, cond_false, Bool.not_eq_true', Bool.not_eq_false', decide_eq_true_eq, decide_eq_false_iff_not] at hq); (try dsimp only at hq); (conv => whnf))))
            | (refine fun hq => ?_; conv => whnf)
            | (refine And.intro (by dsimp only; omega) ?_; conv => whnf)
            | fail)
          refine ⟨[], ?_⟩
          conv => whnf
          refine ⟨Nat, fun i => i ≤ n.rows.length, fun i => n.rows.length - i, fun i => [(4, exB false), (9, exI .i64 i)], fun i => [(49, .row 4 1 0 false D (boF (GL i))), (51, .row 4 1 0 false D (boF (GH i)))], ⟨0, by omega, ?_⟩, ?_⟩
          · skip
            refine ⟨[], ?_⟩
            conv => whnf
            refine ⟨rfl, ?_, ?_⟩ <;> (repeat' (first | exact trivial | (exact fun k _ => (by unfold boF; rw [zL k]; rfl)) | (exact fun k _ => (by unfold boF; rw [zH k]; rfl)) | exact rfl | exact fun _ _ => rfl | apply And.intro | (intro i hi; rcases i with _ | _ | i <;> first | rfl | (exfalso; omega) | (simp at hi; done) | (simp at hi; omega)) | exact fun _ _ => by simp))
          intro i hi
          conv => whnf
          rcases Nat.lt_or_ge i n.rows.length with hlt | hge
          · have hrl : (n.rows.getD ((i : Int)).toNat default).row.length = D := hrt.row i hlt
            have nl := nL i hlt
            have nh := nH i hlt
            cases hv : (n.rows.getD i default).live with
            | false =>
              rw [hv] at nl nh
              have hv' : (n.rows.getD ((i : Int)).toNat default).live = false := hv
              conv => whnf
              repeat' (first
                | (refine And.intro (by omega) ?_; conv => whnf)
                | (refine And.intro rfl ?_; conv => whnf)
                | (refine And.intro (Nat.le_of_ble_eq_true rfl) ?_; conv => whnf)
                | (refine And.intro (fun i hi => ⟨_, rfl⟩) ?_; conv => whnf)
                | (refine And.intro (fun hq => ?_) (fun hq => ?_) <;> (first | (exfalso; simp at hq; done) | (exfalso; simp only [cond_true, cond_false, Bool.not_eq_true', Bool.not_eq_false', decide_eq_true_eq, decide_eq_false_iff_not] at hq; (try dsimp only at hq); omega) | (exfalso; simp at hq; omega) | ((try simp only [cond_true, cond_false, Bool.not_eq_true', Bool.not_eq_false', decide_eq_true_eq, decide_eq_false_iff_not] at hq); (try dsimp only at hq); (conv => whnf))))
                | (refine fun hq => ?_; conv => whnf)
                | (refine And.intro (by dsimp only; omega) ?_; conv => whnf)
                | fail)
              · refine ⟨i + 1, by omega, by dsimp only; omega, ?_⟩
                refine ⟨[], ?_⟩
                conv => whnf
                refine ⟨rfl, ?_, ?_⟩ <;> (repeat' (first | exact trivial | (exact bo_same _ (fun k hk => by rw [nl k]; simp)) | (exact bo_same _ (fun k hk => by rw [nh k]; simp)) | exact rfl | exact fun _ _ => rfl | apply And.intro | (intro i hi; rcases i with _ | _ | i <;> first | rfl | (exfalso; omega) | (simp at hi; done) | (simp at hi; omega)) | exact fun _ _ => by simp))
              all_goals (exfalso; rw [hv'] at hq; cases hq)
            | true =>
              rw [hv] at nl nh
              have hv' : (n.rows.getD ((i : Int)).toNat default).live = true := hv
              have c := rhas_yes ⟨(Pl.sayN n).lo, (Pl.sayN n).hi⟩ (n.rows.getD i default).row (hrow i hlt hv)
              conv => whnf
              repeat' (first
                | (refine And.intro (by omega) ?_; conv => whnf)
                | (refine And.intro rfl ?_; conv => whnf)
                | (refine And.intro (Nat.le_of_ble_eq_true rfl) ?_; conv => whnf)
                | (refine And.intro (fun i hi => ⟨_, rfl⟩) ?_; conv => whnf)
                | (refine ⟨_, _, _, .flat _ _ rfl (c) rfl, ?_⟩; conv => whnf)
                | (refine ⟨_, _, _, .flat _ _ rfl (ACall.arg ?harg (c)) rfl, ?_⟩; (case harg => (repeat' (first | exact trivial | exact rfl | exact fun _ _ => rfl | apply And.intro | (intro i hi; rcases i with _ | _ | i <;> first | rfl | (exfalso; omega) | (simp at hi; done) | (simp at hi; omega)) | exact fun _ _ => by simp))); (conv => whnf))
                | (refine And.intro (fun hq => ?_) (fun hq => ?_) <;> (first | (exfalso; simp at hq; done) | (exfalso; simp only [cond_true, cond_false, Bool.not_eq_true', Bool.not_eq_false', decide_eq_true_eq, decide_eq_false_iff_not] at hq; (try dsimp only at hq); omega) | (exfalso; simp at hq; omega) | ((try simp only [cond_true, cond_false, Bool.not_eq_true', Bool.not_eq_false', decide_eq_true_eq, decide_eq_false_iff_not] at hq); (try dsimp only at hq); (conv => whnf))))
                | (refine fun hq => ?_; conv => whnf)
                | (refine And.intro (by dsimp only; omega) ?_; conv => whnf)
                | fail)
              · exfalso; rw [hv'] at hq; cases hq
              refine ⟨[], ?_⟩
              conv => whnf
              obtain ⟨FL, hFL⟩ := mix_ex (GL i) (GL (i + 1))
              obtain ⟨FH, hFH⟩ := mix_ex (GH i) (GH (i + 1))
              refine ⟨Nat, fun j => j ≤ D, fun j => D - j, fun j => [(4, exB false), (10, exI .i64 j)], fun j => [(49, .row 4 1 0 false D (boF (FL j))), (51, .row 4 1 0 false D (boF (FH j)))], ⟨0, by omega, ?_⟩, ?_⟩
              · skip
                refine ⟨[], ?_⟩
                conv => whnf
                refine ⟨rfl, ?_, ?_⟩ <;> (repeat' (first | exact trivial | (exact bo_same _ (fun k hk => (hFL.z k).symm)) | (exact bo_same _ (fun k hk => (hFH.z k).symm)) | exact rfl | exact fun _ _ => rfl | apply And.intro | (intro i hi; rcases i with _ | _ | i <;> first | rfl | (exfalso; omega) | (simp at hi; done) | (simp at hi; omega)) | exact fun _ _ => by simp))
              intro j hj
              conv => whnf
              rcases Nat.lt_or_ge j D with hjt | hjg
              · skip
                have ej : ((j : Int)).toNat = j := by omega
                have nl := nl j
                have nh := nh j
                rw [← hFL.c j] at nl
                rw [← hFH.c j] at nh
                clear zL zH nL nH oL oH fL fH wL wH hrow hkid hbox hR q0 q1 q2 hz hl hbl hr0 hk0 hg h c
                conv => whnf
                repeat' (first
                  | (refine And.intro (by omega) ?_; conv => whnf)
                  | (refine And.intro rfl ?_; conv => whnf)
                  | (refine And.intro (Nat.le_of_ble_eq_true rfl) ?_; conv => whnf)
                  | (refine And.intro (fun i hi => ⟨_, rfl⟩) ?_; conv => whnf)
                  | (refine And.intro (fun hq => ?_) (fun hq => ?_) <;> (first | (exfalso; simp at hq; done) | (exfalso; simp only [cond_true, cond_false, Bool.not_eq_true', Bool.not_eq_false', decide_eq_true_eq, decide_eq_false_iff_not] at hq; (try dsimp only at hq); omega) | (exfalso; simp at hq; omega) | ((try simp only [cond_true, cond_false, Bool.not_eq_true', Bool.not_eq_false', decide_eq_true_eq, decide_eq_false_iff_not] at hq); (try dsimp only at hq); (conv => whnf))))
                  | (refine fun hq => ?_; conv => whnf)
                  | (refine And.intro (by dsimp only; omega) ?_; conv => whnf)
                  | fail)
                all_goals (rename_i u1; replace u1 : FL j j = _ := u1; have u2 : FH j j = _ := hq; rw [u1] at nl; rw [u2] at nh; refine ⟨j + 1, by omega, by dsimp only; omega, ?_⟩)
                refine ⟨[], ?_⟩
                conv => whnf
                refine ⟨rfl, ?_, ?_⟩ <;> (repeat' (first | exact trivial | (exact store_bo hFL j _ _ ej (by rw [nl]; rfl) _) | (exact store_bo hFH j _ _ ej (by rw [nh]; rfl) _) | exact rfl | exact fun _ _ => rfl | apply And.intro | (intro i hi; rcases i with _ | _ | i <;> first | rfl | (exfalso; omega) | (simp at hi; done) | (simp at hi; omega)) | exact fun _ _ => by simp))
                refine ⟨[], ?_⟩
                conv => whnf
                refine ⟨rfl, ?_, ?_⟩ <;> (repeat' (first | exact trivial | (exact store_bo hFL j _ _ ej (by rw [nl]; rfl) _) | (exact store_bo hFH j _ _ ej (by rw [nh]; rfl) _) | exact rfl | exact fun _ _ => rfl | apply And.intro | (intro i hi; rcases i with _ | _ | i <;> first | rfl | (exfalso; omega) | (simp at hi; done) | (simp at hi; omega)) | exact fun _ _ => by simp))
                refine ⟨[], ?_⟩
                conv => whnf
                refine ⟨rfl, ?_, ?_⟩ <;> (repeat' (first | exact trivial | (exact store_bo hFL j _ _ ej (by rw [nl]; rfl) _) | (exact store_bo hFH j _ _ ej (by rw [nh]; rfl) _) | exact rfl | exact fun _ _ => rfl | apply And.intro | (intro i hi; rcases i with _ | _ | i <;> first | rfl | (exfalso; omega) | (simp at hi; done) | (simp at hi; omega)) | exact fun _ _ => by simp))
                refine ⟨[], ?_⟩
                conv => whnf
                refine ⟨rfl, ?_, ?_⟩ <;> (repeat' (first | exact trivial | (exact store_bo hFL j _ _ ej (by rw [nl]; rfl) _) | (exact store_bo hFH j _ _ ej (by rw [nh]; rfl) _) | exact rfl | exact fun _ _ => rfl | apply And.intro | (intro i hi; rcases i with _ | _ | i <;> first | rfl | (exfalso; omega) | (simp at hi; done) | (simp at hi; omega)) | exact fun _ _ => by simp))
              · obtain rfl : j = D := by omega
                conv => whnf
                repeat' (first
                  | (refine And.intro (by omega) ?_; conv => whnf)
                  | (refine And.intro rfl ?_; conv => whnf)
                  | (refine And.intro (Nat.le_of_ble_eq_true rfl) ?_; conv => whnf)
                  | (refine And.intro (fun i hi => ⟨_, rfl⟩) ?_; conv => whnf)
                  | (refine And.intro (fun hq => ?_) (fun hq => ?_) <;> (first | (exfalso; simp at hq; done) | (exfalso; simp only [cond_true, cond_false, Bool.not_eq_true', Bool.not_eq_false', decide_eq_true_eq, decide_eq_false_iff_not] at hq; (try dsimp only at hq); omega) | (exfalso; simp at hq; omega) | ((try simp only [cond_true, cond_false, Bool.not_eq_true', Bool.not_eq_false', decide_eq_true_eq, decide_eq_false_iff_not] at hq); (try dsimp only at hq); (conv => whnf))))
                  | (refine fun hq => ?_; conv => whnf)
                  | (refine And.intro (by dsimp only; omega) ?_; conv => whnf)
                  | fail)
                refine ⟨i + 1, by omega, by dsimp only; omega, ?_⟩
                refine ⟨[], ?_⟩
                conv => whnf
                refine ⟨rfl, ?_, ?_⟩ <;> (repeat' (first | exact trivial | (exact bo_same _ (fun k hk => hFL.e _ k hk)) | (exact bo_same _ (fun k hk => hFH.e _ k hk)) | exact rfl | exact fun _ _ => rfl | apply And.intro | (intro i hi; rcases i with _ | _ | i <;> first | rfl | (exfalso; omega) | (simp at hi; done) | (simp at hi; omega)) | exact fun _ _ => by simp))
          · obtain rfl : i = n.rows.length := by omega
            conv => whnf
            repeat' (first
              | (refine And.intro (by omega) ?_; conv => whnf)
              | (refine And.intro rfl ?_; conv => whnf)
              | (refine And.intro (Nat.le_of_ble_eq_true rfl) ?_; conv => whnf)
              | (refine And.intro (fun i hi => ⟨_, rfl⟩) ?_; conv => whnf)
              | (refine And.intro (fun hq => ?_) (fun hq => ?_) <;> (first | (exfalso; simp at hq; done) | (exfalso; simp only [cond_true, cond_false, Bool.not_eq_true', Bool.not_eq_false', decide_eq_true_eq, decide_eq_false_iff_not] at hq; (try dsimp only at hq); omega) | (exfalso; simp at hq; omega) | ((try simp only [cond_true, cond_false, Bool.not_eq_true', Bool.not_eq_false', decide_eq_true_eq, decide_eq_false_iff_not] at hq); (try dsimp only at hq); (conv => whnf))))
              | (refine fun hq => ?_; conv => whnf)
              | (refine And.intro (by dsimp only; omega) ?_; conv => whnf)
              | fail)
            refine ⟨[], ?_⟩
            conv => whnf
            refine ⟨Nat, fun i => i ≤ n.kids.length, fun i => n.kids.length - i, fun i => [(4, exB false), (11, exI .i64 i)], fun i => [(49, .row 4 1 0 false D (boF (KL i))), (51, .row 4 1 0 false D (boF (KH i)))], ⟨0, by omega, ?_⟩, ?_⟩
            · skip
              refine ⟨[], ?_⟩
              conv => whnf
              refine ⟨rfl, ?_, ?_⟩ <;> (repeat' (first | exact trivial | (exact bo_same _ (fun k _ => (wL k).symm)) | (exact bo_same _ (fun k _ => (wH k).symm)) | exact rfl | exact fun _ _ => rfl | apply And.intro | (intro i hi; rcases i with _ | _ | i <;> first | rfl | (exfalso; omega) | (simp at hi; done) | (simp at hi; omega)) | exact fun _ _ => by simp))
            intro m hm
            conv => whnf
            rcases Nat.lt_or_ge m n.kids.length with hmt | hmg
            · have nl := oL m hmt
              have nh := oH m hmt
              by_cases hv : (n.kids.getD m default).live = 0
              · rw [decide_eq_true hv] at nl nh
                have hv' : (n.kids.getD ((m : Int)).toNat default).live = 0 := hv
                conv => whnf
                repeat' (first
                  | (refine And.intro (by omega) ?_; conv => whnf)
                  | (refine And.intro rfl ?_; conv => whnf)
                  | (refine And.intro (Nat.le_of_ble_eq_true rfl) ?_; conv => whnf)
                  | (refine And.intro (fun i hi => ⟨_, rfl⟩) ?_; conv => whnf)
                  | (refine And.intro (fun hq => ?_) (fun hq => ?_) <;> (first | (exfalso; simp at hq; done) | (exfalso; simp only [cond_true, cond_false, Bool.not_eq_true', Bool.not_eq_false', decide_eq_true_eq, decide_eq_false_iff_not] at hq; (try dsimp only at hq); omega) | (exfalso; simp at hq; omega) | ((try simp only [cond_true, cond_false, Bool.not_eq_true', Bool.not_eq_false', decide_eq_true_eq, decide_eq_false_iff_not] at hq); (try dsimp only at hq); (conv => whnf))))
                  | (refine fun hq => ?_; conv => whnf)
                  | (refine And.intro (by dsimp only; omega) ?_; conv => whnf)
                  | fail)
                refine ⟨m + 1, by omega, by dsimp only; omega, ?_⟩
                refine ⟨[], ?_⟩
                conv => whnf
                refine ⟨rfl, ?_, ?_⟩ <;> (repeat' (first | exact trivial | (exact bo_same _ (fun k hk => by rw [nl k]; simp)) | (exact bo_same _ (fun k hk => by rw [nh k]; simp)) | exact rfl | exact fun _ _ => rfl | apply And.intro | (intro i hi; rcases i with _ | _ | i <;> first | rfl | (exfalso; omega) | (simp at hi; done) | (simp at hi; omega)) | exact fun _ _ => by simp))
              · rw [decide_eq_false hv] at nl nh
                have hv' : ¬ (n.kids.getD ((m : Int)).toNat default).live = 0 := hv
                obtain ⟨k1, k2⟩ := hkid m hmt hv
                have c1 := rhas_yes ⟨(Pl.sayN n).lo, (Pl.sayN n).hi⟩ (n.kids.getD m default).lo k1
                have c2 := rhas_yes ⟨(Pl.sayN n).lo, (Pl.sayN n).hi⟩ (n.kids.getD m default).hi k2
                have kr := Pl.right_ne (b := ((n.kids.getD m default).lo, (n.kids.getD m default).hi)) (Pl.kid_rightB (hrt.kid m hmt) hv)
                have kr1 : (n.kids.getD ((m : Int)).toNat default).lo.length = D := kr.1
                have kr2 : (n.kids.getD ((m : Int)).toNat default).hi.length = D := kr.2.1
                conv => whnf
                repeat' (first
                  | (refine And.intro (by omega) ?_; conv => whnf)
                  | (refine And.intro rfl ?_; conv => whnf)
                  | (refine And.intro (Nat.le_of_ble_eq_true rfl) ?_; conv => whnf)
                  | (refine And.intro (fun i hi => ⟨_, rfl⟩) ?_; conv => whnf)
                  | (refine ⟨_, _, _, .flat _ _ rfl (c1) rfl, ?_⟩; conv => whnf)
                  | (refine ⟨_, _, _, .flat _ _ rfl (c2) rfl, ?_⟩; conv => whnf)
                  | (refine ⟨_, _, _, .flat _ _ rfl (ACall.arg ?harg (c1)) rfl, ?_⟩; (case harg => (repeat' (first | exact trivial | exact rfl | exact fun _ _ => rfl | apply And.intro | (intro i hi; rcases i with _ | _ | i <;> first | rfl | (exfalso; omega) | (simp at hi; done) | (simp at hi; omega)) | exact fun _ _ => by simp))); (conv => whnf))
                  | (refine ⟨_, _, _, .flat _ _ rfl (ACall.arg ?harg (c2)) rfl, ?_⟩; (case harg => (repeat' (first | exact trivial | exact rfl | exact fun _ _ => rfl | apply And.intro | (intro i hi; rcases i with _ | _ | i <;> first | rfl | (exfalso; omega) | (simp at hi; done) | (simp at hi; omega)) | exact fun _ _ => by simp))); (conv => whnf))
                  | (refine And.intro (fun hq => ?_) (fun hq => ?_) <;> (first | (exfalso; simp at hq; done) | (exfalso; simp only [cond_true, cond_false, Bool.not_eq_true', Bool.not_eq_false', decide_eq_true_eq, decide_eq_false_iff_not] at hq; (try dsimp only at hq); omega) | (exfalso; simp at hq; omega) | ((try simp only [cond_true, cond_false, Bool.not_eq_true', Bool.not_eq_false', decide_eq_true_eq, decide_eq_false_iff_not] at hq); (try dsimp only at hq); (conv => whnf))))
                  | (refine fun hq => ?_; conv => whnf)
                  | (refine And.intro (by dsimp only; omega) ?_; conv => whnf)
                  | fail)
                refine ⟨[], ?_⟩
                conv => whnf
                obtain ⟨FL, hFL⟩ := mix_ex (KL m) (KL (m + 1))
                obtain ⟨FH, hFH⟩ := mix_ex (KH m) (KH (m + 1))
                refine ⟨Nat, fun j => j ≤ D, fun j => D - j, fun j => [(4, exB false), (13, exI .i64 j)], fun j => [(49, .row 4 1 0 false D (boF (FL j))), (51, .row 4 1 0 false D (boF (FH j)))], ⟨0, by omega, ?_⟩, ?_⟩
                · skip
                  refine ⟨[], ?_⟩
                  conv => whnf
                  refine ⟨rfl, ?_, ?_⟩ <;> (repeat' (first | exact trivial | (exact bo_same _ (fun k hk => (hFL.z k).symm)) | (exact bo_same _ (fun k hk => (hFH.z k).symm)) | exact rfl | exact fun _ _ => rfl | apply And.intro | (intro i hi; rcases i with _ | _ | i <;> first | rfl | (exfalso; omega) | (simp at hi; done) | (simp at hi; omega)) | exact fun _ _ => by simp))
                intro j hj
                conv => whnf
                rcases Nat.lt_or_ge j D with hjt | hjg
                · clear k1 k2 kr c2
                  have ej : ((j : Int)).toNat = j := by omega
                  have nl := nl j
                  have nh := nh j
                  rw [← hFL.c j] at nl
                  rw [← hFH.c j] at nh
                  clear zL zH nL nH oL oH fL fH wL wH hrow hkid hbox hR q0 q1 q2 hz hl hbl hr0 hk0 hg h c1
                  conv => whnf
                  repeat' (first
                    | (refine And.intro (by omega) ?_; conv => whnf)
                    | (refine And.intro rfl ?_; conv => whnf)
                    | (refine And.intro (Nat.le_of_ble_eq_true rfl) ?_; conv => whnf)
                    | (refine And.intro (fun i hi => ⟨_, rfl⟩) ?_; conv => whnf)
                    | (refine And.intro (fun hq => ?_) (fun hq => ?_) <;> (first | (exfalso; simp at hq; done) | (exfalso; simp only [cond_true, cond_false, Bool.not_eq_true', Bool.not_eq_false', decide_eq_true_eq, decide_eq_false_iff_not] at hq; (try dsimp only at hq); omega) | (exfalso; simp at hq; omega) | ((try simp only [cond_true, cond_false, Bool.not_eq_true', Bool.not_eq_false', decide_eq_true_eq, decide_eq_false_iff_not] at hq); (try dsimp only at hq); (conv => whnf))))
                    | (refine fun hq => ?_; conv => whnf)
                    | (refine And.intro (by dsimp only; omega) ?_; conv => whnf)
                    | fail)
                  all_goals (rename_i u1; replace u1 : FL j j = _ := u1; have u2 : FH j j = _ := hq; rw [u1] at nl; rw [u2] at nh; refine ⟨j + 1, by omega, by dsimp only; omega, ?_⟩)
                  refine ⟨[], ?_⟩
                  conv => whnf
                  refine ⟨rfl, ?_, ?_⟩ <;> (repeat' (first | exact trivial | (exact store_bo hFL j _ _ ej (by rw [nl]; rfl) _) | (exact store_bo hFH j _ _ ej (by rw [nh]; rfl) _) | exact rfl | exact fun _ _ => rfl | apply And.intro | (intro i hi; rcases i with _ | _ | i <;> first | rfl | (exfalso; omega) | (simp at hi; done) | (simp at hi; omega)) | exact fun _ _ => by simp))
                  refine ⟨[], ?_⟩
                  conv => whnf
                  refine ⟨rfl, ?_, ?_⟩ <;> (repeat' (first | exact trivial | (exact store_bo hFL j _ _ ej (by rw [nl]; rfl) _) | (exact store_bo hFH j _ _ ej (by rw [nh]; rfl) _) | exact rfl | exact fun _ _ => rfl | apply And.intro | (intro i hi; rcases i with _ | _ | i <;> first | rfl | (exfalso; omega) | (simp at hi; done) | (simp at hi; omega)) | exact fun _ _ => by simp))
                  refine ⟨[], ?_⟩
                  conv => whnf
                  refine ⟨rfl, ?_, ?_⟩ <;> (repeat' (first | exact trivial | (exact store_bo hFL j _ _ ej (by rw [nl]; rfl) _) | (exact store_bo hFH j _ _ ej (by rw [nh]; rfl) _) | exact rfl | exact fun _ _ => rfl | apply And.intro | (intro i hi; rcases i with _ | _ | i <;> first | rfl | (exfalso; omega) | (simp at hi; done) | (simp at hi; omega)) | exact fun _ _ => by simp))
                  refine ⟨[], ?_⟩
                  conv => whnf
                  refine ⟨rfl, ?_, ?_⟩ <;> (repeat' (first | exact trivial | (exact store_bo hFL j _ _ ej (by rw [nl]; rfl) _) | (exact store_bo hFH j _ _ ej (by rw [nh]; rfl) _) | exact rfl | exact fun _ _ => rfl | apply And.intro | (intro i hi; rcases i with _ | _ | i <;> first | rfl | (exfalso; omega) | (simp at hi; done) | (simp at hi; omega)) | exact fun _ _ => by simp))
                · obtain rfl : j = D := by omega
                  conv => whnf
                  repeat' (first
                    | (refine And.intro (by omega) ?_; conv => whnf)
                    | (refine And.intro rfl ?_; conv => whnf)
                    | (refine And.intro (Nat.le_of_ble_eq_true rfl) ?_; conv => whnf)
                    | (refine And.intro (fun i hi => ⟨_, rfl⟩) ?_; conv => whnf)
                    | (refine And.intro (fun hq => ?_) (fun hq => ?_) <;> (first | (exfalso; simp at hq; done) | (exfalso; simp only [cond_true, cond_false, Bool.not_eq_true', Bool.not_eq_false', decide_eq_true_eq, decide_eq_false_iff_not] at hq; (try dsimp only at hq); omega) | (exfalso; simp at hq; omega) | ((try simp only [cond_true, cond_false, Bool.not_eq_true', Bool.not_eq_false', decide_eq_true_eq, decide_eq_false_iff_not] at hq); (try dsimp only at hq); (conv => whnf))))
                    | (refine fun hq => ?_; conv => whnf)
                    | (refine And.intro (by dsimp only; omega) ?_; conv => whnf)
                    | fail)
                  refine ⟨m + 1, by omega, by dsimp only; omega, ?_⟩
                  refine ⟨[], ?_⟩
                  conv => whnf
                  refine ⟨rfl, ?_, ?_⟩ <;> (repeat' (first | exact trivial | (exact bo_same _ (fun k hk => hFL.e _ k hk)) | (exact bo_same _ (fun k hk => hFH.e _ k hk)) | exact rfl | exact fun _ _ => rfl | apply And.intro | (intro i hi; rcases i with _ | _ | i <;> first | rfl | (exfalso; omega) | (simp at hi; done) | (simp at hi; omega)) | exact fun _ _ => by simp))
            · obtain rfl : m = n.kids.length := by omega
              conv => whnf
              repeat' (first
                | (refine And.intro (by omega) ?_; conv => whnf)
                | (refine And.intro rfl ?_; conv => whnf)
                | (refine And.intro (Nat.le_of_ble_eq_true rfl) ?_; conv => whnf)
                | (refine And.intro (fun i hi => ⟨_, rfl⟩) ?_; conv => whnf)
                | (refine And.intro (fun hq => ?_) (fun hq => ?_) <;> (first | (exfalso; simp at hq; done) | (exfalso; simp only [cond_true, cond_false, Bool.not_eq_true', Bool.not_eq_false', decide_eq_true_eq, decide_eq_false_iff_not] at hq; (try dsimp only at hq); omega) | (exfalso; simp at hq; omega) | ((try simp only [cond_true, cond_false, Bool.not_eq_true', Bool.not_eq_false', decide_eq_true_eq, decide_eq_false_iff_not] at hq); (try dsimp only at hq); (conv => whnf))))
                | (refine fun hq => ?_; conv => whnf)
                | (refine And.intro (by dsimp only; omega) ?_; conv => whnf)
                | fail)
              refine ⟨[], ?_⟩
              conv => whnf
              refine ⟨Nat, fun j => j ≤ D, fun j => D - j, fun j => [(4, exB false), (14, exI .i64 j)], fun j => [], ⟨0, by omega, ?_⟩, ?_⟩
              · skip
                refine ⟨[], ?_⟩
                conv => whnf
                refine ⟨rfl, ?_, ?_⟩ <;> (repeat' (first | exact trivial | exact rfl | exact fun _ _ => rfl | apply And.intro | (intro i hi; rcases i with _ | _ | i <;> first | rfl | (exfalso; omega) | (simp at hi; done) | (simp at hi; omega)) | exact fun _ _ => by simp))
              intro j hj
              conv => whnf
              rcases Nat.lt_or_ge j D with hjt | hjg
              · have f1 : KL n.kids.length ((j : Int)).toNat = true := fL j hjt
                have f2 : KH n.kids.length ((j : Int)).toNat = true := fH j hjt
                conv => whnf
                repeat' (first
                  | (refine And.intro (by omega) ?_; conv => whnf)
                  | (refine And.intro rfl ?_; conv => whnf)
                  | (refine And.intro (Nat.le_of_ble_eq_true rfl) ?_; conv => whnf)
                  | (refine And.intro (fun i hi => ⟨_, rfl⟩) ?_; conv => whnf)
                  | (refine And.intro (fun hq => ?_) (fun hq => ?_) <;> (first | (exfalso; simp at hq; done) | (exfalso; simp only [cond_true, cond_false, Bool.not_eq_true', Bool.not_eq_false', decide_eq_true_eq, decide_eq_false_iff_not] at hq; (try dsimp only at hq); omega) | (exfalso; simp at hq; omega) | ((try simp only [cond_true, cond_false, Bool.not_eq_true', Bool.not_eq_false', decide_eq_true_eq, decide_eq_false_iff_not] at hq); (try dsimp only at hq); (conv => whnf))))
                  | (refine fun hq => ?_; conv => whnf)
                  | (refine And.intro (by dsimp only; omega) ?_; conv => whnf)
                  | fail)
                all_goals first | (exfalso; rename_i u1; rw [f1] at u1; cases u1; done) | (exfalso; rw [f2] at hq; cases hq; done) | skip
                refine ⟨j + 1, by omega, by dsimp only; omega, ?_⟩
                refine ⟨[], ?_⟩
                conv => whnf
                refine ⟨rfl, ?_, ?_⟩ <;> (repeat' (first | exact trivial | exact rfl | exact fun _ _ => rfl | apply And.intro | (intro i hi; rcases i with _ | _ | i <;> first | rfl | (exfalso; omega) | (simp at hi; done) | (simp at hi; omega)) | exact fun _ _ => by simp))
              · obtain rfl : j = D := by omega
                conv => whnf
                repeat' (first
                  | (refine And.intro (by omega) ?_; conv => whnf)
                  | (refine And.intro rfl ?_; conv => whnf)
                  | (refine And.intro (Nat.le_of_ble_eq_true rfl) ?_; conv => whnf)
                  | (refine And.intro (fun i hi => ⟨_, rfl⟩) ?_; conv => whnf)
                  | (refine And.intro (fun hq => ?_) (fun hq => ?_) <;> (first | (exfalso; simp at hq; done) | (exfalso; simp only [cond_true, cond_false, Bool.not_eq_true', Bool.not_eq_false', decide_eq_true_eq, decide_eq_false_iff_not] at hq; (try dsimp only at hq); omega) | (exfalso; simp at hq; omega) | ((try simp only [cond_true, cond_false, Bool.not_eq_true', Bool.not_eq_false', decide_eq_true_eq, decide_eq_false_iff_not] at hq); (try dsimp only at hq); (conv => whnf))))
                  | (refine fun hq => ?_; conv => whnf)
                  | (refine And.intro (by dsimp only; omega) ?_; conv => whnf)
                  | fail)
                all_goals (repeat' (first | exact trivial | exact rfl | exact fun _ _ => rfl | apply And.intro | (intro i hi; rcases i with _ | _ | i <;> first | rfl | (exfalso; omega) | (simp at hi; done) | (simp at hi; omega)) | exact fun _ _ => by simp))
      · rw [if_neg hz] at q2
        conv => whnf
        repeat' (first
          | (refine And.intro (by omega) ?_; conv => whnf)
          | (refine And.intro rfl ?_; conv => whnf)
          | (refine And.intro (Nat.le_of_ble_eq_true rfl) ?_; conv => whnf)
          | (refine And.intro (fun i hi => ⟨_, rfl⟩) ?_; conv => whnf)
          | (refine ⟨_, _, _, .flat _ _ rfl (q0) rfl, ?_⟩; conv => whnf)
          | (refine ⟨_, _, _, .flat _ _ rfl (q1) rfl, ?_⟩; conv => whnf)
          | (refine ⟨_, _, _, .gen [] _ _ _ rfl (q2) rfl rfl rfl rfl rfl, ?_⟩; conv => whnf)
          | (refine ⟨_, _, _, .flat _ _ rfl (ACall.arg ?harg (q0)) rfl, ?_⟩; (case harg => (repeat' (first | exact trivial | exact rfl | exact fun _ _ => rfl | apply And.intro | (intro i hi; rcases i with _ | _ | i <;> first | rfl | (exfalso; omega) | (simp at hi; done) | (simp at hi; omega)) | exact fun _ _ => by simp))); (conv => whnf))
          | (refine ⟨_, _, _, .flat _ _ rfl (ACall.arg ?harg (q1)) rfl, ?_⟩; (case harg => (repeat' (first | exact trivial | exact rfl | exact fun _ _ => rfl | apply And.intro | (intro i hi; rcases i with _ | _ | i <;> first | rfl | (exfalso; omega) | (simp at hi; done) | (simp at hi; omega)) | exact fun _ _ => by simp))); (conv => whnf))
          | (refine ⟨_, _, _, .gen [] _ _ _ rfl (ACall.arg ?harg (q2)) rfl rfl rfl rfl rfl, ?_⟩; (case harg => (repeat' (first | exact trivial | exact rfl | exact fun _ _ => rfl | apply And.intro | (intro i hi; rcases i with _ | _ | i <;> first | rfl | (exfalso; omega) | (simp at hi; done) | (simp at hi; omega)) | exact fun _ _ => by simp))); (conv => whnf))
          | (refine And.intro (fun hq => ?_) (fun hq => ?_) <;> (first | (exfalso; simp at hq; done) | (exfalso; simp only [cond_true, cond_false, Bool.not_eq_true', Bool.not_eq_false', decide_eq_true_eq, decide_eq_false_iff_not] at hq; (try dsimp only at hq); omega) | (exfalso; simp at hq; omega) | ((try simp only [cond_true, cond_false, Bool.not_eq_true', Bool.not_eq_false', decide_eq_true_eq, decide_eq_false_iff_not] at hq); (try dsimp only at hq); (conv => whnf))))
          | (refine fun hq => ?_; conv => whnf)
          | (refine And.intro (by dsimp only; omega) ?_; conv => whnf)
          | fail)
        all_goals (repeat' (first | exact trivial | exact rfl | exact fun _ _ => rfl | apply And.intro | (intro i hi; rcases i with _ | _ | i <;> first | rfl | (exfalso; omega) | (simp at hi; done) | (simp at hi; omega)) | exact fun _ _ => by simp))
end Go.Proofs.Ytbidoddghdbaoaa
