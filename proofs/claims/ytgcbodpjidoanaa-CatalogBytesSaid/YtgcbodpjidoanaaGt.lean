/- The reference's Name, Right (changes, boxes, kids, tables). -/
import Derived.Test.YtgcbodpjidoanaaGs
set_option linter.unusedVariables false
set_option linter.unusedSimpArgs false
namespace Go.Proofs.Ytgcbodpjidoanaa
open Go.RowKit
set_option maxRecDepth 100000
set_option maxHeartbeats 1000000
theorem nb_at (s : ByteArray) (k : Nat) : (nb s).getD k 0 = (s.data.toList.getD k 0).toNat := nb_getD0 s k
theorem qname_any (s : ByteArray) (hs : s.size ≤ 140737488351232) : ACall Try.prog 156 [exS s] [] (exB (nameB (nb s))) [] := by
  refine acall_of (mu := []) mixed Try.func156 rfl rfl rfl ?_
  conv => whnf
  repeat' (first
    | (refine And.intro (by omega) ?_; conv => whnf)
    | (refine And.intro rfl ?_; conv => whnf)
    | (refine And.intro (Nat.le_of_ble_eq_true rfl) ?_; conv => whnf)
    | (refine And.intro (fun i hi => ⟨_, rfl⟩) ?_; conv => whnf)
    | (refine And.intro (fun hq => ?_) (fun hq => ?_) <;> (first | (exfalso; simp at hq; done) | (exfalso; simp at *; omega) | (exfalso; simp_all; done) | (conv => whnf)))
    | (refine And.intro (by first | (show _ * 1 ≤ 140737488355328; omega) | (show _ * 8 ≤ 140737488355328; omega) | (show _ * 24 ≤ 140737488355328; omega) | (show _ * 16 ≤ 140737488355328; omega) | (show _ * 32 ≤ 140737488355328; omega) | (show _ * 120 ≤ 140737488355328; omega) | (show _ * 280 ≤ 140737488355328; omega) | (show _ * 72 ≤ 140737488355328; omega) | (show _ * 48 ≤ 140737488355328; omega)) ?_; conv => whnf)
    | (refine And.intro (by simp at *; omega) ?_; conv => whnf)
    | fail)
  refine ⟨[], ?_⟩
  conv => whnf
  refine ⟨Nat, fun k => k ≤ s.size ∧ okTo (nb s) k = true, fun k => s.size - k, fun k => [(3, exI .i64 k)], fun _ => [], ⟨0, ⟨by omega, rfl⟩, ?_⟩, ?_⟩
  · skip
    refine ⟨[], ?_⟩
    conv => whnf
    refine ⟨rfl, ?_, ?_⟩ <;> (repeat' (first | exact trivial | exact rfl | exact fun _ _ => rfl | apply And.intro | (intro i hi; rcases i with _ | _ | i <;> first | rfl | (exfalso; omega) | (simp at hi; done) | (simp at hi; omega)) | exact fun _ _ => by simp))
  intro k ⟨hk, hn⟩
  rcases Nat.lt_or_ge k s.size with hlt | hge
  · have no : okCh k (s.data.toList.getD k 0).toNat = false → nameB (nb s) = false := fun q => by
      unfold nameB
      rw [okTo_false (nb s) (k := k) (by rw [nb_len]; exact hlt) (by rw [nb_at]; exact q)]; rfl
    have ye : okCh k (s.data.toList.getD k 0).toNat = true → okTo (nb s) (k + 1) = true := fun q => by
      rw [okTo_succ, hn, nb_at, q]; rfl
    have hc : (s.data.toList.getD k 0).toNat < 256 := UInt8.toNat_lt _
    conv => whnf
    repeat' (first
      | (refine And.intro (by omega) ?_; conv => whnf)
      | (refine And.intro rfl ?_; conv => whnf)
      | (refine And.intro (Nat.le_of_ble_eq_true rfl) ?_; conv => whnf)
      | (refine And.intro (fun i hi => ⟨_, rfl⟩) ?_; conv => whnf)
      | (refine And.intro (fun hq => ?_) (fun hq => ?_) <;> (first | (exfalso; simp at hq; done) | (exfalso; simp at *; omega) | (exfalso; simp_all; done) | (conv => whnf)))
      | (refine And.intro (by first | (show _ * 1 ≤ 140737488355328; omega) | (show _ * 8 ≤ 140737488355328; omega) | (show _ * 24 ≤ 140737488355328; omega) | (show _ * 16 ≤ 140737488355328; omega) | (show _ * 32 ≤ 140737488355328; omega) | (show _ * 120 ≤ 140737488355328; omega) | (show _ * 280 ≤ 140737488355328; omega) | (show _ * 72 ≤ 140737488355328; omega) | (show _ * 48 ≤ 140737488355328; omega)) ?_; conv => whnf)
      | (refine And.intro (by simp at *; omega) ?_; conv => whnf)
      | fail)
    all_goals first
      | (refine ⟨k + 1, ⟨by omega, ye (by rw [okCh_iff]; simp at *; omega)⟩, by dsimp only; omega, [], ?_⟩; (conv => whnf); exact ⟨rfl, ⟨by (repeat' (first | exact trivial | exact rfl | exact fun _ _ => rfl | apply And.intro | (intro i hi; rcases i with _ | _ | i <;> first | rfl | (exfalso; omega) | (simp at hi; done) | (simp at hi; omega)) | exact fun _ _ => by simp)), trivial⟩, trivial⟩)
      | skip
    all_goals first
      | (refine And.intro (congrArg Value.bool ?_) trivial; rw [no (by rw [Bool.eq_false_iff]; intro z; rw [okCh_iff] at z; simp at *; omega)])
      | skip
  · obtain rfl : k = s.size := by omega
    rw [show nameB (nb s) = (decide (0 < s.size) && decide (s.size ≤ 16)) from name_end hn]
    conv => whnf
    repeat' (first
      | (refine And.intro (by omega) ?_; conv => whnf)
      | (refine And.intro rfl ?_; conv => whnf)
      | (refine And.intro (Nat.le_of_ble_eq_true rfl) ?_; conv => whnf)
      | (refine And.intro (fun i hi => ⟨_, rfl⟩) ?_; conv => whnf)
      | (refine And.intro (fun hq => ?_) (fun hq => ?_) <;> (first | (exfalso; simp at hq; done) | (exfalso; simp at *; omega) | (exfalso; simp_all; done) | (conv => whnf)))
      | (refine And.intro (by first | (show _ * 1 ≤ 140737488355328; omega) | (show _ * 8 ≤ 140737488355328; omega) | (show _ * 24 ≤ 140737488355328; omega) | (show _ * 16 ≤ 140737488355328; omega) | (show _ * 32 ≤ 140737488355328; omega) | (show _ * 120 ≤ 140737488355328; omega) | (show _ * 280 ≤ 140737488355328; omega) | (show _ * 72 ≤ 140737488355328; omega) | (show _ * 48 ≤ 140737488355328; omega)) ?_; conv => whnf)
      | (refine And.intro (by simp at *; omega) ?_; conv => whnf)
      | fail)
    all_goals first
      | exact trivial
      | (refine And.intro (congrArg Value.bool ?_) trivial; grind)
      | (refine And.intro (congrArg Value.bool ?_) trivial; simp_all []; done)
      | (refine And.intro (congrArg Value.bool ?_) trivial; simp [] at *; omega)
      | skip
theorem qboxr_any (b : BoxD) (d : Int) (h1 : b.lo.length ≤ 1000000) (h2 : b.hi.length ≤ 1000000) : ACall Try.prog 59 [agD (boxL b), exI .i64 d] [] (exB (boxR b d)) [] := by
  refine acall_of (mu := []) mixed Try.func59 rfl rfl rfl ?_
  by_cases hd : 1 ≤ d ∧ d ≤ 8 ∧ (b.lo.length : Int) = d ∧ (b.hi.length : Int) = d
  · obtain ⟨d1, d2, d3, d4⟩ := hd
    obtain ⟨n, rfl⟩ : ∃ n : Nat, d = n := ⟨d.toNat, by omega⟩
    have hr : boxR b n = allTo (fun i => decide (b.lo.getD i 0 ≤ b.hi.getD i 0)) n := by simp [boxR, d1, d2, d3, d4]
    rw [hr]
    conv => whnf
    repeat' (first
      | (refine And.intro (by omega) ?_; conv => whnf)
      | (refine And.intro rfl ?_; conv => whnf)
      | (refine And.intro (Nat.le_of_ble_eq_true rfl) ?_; conv => whnf)
      | (refine And.intro (fun i hi => ⟨_, rfl⟩) ?_; conv => whnf)
      | (refine And.intro (fun hq => ?_) (fun hq => ?_) <;> (first | (exfalso; simp at hq; done) | (exfalso; simp at *; omega) | (exfalso; simp_all; done) | (conv => whnf)))
      | (refine And.intro (by first | (show _ * 1 ≤ 140737488355328; omega) | (show _ * 8 ≤ 140737488355328; omega) | (show _ * 24 ≤ 140737488355328; omega) | (show _ * 16 ≤ 140737488355328; omega) | (show _ * 32 ≤ 140737488355328; omega) | (show _ * 120 ≤ 140737488355328; omega) | (show _ * 280 ≤ 140737488355328; omega) | (show _ * 72 ≤ 140737488355328; omega) | (show _ * 48 ≤ 140737488355328; omega)) ?_; conv => whnf)
      | (refine And.intro (by simp at *; omega) ?_; conv => whnf)
      | fail)
    refine ⟨[], ?_⟩
    conv => whnf
    refine ⟨Nat, fun k => k ≤ n ∧ ∀ i, i < k → decide (b.lo.getD i 0 ≤ b.hi.getD i 0) = true, fun k => n - k, fun k => [(5, exI .i64 k)], fun _ => [], ⟨0, ⟨by omega, fun i hi => by omega⟩, ?_⟩, ?_⟩
    · skip
      refine ⟨[], ?_⟩
      conv => whnf
      refine ⟨rfl, ?_, ?_⟩ <;> (repeat' (first | exact trivial | exact rfl | exact fun _ _ => rfl | apply And.intro | (intro i hi; rcases i with _ | _ | i <;> first | rfl | (exfalso; omega) | (simp at hi; done) | (simp at hi; omega)) | exact fun _ _ => by simp))
    intro k ⟨hk, hn⟩
    rcases Nat.lt_or_ge k n with hlt | hge
    · have no : decide (b.lo.getD k 0 ≤ b.hi.getD k 0) = false → allTo (fun i => decide (b.lo.getD i 0 ≤ b.hi.getD i 0)) n = false := fun q => allTo_no hlt q
      have ye : decide (b.lo.getD k 0 ≤ b.hi.getD k 0) = true → ∀ i, i < k + 1 → decide (b.lo.getD i 0 ≤ b.hi.getD i 0) = true := fun q i hi => by
        rcases Nat.lt_or_ge i k with p | p
        · exact hn i p
        · obtain rfl : i = k := by omega
          exact q
      conv => whnf
      repeat' (first
        | (refine And.intro (by omega) ?_; conv => whnf)
        | (refine And.intro rfl ?_; conv => whnf)
        | (refine And.intro (Nat.le_of_ble_eq_true rfl) ?_; conv => whnf)
        | (refine And.intro (fun i hi => ⟨_, rfl⟩) ?_; conv => whnf)
        | (refine And.intro (fun hq => ?_) (fun hq => ?_) <;> (first | (exfalso; simp at hq; done) | (exfalso; simp at *; omega) | (exfalso; simp_all; done) | (conv => whnf)))
        | (refine And.intro (by first | (show _ * 1 ≤ 140737488355328; omega) | (show _ * 8 ≤ 140737488355328; omega) | (show _ * 24 ≤ 140737488355328; omega) | (show _ * 16 ≤ 140737488355328; omega) | (show _ * 32 ≤ 140737488355328; omega) | (show _ * 120 ≤ 140737488355328; omega) | (show _ * 280 ≤ 140737488355328; omega) | (show _ * 72 ≤ 140737488355328; omega) | (show _ * 48 ≤ 140737488355328; omega)) ?_; conv => whnf)
        | (refine And.intro (by simp at *; omega) ?_; conv => whnf)
        | fail)
      all_goals first
        | (refine ⟨k + 1, ⟨by omega, ye (by simp at *; omega)⟩, by dsimp only; omega, [], ?_⟩; (conv => whnf); exact ⟨rfl, ⟨by (repeat' (first | exact trivial | exact rfl | exact fun _ _ => rfl | apply And.intro | (intro i hi; rcases i with _ | _ | i <;> first | rfl | (exfalso; omega) | (simp at hi; done) | (simp at hi; omega)) | exact fun _ _ => by simp)), trivial⟩, trivial⟩)
        | skip
      all_goals first
        | (refine And.intro (congrArg Value.bool ?_) trivial; rw [no (by simp at *; omega)])
        | skip
    · have ha := (allTo_iff (fun i => decide (b.lo.getD i 0 ≤ b.hi.getD i 0)) n).2 fun i hi => hn i (by omega)
      conv => whnf
      repeat' (first
        | (refine And.intro (by omega) ?_; conv => whnf)
        | (refine And.intro rfl ?_; conv => whnf)
        | (refine And.intro (Nat.le_of_ble_eq_true rfl) ?_; conv => whnf)
        | (refine And.intro (fun i hi => ⟨_, rfl⟩) ?_; conv => whnf)
        | (refine And.intro (fun hq => ?_) (fun hq => ?_) <;> (first | (exfalso; simp at hq; done) | (exfalso; simp at *; omega) | (exfalso; simp_all; done) | (conv => whnf)))
        | (refine And.intro (by first | (show _ * 1 ≤ 140737488355328; omega) | (show _ * 8 ≤ 140737488355328; omega) | (show _ * 24 ≤ 140737488355328; omega) | (show _ * 16 ≤ 140737488355328; omega) | (show _ * 32 ≤ 140737488355328; omega) | (show _ * 120 ≤ 140737488355328; omega) | (show _ * 280 ≤ 140737488355328; omega) | (show _ * 72 ≤ 140737488355328; omega) | (show _ * 48 ≤ 140737488355328; omega)) ?_; conv => whnf)
        | (refine And.intro (by simp at *; omega) ?_; conv => whnf)
        | fail)
      all_goals first
        | exact trivial
        | (refine And.intro (congrArg Value.bool ?_) trivial; grind)
        | (refine And.intro (congrArg Value.bool ?_) trivial; simp_all []; done)
        | (refine And.intro (congrArg Value.bool ?_) trivial; simp [] at *; omega)
        | skip
  · skip
    conv => whnf
    repeat' (first
      | (refine And.intro (by omega) ?_; conv => whnf)
      | (refine And.intro rfl ?_; conv => whnf)
      | (refine And.intro (Nat.le_of_ble_eq_true rfl) ?_; conv => whnf)
      | (refine And.intro (fun i hi => ⟨_, rfl⟩) ?_; conv => whnf)
      | (refine And.intro (fun hq => ?_) (fun hq => ?_) <;> (first | (exfalso; simp at hq; done) | (exfalso; simp at *; omega) | (exfalso; simp_all; done) | (conv => whnf)))
      | (refine And.intro (by first | (show _ * 1 ≤ 140737488355328; omega) | (show _ * 8 ≤ 140737488355328; omega) | (show _ * 24 ≤ 140737488355328; omega) | (show _ * 16 ≤ 140737488355328; omega) | (show _ * 32 ≤ 140737488355328; omega) | (show _ * 120 ≤ 140737488355328; omega) | (show _ * 280 ≤ 140737488355328; omega) | (show _ * 72 ≤ 140737488355328; omega) | (show _ * 48 ≤ 140737488355328; omega)) ?_; conv => whnf)
      | (refine And.intro (by simp at *; omega) ?_; conv => whnf)
      | fail)
    all_goals first
      | exact trivial
      | (refine And.intro (congrArg Value.bool ?_) trivial; grind [boxR])
      | (refine And.intro (congrArg Value.bool ?_) trivial; simp_all [boxR]; done)
      | (refine And.intro (congrArg Value.bool ?_) trivial; simp [boxR] at *; omega)
      | skip
theorem qempty_any (a : KidD) (h : a.small) : ACall Try.prog 25 [agD (kidL a)] [] (exB (kidS a kid0)) [] := by
  refine acall_of (mu := []) mixed Try.func25 rfl rfl rfl ?_
  conv => whnf
  repeat' (first
    | (refine And.intro (by omega) ?_; conv => whnf)
    | (refine And.intro rfl ?_; conv => whnf)
    | (refine And.intro (Nat.le_of_ble_eq_true rfl) ?_; conv => whnf)
    | (refine And.intro (fun i hi => ⟨_, rfl⟩) ?_; conv => whnf)
    | (refine ⟨_, _, _, .flat _ _ rfl (rksame_ok a kid0 h) rfl, ?_⟩; conv => whnf)
    | (refine ⟨_, _, _, .flat _ _ rfl (ACall.arg ?harg (rksame_ok a kid0 h)) rfl, ?_⟩; (case harg => (repeat' (first | exact trivial | exact rfl | exact fun _ _ => rfl | apply And.intro | (intro i hi; rcases i with _ | _ | i <;> first | rfl | (exfalso; omega) | (simp at hi; done) | (simp at hi; omega)) | exact fun _ _ => by simp))); (conv => whnf))
    | (refine And.intro (fun hq => ?_) (fun hq => ?_) <;> (first | (exfalso; simp at hq; done) | (exfalso; simp at *; omega) | (exfalso; simp_all; done) | (conv => whnf)))
    | (refine And.intro (by first | (show _ * 1 ≤ 140737488355328; omega) | (show _ * 8 ≤ 140737488355328; omega) | (show _ * 24 ≤ 140737488355328; omega) | (show _ * 16 ≤ 140737488355328; omega) | (show _ * 32 ≤ 140737488355328; omega) | (show _ * 120 ≤ 140737488355328; omega) | (show _ * 280 ≤ 140737488355328; omega) | (show _ * 72 ≤ 140737488355328; omega) | (show _ * 48 ≤ 140737488355328; omega)) ?_; conv => whnf)
    | (refine And.intro (by simp at *; omega) ?_; conv => whnf)
    | fail)
  all_goals first
    | exact trivial
    | (refine And.intro (congrArg Value.bool ?_) trivial; grind [kidS])
    | (refine And.intro (congrArg Value.bool ?_) trivial; simp_all [kidS]; done)
    | (refine And.intro (congrArg Value.bool ?_) trivial; simp [kidS] at *; omega)
    | skip
theorem kidr_zero (a : KidD) (d : Int) (q1 : kidS a kid0 = false) (q2 : decide (a.size < 1) = false) (q3 : (bif false then true else decide (1048576 < a.size)) = false) (q4 : (bif false then true else decide (a.live < 0)) = false) (q5 : (bif false then true else decide (a.size < a.live)) = false) (q6 : decide (a.live = 0) = true) : decide ((a.lo.length : Int) + (a.hi.length : Int) = 0) = kidR a d := by
  simp only [cond_false, decide_eq_false_iff_not, decide_eq_true_eq] at q2 q3 q4 q5 q6
  rw [kidR, q1, if_pos q6, decide_eq_true (p := 1 ≤ a.size) (by omega), decide_eq_true (p := a.size ≤ 1048576) (by omega), decide_eq_true (p := 0 ≤ a.live) (by omega), decide_eq_true (p := a.live ≤ a.size) (by omega)]
  rw [Bool.eq_iff_iff]; simp only [Bool.and_eq_true, Bool.false_or, Bool.true_and, decide_eq_true_eq]; omega
theorem qkidr_any (a : KidD) (d : Int) (h : a.small) : ACall Try.prog 21 [agD (kidL a), exI .i64 d] [] (exB (kidR a d)) [] := by
  obtain ⟨h1, h2, h3⟩ := h
  refine acall_of (mu := []) mixed Try.func21 rfl rfl rfl ?_
  conv => whnf
  repeat' (first
    | (refine And.intro (by omega) ?_; conv => whnf)
    | (refine And.intro rfl ?_; conv => whnf)
    | (refine And.intro (Nat.le_of_ble_eq_true rfl) ?_; conv => whnf)
    | (refine And.intro (fun i hi => ⟨_, rfl⟩) ?_; conv => whnf)
    | (refine ⟨_, _, _, .flat _ _ rfl (qempty_any a ⟨h1, h2, h3⟩) rfl, ?_⟩; conv => whnf)
    | (refine ⟨_, _, _, .flat _ _ rfl (qboxr_any a.bx d h1 h2) rfl, ?_⟩; conv => whnf)
    | (refine ⟨_, _, _, .flat _ _ rfl (ACall.arg ?harg (qempty_any a ⟨h1, h2, h3⟩)) rfl, ?_⟩; (case harg => (repeat' (first | exact trivial | exact rfl | exact fun _ _ => rfl | apply And.intro | (intro i hi; rcases i with _ | _ | i <;> first | rfl | (exfalso; omega) | (simp at hi; done) | (simp at hi; omega)) | exact fun _ _ => by simp))); (conv => whnf))
    | (refine ⟨_, _, _, .flat _ _ rfl (ACall.arg ?harg (qboxr_any a.bx d h1 h2)) rfl, ?_⟩; (case harg => (repeat' (first | exact trivial | exact rfl | exact fun _ _ => rfl | apply And.intro | (intro i hi; rcases i with _ | _ | i <;> first | rfl | (exfalso; omega) | (simp at hi; done) | (simp at hi; omega)) | exact fun _ _ => by simp))); (conv => whnf))
    | (refine And.intro (fun hq => ?_) (fun hq => ?_) <;> (first | (exfalso; simp at hq; done) | (exfalso; simp at *; omega) | (exfalso; simp_all; done) | (conv => whnf)))
    | (refine And.intro (by first | (show _ * 1 ≤ 140737488355328; omega) | (show _ * 8 ≤ 140737488355328; omega) | (show _ * 24 ≤ 140737488355328; omega) | (show _ * 16 ≤ 140737488355328; omega) | (show _ * 32 ≤ 140737488355328; omega) | (show _ * 120 ≤ 140737488355328; omega) | (show _ * 280 ≤ 140737488355328; omega) | (show _ * 72 ≤ 140737488355328; omega) | (show _ * 48 ≤ 140737488355328; omega)) ?_; conv => whnf)
    | (refine And.intro (by simp at *; omega) ?_; conv => whnf)
    | fail)
  all_goals first
    | (rename_i q1 q2 q3 q4 q5; exact ⟨congrArg Value.bool (kidr_zero a d q1 q2 q3 q4 q5 hq), trivial⟩)
    | skip
  all_goals first
    | exact trivial
    | (refine And.intro (congrArg Value.bool ?_) trivial; grind [kidR])
    | (refine And.intro (congrArg Value.bool ?_) trivial; simp_all [kidR]; done)
    | (refine And.intro (congrArg Value.bool ?_) trivial; simp [kidR] at *; omega)
    | skip
theorem idx_has {l : List ByteArray} {s : ByteArray} {j n : Nat} (hj : j < n) (e : l.getD j default = s) : 0 ≤ idxN l s n := by
  unfold idxN
  cases hq : (List.range n).find? (fun i => decide (l.getD i default = s)) with
  | none =>
    rw [List.find?_range_eq_none] at hq
    have := hq j hj
    rw [e] at this
    simp at this
  | some k => simp
theorem qop1_any (nm : ByteArray) (l : List ByteArray) (h0 : shortS nm) (h : l.length ≤ 1000000) (hs : ∀ i, shortS (l.getD i default)) : ACall Try.prog 79 [agD (opL ⟨1, nm, l, []⟩)] [] (exB (opR ⟨1, nm, l, []⟩)) [] := by
  refine acall_of (mu := []) mixed Try.func79 rfl rfl rfl ?_
  have hr : opR ⟨1, nm, l, []⟩ = (nameB (nb nm) && colsOk l) := by simp [opR]
  rw [hr]
  cases hnm : nameB (nb nm) with
  | false =>
    have q := qname_any nm h0
    rw [hnm] at q
    conv => whnf
    repeat' (first
      | (refine And.intro (by omega) ?_; conv => whnf)
      | (refine And.intro rfl ?_; conv => whnf)
      | (refine And.intro (Nat.le_of_ble_eq_true rfl) ?_; conv => whnf)
      | (refine And.intro (fun i hi => ⟨_, rfl⟩) ?_; conv => whnf)
      | (refine ⟨_, _, _, .flat _ _ rfl (q) rfl, ?_⟩; conv => whnf)
      | (refine ⟨_, _, _, .flat _ _ rfl (ACall.arg ?harg (q)) rfl, ?_⟩; (case harg => (repeat' (first | exact trivial | exact rfl | exact fun _ _ => rfl | apply And.intro | (intro i hi; rcases i with _ | _ | i <;> first | rfl | (exfalso; omega) | (simp at hi; done) | (simp at hi; omega)) | exact fun _ _ => by simp))); (conv => whnf))
      | (refine And.intro (fun hq => ?_) (fun hq => ?_) <;> (first | (exfalso; simp at hq; done) | (exfalso; simp at *; omega) | (exfalso; simp_all; done) | (conv => whnf)))
      | (refine And.intro (by first | (show _ * 1 ≤ 140737488355328; omega) | (show _ * 8 ≤ 140737488355328; omega) | (show _ * 24 ≤ 140737488355328; omega) | (show _ * 16 ≤ 140737488355328; omega) | (show _ * 32 ≤ 140737488355328; omega) | (show _ * 120 ≤ 140737488355328; omega) | (show _ * 280 ≤ 140737488355328; omega) | (show _ * 72 ≤ 140737488355328; omega) | (show _ * 48 ≤ 140737488355328; omega)) ?_; conv => whnf)
      | (refine And.intro (by simp at *; omega) ?_; conv => whnf)
      | fail)
    all_goals first | exact trivial | exact ⟨rfl, by (repeat' (first | exact trivial | exact rfl | exact fun _ _ => rfl | apply And.intro | (intro i hi; rcases i with _ | _ | i <;> first | rfl | (exfalso; omega) | (simp at hi; done) | (simp at hi; omega)) | exact fun _ _ => by simp)), trivial⟩ | exact ⟨by (repeat' (first | exact trivial | exact rfl | exact fun _ _ => rfl | apply And.intro | (intro i hi; rcases i with _ | _ | i <;> first | rfl | (exfalso; omega) | (simp at hi; done) | (simp at hi; omega)) | exact fun _ _ => by simp)), trivial⟩ | exact ⟨by (repeat' (first | exact trivial | exact rfl | exact fun _ _ => rfl | apply And.intro | (intro i hi; rcases i with _ | _ | i <;> first | rfl | (exfalso; omega) | (simp at hi; done) | (simp at hi; omega)) | exact fun _ _ => by simp)), by (repeat' (first | exact trivial | exact rfl | exact fun _ _ => rfl | apply And.intro | (intro i hi; rcases i with _ | _ | i <;> first | rfl | (exfalso; omega) | (simp at hi; done) | (simp at hi; omega)) | exact fun _ _ => by simp))⟩ | exact ⟨rfl, by (repeat' (first | exact trivial | exact rfl | exact fun _ _ => rfl | apply And.intro | (intro i hi; rcases i with _ | _ | i <;> first | rfl | (exfalso; omega) | (simp at hi; done) | (simp at hi; omega)) | exact fun _ _ => by simp)), by (repeat' (first | exact trivial | exact rfl | exact fun _ _ => rfl | apply And.intro | (intro i hi; rcases i with _ | _ | i <;> first | rfl | (exfalso; omega) | (simp at hi; done) | (simp at hi; omega)) | exact fun _ _ => by simp))⟩
  | true =>
    have q := qname_any nm h0
    rw [hnm] at q
    conv => whnf
    repeat' (first
      | (refine And.intro (by omega) ?_; conv => whnf)
      | (refine And.intro rfl ?_; conv => whnf)
      | (refine And.intro (Nat.le_of_ble_eq_true rfl) ?_; conv => whnf)
      | (refine And.intro (fun i hi => ⟨_, rfl⟩) ?_; conv => whnf)
      | (refine ⟨_, _, _, .flat _ _ rfl (q) rfl, ?_⟩; conv => whnf)
      | (refine ⟨_, _, _, .flat _ _ rfl (ACall.arg ?harg (q)) rfl, ?_⟩; (case harg => (repeat' (first | exact trivial | exact rfl | exact fun _ _ => rfl | apply And.intro | (intro i hi; rcases i with _ | _ | i <;> first | rfl | (exfalso; omega) | (simp at hi; done) | (simp at hi; omega)) | exact fun _ _ => by simp))); (conv => whnf))
      | (refine And.intro (fun hq => ?_) (fun hq => ?_) <;> (first | (exfalso; simp at hq; done) | (exfalso; simp at *; omega) | (exfalso; simp_all; done) | (conv => whnf)))
      | (refine And.intro (by first | (show _ * 1 ≤ 140737488355328; omega) | (show _ * 8 ≤ 140737488355328; omega) | (show _ * 24 ≤ 140737488355328; omega) | (show _ * 16 ≤ 140737488355328; omega) | (show _ * 32 ≤ 140737488355328; omega) | (show _ * 120 ≤ 140737488355328; omega) | (show _ * 280 ≤ 140737488355328; omega) | (show _ * 72 ≤ 140737488355328; omega) | (show _ * 48 ≤ 140737488355328; omega)) ?_; conv => whnf)
      | (refine And.intro (by simp at *; omega) ?_; conv => whnf)
      | fail)
    refine ⟨[], ?_⟩
    conv => whnf
    refine ⟨Nat, fun k => k ≤ l.length ∧ ∀ i, i < k → colOk l i = true, fun k => l.length - k, fun k => [(3, exI .i64 k)], fun _ => [], ⟨0, ⟨by omega, fun i hi => by omega⟩, ?_⟩, ?_⟩
    · skip
      refine ⟨[], ?_⟩
      conv => whnf
      refine ⟨rfl, ?_, ?_⟩ <;> (repeat' (first | exact trivial | exact rfl | exact fun _ _ => rfl | apply And.intro | (intro i hi; rcases i with _ | _ | i <;> first | rfl | (exfalso; omega) | (simp at hi; done) | (simp at hi; omega)) | exact fun _ _ => by simp))
    intro k ⟨hk, hn⟩
    rcases Nat.lt_or_ge k l.length with hlt | hge
    · have no : colOk l k = false → colsOk l = false := fun q => by unfold colsOk; rw [allTo_no hlt q]; rfl
      have ye : colOk l k = true → ∀ i, i < k + 1 → colOk l i = true := fun q i hi => by
        rcases Nat.lt_or_ge i k with p | p
        · exact hn i p
        · obtain rfl : i = k := by omega
          exact q
      have qk := qname_any (l.getD k default) (hs k)
      cases hx : nameB (nb (l.getD k default)) with
      | false =>
        have n1 : colsOk l = false := no (by simp only [colOk, hx, Bool.false_and])
        rw [hx] at qk
        conv => whnf
        repeat' (first
          | (refine And.intro (by omega) ?_; conv => whnf)
          | (refine And.intro rfl ?_; conv => whnf)
          | (refine And.intro (Nat.le_of_ble_eq_true rfl) ?_; conv => whnf)
          | (refine And.intro (fun i hi => ⟨_, rfl⟩) ?_; conv => whnf)
          | (refine ⟨_, _, _, .flat _ _ rfl (qk) rfl, ?_⟩; conv => whnf)
          | (refine ⟨_, _, _, .flat _ _ rfl (ACall.arg ?harg (qk)) rfl, ?_⟩; (case harg => (repeat' (first | exact trivial | exact rfl | exact fun _ _ => rfl | apply And.intro | (intro i hi; rcases i with _ | _ | i <;> first | rfl | (exfalso; omega) | (simp at hi; done) | (simp at hi; omega)) | exact fun _ _ => by simp))); (conv => whnf))
          | (refine And.intro (fun hq => ?_) (fun hq => ?_) <;> (first | (exfalso; simp at hq; done) | (exfalso; simp at *; omega) | (exfalso; simp_all; done) | (conv => whnf)))
          | (refine And.intro (by first | (show _ * 1 ≤ 140737488355328; omega) | (show _ * 8 ≤ 140737488355328; omega) | (show _ * 24 ≤ 140737488355328; omega) | (show _ * 16 ≤ 140737488355328; omega) | (show _ * 32 ≤ 140737488355328; omega) | (show _ * 120 ≤ 140737488355328; omega) | (show _ * 280 ≤ 140737488355328; omega) | (show _ * 72 ≤ 140737488355328; omega) | (show _ * 48 ≤ 140737488355328; omega)) ?_; conv => whnf)
          | (refine And.intro (by simp at *; omega) ?_; conv => whnf)
          | fail)
        all_goals first
          | (refine And.intro (congrArg Value.bool ?_) trivial; rw [n1]; rfl)
          | skip
      | true =>
      rw [hx] at qk
      by_cases hi : l.getD k default = ⟨#[105, 100]⟩
      · have n1 : colsOk l = false := no (by rw [colOk, show l.getD k default = idS from hi]; simp)
        conv => whnf
        repeat' (first
          | (refine And.intro (by omega) ?_; conv => whnf)
          | (refine And.intro rfl ?_; conv => whnf)
          | (refine And.intro (Nat.le_of_ble_eq_true rfl) ?_; conv => whnf)
          | (refine And.intro (fun i hi => ⟨_, rfl⟩) ?_; conv => whnf)
          | (refine ⟨_, _, _, .flat _ _ rfl (qk) rfl, ?_⟩; conv => whnf)
          | (refine ⟨_, _, _, .flat _ _ rfl (ACall.arg ?harg (qk)) rfl, ?_⟩; (case harg => (repeat' (first | exact trivial | exact rfl | exact fun _ _ => rfl | apply And.intro | (intro i hi; rcases i with _ | _ | i <;> first | rfl | (exfalso; omega) | (simp at hi; done) | (simp at hi; omega)) | exact fun _ _ => by simp))); (conv => whnf))
          | (refine And.intro (fun hq => ?_) (fun hq => ?_) <;> (first | (exfalso; simp at hq; done) | (exfalso; simp at *; omega) | (exfalso; simp_all; done) | (conv => whnf)))
          | (refine And.intro (by first | (show _ * 1 ≤ 140737488355328; omega) | (show _ * 8 ≤ 140737488355328; omega) | (show _ * 24 ≤ 140737488355328; omega) | (show _ * 16 ≤ 140737488355328; omega) | (show _ * 32 ≤ 140737488355328; omega) | (show _ * 120 ≤ 140737488355328; omega) | (show _ * 280 ≤ 140737488355328; omega) | (show _ * 72 ≤ 140737488355328; omega) | (show _ * 48 ≤ 140737488355328; omega)) ?_; conv => whnf)
          | (refine And.intro (by simp at *; omega) ?_; conv => whnf)
          | fail)
        all_goals first
          | (refine And.intro (congrArg Value.bool ?_) trivial; rw [n1]; rfl)
          | skip
      have hi' : decide (l.getD k default = idS) = false := decide_eq_false hi
      conv => whnf
      repeat' (first
        | (refine And.intro (by omega) ?_; conv => whnf)
        | (refine And.intro rfl ?_; conv => whnf)
        | (refine And.intro (Nat.le_of_ble_eq_true rfl) ?_; conv => whnf)
        | (refine And.intro (fun i hi => ⟨_, rfl⟩) ?_; conv => whnf)
        | (refine ⟨_, _, _, .flat _ _ rfl (qk) rfl, ?_⟩; conv => whnf)
        | (refine ⟨_, _, _, .flat _ _ rfl (ACall.arg ?harg (qk)) rfl, ?_⟩; (case harg => (repeat' (first | exact trivial | exact rfl | exact fun _ _ => rfl | apply And.intro | (intro i hi; rcases i with _ | _ | i <;> first | rfl | (exfalso; omega) | (simp at hi; done) | (simp at hi; omega)) | exact fun _ _ => by simp))); (conv => whnf))
        | (refine And.intro (fun hq => ?_) (fun hq => ?_) <;> (first | (exfalso; simp at hq; done) | (exfalso; simp at *; omega) | (exfalso; simp_all; done) | (conv => whnf)))
        | (refine And.intro (by first | (show _ * 1 ≤ 140737488355328; omega) | (show _ * 8 ≤ 140737488355328; omega) | (show _ * 24 ≤ 140737488355328; omega) | (show _ * 16 ≤ 140737488355328; omega) | (show _ * 32 ≤ 140737488355328; omega) | (show _ * 120 ≤ 140737488355328; omega) | (show _ * 280 ≤ 140737488355328; omega) | (show _ * 72 ≤ 140737488355328; omega) | (show _ * 48 ≤ 140737488355328; omega)) ?_; conv => whnf)
        | (refine And.intro (by simp at *; omega) ?_; conv => whnf)
        | fail)
      refine ⟨[], ?_⟩
      conv => whnf
      refine ⟨Nat, fun j => j ≤ k ∧ ∀ i, i < j → l.getD i default ≠ l.getD k default, fun j => k - j, fun j => [(4, exI .i64 j)], fun _ => [], ⟨0, ⟨by omega, fun i hi => by omega⟩, ?_⟩, ?_⟩
      · skip
        refine ⟨[], ?_⟩
        conv => whnf
        refine ⟨rfl, ?_, ?_⟩ <;> (repeat' (first | exact trivial | exact rfl | exact fun _ _ => rfl | apply And.intro | (intro i hi; rcases i with _ | _ | i <;> first | rfl | (exfalso; omega) | (simp at hi; done) | (simp at hi; omega)) | exact fun _ _ => by simp))
      intro j ⟨hj, hm⟩
      rcases Nat.lt_or_ge j k with hjl | hjg
      · by_cases he : l.getD j default = l.getD k default
        · have n1 : colsOk l = false := no (by simp only [colOk, hx, hi', idx_has hjl he, decide_true, Bool.not_true, Bool.and_false])
          conv => whnf
          repeat' (first
            | (refine And.intro (by omega) ?_; conv => whnf)
            | (refine And.intro rfl ?_; conv => whnf)
            | (refine And.intro (Nat.le_of_ble_eq_true rfl) ?_; conv => whnf)
            | (refine And.intro (fun i hi => ⟨_, rfl⟩) ?_; conv => whnf)
            | (refine And.intro (fun hq => ?_) (fun hq => ?_) <;> (first | (exfalso; simp at hq; done) | (exfalso; simp at *; omega) | (exfalso; simp_all; done) | (conv => whnf)))
            | (refine And.intro (by first | (show _ * 1 ≤ 140737488355328; omega) | (show _ * 8 ≤ 140737488355328; omega) | (show _ * 24 ≤ 140737488355328; omega) | (show _ * 16 ≤ 140737488355328; omega) | (show _ * 32 ≤ 140737488355328; omega) | (show _ * 120 ≤ 140737488355328; omega) | (show _ * 280 ≤ 140737488355328; omega) | (show _ * 72 ≤ 140737488355328; omega) | (show _ * 48 ≤ 140737488355328; omega)) ?_; conv => whnf)
            | (refine And.intro (by simp at *; omega) ?_; conv => whnf)
            | fail)
          all_goals first
            | (refine And.intro (congrArg Value.bool ?_) trivial; rw [n1]; rfl)
            | skip
        · have hs' : ∀ i, i < j + 1 → l.getD i default ≠ l.getD k default := fun i hi => by
            rcases Nat.lt_or_ge i j with p | p
            · exact hm i p
            · obtain rfl : i = j := by omega
              exact he
          conv => whnf
          repeat' (first
            | (refine And.intro (by omega) ?_; conv => whnf)
            | (refine And.intro rfl ?_; conv => whnf)
            | (refine And.intro (Nat.le_of_ble_eq_true rfl) ?_; conv => whnf)
            | (refine And.intro (fun i hi => ⟨_, rfl⟩) ?_; conv => whnf)
            | (refine And.intro (fun hq => ?_) (fun hq => ?_) <;> (first | (exfalso; simp at hq; done) | (exfalso; simp at *; omega) | (exfalso; simp_all; done) | (conv => whnf)))
            | (refine And.intro (by first | (show _ * 1 ≤ 140737488355328; omega) | (show _ * 8 ≤ 140737488355328; omega) | (show _ * 24 ≤ 140737488355328; omega) | (show _ * 16 ≤ 140737488355328; omega) | (show _ * 32 ≤ 140737488355328; omega) | (show _ * 120 ≤ 140737488355328; omega) | (show _ * 280 ≤ 140737488355328; omega) | (show _ * 72 ≤ 140737488355328; omega) | (show _ * 48 ≤ 140737488355328; omega)) ?_; conv => whnf)
            | (refine And.intro (by simp at *; omega) ?_; conv => whnf)
            | fail)
          all_goals first
            | (refine ⟨j + 1, ⟨by omega, hs'⟩, by dsimp only; omega, [], ?_⟩; (conv => whnf); exact ⟨rfl, ⟨by (repeat' (first | exact trivial | exact rfl | exact fun _ _ => rfl | apply And.intro | (intro i hi; rcases i with _ | _ | i <;> first | rfl | (exfalso; omega) | (simp at hi; done) | (simp at hi; omega)) | exact fun _ _ => by simp)), trivial⟩, trivial⟩)
            | skip
      · obtain rfl : j = k := by omega
        have y1 : ∀ i, i < j + 1 → colOk l i = true := ye (by simp only [colOk, hx, hi', idx_no hm]; rfl)
        conv => whnf
        repeat' (first
          | (refine And.intro (by omega) ?_; conv => whnf)
          | (refine And.intro rfl ?_; conv => whnf)
          | (refine And.intro (Nat.le_of_ble_eq_true rfl) ?_; conv => whnf)
          | (refine And.intro (fun i hi => ⟨_, rfl⟩) ?_; conv => whnf)
          | (refine And.intro (fun hq => ?_) (fun hq => ?_) <;> (first | (exfalso; simp at hq; done) | (exfalso; simp at *; omega) | (exfalso; simp_all; done) | (conv => whnf)))
          | (refine And.intro (by first | (show _ * 1 ≤ 140737488355328; omega) | (show _ * 8 ≤ 140737488355328; omega) | (show _ * 24 ≤ 140737488355328; omega) | (show _ * 16 ≤ 140737488355328; omega) | (show _ * 32 ≤ 140737488355328; omega) | (show _ * 120 ≤ 140737488355328; omega) | (show _ * 280 ≤ 140737488355328; omega) | (show _ * 72 ≤ 140737488355328; omega) | (show _ * 48 ≤ 140737488355328; omega)) ?_; conv => whnf)
          | (refine And.intro (by simp at *; omega) ?_; conv => whnf)
          | fail)
        all_goals first
          | (refine ⟨j + 1, ⟨by omega, y1⟩, by dsimp only; omega, [], ?_⟩; (conv => whnf); exact ⟨rfl, ⟨by (repeat' (first | exact trivial | exact rfl | exact fun _ _ => rfl | apply And.intro | (intro i hi; rcases i with _ | _ | i <;> first | rfl | (exfalso; omega) | (simp at hi; done) | (simp at hi; omega)) | exact fun _ _ => by simp)), trivial⟩, trivial⟩)
          | skip
    · have ha := (allTo_iff (colOk l) l.length).2 fun i hi => hn i (by omega)
      conv => whnf
      repeat' (first
        | (refine And.intro (by omega) ?_; conv => whnf)
        | (refine And.intro rfl ?_; conv => whnf)
        | (refine And.intro (Nat.le_of_ble_eq_true rfl) ?_; conv => whnf)
        | (refine And.intro (fun i hi => ⟨_, rfl⟩) ?_; conv => whnf)
        | (refine And.intro (fun hq => ?_) (fun hq => ?_) <;> (first | (exfalso; simp at hq; done) | (exfalso; simp at *; omega) | (exfalso; simp_all; done) | (conv => whnf)))
        | (refine And.intro (by first | (show _ * 1 ≤ 140737488355328; omega) | (show _ * 8 ≤ 140737488355328; omega) | (show _ * 24 ≤ 140737488355328; omega) | (show _ * 16 ≤ 140737488355328; omega) | (show _ * 32 ≤ 140737488355328; omega) | (show _ * 120 ≤ 140737488355328; omega) | (show _ * 280 ≤ 140737488355328; omega) | (show _ * 72 ≤ 140737488355328; omega) | (show _ * 48 ≤ 140737488355328; omega)) ?_; conv => whnf)
        | (refine And.intro (by simp at *; omega) ?_; conv => whnf)
        | fail)
      all_goals first
        | exact trivial
        | (refine And.intro (congrArg Value.bool ?_) trivial; grind [colsOk])
        | (refine And.intro (congrArg Value.bool ?_) trivial; simp_all [colsOk]; done)
        | (refine And.intro (congrArg Value.bool ?_) trivial; simp [colsOk] at *; omega)
        | skip
theorem qtright_ok (t : TableD) (h : t.small) : ACall Try.prog 43 [agD (tableL t)] [] (exB (tabR t)) [] := by
  obtain ⟨h1, h2, h3, h4, h5⟩ := h
  refine acall_of (mu := []) mixed Try.func43 rfl rfl rfl ?_
  conv => whnf
  repeat' (first
    | (refine And.intro (by omega) ?_; conv => whnf)
    | (refine And.intro rfl ?_; conv => whnf)
    | (refine And.intro (Nat.le_of_ble_eq_true rfl) ?_; conv => whnf)
    | (refine And.intro (fun i hi => ⟨_, rfl⟩) ?_; conv => whnf)
    | (refine ⟨_, _, _, .flat _ _ rfl (qop1_any t.name t.cols h1 (Nat.le_trans h2 (by omega)) h3) rfl, ?_⟩; conv => whnf)
    | (refine ⟨_, _, _, .flat _ _ rfl (qkidr_any t.kd _ h4) rfl, ?_⟩; conv => whnf)
    | (refine ⟨_, _, _, .flat _ _ rfl (qkidr_any t.zb _ h5) rfl, ?_⟩; conv => whnf)
    | (refine ⟨_, _, _, .flat _ _ rfl (qempty_any t.zb h5) rfl, ?_⟩; conv => whnf)
    | (refine ⟨_, _, _, .flat _ _ rfl (ACall.arg ?harg (qop1_any t.name t.cols h1 (Nat.le_trans h2 (by omega)) h3)) rfl, ?_⟩; (case harg => (repeat' (first | exact trivial | exact rfl | exact fun _ _ => rfl | apply And.intro | (intro i hi; rcases i with _ | _ | i <;> first | rfl | (exfalso; omega) | (simp at hi; done) | (simp at hi; omega)) | exact fun _ _ => by simp))); (conv => whnf))
    | (refine ⟨_, _, _, .flat _ _ rfl (ACall.arg ?harg (qkidr_any t.kd _ h4)) rfl, ?_⟩; (case harg => (repeat' (first | exact trivial | exact rfl | exact fun _ _ => rfl | apply And.intro | (intro i hi; rcases i with _ | _ | i <;> first | rfl | (exfalso; omega) | (simp at hi; done) | (simp at hi; omega)) | exact fun _ _ => by simp))); (conv => whnf))
    | (refine ⟨_, _, _, .flat _ _ rfl (ACall.arg ?harg (qkidr_any t.zb _ h5)) rfl, ?_⟩; (case harg => (repeat' (first | exact trivial | exact rfl | exact fun _ _ => rfl | apply And.intro | (intro i hi; rcases i with _ | _ | i <;> first | rfl | (exfalso; omega) | (simp at hi; done) | (simp at hi; omega)) | exact fun _ _ => by simp))); (conv => whnf))
    | (refine ⟨_, _, _, .flat _ _ rfl (ACall.arg ?harg (qempty_any t.zb h5)) rfl, ?_⟩; (case harg => (repeat' (first | exact trivial | exact rfl | exact fun _ _ => rfl | apply And.intro | (intro i hi; rcases i with _ | _ | i <;> first | rfl | (exfalso; omega) | (simp at hi; done) | (simp at hi; omega)) | exact fun _ _ => by simp))); (conv => whnf))
    | (refine And.intro (fun hq => ?_) (fun hq => ?_) <;> (first | (exfalso; simp at hq; done) | (exfalso; simp at *; omega) | (exfalso; simp_all; done) | (conv => whnf)))
    | (refine And.intro (by first | (show _ * 1 ≤ 140737488355328; omega) | (show _ * 8 ≤ 140737488355328; omega) | (show _ * 24 ≤ 140737488355328; omega) | (show _ * 16 ≤ 140737488355328; omega) | (show _ * 32 ≤ 140737488355328; omega) | (show _ * 120 ≤ 140737488355328; omega) | (show _ * 280 ≤ 140737488355328; omega) | (show _ * 72 ≤ 140737488355328; omega) | (show _ * 48 ≤ 140737488355328; omega)) ?_; conv => whnf)
    | (refine And.intro (by simp at *; omega) ?_; conv => whnf)
    | fail)
  all_goals first
    | exact trivial
    | (refine And.intro (congrArg Value.bool ?_) trivial; grind [tabR])
    | (refine And.intro (congrArg Value.bool ?_) trivial; simp_all [tabR]; done)
    | (refine And.intro (congrArg Value.bool ?_) trivial; simp [tabR] at *; omega)
    | skip
theorem blt_not : ∀ x y : List UInt8, (Op.bytesLess x y || decide (x = y)) = !Op.bytesLess y x
  | [], [] => by simp [Op.bytesLess]
  | _ :: _, [] => by simp [Op.bytesLess]
  | [], _ :: _ => by simp [Op.bytesLess]
  | a :: x, b :: y => by
    have ih := blt_not x y
    simp only [Op.bytesLess]
    rcases Nat.lt_trichotomy a.toNat b.toNat with h | h | h
    · have h1 : a < b := UInt8.lt_iff_toNat_lt.2 h
      have h2 : ¬ b < a := fun q => by have := UInt8.lt_iff_toNat_lt.1 q; omega
      have h3 : ¬ b = a := fun q => by subst q; omega
      simp [h1, h2, h3]
    · obtain rfl : a = b := UInt8.toNat_inj.1 h
      have h1 : ¬ a < a := fun q => by have := UInt8.lt_iff_toNat_lt.1 q; omega
      simpa [h1] using ih
    · have h1 : b < a := UInt8.lt_iff_toNat_lt.2 h
      have h2 : ¬ a < b := fun q => by have := UInt8.lt_iff_toNat_lt.1 q; omega
      have h3 : ¬ a = b := fun q => by subst q; omega
      simp [h1, h2, h3]
theorem le_blt (a b : ByteArray) : (Op.bytesLess a.toList b.toList || decide (a = b)) = !Op.bytesLess b.toList a.toList := by
  rw [← blt_not, ← str_beq]
  congr 1
  rw [Bool.eq_iff_iff]; simp
theorem qright_ok (l : List TableD) (h : l.length ≤ 1000) (hs : ∀ i, (l.getD i default).small) : ACall Try.prog 41 [.d (tablesL l)] [] (exB (tabsR l)) [] := by
  refine acall_of (mu := []) mixed Try.func41 rfl rfl rfl ?_
  conv => whnf
  refine ⟨[], ?_⟩
  conv => whnf
  refine ⟨Nat, fun k => k ≤ l.length ∧ ∀ i, i < k → tabAt l i = true, fun k => l.length - k, fun k => [(3, exI .i64 k)], fun _ => [], ⟨0, ⟨by omega, fun i hi => by omega⟩, ?_⟩, ?_⟩
  · skip
    refine ⟨[], ?_⟩
    conv => whnf
    refine ⟨rfl, ?_, ?_⟩ <;> (repeat' (first | exact trivial | exact rfl | exact fun _ _ => rfl | apply And.intro | (intro i hi; rcases i with _ | _ | i <;> first | rfl | (exfalso; omega) | (simp at hi; done) | (simp at hi; omega)) | exact fun _ _ => by simp))
  intro k ⟨hk, hn⟩
  rcases Nat.lt_or_ge k l.length with hlt | hge
  · have no : tabAt l k = false → tabsR l = false := fun q => by unfold tabsR; rw [allTo_no hlt q]; rfl
    have ye : tabAt l k = true → ∀ i, i < k + 1 → tabAt l i = true := fun q i hi => by
      rcases Nat.lt_or_ge i k with p | p
      · exact hn i p
      · obtain rfl : i = k := by omega
        exact q
    have hle := le_blt (l.getD k default).name (l.getD (k - 1) default).name
    conv => whnf
    repeat' (first
      | (refine And.intro (by omega) ?_; conv => whnf)
      | (refine And.intro rfl ?_; conv => whnf)
      | (refine And.intro (Nat.le_of_ble_eq_true rfl) ?_; conv => whnf)
      | (refine And.intro (fun i hi => ⟨_, rfl⟩) ?_; conv => whnf)
      | (refine ⟨_, _, _, .flat _ _ rfl (qtright_ok (l.getD k default) (hs k)) rfl, ?_⟩; conv => whnf)
      | (refine ⟨_, _, _, .flat _ _ rfl (ACall.arg ?harg (qtright_ok (l.getD k default) (hs k))) rfl, ?_⟩; (case harg => (repeat' (first | exact trivial | exact rfl | exact fun _ _ => rfl | apply And.intro | (intro i hi; rcases i with _ | _ | i <;> first | rfl | (exfalso; omega) | (simp at hi; done) | (simp at hi; omega)) | exact fun _ _ => by simp))); (conv => whnf))
      | (refine And.intro (fun hq => ?_) (fun hq => ?_) <;> (first | (exfalso; simp at hq; done) | (exfalso; simp at *; omega) | (exfalso; simp_all; done) | (conv => whnf)))
      | (refine And.intro (by first | (show _ * 1 ≤ 140737488355328; omega) | (show _ * 8 ≤ 140737488355328; omega) | (show _ * 24 ≤ 140737488355328; omega) | (show _ * 16 ≤ 140737488355328; omega) | (show _ * 32 ≤ 140737488355328; omega) | (show _ * 120 ≤ 140737488355328; omega) | (show _ * 280 ≤ 140737488355328; omega) | (show _ * 72 ≤ 140737488355328; omega) | (show _ * 48 ≤ 140737488355328; omega)) ?_; conv => whnf)
      | (refine And.intro (by simp at *; omega) ?_; conv => whnf)
      | fail)
    all_goals first
      | (refine ⟨k + 1, ⟨by omega, ye (by unfold tabAt; simp at *; grind)⟩, by dsimp only; omega, [], ?_⟩; (conv => whnf); exact ⟨rfl, ⟨by (repeat' (first | exact trivial | exact rfl | exact fun _ _ => rfl | apply And.intro | (intro i hi; rcases i with _ | _ | i <;> first | rfl | (exfalso; omega) | (simp at hi; done) | (simp at hi; omega)) | exact fun _ _ => by simp)), trivial⟩, trivial⟩)
      | skip
    all_goals first
      | (refine And.intro (congrArg Value.bool ?_) trivial; rw [no (by unfold tabAt; simp at *; grind)])
      | skip
  · have hge : ¬ k < l.length := by omega
    have ha := (allTo_iff (tabAt l) l.length).2 fun i hi => hn i (by omega)
    conv => whnf
    repeat' (first
      | (refine And.intro (by omega) ?_; conv => whnf)
      | (refine And.intro rfl ?_; conv => whnf)
      | (refine And.intro (Nat.le_of_ble_eq_true rfl) ?_; conv => whnf)
      | (refine And.intro (fun i hi => ⟨_, rfl⟩) ?_; conv => whnf)
      | (refine And.intro (fun hq => ?_) (fun hq => ?_) <;> (first | (exfalso; simp at hq; done) | (exfalso; simp at *; omega) | (exfalso; simp_all; done) | (conv => whnf)))
      | (refine And.intro (by first | (show _ * 1 ≤ 140737488355328; omega) | (show _ * 8 ≤ 140737488355328; omega) | (show _ * 24 ≤ 140737488355328; omega) | (show _ * 16 ≤ 140737488355328; omega) | (show _ * 32 ≤ 140737488355328; omega) | (show _ * 120 ≤ 140737488355328; omega) | (show _ * 280 ≤ 140737488355328; omega) | (show _ * 72 ≤ 140737488355328; omega) | (show _ * 48 ≤ 140737488355328; omega)) ?_; conv => whnf)
      | (refine And.intro (by simp at *; omega) ?_; conv => whnf)
      | fail)
    all_goals first
      | exact trivial
      | (refine And.intro (congrArg Value.bool ?_) trivial; grind [tabsR])
      | (refine And.intro (congrArg Value.bool ?_) trivial; simp_all [tabsR]; done)
      | (refine And.intro (congrArg Value.bool ?_) trivial; simp [tabsR] at *; omega)
      | skip
end Go.Proofs.Ytgcbodpjidoanaa
