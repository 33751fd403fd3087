/- box.all, box.Right, slices.Equal, box.Same, node.Same, node.Empty, node.KidRight. -/
import Derived.Test.YtbidoddghdbaoaaY22
set_option linter.unusedVariables false
set_option linter.unusedSimpArgs false
namespace Go.Proofs.Ytbidoddghdbaoaa
open Go.RowKit
set_option maxRecDepth 100000
set_option maxHeartbeats 1000000
theorem list_eq {α : Type} [DecidableEq α] {l m : List α} {d : α} (hl : l.length = m.length) (h : ∀ i, i < l.length → l.getD i d = m.getD i d) : l = m := by
  apply List.ext_getElem hl
  intro i h1 h2
  have := h i h1
  simpa [List.getD_eq_getElem?_getD, h1, h2] using this
theorem equal_any (l m : List Int) (h : l.length ≤ 1000000) : ACall Try.prog 56 [.d (i64L l), .d (i64L m)] [] (exB (decide (l = m))) [] := by
  refine acall_of (mu := []) mixed Try.func56 rfl rfl rfl ?_
  conv => whnf
  refine ⟨fun a => ?_, fun b => ?_⟩
  · have hne : l ≠ m := fun e => by subst e; simp at a
    rw [decide_eq_false hne]
    conv => whnf
    all_goals (repeat' (first | exact trivial | exact rfl | exact fun _ _ => rfl | apply And.intro | (intro i hi; rcases i with _ | _ | i <;> first | rfl | (exfalso; omega) | (simp at hi; done) | (simp at hi; omega)) | exact fun _ _ => by simp))
  · have hl : l.length = m.length := by simp at b; omega
    conv => whnf
    refine ⟨[], ?_⟩
    conv => whnf
    refine ⟨Nat, fun k => k ≤ l.length ∧ ∀ i, i < k → l.getD i 0 = m.getD i 0, fun k => l.length - k, fun k => [(4, exB false), (13, exI .i64 k)], fun _ => [], ⟨0, ⟨by omega, fun i hi => by omega⟩, ?_⟩, ?_⟩
    · skip
      refine ⟨[], ?_⟩
      conv => whnf
      refine ⟨rfl, ?_, ?_⟩ <;> (repeat' (first | exact trivial | exact rfl | exact fun _ _ => rfl | apply And.intro | (intro i hi; rcases i with _ | _ | i <;> first | rfl | (exfalso; omega) | (simp at hi; done) | (simp at hi; omega)) | exact fun _ _ => by simp))
    intro k ⟨hk, hn⟩
    conv => whnf
    repeat
      first
        | refine And.intro (by omega) ?_
        | refine And.intro rfl ?_
      conv => whnf
    refine ⟨fun hlt => ?_, fun hge => ?_⟩
    · have hlt : k < l.length := by simpa using hlt
      conv => whnf
      repeat
        first
          | refine And.intro (by omega) ?_
          | refine And.intro rfl ?_
        conv => whnf
      refine ⟨fun he => ?_, fun he => ?_⟩
      · have hne : l ≠ m := fun e => by subst e; simp at he
        rw [decide_eq_false hne]
        conv => whnf
        all_goals (repeat' (first | exact trivial | exact rfl | exact fun _ _ => rfl | apply And.intro | (intro i hi; rcases i with _ | _ | i <;> first | rfl | (exfalso; omega) | (simp at hi; done) | (simp at hi; omega)) | exact fun _ _ => by simp))
      · skip
        conv => whnf
        repeat
          first
            | refine And.intro (by omega) ?_
            | refine And.intro rfl ?_
          conv => whnf
        refine ⟨k + 1, ⟨by omega, fun i hi => ?_⟩, by dsimp only; omega, ?_⟩
        · rcases Nat.lt_or_ge i k with q | q
          · exact hn i q
          · obtain rfl : i = k := by omega
            simpa using he
        · skip
          refine ⟨[], ?_⟩
          conv => whnf
          refine ⟨rfl, ?_, ?_⟩ <;> (repeat' (first | exact trivial | exact rfl | exact fun _ _ => rfl | apply And.intro | (intro i hi; rcases i with _ | _ | i <;> first | rfl | (exfalso; omega) | (simp at hi; done) | (simp at hi; omega)) | exact fun _ _ => by simp))
    · have hge : ¬ k < l.length := by simpa using hge
      rw [decide_eq_true (list_eq hl fun i hi => hn i (by omega))]
      conv => whnf
      all_goals (repeat' (first | exact trivial | exact rfl | exact fun _ _ => rfl | apply And.intro | (intro i hi; rcases i with _ | _ | i <;> first | rfl | (exfalso; omega) | (simp at hi; done) | (simp at hi; omega)) | exact fun _ _ => by simp))
theorem right_cl (k : Nat) (lo hi : List Int) (h1 : k < lo.length) (h2 : k < hi.length) : ACall Try.prog 107 [exI .i64 k, .dp [i64L lo, i64L hi]] [] (exB (decide (lo.getD k 0 ≤ hi.getD k 0))) [] := by
  refine acall_of (mu := []) mixed Try.func107 rfl rfl rfl ?_
  conv => whnf
  repeat
    first
      | refine And.intro (by omega) ?_
      | refine And.intro rfl ?_
    conv => whnf
  all_goals (repeat' (first | exact trivial | exact rfl | exact fun _ _ => rfl | apply And.intro | (intro i hi; rcases i with _ | _ | i <;> first | rfl | (exfalso; omega) | (simp at hi; done) | (simp at hi; omega)) | exact fun _ _ => by simp))
def allTo (p : Nat → Bool) (n : Nat) : Bool := (List.range n).all p
theorem allTo_iff (p : Nat → Bool) (n : Nat) : allTo p n = true ↔ ∀ i, i < n → p i = true := by simp [allTo]
theorem allTo_no {p : Nat → Bool} {n k : Nat} (hk : k < n) (h : p k = false) : allTo p n = false := by
  rw [Bool.eq_false_iff]
  intro q
  rw [allTo_iff] at q
  rw [q k hk] at h; cases h
theorem all1_any (lo hi : List Int) (n : Nat) (hn : n ≤ 1000000) (f : Nat) (p : Nat → Bool) (hc : ∀ i : Nat, i < n → ACall Try.prog f [exI .i64 i, .dp [i64L lo, i64L hi]] [] (exB (p i)) []) : ACall Try.prog 106 [exI .i64 n, .fn (.func f) [] [.dp [i64L lo, i64L hi]]] [] (exB (allTo p n)) [] := by
  refine acall_of (mu := []) mixed Try.func106 rfl rfl rfl ?_
  conv => whnf
  refine ⟨[], ?_⟩
  conv => whnf
  refine ⟨Nat, fun k => k ≤ n ∧ ∀ i, i < k → p i = true, fun k => n - k, fun k => [(4, exB false), (7, exI .i64 k)], fun _ => [], ⟨0, ⟨by omega, fun i hi => by omega⟩, ?_⟩, ?_⟩
  · skip
    refine ⟨[], ?_⟩
    conv => whnf
    refine ⟨rfl, ?_, ?_⟩ <;> (repeat' (first | exact trivial | exact rfl | exact fun _ _ => rfl | apply And.intro | (intro i hi; rcases i with _ | _ | i <;> first | rfl | (exfalso; omega) | (simp at hi; done) | (simp at hi; omega)) | exact fun _ _ => by simp))
  intro k ⟨hk, hp⟩
  conv => whnf
  repeat
    first
      | refine And.intro (by omega) ?_
      | refine And.intro rfl ?_
    conv => whnf
  refine ⟨fun hlt => ?_, fun hge => ?_⟩
  · have hlt : k < n := by simpa using hlt
    conv => whnf
    repeat
      first
        | refine And.intro (by omega) ?_
        | refine And.intro rfl ?_
      conv => whnf
    refine ⟨_, _, _, .flat _ _ rfl (hc k hlt) rfl, ?_⟩
    conv => whnf
    refine ⟨fun he => ?_, fun he => ?_⟩
    · have he : p k = false := by simpa using he
      rw [allTo_no hlt he]
      conv => whnf
      all_goals (repeat' (first | exact trivial | exact rfl | exact fun _ _ => rfl | apply And.intro | (intro i hi; rcases i with _ | _ | i <;> first | rfl | (exfalso; omega) | (simp at hi; done) | (simp at hi; omega)) | exact fun _ _ => by simp))
    · have he : p k = true := by simpa using he
      conv => whnf
      repeat
        first
          | refine And.intro (by omega) ?_
          | refine And.intro rfl ?_
        conv => whnf
      refine ⟨k + 1, ⟨by omega, fun i hi => ?_⟩, by dsimp only; omega, ?_⟩
      · rcases Nat.lt_or_ge i k with q | q
        · exact hp i q
        · obtain rfl : i = k := by omega
          exact he
      · skip
        refine ⟨[], ?_⟩
        conv => whnf
        refine ⟨rfl, ?_, ?_⟩ <;> (repeat' (first | exact trivial | exact rfl | exact fun _ _ => rfl | apply And.intro | (intro i hi; rcases i with _ | _ | i <;> first | rfl | (exfalso; omega) | (simp at hi; done) | (simp at hi; omega)) | exact fun _ _ => by simp))
  · have hge : ¬ k < n := by simpa using hge
    rw [(allTo_iff p n).2 fun i hi => hp i (by omega)]
    conv => whnf
    all_goals (repeat' (first | exact trivial | exact rfl | exact fun _ _ => rfl | apply And.intro | (intro i hi; rcases i with _ | _ | i <;> first | rfl | (exfalso; omega) | (simp at hi; done) | (simp at hi; omega)) | exact fun _ _ => by simp))
structure BoxD where
  lo : List Int
  hi : List Int
deriving Inhabited
def boxL (b : BoxD) : List DV := [i64L b.lo, i64L b.hi]
def boxR (b : BoxD) (d : Int) : Bool := decide (1 ≤ d) && (decide (d ≤ 8) && (decide ((b.lo.length : Int) = d) && (decide ((b.hi.length : Int) = d) && allTo (fun i => decide (b.lo.getD i 0 ≤ b.hi.getD i 0)) d.toNat)))
theorem boxr_any (b : BoxD) (d : Int) (h1 : b.lo.length ≤ 1000000) (h2 : b.hi.length ≤ 1000000) : ACall Try.prog 68 [agD (boxL b), exI .i64 d] [] (exB (boxR b d)) [] := by
  refine acall_of (mu := []) mixed Try.func68 rfl rfl rfl ?_
  by_cases hd : 0 ≤ d
  · obtain ⟨n, rfl⟩ : ∃ n : Nat, d = n := ⟨d.toNat, by omega⟩
    by_cases hn : (b.lo.length : Int) = n ∧ (b.hi.length : Int) = n
    · skip
      conv => whnf
      repeat' (first
        | (refine And.intro (by omega) ?_; conv => whnf)
        | (refine And.intro rfl ?_; conv => whnf)
        | (refine And.intro (Nat.le_of_ble_eq_true rfl) ?_; conv => whnf)
        | (refine And.intro (fun i hi => ⟨_, rfl⟩) ?_; conv => whnf)
        | (refine ⟨_, _, _, .flat _ _ rfl (all1_any b.lo b.hi n (by omega) 107 (fun i => decide (b.lo.getD i 0 ≤ b.hi.getD i 0)) (fun i hi => right_cl i b.lo b.hi (by omega) (by omega))) rfl, ?_⟩; conv => whnf)
        | (refine ⟨_, _, _, .flat _ _ rfl (ACall.arg ?harg (all1_any b.lo b.hi n (by omega) 107 (fun i => decide (b.lo.getD i 0 ≤ b.hi.getD i 0)) (fun i hi => right_cl i b.lo b.hi (by omega) (by omega)))) rfl, ?_⟩; (case harg => (repeat' (first | exact trivial | exact rfl | exact fun _ _ => rfl | apply And.intro | (intro i hi; rcases i with _ | _ | i <;> first | rfl | (exfalso; omega) | (simp at hi; done) | (simp at hi; omega)) | exact fun _ _ => by simp))); (conv => whnf))
        | (refine And.intro (fun hq => ?_) (fun hq => ?_) <;> (first | (exfalso; simp at hq; done) | (exfalso; simp at *; omega) | (exfalso; simp_all; done) | (conv => whnf)))
        | (refine And.intro (by first | (show _ * 1 ≤ 140737488355328; omega) | (show _ * 8 ≤ _; omega) | (show _ * 24 ≤ _; omega) | (show _ * 16 ≤ _; omega) | (show _ * 32 ≤ _; omega) | (show _ * 120 ≤ _; omega) | (show _ * 280 ≤ _; omega) | (show _ * 72 ≤ _; omega) | (show _ * 48 ≤ _; omega)) ?_; conv => whnf)
        | (refine And.intro (by simp at *; omega) ?_; conv => whnf)
        | (refine fun hq => ?_; conv => whnf)
        | fail)
      all_goals first
        | exact trivial
        | (refine And.intro (congrArg Value.bool ?_) trivial; grind [boxR, hn])
        | (refine And.intro (congrArg Value.bool ?_) trivial; simp_all [boxR, hn]; done)
        | (refine And.intro (congrArg Value.bool ?_) trivial; simp [boxR, hn] at *; omega)
        | skip
    · skip
      conv => whnf
      repeat' (first
        | (refine And.intro (by omega) ?_; conv => whnf)
        | (refine And.intro rfl ?_; conv => whnf)
        | (refine And.intro (Nat.le_of_ble_eq_true rfl) ?_; conv => whnf)
        | (refine And.intro (fun i hi => ⟨_, rfl⟩) ?_; conv => whnf)
        | (refine And.intro (fun hq => ?_) (fun hq => ?_) <;> (first | (exfalso; simp at hq; done) | (exfalso; simp at *; omega) | (exfalso; simp_all; done) | (conv => whnf)))
        | (refine And.intro (by first | (show _ * 1 ≤ 140737488355328; omega) | (show _ * 8 ≤ _; omega) | (show _ * 24 ≤ _; omega) | (show _ * 16 ≤ _; omega) | (show _ * 32 ≤ _; omega) | (show _ * 120 ≤ _; omega) | (show _ * 280 ≤ _; omega) | (show _ * 72 ≤ _; omega) | (show _ * 48 ≤ _; omega)) ?_; conv => whnf)
        | (refine And.intro (by simp at *; omega) ?_; conv => whnf)
        | (refine fun hq => ?_; conv => whnf)
        | fail)
      all_goals first
        | exact trivial
        | (refine And.intro (congrArg Value.bool ?_) trivial; grind [boxR])
        | (refine And.intro (congrArg Value.bool ?_) trivial; simp_all [boxR]; done)
        | (refine And.intro (congrArg Value.bool ?_) trivial; simp [boxR] at *; omega)
        | skip
  · skip
    conv => whnf
    repeat' (first
      | (refine And.intro (by omega) ?_; conv => whnf)
      | (refine And.intro rfl ?_; conv => whnf)
      | (refine And.intro (Nat.le_of_ble_eq_true rfl) ?_; conv => whnf)
      | (refine And.intro (fun i hi => ⟨_, rfl⟩) ?_; conv => whnf)
      | (refine And.intro (fun hq => ?_) (fun hq => ?_) <;> (first | (exfalso; simp at hq; done) | (exfalso; simp at *; omega) | (exfalso; simp_all; done) | (conv => whnf)))
      | (refine And.intro (by first | (show _ * 1 ≤ 140737488355328; omega) | (show _ * 8 ≤ _; omega) | (show _ * 24 ≤ _; omega) | (show _ * 16 ≤ _; omega) | (show _ * 32 ≤ _; omega) | (show _ * 120 ≤ _; omega) | (show _ * 280 ≤ _; omega) | (show _ * 72 ≤ _; omega) | (show _ * 48 ≤ _; omega)) ?_; conv => whnf)
      | (refine And.intro (by simp at *; omega) ?_; conv => whnf)
      | (refine fun hq => ?_; conv => whnf)
      | fail)
    all_goals first
      | exact trivial
      | (refine And.intro (congrArg Value.bool ?_) trivial; grind [boxR])
      | (refine And.intro (congrArg Value.bool ?_) trivial; simp_all [boxR]; done)
      | (refine And.intro (congrArg Value.bool ?_) trivial; simp [boxR] at *; omega)
      | skip
end Go.Proofs.Ytbidoddghdbaoaa
