/- The reference's SameNode; chapter 10's examples; which nodes are too great to look at. -/
import Derived.Test.YtbidoddghdbaoaaY46
import Derived.Test.YtbidoddghdbaoaaY47
set_option linter.unusedVariables false
set_option linter.unusedSimpArgs false
namespace Go.Proofs.Ytbidoddghdbaoaa
open Go.RowKit
open Kd (nPut nGet)
set_option maxRecDepth 100000
set_option maxHeartbeats 4000000
theorem rsamenode_self (n : NodeD) (h : Pl.NodeOk n) : ACall Try.prog 32 [agD (nodeL n), agD (nodeL n)] [] (exB true) [] := by
  have h1 := h.rows
  have h2 := h.kids
  refine acall_on (mu := []) [] [] mixed Try.func32 rfl rfl rfl ?_
  conv => whnf
  repeat' (first
    | (refine And.intro (by omega) ?_; conv => whnf)
    | (refine And.intro rfl ?_; conv => whnf)
    | (refine And.intro (Nat.le_of_ble_eq_true rfl) ?_; conv => whnf)
    | (refine And.intro (fun i hi => ⟨_, rfl⟩) ?_; conv => whnf)
    | (refine And.intro (fun hq => ?_) (fun hq => ?_) <;> (first | (exfalso; simp at hq; done) | (exfalso; simp only [cond_true, cond_false, Bool.not_eq_true', Bool.not_eq_false', decide_eq_true_eq, decide_eq_false_iff_not] at hq; (try dsimp only at hq); omega) | (exfalso; simp at hq; omega) | ((try simp only [cond_true, cond_false, Bool.not_eq_true', Bool.not_eq_false', decide_eq_true_eq, decide_eq_false_iff_not] at hq); (try dsimp only at hq); (conv => whnf))))
    | (refine fun hq => ?_; conv => whnf)
    | (refine And.intro (by first | (show _ * 1 ≤ 140737488355328; omega) | (show _ * 8 ≤ _; omega) | (show _ * 24 ≤ _; omega) | (show _ * 16 ≤ _; omega) | (show _ * 32 ≤ _; omega) | (show _ * 120 ≤ _; omega) | (show _ * 280 ≤ _; omega) | (show _ * 72 ≤ _; omega) | (show _ * 48 ≤ _; omega)) ?_; conv => whnf)
    | (refine And.intro (by dsimp only; omega) ?_; conv => whnf)
    | fail)
  refine ⟨[], ?_⟩
  conv => whnf
  refine ⟨Nat, fun i => i ≤ n.rows.length, fun i => n.rows.length - i, fun i => [(4, exB false), (5, exI .i64 i)], fun _ => [], ⟨0, by omega, ?_⟩, ?_⟩
  · skip
    refine ⟨[], ?_⟩
    conv => whnf
    refine ⟨rfl, ?_, ?_⟩ <;> (repeat' (first | exact trivial | exact rfl | exact fun _ _ => rfl | apply And.intro | (intro i hi; rcases i with _ | _ | i <;> first | rfl | (exfalso; omega) | (simp at hi; done) | (simp at hi; omega)) | exact fun _ _ => by simp))
  intro i hi
  conv => whnf
  rcases Nat.lt_or_ge i n.rows.length with hlt | hge
  · have q := rsamerow_ok (n.rows.getD i default).row (n.rows.getD i default).row (h.row i hlt).2
    rw [decide_eq_true rfl] at q
    conv => whnf
    repeat' (first
      | (refine And.intro (by omega) ?_; conv => whnf)
      | (refine And.intro rfl ?_; conv => whnf)
      | (refine And.intro (Nat.le_of_ble_eq_true rfl) ?_; conv => whnf)
      | (refine And.intro (fun i hi => ⟨_, rfl⟩) ?_; conv => whnf)
      | (refine ⟨_, _, _, .flat _ _ rfl (q) rfl, ?_⟩; conv => whnf)
      | (refine ⟨_, _, _, .flat _ _ rfl (ACall.arg ?harg (q)) rfl, ?_⟩; (case harg => (repeat' (first | exact trivial | exact rfl | exact fun _ _ => rfl | apply And.intro | (intro i hi; rcases i with _ | _ | i <;> first | rfl | (exfalso; omega) | (simp at hi; done) | (simp at hi; omega)) | exact fun _ _ => by simp))); (conv => whnf))
      | (refine And.intro (fun hq => ?_) (fun hq => ?_) <;> (first | (exfalso; simp at hq; done) | (exfalso; simp only [cond_true, cond_false, Bool.not_eq_true', Bool.not_eq_false', decide_eq_true_eq, decide_eq_false_iff_not] at hq; (try dsimp only at hq); omega) | (exfalso; simp at hq; omega) | ((try simp only [cond_true, cond_false, Bool.not_eq_true', Bool.not_eq_false', decide_eq_true_eq, decide_eq_false_iff_not] at hq); (try dsimp only at hq); (conv => whnf))))
      | (refine fun hq => ?_; conv => whnf)
      | (refine And.intro (by first | (show _ * 1 ≤ 140737488355328; omega) | (show _ * 8 ≤ _; omega) | (show _ * 24 ≤ _; omega) | (show _ * 16 ≤ _; omega) | (show _ * 32 ≤ _; omega) | (show _ * 120 ≤ _; omega) | (show _ * 280 ≤ _; omega) | (show _ * 72 ≤ _; omega) | (show _ * 48 ≤ _; omega)) ?_; conv => whnf)
      | (refine And.intro (by dsimp only; omega) ?_; conv => whnf)
      | fail)
    refine ⟨i + 1, by omega, by dsimp only; omega, ?_⟩
    refine ⟨[], ?_⟩
    conv => whnf
    refine ⟨rfl, ?_, ?_⟩ <;> (repeat' (first | exact trivial | exact rfl | exact fun _ _ => rfl | apply And.intro | (intro i hi; rcases i with _ | _ | i <;> first | rfl | (exfalso; omega) | (simp at hi; done) | (simp at hi; omega)) | exact fun _ _ => by simp))
  · obtain rfl : i = n.rows.length := by omega
    conv => whnf
    repeat' (first
      | (refine And.intro (by omega) ?_; conv => whnf)
      | (refine And.intro rfl ?_; conv => whnf)
      | (refine And.intro (Nat.le_of_ble_eq_true rfl) ?_; conv => whnf)
      | (refine And.intro (fun i hi => ⟨_, rfl⟩) ?_; conv => whnf)
      | (refine And.intro (fun hq => ?_) (fun hq => ?_) <;> (first | (exfalso; simp at hq; done) | (exfalso; simp only [cond_true, cond_false, Bool.not_eq_true', Bool.not_eq_false', decide_eq_true_eq, decide_eq_false_iff_not] at hq; (try dsimp only at hq); omega) | (exfalso; simp at hq; omega) | ((try simp only [cond_true, cond_false, Bool.not_eq_true', Bool.not_eq_false', decide_eq_true_eq, decide_eq_false_iff_not] at hq); (try dsimp only at hq); (conv => whnf))))
      | (refine fun hq => ?_; conv => whnf)
      | (refine And.intro (by first | (show _ * 1 ≤ 140737488355328; omega) | (show _ * 8 ≤ _; omega) | (show _ * 24 ≤ _; omega) | (show _ * 16 ≤ _; omega) | (show _ * 32 ≤ _; omega) | (show _ * 120 ≤ _; omega) | (show _ * 280 ≤ _; omega) | (show _ * 72 ≤ _; omega) | (show _ * 48 ≤ _; omega)) ?_; conv => whnf)
      | (refine And.intro (by dsimp only; omega) ?_; conv => whnf)
      | fail)
    refine ⟨[], ?_⟩
    conv => whnf
    refine ⟨Nat, fun j => j ≤ n.kids.length, fun j => n.kids.length - j, fun j => [(4, exB false), (6, exI .i64 j)], fun _ => [], ⟨0, by omega, ?_⟩, ?_⟩
    · skip
      refine ⟨[], ?_⟩
      conv => whnf
      refine ⟨rfl, ?_, ?_⟩ <;> (repeat' (first | exact trivial | exact rfl | exact fun _ _ => rfl | apply And.intro | (intro i hi; rcases i with _ | _ | i <;> first | rfl | (exfalso; omega) | (simp at hi; done) | (simp at hi; omega)) | exact fun _ _ => by simp))
    intro j hj
    conv => whnf
    rcases Nat.lt_or_ge j n.kids.length with hjt | hjg
    · have ho := h.kid j hjt
      have q := rksame_ok (n.kids.getD j default) (n.kids.getD j default) ⟨ho.lo, ho.hi, ho.key⟩
      rw [kidS_eq ho.s ho.s, decide_eq_true rfl] at q
      conv => whnf
      repeat' (first
        | (refine And.intro (by omega) ?_; conv => whnf)
        | (refine And.intro rfl ?_; conv => whnf)
        | (refine And.intro (Nat.le_of_ble_eq_true rfl) ?_; conv => whnf)
        | (refine And.intro (fun i hi => ⟨_, rfl⟩) ?_; conv => whnf)
        | (refine ⟨_, _, _, .flat _ _ rfl (q) rfl, ?_⟩; conv => whnf)
        | (refine ⟨_, _, _, .flat _ _ rfl (ACall.arg ?harg (q)) rfl, ?_⟩; (case harg => (repeat' (first | exact trivial | exact rfl | exact fun _ _ => rfl | apply And.intro | (intro i hi; rcases i with _ | _ | i <;> first | rfl | (exfalso; omega) | (simp at hi; done) | (simp at hi; omega)) | exact fun _ _ => by simp))); (conv => whnf))
        | (refine And.intro (fun hq => ?_) (fun hq => ?_) <;> (first | (exfalso; simp at hq; done) | (exfalso; simp only [cond_true, cond_false, Bool.not_eq_true', Bool.not_eq_false', decide_eq_true_eq, decide_eq_false_iff_not] at hq; (try dsimp only at hq); omega) | (exfalso; simp at hq; omega) | ((try simp only [cond_true, cond_false, Bool.not_eq_true', Bool.not_eq_false', decide_eq_true_eq, decide_eq_false_iff_not] at hq); (try dsimp only at hq); (conv => whnf))))
        | (refine fun hq => ?_; conv => whnf)
        | (refine And.intro (by first | (show _ * 1 ≤ 140737488355328; omega) | (show _ * 8 ≤ _; omega) | (show _ * 24 ≤ _; omega) | (show _ * 16 ≤ _; omega) | (show _ * 32 ≤ _; omega) | (show _ * 120 ≤ _; omega) | (show _ * 280 ≤ _; omega) | (show _ * 72 ≤ _; omega) | (show _ * 48 ≤ _; omega)) ?_; conv => whnf)
        | (refine And.intro (by dsimp only; omega) ?_; conv => whnf)
        | fail)
      refine ⟨j + 1, by omega, by dsimp only; omega, ?_⟩
      refine ⟨[], ?_⟩
      conv => whnf
      refine ⟨rfl, ?_, ?_⟩ <;> (repeat' (first | exact trivial | exact rfl | exact fun _ _ => rfl | apply And.intro | (intro i hi; rcases i with _ | _ | i <;> first | rfl | (exfalso; omega) | (simp at hi; done) | (simp at hi; omega)) | exact fun _ _ => by simp))
    · obtain rfl : j = n.kids.length := by omega
      conv => whnf
      repeat' (first
        | (refine And.intro (by omega) ?_; conv => whnf)
        | (refine And.intro rfl ?_; conv => whnf)
        | (refine And.intro (Nat.le_of_ble_eq_true rfl) ?_; conv => whnf)
        | (refine And.intro (fun i hi => ⟨_, rfl⟩) ?_; conv => whnf)
        | (refine And.intro (fun hq => ?_) (fun hq => ?_) <;> (first | (exfalso; simp at hq; done) | (exfalso; simp only [cond_true, cond_false, Bool.not_eq_true', Bool.not_eq_false', decide_eq_true_eq, decide_eq_false_iff_not] at hq; (try dsimp only at hq); omega) | (exfalso; simp at hq; omega) | ((try simp only [cond_true, cond_false, Bool.not_eq_true', Bool.not_eq_false', decide_eq_true_eq, decide_eq_false_iff_not] at hq); (try dsimp only at hq); (conv => whnf))))
        | (refine fun hq => ?_; conv => whnf)
        | (refine And.intro (by first | (show _ * 1 ≤ 140737488355328; omega) | (show _ * 8 ≤ _; omega) | (show _ * 24 ≤ _; omega) | (show _ * 16 ≤ _; omega) | (show _ * 32 ≤ _; omega) | (show _ * 120 ≤ _; omega) | (show _ * 280 ≤ _; omega) | (show _ * 72 ≤ _; omega) | (show _ * 48 ≤ _; omega)) ?_; conv => whnf)
        | (refine And.intro (by dsimp only; omega) ?_; conv => whnf)
        | fail)
      all_goals (repeat' (first | exact trivial | exact rfl | exact fun _ _ => rfl | apply And.intro | (intro i hi; rcases i with _ | _ | i <;> first | rfl | (exfalso; omega) | (simp at hi; done) | (simp at hi; omega)) | exact fun _ _ => by simp))
def n0 : NodeD := ⟨2, [⟨[1, 5], true⟩, ⟨[2, 3], true⟩], []⟩
theorem isI_two (a b : Int) (ha : -9223372036854775808 ≤ a ∧ a ≤ 9223372036854775807) (hb : -9223372036854775808 ≤ b ∧ b ≤ 9223372036854775807) : Pl.IsI [a, b] := fun i => by
  rcases i with _ | _ | i
  · exact ha
  · exact hb
  · simp
theorem n0_ok : Pl.NodeOk n0 := by
  refine ⟨by decide, fun i hi => ?_, fun i hi => (by cases hi), by decide, by decide⟩
  rcases i with _ | _ | i
  · exact ⟨isI_two 1 5 (by omega) (by omega), by decide⟩
  · exact ⟨isI_two 2 3 (by omega) (by omega), by decide⟩
  · simp [n0] at hi; omega
theorem n0_r : Pl.nodeR n0 2 = true := by decide
theorem n0_say : Pl.sayN n0 = ⟨Pl.sum9 (Pl.nodeB n0), [1, 3], [2, 5], 2, 2, [1, 5]⟩ := rfl
theorem alive10 : ACall Try.prog 6 [] [] (exB true) [] := by
  obtain ⟨D, eD, hrt⟩ := Pl.nodeR_rt n0_r
  have hz : (Pl.sayN n0).size ≤ 1048576 := by rw [n0_say]; decide
  have ho := Pl.sayN_ok hrt n0_ok
  have q1 := nsay_ok n0 2 n0_ok n0_r
  rw [if_pos hz] at q1
  have q2 := nput_ok Sto.new StoOk.new n0 2 n0_ok
  have e : nPut Sto.new n0 2 = (Sto.new.put (Pl.nodeB n0), Pl.sayN n0, 0) := if_pos ⟨n0_r, hz⟩
  rw [e] at q2
  have hs : StoOk (Sto.new.put (Pl.nodeB n0)) := StoOk.new.put (Pl.nodeB_isB hrt n0_ok) (by have := Pl.nodeB_len hrt n0_ok; omega)
  have q3 := nget_ok _ hs (Pl.sayN n0) 2 ho
  have e2 : nGet (Sto.new.put (Pl.nodeB n0)) (Pl.sayN n0) 2 = some n0 := Kd.nGet_of n0_ok n0_r hz (Kd.put_get rfl)
  rw [e2] at q3
  have q4 := rboxsame_ok ⟨[1, 3], [2, 5]⟩ ⟨[1, 3], [2, 5]⟩ (by decide) (by decide)
  have q5 := rsamerow_ok [1, 5] [1, 5] (by decide)
  have q6 := nsame_any (Pl.sayN n0) (Pl.sayN n0) ⟨ho.lo, ho.hi, ho.key⟩
  rw [kidS_eq ho.s ho.s, decide_eq_true rfl] at q6
  have q7 := rsamenode_self n0 n0_ok
  rw [n0_say] at q1 q2 q3 q6
  generalize Sto.new.put (Pl.nodeB n0) = S at q2 q3
  generalize Pl.sum9 (Pl.nodeB n0) = T at q1 q2 q3 q6
  refine acall_on (mu := []) [] [] mixed Try.func6 rfl rfl rfl ?_
  conv => whnf
  repeat' (first
    | (refine And.intro (by omega) ?_; conv => whnf)
    | (refine And.intro rfl ?_; conv => whnf)
    | (refine And.intro (Nat.le_of_ble_eq_true rfl) ?_; conv => whnf)
    | (refine And.intro (fun i hi => ⟨_, rfl⟩) ?_; conv => whnf)
    | (refine ⟨_, _, _, .gen [] _ _ _ rfl (cppnew) rfl rfl rfl rfl rfl, ?_⟩; conv => whnf)
    | (refine ⟨_, _, _, .flat _ _ rfl (q6) rfl, ?_⟩; conv => whnf)
    | (refine ⟨_, _, _, .gen [] _ _ _ rfl (ACall.deep ?hdeep (q1)) rfl rfl rfl rfl rfl, ?_⟩; (case hdeep => (repeat' (first | exact AvT.nil | exact AvL.nil | exact DvL.nil | refine AvT.cons ?_ ?_ | refine AvL.cons ?_ ?_ | refine DvL.cons ?_ ?_ | exact AvA.one (.refl _) | exact AvE.refl _ | exact DvE.refl _ | exact DvE.nil _ _ _ _ | refine AvA.agg ?_ | refine AvA.one (.d ?_) | refine AvA.one (.dp ?_) | refine AvE.d ?_ | refine AvE.dp ?_ | refine DvE.sl' ?_ | refine DvE.p' ?_ | (intro k hk; rcases k with _ | _ | _ | _ | _ | _ | k <;> first | (exfalso; omega) | skip)))); (conv => whnf))
    | (refine ⟨_, _, _, .gen [] _ _ _ rfl (ACall.arg ?harg (cppnew)) rfl rfl rfl rfl rfl, ?_⟩; (case harg => (repeat' (first | exact trivial | exact rfl | exact fun _ _ => rfl | apply And.intro | (intro i hi; rcases i with _ | _ | i <;> first | rfl | (exfalso; omega) | (simp at hi; done) | (simp at hi; omega)) | exact fun _ _ => by simp))); (conv => whnf))
    | (refine ⟨_, _, _, .gen [901,900] _ _ _ rfl (ACall.deep ?hdeep (q2)) rfl rfl rfl rfl rfl, ?_⟩; (case hdeep => (repeat' (first | exact AvT.nil | exact AvL.nil | exact DvL.nil | refine AvT.cons ?_ ?_ | refine AvL.cons ?_ ?_ | refine DvL.cons ?_ ?_ | exact AvA.one (.refl _) | exact AvE.refl _ | exact DvE.refl _ | exact DvE.nil _ _ _ _ | refine AvA.agg ?_ | refine AvA.one (.d ?_) | refine AvA.one (.dp ?_) | refine AvE.d ?_ | refine AvE.dp ?_ | refine DvE.sl' ?_ | refine DvE.p' ?_ | (intro k hk; rcases k with _ | _ | _ | _ | _ | _ | k <;> first | (exfalso; omega) | skip)))); (conv => whnf))
    | (refine ⟨_, _, _, .gen [901,900] _ _ _ rfl (ACall.deep ?hdeep (q3)) rfl rfl rfl rfl rfl, ?_⟩; (case hdeep => (repeat' (first | exact AvT.nil | exact AvL.nil | exact DvL.nil | refine AvT.cons ?_ ?_ | refine AvL.cons ?_ ?_ | refine DvL.cons ?_ ?_ | exact AvA.one (.refl _) | exact AvE.refl _ | exact DvE.refl _ | exact DvE.nil _ _ _ _ | refine AvA.agg ?_ | refine AvA.one (.d ?_) | refine AvA.one (.dp ?_) | refine AvE.d ?_ | refine AvE.dp ?_ | refine DvE.sl' ?_ | refine DvE.p' ?_ | (intro k hk; rcases k with _ | _ | _ | _ | _ | _ | k <;> first | (exfalso; omega) | skip)))); (conv => whnf))
    | (refine ⟨_, _, _, .flat _ _ rfl (ACall.deep ?hdeep (q4)) rfl, ?_⟩; (case hdeep => (repeat' (first | exact AvT.nil | exact AvL.nil | exact DvL.nil | refine AvT.cons ?_ ?_ | refine AvL.cons ?_ ?_ | refine DvL.cons ?_ ?_ | exact AvA.one (.refl _) | exact AvE.refl _ | exact DvE.refl _ | exact DvE.nil _ _ _ _ | refine AvA.agg ?_ | refine AvA.one (.d ?_) | refine AvA.one (.dp ?_) | refine AvE.d ?_ | refine AvE.dp ?_ | refine DvE.sl' ?_ | refine DvE.p' ?_ | (intro k hk; rcases k with _ | _ | _ | _ | _ | _ | k <;> first | (exfalso; omega) | skip)))); (conv => whnf))
    | (refine ⟨_, _, _, .flat _ _ rfl (ACall.deep ?hdeep (q5)) rfl, ?_⟩; (case hdeep => (repeat' (first | exact AvT.nil | exact AvL.nil | exact DvL.nil | refine AvT.cons ?_ ?_ | refine AvL.cons ?_ ?_ | refine DvL.cons ?_ ?_ | exact AvA.one (.refl _) | exact AvE.refl _ | exact DvE.refl _ | exact DvE.nil _ _ _ _ | refine AvA.agg ?_ | refine AvA.one (.d ?_) | refine AvA.one (.dp ?_) | refine AvE.d ?_ | refine AvE.dp ?_ | refine DvE.sl' ?_ | refine DvE.p' ?_ | (intro k hk; rcases k with _ | _ | _ | _ | _ | _ | k <;> first | (exfalso; omega) | skip)))); (conv => whnf))
    | (refine ⟨_, _, _, .flat _ _ rfl (ACall.arg ?harg (q6)) rfl, ?_⟩; (case harg => (repeat' (first | exact trivial | exact rfl | exact fun _ _ => rfl | apply And.intro | (intro i hi; rcases i with _ | _ | i <;> first | rfl | (exfalso; omega) | (simp at hi; done) | (simp at hi; omega)) | exact fun _ _ => by simp))); (conv => whnf))
    | (refine ⟨_, _, _, .flat _ _ rfl (ACall.deep ?hdeep (q7)) rfl, ?_⟩; (case hdeep => (repeat' (first | exact AvT.nil | exact AvL.nil | exact DvL.nil | refine AvT.cons ?_ ?_ | refine AvL.cons ?_ ?_ | refine DvL.cons ?_ ?_ | exact AvA.one (.refl _) | exact AvE.refl _ | exact DvE.refl _ | exact DvE.nil _ _ _ _ | refine AvA.agg ?_ | refine AvA.one (.d ?_) | refine AvA.one (.dp ?_) | refine AvE.d ?_ | refine AvE.dp ?_ | refine DvE.sl' ?_ | refine DvE.p' ?_ | (intro k hk; rcases k with _ | _ | _ | _ | _ | _ | k <;> first | (exfalso; omega) | skip)))); (conv => whnf))
    | (refine And.intro (fun hq => ?_) (fun hq => ?_) <;> (first | (exfalso; simp at hq; done) | (exfalso; simp only [cond_true, cond_false, Bool.not_eq_true', Bool.not_eq_false', decide_eq_true_eq, decide_eq_false_iff_not] at hq; (try dsimp only at hq); omega) | (exfalso; simp at hq; omega) | ((try simp only [cond_true, cond_false, Bool.not_eq_true', Bool.not_eq_false', decide_eq_true_eq, decide_eq_false_iff_not] at hq); (try dsimp only at hq); (conv => whnf))))
    | (refine fun hq => ?_; conv => whnf)
    | (refine And.intro (by first | (show _ * 1 ≤ 140737488355328; omega) | (show _ * 8 ≤ _; omega) | (show _ * 24 ≤ _; omega) | (show _ * 16 ≤ _; omega) | (show _ * 32 ≤ _; omega) | (show _ * 120 ≤ _; omega) | (show _ * 280 ≤ _; omega) | (show _ * 72 ≤ _; omega) | (show _ * 48 ≤ _; omega)) ?_; conv => whnf)
    | (refine And.intro (by dsimp only; omega) ?_; conv => whnf)
    | fail)
  all_goals (repeat' (first | exact trivial | exact rfl | exact fun _ _ => rfl | apply And.intro | (intro i hi; rcases i with _ | _ | i <;> first | rfl | (exfalso; omega) | (simp at hi; done) | (simp at hi; omega)) | exact fun _ _ => by simp))
def greatB (n : NodeD) : Bool := decide (50 < n.rows.length) || decide (50 < n.kids.length) || n.rows.any (fun e => decide (50 < e.row.length)) || n.kids.any (fun k => decide (50 < k.lo.length) || decide (50 < k.hi.length) || decide (50 < k.key.length))
theorem any_of {α : Type} [Inhabited α] {l : List α} {p : α → Bool} {i : Nat} (hi : i < l.length) (h : p (l.getD i default) = true) : l.any p = true := List.any_eq_true.2 ⟨_, Pl.getD_mem' hi, h⟩
theorem any_no {α : Type} [Inhabited α] {l : List α} {p : α → Bool} (h : ∀ i, i < l.length → p (l.getD i default) = false) : l.any p = false := by
  rw [Bool.eq_false_iff]
  intro q
  obtain ⟨x, hx, hp⟩ := List.any_eq_true.1 q
  obtain ⟨i, hi, rfl⟩ := Pl.mem_getDN hx
  rw [h i hi] at hp; cases hp
theorem greatB_no {n : NodeD} (h : greatB n = false) : n.rows.length ≤ 50 ∧ n.kids.length ≤ 50 ∧ (∀ i, i < n.rows.length → (n.rows.getD i default).row.length ≤ 50) ∧ ∀ i, i < n.kids.length → (n.kids.getD i default).lo.length ≤ 50 ∧ (n.kids.getD i default).hi.length ≤ 50 ∧ (n.kids.getD i default).key.length ≤ 50 := by
  unfold greatB at h
  simp only [Bool.or_eq_false_iff, decide_eq_false_iff_not] at h
  obtain ⟨⟨⟨h1, h2⟩, h3⟩, h4⟩ := h
  refine ⟨by omega, by omega, fun i hi => ?_, fun i hi => ?_⟩
  · have := List.any_eq_false.1 h3 _ (Pl.getD_mem' hi)
    simp at this; simpa using this
  · have := List.any_eq_false.1 h4 _ (Pl.getD_mem' hi)
    simp at this
    refine ⟨?_, ?_, ?_⟩ <;> simp <;> omega
theorem great10 (n : NodeD) (hr : n.rows.length ≤ maxLen) (hk : n.kids.length ≤ maxLen) : ACall Try.prog 7 [agD (nodeL n)] [] (exB (greatB n)) [] := by
  refine acall_on (mu := []) [] [] mixed Try.func7 rfl rfl rfl ?_
  by_cases h1 : n.rows.length ≤ 50
  · by_cases h2 : n.kids.length ≤ 50
    · skip
      conv => whnf
      repeat' (first
        | (refine And.intro (by omega) ?_; conv => whnf)
        | (refine And.intro rfl ?_; conv => whnf)
        | (refine And.intro (Nat.le_of_ble_eq_true rfl) ?_; conv => whnf)
        | (refine And.intro (fun i hi => ⟨_, rfl⟩) ?_; conv => whnf)
        | (refine And.intro (fun hq => ?_) (fun hq => ?_) <;> (first | (exfalso; simp at hq; done) | (exfalso; simp only [cond_true, cond_false, Bool.not_eq_true', Bool.not_eq_false', decide_eq_true_eq, decide_eq_false_iff_not] at hq; (try dsimp only at hq); omega) | (exfalso; simp at hq; omega) | ((try simp only [cond_true, cond_false, Bool.not_eq_true', Bool.not_eq_false', decide_eq_true_eq, decide_eq_false_iff_not] at hq); (try dsimp only at hq); (conv => whnf))))
        | (refine fun hq => ?_; conv => whnf)
        | (refine And.intro (by first | (show _ * 1 ≤ 140737488355328; omega) | (show _ * 8 ≤ _; omega) | (show _ * 24 ≤ _; omega) | (show _ * 16 ≤ _; omega) | (show _ * 32 ≤ _; omega) | (show _ * 120 ≤ _; omega) | (show _ * 280 ≤ _; omega) | (show _ * 72 ≤ _; omega) | (show _ * 48 ≤ _; omega)) ?_; conv => whnf)
        | (refine And.intro (by dsimp only; omega) ?_; conv => whnf)
        | fail)
      refine ⟨[], ?_⟩
      conv => whnf
      refine ⟨Nat, fun i => i ≤ n.rows.length ∧ ∀ t, t < i → (n.rows.getD t default).row.length ≤ 50, fun i => n.rows.length - i, fun i => [(2, exB false), (3, exI .i64 i)], fun _ => [], ⟨0, ⟨by omega, fun t ht => by omega⟩, ?_⟩, ?_⟩
      · skip
        refine ⟨[], ?_⟩
        conv => whnf
        refine ⟨rfl, ?_, ?_⟩ <;> (repeat' (first | exact trivial | exact rfl | exact fun _ _ => rfl | apply And.intro | (intro i hi; rcases i with _ | _ | i <;> first | rfl | (exfalso; omega) | (simp at hi; done) | (simp at hi; omega)) | exact fun _ _ => by simp))
      rintro i ⟨hi, hn⟩
      conv => whnf
      rcases Nat.lt_or_ge i n.rows.length with hlt | hge
      · by_cases hb : (n.rows.getD i default).row.length ≤ 50
        · have hb' : (n.rows.getD ((i : Int)).toNat default).row.length ≤ 50 := hb
          conv => whnf
          repeat' (first
            | (refine And.intro (by omega) ?_; conv => whnf)
            | (refine And.intro rfl ?_; conv => whnf)
            | (refine And.intro (Nat.le_of_ble_eq_true rfl) ?_; conv => whnf)
            | (refine And.intro (fun i hi => ⟨_, rfl⟩) ?_; conv => whnf)
            | (refine And.intro (fun hq => ?_) (fun hq => ?_) <;> (first | (exfalso; simp at hq; done) | (exfalso; simp only [cond_true, cond_false, Bool.not_eq_true', Bool.not_eq_false', decide_eq_true_eq, decide_eq_false_iff_not] at hq; (try dsimp only at hq); omega) | (exfalso; simp at hq; omega) | ((try simp only [cond_true, cond_false, Bool.not_eq_true', Bool.not_eq_false', decide_eq_true_eq, decide_eq_false_iff_not] at hq); (try dsimp only at hq); (conv => whnf))))
            | (refine fun hq => ?_; conv => whnf)
            | (refine And.intro (by first | (show _ * 1 ≤ 140737488355328; omega) | (show _ * 8 ≤ _; omega) | (show _ * 24 ≤ _; omega) | (show _ * 16 ≤ _; omega) | (show _ * 32 ≤ _; omega) | (show _ * 120 ≤ _; omega) | (show _ * 280 ≤ _; omega) | (show _ * 72 ≤ _; omega) | (show _ * 48 ≤ _; omega)) ?_; conv => whnf)
            | (refine And.intro (by dsimp only; omega) ?_; conv => whnf)
            | fail)
          refine ⟨i + 1, ⟨by omega, fun t ht => ?_⟩, by dsimp only; omega, ?_⟩
          · rcases Nat.lt_or_ge t i with z | z
            · exact hn t z
            · obtain rfl : t = i := by omega
              exact hb
          · skip
            refine ⟨[], ?_⟩
            conv => whnf
            refine ⟨rfl, ?_, ?_⟩ <;> (repeat' (first | exact trivial | exact rfl | exact fun _ _ => rfl | apply And.intro | (intro i hi; rcases i with _ | _ | i <;> first | rfl | (exfalso; omega) | (simp at hi; done) | (simp at hi; omega)) | exact fun _ _ => by simp))
        · have hb' : ¬ (n.rows.getD ((i : Int)).toNat default).row.length ≤ 50 := hb
          have e : greatB n = true := by
            unfold greatB
            rw [any_of (l := n.rows) (p := fun e => decide (50 < e.row.length)) hlt (decide_eq_true (by omega))]; simp
          rw [e]
          conv => whnf
          repeat' (first
            | (refine And.intro (by omega) ?_; conv => whnf)
            | (refine And.intro rfl ?_; conv => whnf)
            | (refine And.intro (Nat.le_of_ble_eq_true rfl) ?_; conv => whnf)
            | (refine And.intro (fun i hi => ⟨_, rfl⟩) ?_; conv => whnf)
            | (refine And.intro (fun hq => ?_) (fun hq => ?_) <;> (first | (exfalso; simp at hq; done) | (exfalso; simp only [cond_true, cond_false, Bool.not_eq_true', Bool.not_eq_false', decide_eq_true_eq, decide_eq_false_iff_not] at hq; (try dsimp only at hq); omega) | (exfalso; simp at hq; omega) | ((try simp only [cond_true, cond_false, Bool.not_eq_true', Bool.not_eq_false', decide_eq_true_eq, decide_eq_false_iff_not] at hq); (try dsimp only at hq); (conv => whnf))))
            | (refine fun hq => ?_; conv => whnf)
            | (refine And.intro (by first | (show _ * 1 ≤ 140737488355328; omega) | (show _ * 8 ≤ _; omega) | (show _ * 24 ≤ _; omega) | (show _ * 16 ≤ _; omega) | (show _ * 32 ≤ _; omega) | (show _ * 120 ≤ _; omega) | (show _ * 280 ≤ _; omega) | (show _ * 72 ≤ _; omega) | (show _ * 48 ≤ _; omega)) ?_; conv => whnf)
            | (refine And.intro (by dsimp only; omega) ?_; conv => whnf)
            | fail)
          all_goals (repeat' (first | exact trivial | exact rfl | exact fun _ _ => rfl | apply And.intro | (intro i hi; rcases i with _ | _ | i <;> first | rfl | (exfalso; omega) | (simp at hi; done) | (simp at hi; omega)) | exact fun _ _ => by simp))
      · obtain rfl : i = n.rows.length := by omega
        conv => whnf
        repeat' (first
          | (refine And.intro (by omega) ?_; conv => whnf)
          | (refine And.intro rfl ?_; conv => whnf)
          | (refine And.intro (Nat.le_of_ble_eq_true rfl) ?_; conv => whnf)
          | (refine And.intro (fun i hi => ⟨_, rfl⟩) ?_; conv => whnf)
          | (refine And.intro (fun hq => ?_) (fun hq => ?_) <;> (first | (exfalso; simp at hq; done) | (exfalso; simp only [cond_true, cond_false, Bool.not_eq_true', Bool.not_eq_false', decide_eq_true_eq, decide_eq_false_iff_not] at hq; (try dsimp only at hq); omega) | (exfalso; simp at hq; omega) | ((try simp only [cond_true, cond_false, Bool.not_eq_true', Bool.not_eq_false', decide_eq_true_eq, decide_eq_false_iff_not] at hq); (try dsimp only at hq); (conv => whnf))))
          | (refine fun hq => ?_; conv => whnf)
          | (refine And.intro (by first | (show _ * 1 ≤ 140737488355328; omega) | (show _ * 8 ≤ _; omega) | (show _ * 24 ≤ _; omega) | (show _ * 16 ≤ _; omega) | (show _ * 32 ≤ _; omega) | (show _ * 120 ≤ _; omega) | (show _ * 280 ≤ _; omega) | (show _ * 72 ≤ _; omega) | (show _ * 48 ≤ _; omega)) ?_; conv => whnf)
          | (refine And.intro (by dsimp only; omega) ?_; conv => whnf)
          | fail)
        refine ⟨[], ?_⟩
        conv => whnf
        refine ⟨Nat, fun j => j ≤ n.kids.length ∧ ∀ t, t < j → (n.kids.getD t default).lo.length ≤ 50 ∧ (n.kids.getD t default).hi.length ≤ 50 ∧ (n.kids.getD t default).key.length ≤ 50, fun j => n.kids.length - j, fun j => [(2, exB false), (4, exI .i64 j)], fun _ => [], ⟨0, ⟨by omega, fun t ht => by omega⟩, ?_⟩, ?_⟩
        · skip
          refine ⟨[], ?_⟩
          conv => whnf
          refine ⟨rfl, ?_, ?_⟩ <;> (repeat' (first | exact trivial | exact rfl | exact fun _ _ => rfl | apply And.intro | (intro i hi; rcases i with _ | _ | i <;> first | rfl | (exfalso; omega) | (simp at hi; done) | (simp at hi; omega)) | exact fun _ _ => by simp))
        rintro j ⟨hj, hm⟩
        conv => whnf
        rcases Nat.lt_or_ge j n.kids.length with hjt | hjg
        · by_cases hb : (n.kids.getD j default).lo.length ≤ 50 ∧ (n.kids.getD j default).hi.length ≤ 50 ∧ (n.kids.getD j default).key.length ≤ 50
          · have hb' : (n.kids.getD ((j : Int)).toNat default).lo.length ≤ 50 ∧ (n.kids.getD ((j : Int)).toNat default).hi.length ≤ 50 ∧ (n.kids.getD ((j : Int)).toNat default).key.length ≤ 50 := hb
            conv => whnf
            repeat' (first
              | (refine And.intro (by omega) ?_; conv => whnf)
              | (refine And.intro rfl ?_; conv => whnf)
              | (refine And.intro (Nat.le_of_ble_eq_true rfl) ?_; conv => whnf)
              | (refine And.intro (fun i hi => ⟨_, rfl⟩) ?_; conv => whnf)
              | (refine And.intro (fun hq => ?_) (fun hq => ?_) <;> (first | (exfalso; simp at hq; done) | (exfalso; simp only [cond_true, cond_false, Bool.not_eq_true', Bool.not_eq_false', decide_eq_true_eq, decide_eq_false_iff_not] at hq; (try dsimp only at hq); omega) | (exfalso; simp at hq; omega) | ((try simp only [cond_true, cond_false, Bool.not_eq_true', Bool.not_eq_false', decide_eq_true_eq, decide_eq_false_iff_not] at hq); (try dsimp only at hq); (conv => whnf))))
              | (refine fun hq => ?_; conv => whnf)
              | (refine And.intro (by first | (show _ * 1 ≤ 140737488355328; omega) | (show _ * 8 ≤ _; omega) | (show _ * 24 ≤ _; omega) | (show _ * 16 ≤ _; omega) | (show _ * 32 ≤ _; omega) | (show _ * 120 ≤ _; omega) | (show _ * 280 ≤ _; omega) | (show _ * 72 ≤ _; omega) | (show _ * 48 ≤ _; omega)) ?_; conv => whnf)
              | (refine And.intro (by dsimp only; omega) ?_; conv => whnf)
              | fail)
            refine ⟨j + 1, ⟨by omega, fun t ht => ?_⟩, by dsimp only; omega, ?_⟩
            · rcases Nat.lt_or_ge t j with z | z
              · exact hm t z
              · obtain rfl : t = j := by omega
                exact hb
            · skip
              refine ⟨[], ?_⟩
              conv => whnf
              refine ⟨rfl, ?_, ?_⟩ <;> (repeat' (first | exact trivial | exact rfl | exact fun _ _ => rfl | apply And.intro | (intro i hi; rcases i with _ | _ | i <;> first | rfl | (exfalso; omega) | (simp at hi; done) | (simp at hi; omega)) | exact fun _ _ => by simp))
          · have hb' : ¬ ((n.kids.getD ((j : Int)).toNat default).lo.length ≤ 50 ∧ (n.kids.getD ((j : Int)).toNat default).hi.length ≤ 50 ∧ (n.kids.getD ((j : Int)).toNat default).key.length ≤ 50) := hb
            have e : greatB n = true := by
              unfold greatB
              rw [any_of (l := n.kids) (p := fun k => decide (50 < k.lo.length) || decide (50 < k.hi.length) || decide (50 < k.key.length)) hjt (by
                simp only [Bool.or_eq_true, decide_eq_true_eq]; omega)]; simp
            rw [e]
            conv => whnf
            repeat' (first
              | (refine And.intro (by omega) ?_; conv => whnf)
              | (refine And.intro rfl ?_; conv => whnf)
              | (refine And.intro (Nat.le_of_ble_eq_true rfl) ?_; conv => whnf)
              | (refine And.intro (fun i hi => ⟨_, rfl⟩) ?_; conv => whnf)
              | (refine And.intro (fun hq => ?_) (fun hq => ?_) <;> (first | (exfalso; simp at hq; done) | (exfalso; simp only [cond_true, cond_false, Bool.not_eq_true', Bool.not_eq_false', decide_eq_true_eq, decide_eq_false_iff_not] at hq; (try dsimp only at hq); omega) | (exfalso; simp at hq; omega) | ((try simp only [cond_true, cond_false, Bool.not_eq_true', Bool.not_eq_false', decide_eq_true_eq, decide_eq_false_iff_not] at hq); (try dsimp only at hq); (conv => whnf))))
              | (refine fun hq => ?_; conv => whnf)
              | (refine And.intro (by first | (show _ * 1 ≤ 140737488355328; omega) | (show _ * 8 ≤ _; omega) | (show _ * 24 ≤ _; omega) | (show _ * 16 ≤ _; omega) | (show _ * 32 ≤ _; omega) | (show _ * 120 ≤ _; omega) | (show _ * 280 ≤ _; omega) | (show _ * 72 ≤ _; omega) | (show _ * 48 ≤ _; omega)) ?_; conv => whnf)
              | (refine And.intro (by dsimp only; omega) ?_; conv => whnf)
              | fail)
            all_goals (repeat' (first | exact trivial | exact rfl | exact fun _ _ => rfl | apply And.intro | (intro i hi; rcases i with _ | _ | i <;> first | rfl | (exfalso; omega) | (simp at hi; done) | (simp at hi; omega)) | exact fun _ _ => by simp))
        · obtain rfl : j = n.kids.length := by omega
          have e : greatB n = false := by
            unfold greatB
            rw [decide_eq_false (by omega), decide_eq_false (by omega), any_no (l := n.rows) (fun i hi => decide_eq_false (by have := hn i hi; omega)), any_no (l := n.kids) (fun i hi => by
              have := hm i hi
              simp only [Bool.or_eq_false_iff, decide_eq_false_iff_not]; omega)]; rfl
          rw [e]
          conv => whnf
          repeat' (first
            | (refine And.intro (by omega) ?_; conv => whnf)
            | (refine And.intro rfl ?_; conv => whnf)
            | (refine And.intro (Nat.le_of_ble_eq_true rfl) ?_; conv => whnf)
            | (refine And.intro (fun i hi => ⟨_, rfl⟩) ?_; conv => whnf)
            | (refine And.intro (fun hq => ?_) (fun hq => ?_) <;> (first | (exfalso; simp at hq; done) | (exfalso; simp only [cond_true, cond_false, Bool.not_eq_true', Bool.not_eq_false', decide_eq_true_eq, decide_eq_false_iff_not] at hq; (try dsimp only at hq); omega) | (exfalso; simp at hq; omega) | ((try simp only [cond_true, cond_false, Bool.not_eq_true', Bool.not_eq_false', decide_eq_true_eq, decide_eq_false_iff_not] at hq); (try dsimp only at hq); (conv => whnf))))
            | (refine fun hq => ?_; conv => whnf)
            | (refine And.intro (by first | (show _ * 1 ≤ 140737488355328; omega) | (show _ * 8 ≤ _; omega) | (show _ * 24 ≤ _; omega) | (show _ * 16 ≤ _; omega) | (show _ * 32 ≤ _; omega) | (show _ * 120 ≤ _; omega) | (show _ * 280 ≤ _; omega) | (show _ * 72 ≤ _; omega) | (show _ * 48 ≤ _; omega)) ?_; conv => whnf)
            | (refine And.intro (by dsimp only; omega) ?_; conv => whnf)
            | fail)
          all_goals (repeat' (first | exact trivial | exact rfl | exact fun _ _ => rfl | apply And.intro | (intro i hi; rcases i with _ | _ | i <;> first | rfl | (exfalso; omega) | (simp at hi; done) | (simp at hi; omega)) | exact fun _ _ => by simp))
    · have e : greatB n = true := by unfold greatB; rw [decide_eq_true (p := 50 < n.kids.length) (by omega)]; simp
      rw [e]
      conv => whnf
      repeat' (first
        | (refine And.intro (by omega) ?_; conv => whnf)
        | (refine And.intro rfl ?_; conv => whnf)
        | (refine And.intro (Nat.le_of_ble_eq_true rfl) ?_; conv => whnf)
        | (refine And.intro (fun i hi => ⟨_, rfl⟩) ?_; conv => whnf)
        | (refine And.intro (fun hq => ?_) (fun hq => ?_) <;> (first | (exfalso; simp at hq; done) | (exfalso; simp only [cond_true, cond_false, Bool.not_eq_true', Bool.not_eq_false', decide_eq_true_eq, decide_eq_false_iff_not] at hq; (try dsimp only at hq); omega) | (exfalso; simp at hq; omega) | ((try simp only [cond_true, cond_false, Bool.not_eq_true', Bool.not_eq_false', decide_eq_true_eq, decide_eq_false_iff_not] at hq); (try dsimp only at hq); (conv => whnf))))
        | (refine fun hq => ?_; conv => whnf)
        | (refine And.intro (by first | (show _ * 1 ≤ 140737488355328; omega) | (show _ * 8 ≤ _; omega) | (show _ * 24 ≤ _; omega) | (show _ * 16 ≤ _; omega) | (show _ * 32 ≤ _; omega) | (show _ * 120 ≤ _; omega) | (show _ * 280 ≤ _; omega) | (show _ * 72 ≤ _; omega) | (show _ * 48 ≤ _; omega)) ?_; conv => whnf)
        | (refine And.intro (by dsimp only; omega) ?_; conv => whnf)
        | fail)
      all_goals (repeat' (first | exact trivial | exact rfl | exact fun _ _ => rfl | apply And.intro | (intro i hi; rcases i with _ | _ | i <;> first | rfl | (exfalso; omega) | (simp at hi; done) | (simp at hi; omega)) | exact fun _ _ => by simp))
  · have e : greatB n = true := by unfold greatB; rw [decide_eq_true (p := 50 < n.rows.length) (by omega)]; simp
    rw [e]
    conv => whnf
    repeat' (first
      | (refine And.intro (by omega) ?_; conv => whnf)
      | (refine And.intro rfl ?_; conv => whnf)
      | (refine And.intro (Nat.le_of_ble_eq_true rfl) ?_; conv => whnf)
      | (refine And.intro (fun i hi => ⟨_, rfl⟩) ?_; conv => whnf)
      | (refine And.intro (fun hq => ?_) (fun hq => ?_) <;> (first | (exfalso; simp at hq; done) | (exfalso; simp only [cond_true, cond_false, Bool.not_eq_true', Bool.not_eq_false', decide_eq_true_eq, decide_eq_false_iff_not] at hq; (try dsimp only at hq); omega) | (exfalso; simp at hq; omega) | ((try simp only [cond_true, cond_false, Bool.not_eq_true', Bool.not_eq_false', decide_eq_true_eq, decide_eq_false_iff_not] at hq); (try dsimp only at hq); (conv => whnf))))
      | (refine fun hq => ?_; conv => whnf)
      | (refine And.intro (by first | (show _ * 1 ≤ 140737488355328; omega) | (show _ * 8 ≤ _; omega) | (show _ * 24 ≤ _; omega) | (show _ * 16 ≤ _; omega) | (show _ * 32 ≤ _; omega) | (show _ * 120 ≤ _; omega) | (show _ * 280 ≤ _; omega) | (show _ * 72 ≤ _; omega) | (show _ * 48 ≤ _; omega)) ?_; conv => whnf)
      | (refine And.intro (by dsimp only; omega) ?_; conv => whnf)
      | fail)
    all_goals (repeat' (first | exact trivial | exact rfl | exact fun _ _ => rfl | apply And.intro | (intro i hi; rcases i with _ | _ | i <;> first | rfl | (exfalso; omega) | (simp at hi; done) | (simp at hi; omega)) | exact fun _ _ => by simp))
end Go.Proofs.Ytbidoddghdbaoaa
