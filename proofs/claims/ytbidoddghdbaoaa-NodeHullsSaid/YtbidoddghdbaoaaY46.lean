/- node.Put, node.Get, in the new way: as the plain law tells them. -/
import Derived.Test.YtbidoddghdbaoaaY45
set_option linter.unusedVariables false
set_option linter.unusedSimpArgs false
namespace Go.Proofs.Ytbidoddghdbaoaa
open Go.RowKit
open Kd (nPut nGet)
set_option maxRecDepth 100000
set_option maxHeartbeats 4000000
def resK (R : Sto × KidD × Int) : AV := .tup [agD (kidL R.2.1), exI .i64 R.2.2]
theorem decN_eq {d : Int} {b : List Nat} (hB : Pl.IsB b) : decN d b = Pl.readN d b := by
  have hn := Pl.rNode_ok d hB
  unfold decN
  by_cases h : Pl.rEnd (Pl.rNode d b).2.1 (Pl.rNode d b).2.2 = 0 ∧ Pl.nodeR (Pl.rNode d b).1 d = true
  · have e : Pl.readN d b = some (Pl.rNode d b).1 := if_pos h
    rw [e, if_pos ⟨h.1, by rw [nodeR_eq hn]; exact h.2, ((Pl.readN_inv hB e).1).symm⟩]
  · have e : Pl.readN d b = none := if_neg h
    rw [e, if_neg (fun q => h ⟨q.1, by rw [← nodeR_eq hn]; exact q.2.1⟩)]
theorem nput_ok (s : Sto) (hs : StoOk s) (n : NodeD) (d : Int) (h : Pl.NodeOk n) : ACall Try.prog 27 [.ptr 900 0 0 0, agD (nodeL n), exI .i64 d] (stoH 900 901 s) (resK (nPut s n d)) (stoH 900 901 (nPut s n d).1) := by
  unfold nPut
  cases hr : Pl.nodeR n d with
  | false =>
    have q := nsay_no n d h hr
    rw [if_neg (fun z => by cases z.1)]
    refine acall_on (mu := []) [] [] mixed Try.func27 rfl rfl rfl ?_
    conv => whnf
    repeat' (first
      | (refine And.intro (by omega) ?_; conv => whnf)
      | (refine And.intro rfl ?_; conv => whnf)
      | (refine And.intro (Nat.le_of_ble_eq_true rfl) ?_; conv => whnf)
      | (refine And.intro (fun i hi => ⟨_, rfl⟩) ?_; conv => whnf)
      | (refine ⟨_, _, _, .gen [] _ _ _ rfl (q) rfl rfl rfl rfl rfl, ?_⟩; conv => whnf)
      | (refine ⟨_, _, _, .gen [] _ _ _ rfl (ACall.arg ?harg (q)) rfl rfl rfl rfl rfl, ?_⟩; (case harg => (repeat' (first | exact trivial | exact rfl | exact fun _ _ => rfl | apply And.intro | (intro i hi; rcases i with _ | _ | i <;> first | rfl | (exfalso; omega) | (simp at hi; done) | (simp at hi; omega)) | exact fun _ _ => by simp))); (conv => whnf))
      | (refine And.intro (fun hq => ?_) (fun hq => ?_) <;> (first | (exfalso; simp at hq; done) | (exfalso; simp only [cond_true, cond_false, Bool.not_eq_true', Bool.not_eq_false', decide_eq_true_eq, decide_eq_false_iff_not] at hq; (try dsimp only at hq); omega) | (exfalso; simp at hq; omega) | ((try simp only [cond_true, cond_false, Bool.not_eq_true', Bool.not_eq_false', decide_eq_true_eq, decide_eq_false_iff_not] at hq); (try dsimp only at hq); (conv => whnf))))
      | (refine fun hq => ?_; conv => whnf)
      | (refine And.intro (by first | (show _ * 1 ≤ 140737488355328; omega) | (show _ * 8 ≤ _; omega) | (show _ * 24 ≤ _; omega) | (show _ * 16 ≤ _; omega) | (show _ * 32 ≤ _; omega) | (show _ * 120 ≤ _; omega) | (show _ * 280 ≤ _; omega) | (show _ * 72 ≤ _; omega) | (show _ * 48 ≤ _; omega)) ?_; conv => whnf)
      | (refine And.intro (by dsimp only; omega) ?_; conv => whnf)
      | fail)
    all_goals (repeat' (first | exact trivial | exact rfl | exact fun _ _ => rfl | apply And.intro | (intro i hi; rcases i with _ | _ | i <;> first | rfl | (exfalso; omega) | (simp at hi; done) | (simp at hi; omega)) | exact fun _ _ => by simp))
  | true =>
    have q := nsay_ok n d h hr
    obtain ⟨D, rfl, hrt⟩ := Pl.nodeR_rt hr
    by_cases hz : (Pl.sayN n).size ≤ 1048576
    · rw [if_pos ⟨rfl, hz⟩]
      rw [if_pos hz] at q
      have q2 := nencode_ok n D (nodeS_of h) (by rw [nodeR_eq h]; exact hr) (nodeW_of h hrt)
      have q3 := cppput s hs (Pl.nodeB n) (Pl.nodeB_isB hrt h) (by have := Pl.nodeB_len hrt h; omega)
      refine acall_on (mu := []) [] [] mixed Try.func27 rfl rfl rfl ?_
      conv => whnf
      repeat' (first
        | (refine And.intro (by omega) ?_; conv => whnf)
        | (refine And.intro rfl ?_; conv => whnf)
        | (refine And.intro (Nat.le_of_ble_eq_true rfl) ?_; conv => whnf)
        | (refine And.intro (fun i hi => ⟨_, rfl⟩) ?_; conv => whnf)
        | (refine ⟨_, _, _, .gen [] _ _ _ rfl (q) rfl rfl rfl rfl rfl, ?_⟩; conv => whnf)
        | (refine ⟨_, _, _, .gen [] _ _ _ rfl (q2) rfl rfl rfl rfl rfl, ?_⟩; conv => whnf)
        | (refine ⟨_, _, _, .gen [901,900] _ _ _ rfl (q3) rfl rfl rfl rfl rfl, ?_⟩; conv => whnf)
        | (refine ⟨_, _, _, .gen [] _ _ _ rfl (ACall.arg ?harg (q)) rfl rfl rfl rfl rfl, ?_⟩; (case harg => (repeat' (first | exact trivial | exact rfl | exact fun _ _ => rfl | apply And.intro | (intro i hi; rcases i with _ | _ | i <;> first | rfl | (exfalso; omega) | (simp at hi; done) | (simp at hi; omega)) | exact fun _ _ => by simp))); (conv => whnf))
        | (refine ⟨_, _, _, .gen [] _ _ _ rfl (ACall.arg ?harg (q2)) rfl rfl rfl rfl rfl, ?_⟩; (case harg => (repeat' (first | exact trivial | exact rfl | exact fun _ _ => rfl | apply And.intro | (intro i hi; rcases i with _ | _ | i <;> first | rfl | (exfalso; omega) | (simp at hi; done) | (simp at hi; omega)) | exact fun _ _ => by simp))); (conv => whnf))
        | (refine ⟨_, _, _, .gen [901,900] _ _ _ rfl (ACall.arg ?harg (q3)) rfl rfl rfl rfl rfl, ?_⟩; (case harg => (repeat' (first | exact trivial | exact rfl | exact fun _ _ => rfl | apply And.intro | (intro i hi; rcases i with _ | _ | i <;> first | rfl | (exfalso; omega) | (simp at hi; done) | (simp at hi; omega)) | exact fun _ _ => by simp))); (conv => whnf))
        | (refine And.intro (fun hq => ?_) (fun hq => ?_) <;> (first | (exfalso; simp at hq; done) | (exfalso; simp only [cond_true, cond_false, Bool.not_eq_true', Bool.not_eq_false', decide_eq_true_eq, decide_eq_false_iff_not] at hq; (try dsimp only at hq); omega) | (exfalso; simp at hq; omega) | ((try simp only [cond_true, cond_false, Bool.not_eq_true', Bool.not_eq_false', decide_eq_true_eq, decide_eq_false_iff_not] at hq); (try dsimp only at hq); (conv => whnf))))
        | (refine fun hq => ?_; conv => whnf)
        | (refine And.intro (by first | (show _ * 1 ≤ 140737488355328; omega) | (show _ * 8 ≤ _; omega) | (show _ * 24 ≤ _; omega) | (show _ * 16 ≤ _; omega) | (show _ * 32 ≤ _; omega) | (show _ * 120 ≤ _; omega) | (show _ * 280 ≤ _; omega) | (show _ * 72 ≤ _; omega) | (show _ * 48 ≤ _; omega)) ?_; conv => whnf)
        | (refine And.intro (by dsimp only; omega) ?_; conv => whnf)
        | fail)
      all_goals (repeat' (first | exact trivial | exact rfl | exact fun _ _ => rfl | apply And.intro | (intro i hi; rcases i with _ | _ | i <;> first | rfl | (exfalso; omega) | (simp at hi; done) | (simp at hi; omega)) | exact fun _ _ => by simp))
    · rw [if_neg (fun z => hz z.2)]
      rw [if_neg hz] at q
      refine acall_on (mu := []) [] [] mixed Try.func27 rfl rfl rfl ?_
      conv => whnf
      repeat' (first
        | (refine And.intro (by omega) ?_; conv => whnf)
        | (refine And.intro rfl ?_; conv => whnf)
        | (refine And.intro (Nat.le_of_ble_eq_true rfl) ?_; conv => whnf)
        | (refine And.intro (fun i hi => ⟨_, rfl⟩) ?_; conv => whnf)
        | (refine ⟨_, _, _, .gen [] _ _ _ rfl (q) rfl rfl rfl rfl rfl, ?_⟩; conv => whnf)
        | (refine ⟨_, _, _, .gen [] _ _ _ rfl (ACall.arg ?harg (q)) rfl rfl rfl rfl rfl, ?_⟩; (case harg => (repeat' (first | exact trivial | exact rfl | exact fun _ _ => rfl | apply And.intro | (intro i hi; rcases i with _ | _ | i <;> first | rfl | (exfalso; omega) | (simp at hi; done) | (simp at hi; omega)) | exact fun _ _ => by simp))); (conv => whnf))
        | (refine And.intro (fun hq => ?_) (fun hq => ?_) <;> (first | (exfalso; simp at hq; done) | (exfalso; simp only [cond_true, cond_false, Bool.not_eq_true', Bool.not_eq_false', decide_eq_true_eq, decide_eq_false_iff_not] at hq; (try dsimp only at hq); omega) | (exfalso; simp at hq; omega) | ((try simp only [cond_true, cond_false, Bool.not_eq_true', Bool.not_eq_false', decide_eq_true_eq, decide_eq_false_iff_not] at hq); (try dsimp only at hq); (conv => whnf))))
        | (refine fun hq => ?_; conv => whnf)
        | (refine And.intro (by first | (show _ * 1 ≤ 140737488355328; omega) | (show _ * 8 ≤ _; omega) | (show _ * 24 ≤ _; omega) | (show _ * 16 ≤ _; omega) | (show _ * 32 ≤ _; omega) | (show _ * 120 ≤ _; omega) | (show _ * 280 ≤ _; omega) | (show _ * 72 ≤ _; omega) | (show _ * 48 ≤ _; omega)) ?_; conv => whnf)
        | (refine And.intro (by dsimp only; omega) ?_; conv => whnf)
        | fail)
      all_goals (repeat' (first | exact trivial | exact rfl | exact fun _ _ => rfl | apply And.intro | (intro i hi; rcases i with _ | _ | i <;> first | rfl | (exfalso; omega) | (simp at hi; done) | (simp at hi; omega)) | exact fun _ _ => by simp))
def nodeZ : List DV := [.v (.int .u8 0), .v (.slice none 0 0), .v (.slice none 0 0)]
def resG : Option NodeD → AV
  | some n => .tup [agD (nodeL n), exI .i64 0]
  | none => .tup [agD nodeZ, exI .i64 21]
theorem nget_ok (s : Sto) (hs : StoOk s) (k : KidD) (d : Int) (h : Pl.KidOk k) : ACall Try.prog 28 [.ptr 900 0 0 0, agD (kidL k), exI .i64 d] (stoH 900 901 s) (resG (nGet s k d)) (stoH 900 901 s) := by
  have q1 := cppget s hs k.sum h.s h.sB
  unfold nGet
  cases hg : s.get k.sum with
  | none =>
    rw [hg] at q1
    refine acall_on (mu := []) [] [] mixed Try.func28 rfl rfl rfl ?_
    conv => whnf
    repeat' (first
      | (refine And.intro (by omega) ?_; conv => whnf)
      | (refine And.intro rfl ?_; conv => whnf)
      | (refine And.intro (Nat.le_of_ble_eq_true rfl) ?_; conv => whnf)
      | (refine And.intro (fun i hi => ⟨_, rfl⟩) ?_; conv => whnf)
      | (refine ⟨_, _, _, .gen [901,900] _ _ _ rfl (q1) rfl rfl rfl rfl rfl, ?_⟩; conv => whnf)
      | (refine ⟨_, _, _, .gen [901,900] _ _ _ rfl (ACall.arg ?harg (q1)) rfl rfl rfl rfl rfl, ?_⟩; (case harg => (repeat' (first | exact trivial | exact rfl | exact fun _ _ => rfl | apply And.intro | (intro i hi; rcases i with _ | _ | i <;> first | rfl | (exfalso; omega) | (simp at hi; done) | (simp at hi; omega)) | exact fun _ _ => by simp))); (conv => whnf))
      | (refine And.intro (fun hq => ?_) (fun hq => ?_) <;> (first | (exfalso; simp at hq; done) | (exfalso; simp only [cond_true, cond_false, Bool.not_eq_true', Bool.not_eq_false', decide_eq_true_eq, decide_eq_false_iff_not] at hq; (try dsimp only at hq); omega) | (exfalso; simp at hq; omega) | ((try simp only [cond_true, cond_false, Bool.not_eq_true', Bool.not_eq_false', decide_eq_true_eq, decide_eq_false_iff_not] at hq); (try dsimp only at hq); (conv => whnf))))
      | (refine fun hq => ?_; conv => whnf)
      | (refine And.intro (by first | (show _ * 1 ≤ 140737488355328; omega) | (show _ * 8 ≤ _; omega) | (show _ * 24 ≤ _; omega) | (show _ * 16 ≤ _; omega) | (show _ * 32 ≤ _; omega) | (show _ * 120 ≤ _; omega) | (show _ * 280 ≤ _; omega) | (show _ * 72 ≤ _; omega) | (show _ * 48 ≤ _; omega)) ?_; conv => whnf)
      | (refine And.intro (by dsimp only; omega) ?_; conv => whnf)
      | fail)
    all_goals (repeat' (first | exact trivial | exact rfl | exact fun _ _ => rfl | apply And.intro | (intro i hi; rcases i with _ | _ | i <;> first | rfl | (exfalso; omega) | (simp at hi; done) | (simp at hi; omega)) | exact fun _ _ => by simp))
  | some b =>
    rw [hg] at q1
    obtain ⟨hm, _⟩ := Sto.get_some hg
    obtain ⟨hB, hl⟩ := hs.b b hm
    have q2 := ndecode_any d b hB (by omega)
    rw [decN_eq hB] at q2
    dsimp only
    cases hd : Pl.readN d b with
    | none =>
      rw [hd] at q2
      refine acall_on (mu := []) [] [] mixed Try.func28 rfl rfl rfl ?_
      conv => whnf
      repeat' (first
        | (refine And.intro (by omega) ?_; conv => whnf)
        | (refine And.intro rfl ?_; conv => whnf)
        | (refine And.intro (Nat.le_of_ble_eq_true rfl) ?_; conv => whnf)
        | (refine And.intro (fun i hi => ⟨_, rfl⟩) ?_; conv => whnf)
        | (refine ⟨_, _, _, .gen [901,900] _ _ _ rfl (q1) rfl rfl rfl rfl rfl, ?_⟩; conv => whnf)
        | (refine ⟨_, _, _, .gen [] _ _ _ rfl (q2) rfl rfl rfl rfl rfl, ?_⟩; conv => whnf)
        | (refine ⟨_, _, _, .gen [901,900] _ _ _ rfl (ACall.arg ?harg (q1)) rfl rfl rfl rfl rfl, ?_⟩; (case harg => (repeat' (first | exact trivial | exact rfl | exact fun _ _ => rfl | apply And.intro | (intro i hi; rcases i with _ | _ | i <;> first | rfl | (exfalso; omega) | (simp at hi; done) | (simp at hi; omega)) | exact fun _ _ => by simp))); (conv => whnf))
        | (refine ⟨_, _, _, .gen [] _ _ _ rfl (ACall.arg ?harg (q2)) rfl rfl rfl rfl rfl, ?_⟩; (case harg => (repeat' (first | exact trivial | exact rfl | exact fun _ _ => rfl | apply And.intro | (intro i hi; rcases i with _ | _ | i <;> first | rfl | (exfalso; omega) | (simp at hi; done) | (simp at hi; omega)) | exact fun _ _ => by simp))); (conv => whnf))
        | (refine And.intro (fun hq => ?_) (fun hq => ?_) <;> (first | (exfalso; simp at hq; done) | (exfalso; simp only [cond_true, cond_false, Bool.not_eq_true', Bool.not_eq_false', decide_eq_true_eq, decide_eq_false_iff_not] at hq; (try dsimp only at hq); omega) | (exfalso; simp at hq; omega) | ((try simp only [cond_true, cond_false, Bool.not_eq_true', Bool.not_eq_false', decide_eq_true_eq, decide_eq_false_iff_not] at hq); (try dsimp only at hq); (conv => whnf))))
        | (refine fun hq => ?_; conv => whnf)
        | (refine And.intro (by first | (show _ * 1 ≤ 140737488355328; omega) | (show _ * 8 ≤ _; omega) | (show _ * 24 ≤ _; omega) | (show _ * 16 ≤ _; omega) | (show _ * 32 ≤ _; omega) | (show _ * 120 ≤ _; omega) | (show _ * 280 ≤ _; omega) | (show _ * 72 ≤ _; omega) | (show _ * 48 ≤ _; omega)) ?_; conv => whnf)
        | (refine And.intro (by dsimp only; omega) ?_; conv => whnf)
        | fail)
      all_goals (repeat' (first | exact trivial | exact rfl | exact fun _ _ => rfl | apply And.intro | (intro i hi; rcases i with _ | _ | i <;> first | rfl | (exfalso; omega) | (simp at hi; done) | (simp at hi; omega)) | exact fun _ _ => by simp))
    | some n =>
      rw [hd] at q2
      dsimp only
      obtain ⟨hb, hr, hn⟩ := Pl.readN_inv hB hd
      obtain ⟨D, rfl, hrt⟩ := Pl.nodeR_rt hr
      have q3 := nsay_ok n D hn hr
      have ho := Pl.sayN_ok hrt hn
      have q4 := nsame_any (Pl.sayN n) k ⟨ho.lo, ho.hi, ho.key⟩
      rw [kidS_eq ho.s h.s] at q4
      by_cases hz : (Pl.sayN n).size ≤ 1048576
      · rw [if_pos hz] at q3
        by_cases he : Pl.sayN n = k
        · rw [if_pos ⟨hz, he⟩]
          rw [decide_eq_true he] at q4
          refine acall_on (mu := []) [] [] mixed Try.func28 rfl rfl rfl ?_
          conv => whnf
          repeat' (first
            | (refine And.intro (by omega) ?_; conv => whnf)
            | (refine And.intro rfl ?_; conv => whnf)
            | (refine And.intro (Nat.le_of_ble_eq_true rfl) ?_; conv => whnf)
            | (refine And.intro (fun i hi => ⟨_, rfl⟩) ?_; conv => whnf)
            | (refine ⟨_, _, _, .gen [901,900] _ _ _ rfl (q1) rfl rfl rfl rfl rfl, ?_⟩; conv => whnf)
            | (refine ⟨_, _, _, .gen [] _ _ _ rfl (q2) rfl rfl rfl rfl rfl, ?_⟩; conv => whnf)
            | (refine ⟨_, _, _, .gen [] _ _ _ rfl (q3) rfl rfl rfl rfl rfl, ?_⟩; conv => whnf)
            | (refine ⟨_, _, _, .flat _ _ rfl (q4) rfl, ?_⟩; conv => whnf)
            | (refine ⟨_, _, _, .gen [901,900] _ _ _ rfl (ACall.arg ?harg (q1)) rfl rfl rfl rfl rfl, ?_⟩; (case harg => (repeat' (first | exact trivial | exact rfl | exact fun _ _ => rfl | apply And.intro | (intro i hi; rcases i with _ | _ | i <;> first | rfl | (exfalso; omega) | (simp at hi; done) | (simp at hi; omega)) | exact fun _ _ => by simp))); (conv => whnf))
            | (refine ⟨_, _, _, .gen [] _ _ _ rfl (ACall.arg ?harg (q2)) rfl rfl rfl rfl rfl, ?_⟩; (case harg => (repeat' (first | exact trivial | exact rfl | exact fun _ _ => rfl | apply And.intro | (intro i hi; rcases i with _ | _ | i <;> first | rfl | (exfalso; omega) | (simp at hi; done) | (simp at hi; omega)) | exact fun _ _ => by simp))); (conv => whnf))
            | (refine ⟨_, _, _, .gen [] _ _ _ rfl (ACall.arg ?harg (q3)) rfl rfl rfl rfl rfl, ?_⟩; (case harg => (repeat' (first | exact trivial | exact rfl | exact fun _ _ => rfl | apply And.intro | (intro i hi; rcases i with _ | _ | i <;> first | rfl | (exfalso; omega) | (simp at hi; done) | (simp at hi; omega)) | exact fun _ _ => by simp))); (conv => whnf))
            | (refine ⟨_, _, _, .flat _ _ rfl (ACall.arg ?harg (q4)) rfl, ?_⟩; (case harg => (repeat' (first | exact trivial | exact rfl | exact fun _ _ => rfl | apply And.intro | (intro i hi; rcases i with _ | _ | i <;> first | rfl | (exfalso; omega) | (simp at hi; done) | (simp at hi; omega)) | exact fun _ _ => by simp))); (conv => whnf))
            | (refine And.intro (fun hq => ?_) (fun hq => ?_) <;> (first | (exfalso; simp at hq; done) | (exfalso; simp only [cond_true, cond_false, Bool.not_eq_true', Bool.not_eq_false', decide_eq_true_eq, decide_eq_false_iff_not] at hq; (try dsimp only at hq); omega) | (exfalso; simp at hq; omega) | ((try simp only [cond_true, cond_false, Bool.not_eq_true', Bool.not_eq_false', decide_eq_true_eq, decide_eq_false_iff_not] at hq); (try dsimp only at hq); (conv => whnf))))
            | (refine fun hq => ?_; conv => whnf)
            | (refine And.intro (by first | (show _ * 1 ≤ 140737488355328; omega) | (show _ * 8 ≤ _; omega) | (show _ * 24 ≤ _; omega) | (show _ * 16 ≤ _; omega) | (show _ * 32 ≤ _; omega) | (show _ * 120 ≤ _; omega) | (show _ * 280 ≤ _; omega) | (show _ * 72 ≤ _; omega) | (show _ * 48 ≤ _; omega)) ?_; conv => whnf)
            | (refine And.intro (by dsimp only; omega) ?_; conv => whnf)
            | fail)
          all_goals (repeat' (first | exact trivial | exact rfl | exact fun _ _ => rfl | apply And.intro | (intro i hi; rcases i with _ | _ | i <;> first | rfl | (exfalso; omega) | (simp at hi; done) | (simp at hi; omega)) | exact fun _ _ => by simp))
        · rw [if_neg (fun z => he z.2)]
          rw [decide_eq_false he] at q4
          refine acall_on (mu := []) [] [] mixed Try.func28 rfl rfl rfl ?_
          conv => whnf
          repeat' (first
            | (refine And.intro (by omega) ?_; conv => whnf)
            | (refine And.intro rfl ?_; conv => whnf)
            | (refine And.intro (Nat.le_of_ble_eq_true rfl) ?_; conv => whnf)
            | (refine And.intro (fun i hi => ⟨_, rfl⟩) ?_; conv => whnf)
            | (refine ⟨_, _, _, .gen [901,900] _ _ _ rfl (q1) rfl rfl rfl rfl rfl, ?_⟩; conv => whnf)
            | (refine ⟨_, _, _, .gen [] _ _ _ rfl (q2) rfl rfl rfl rfl rfl, ?_⟩; conv => whnf)
            | (refine ⟨_, _, _, .gen [] _ _ _ rfl (q3) rfl rfl rfl rfl rfl, ?_⟩; conv => whnf)
            | (refine ⟨_, _, _, .flat _ _ rfl (q4) rfl, ?_⟩; conv => whnf)
            | (refine ⟨_, _, _, .gen [901,900] _ _ _ rfl (ACall.arg ?harg (q1)) rfl rfl rfl rfl rfl, ?_⟩; (case harg => (repeat' (first | exact trivial | exact rfl | exact fun _ _ => rfl | apply And.intro | (intro i hi; rcases i with _ | _ | i <;> first | rfl | (exfalso; omega) | (simp at hi; done) | (simp at hi; omega)) | exact fun _ _ => by simp))); (conv => whnf))
            | (refine ⟨_, _, _, .gen [] _ _ _ rfl (ACall.arg ?harg (q2)) rfl rfl rfl rfl rfl, ?_⟩; (case harg => (repeat' (first | exact trivial | exact rfl | exact fun _ _ => rfl | apply And.intro | (intro i hi; rcases i with _ | _ | i <;> first | rfl | (exfalso; omega) | (simp at hi; done) | (simp at hi; omega)) | exact fun _ _ => by simp))); (conv => whnf))
            | (refine ⟨_, _, _, .gen [] _ _ _ rfl (ACall.arg ?harg (q3)) rfl rfl rfl rfl rfl, ?_⟩; (case harg => (repeat' (first | exact trivial | exact rfl | exact fun _ _ => rfl | apply And.intro | (intro i hi; rcases i with _ | _ | i <;> first | rfl | (exfalso; omega) | (simp at hi; done) | (simp at hi; omega)) | exact fun _ _ => by simp))); (conv => whnf))
            | (refine ⟨_, _, _, .flat _ _ rfl (ACall.arg ?harg (q4)) rfl, ?_⟩; (case harg => (repeat' (first | exact trivial | exact rfl | exact fun _ _ => rfl | apply And.intro | (intro i hi; rcases i with _ | _ | i <;> first | rfl | (exfalso; omega) | (simp at hi; done) | (simp at hi; omega)) | exact fun _ _ => by simp))); (conv => whnf))
            | (refine And.intro (fun hq => ?_) (fun hq => ?_) <;> (first | (exfalso; simp at hq; done) | (exfalso; simp only [cond_true, cond_false, Bool.not_eq_true', Bool.not_eq_false', decide_eq_true_eq, decide_eq_false_iff_not] at hq; (try dsimp only at hq); omega) | (exfalso; simp at hq; omega) | ((try simp only [cond_true, cond_false, Bool.not_eq_true', Bool.not_eq_false', decide_eq_true_eq, decide_eq_false_iff_not] at hq); (try dsimp only at hq); (conv => whnf))))
            | (refine fun hq => ?_; conv => whnf)
            | (refine And.intro (by first | (show _ * 1 ≤ 140737488355328; omega) | (show _ * 8 ≤ _; omega) | (show _ * 24 ≤ _; omega) | (show _ * 16 ≤ _; omega) | (show _ * 32 ≤ _; omega) | (show _ * 120 ≤ _; omega) | (show _ * 280 ≤ _; omega) | (show _ * 72 ≤ _; omega) | (show _ * 48 ≤ _; omega)) ?_; conv => whnf)
            | (refine And.intro (by dsimp only; omega) ?_; conv => whnf)
            | fail)
          all_goals (repeat' (first | exact trivial | exact rfl | exact fun _ _ => rfl | apply And.intro | (intro i hi; rcases i with _ | _ | i <;> first | rfl | (exfalso; omega) | (simp at hi; done) | (simp at hi; omega)) | exact fun _ _ => by simp))
      · rw [if_neg hz] at q3
        rw [if_neg (fun z => hz z.1)]
        refine acall_on (mu := []) [] [] mixed Try.func28 rfl rfl rfl ?_
        conv => whnf
        repeat' (first
          | (refine And.intro (by omega) ?_; conv => whnf)
          | (refine And.intro rfl ?_; conv => whnf)
          | (refine And.intro (Nat.le_of_ble_eq_true rfl) ?_; conv => whnf)
          | (refine And.intro (fun i hi => ⟨_, rfl⟩) ?_; conv => whnf)
          | (refine ⟨_, _, _, .gen [901,900] _ _ _ rfl (q1) rfl rfl rfl rfl rfl, ?_⟩; conv => whnf)
          | (refine ⟨_, _, _, .gen [] _ _ _ rfl (q2) rfl rfl rfl rfl rfl, ?_⟩; conv => whnf)
          | (refine ⟨_, _, _, .gen [] _ _ _ rfl (q3) rfl rfl rfl rfl rfl, ?_⟩; conv => whnf)
          | (refine ⟨_, _, _, .flat _ _ rfl (q4) rfl, ?_⟩; conv => whnf)
          | (refine ⟨_, _, _, .gen [901,900] _ _ _ rfl (ACall.arg ?harg (q1)) rfl rfl rfl rfl rfl, ?_⟩; (case harg => (repeat' (first | exact trivial | exact rfl | exact fun _ _ => rfl | apply And.intro | (intro i hi; rcases i with _ | _ | i <;> first | rfl | (exfalso; omega) | (simp at hi; done) | (simp at hi; omega)) | exact fun _ _ => by simp))); (conv => whnf))
          | (refine ⟨_, _, _, .gen [] _ _ _ rfl (ACall.arg ?harg (q2)) rfl rfl rfl rfl rfl, ?_⟩; (case harg => (repeat' (first | exact trivial | exact rfl | exact fun _ _ => rfl | apply And.intro | (intro i hi; rcases i with _ | _ | i <;> first | rfl | (exfalso; omega) | (simp at hi; done) | (simp at hi; omega)) | exact fun _ _ => by simp))); (conv => whnf))
          | (refine ⟨_, _, _, .gen [] _ _ _ rfl (ACall.arg ?harg (q3)) rfl rfl rfl rfl rfl, ?_⟩; (case harg => (repeat' (first | exact trivial | exact rfl | exact fun _ _ => rfl | apply And.intro | (intro i hi; rcases i with _ | _ | i <;> first | rfl | (exfalso; omega) | (simp at hi; done) | (simp at hi; omega)) | exact fun _ _ => by simp))); (conv => whnf))
          | (refine ⟨_, _, _, .flat _ _ rfl (ACall.arg ?harg (q4)) rfl, ?_⟩; (case harg => (repeat' (first | exact trivial | exact rfl | exact fun _ _ => rfl | apply And.intro | (intro i hi; rcases i with _ | _ | i <;> first | rfl | (exfalso; omega) | (simp at hi; done) | (simp at hi; omega)) | exact fun _ _ => by simp))); (conv => whnf))
          | (refine And.intro (fun hq => ?_) (fun hq => ?_) <;> (first | (exfalso; simp at hq; done) | (exfalso; simp only [cond_true, cond_false, Bool.not_eq_true', Bool.not_eq_false', decide_eq_true_eq, decide_eq_false_iff_not] at hq; (try dsimp only at hq); omega) | (exfalso; simp at hq; omega) | ((try simp only [cond_true, cond_false, Bool.not_eq_true', Bool.not_eq_false', decide_eq_true_eq, decide_eq_false_iff_not] at hq); (try dsimp only at hq); (conv => whnf))))
          | (refine fun hq => ?_; conv => whnf)
          | (refine And.intro (by first | (show _ * 1 ≤ 140737488355328; omega) | (show _ * 8 ≤ _; omega) | (show _ * 24 ≤ _; omega) | (show _ * 16 ≤ _; omega) | (show _ * 32 ≤ _; omega) | (show _ * 120 ≤ _; omega) | (show _ * 280 ≤ _; omega) | (show _ * 72 ≤ _; omega) | (show _ * 48 ≤ _; omega)) ?_; conv => whnf)
          | (refine And.intro (by dsimp only; omega) ?_; conv => whnf)
          | fail)
        all_goals (repeat' (first | exact trivial | exact rfl | exact fun _ _ => rfl | apply And.intro | (intro i hi; rcases i with _ | _ | i <;> first | rfl | (exfalso; omega) | (simp at hi; done) | (simp at hi; omega)) | exact fun _ _ => by simp))
end Go.Proofs.Ytbidoddghdbaoaa
