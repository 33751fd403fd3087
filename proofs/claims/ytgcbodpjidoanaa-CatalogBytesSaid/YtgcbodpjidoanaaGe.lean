/- block.Right, catalog.right, catalog.Right, catalog.Col. -/
import Derived.Test.YtgcbodpjidoanaaGd
set_option linter.unusedVariables false
set_option linter.unusedSimpArgs false
namespace Go.Proofs.Ytgcbodpjidoanaa
open Go.RowKit
set_option maxRecDepth 100000
set_option maxHeartbeats 1000000
structure OpD where
  kind : Int
  table : ByteArray
  cols : List ByteArray
  row : List Int
deriving Inhabited
def opL (o : OpD) : List DV := [.v (.int .u8 o.kind), .v (.string o.table), strL o.cols, i64L o.row]
def opR (o : OpD) : Bool := nameB (nb o.table) && (if o.kind = 1 then colsOk o.cols && decide (o.row.length = 0) else if o.kind = 2 then decide (o.cols.length = 0) && decide (o.row.length = 0)
  else if o.kind = 3 ∨ o.kind = 4 then decide (o.cols.length = 0) && (decide (2 ≤ o.row.length) && decide (o.row.length ≤ 8)) else false)
theorem bright_any' (o : OpD) (h1 : shortS o.table) (h2 : o.cols.length ≤ 1000000) (h3 : ∀ i, shortS (o.cols.getD i default)) : ACall Try.prog 183 [agD (opL o)] [] (exB (opR o)) [] := by
  refine acall_of (mu := []) mixed Try.func183 rfl rfl rfl ?_
  conv => whnf
  repeat' (first
    | (refine And.intro (by omega) ?_; conv => whnf)
    | (refine And.intro rfl ?_; conv => whnf)
    | (refine And.intro (Nat.le_of_ble_eq_true rfl) ?_; conv => whnf)
    | (refine And.intro (fun i hi => ⟨_, rfl⟩) ?_; conv => whnf)
    | (refine ⟨_, _, _, .flat _ _ rfl (isname_ok o.table h1) rfl, ?_⟩; conv => whnf)
    | (refine ⟨_, _, _, .flat _ _ rfl (arecols_any' o.cols h2 h3) rfl, ?_⟩; conv => whnf)
    | (refine ⟨_, _, _, .flat _ _ rfl (ACall.arg ?harg (isname_ok o.table h1)) rfl, ?_⟩; (case harg => (repeat' (first | exact trivial | exact rfl | exact fun _ _ => rfl | apply And.intro | (intro i hi; rcases i with _ | _ | i <;> first | rfl | (exfalso; omega) | (simp at hi; done) | (simp at hi; omega)) | exact fun _ _ => by simp))); (conv => whnf))
    | (refine ⟨_, _, _, .flat _ _ rfl (ACall.arg ?harg (arecols_any' o.cols h2 h3)) rfl, ?_⟩; (case harg => (repeat' (first | exact trivial | exact rfl | exact fun _ _ => rfl | apply And.intro | (intro i hi; rcases i with _ | _ | i <;> first | rfl | (exfalso; omega) | (simp at hi; done) | (simp at hi; omega)) | exact fun _ _ => by simp))); (conv => whnf))
    | (refine And.intro (fun hq => ?_) (fun hq => ?_) <;> (first | (exfalso; simp at hq; done) | (exfalso; simp at *; omega) | (exfalso; simp_all; done) | (conv => whnf)))
    | (refine And.intro (by first | (show _ * 1 ≤ 140737488355328; omega) | (show _ * 8 ≤ 140737488355328; omega) | (show _ * 24 ≤ 140737488355328; omega) | (show _ * 16 ≤ 140737488355328; omega) | (show _ * 32 ≤ 140737488355328; omega) | (show _ * 120 ≤ 140737488355328; omega) | (show _ * 280 ≤ 140737488355328; omega) | (show _ * 72 ≤ 140737488355328; omega) | (show _ * 48 ≤ 140737488355328; omega)) ?_; conv => whnf)
    | (refine And.intro (by simp at *; omega) ?_; conv => whnf)
    | fail)
  all_goals first
    | exact trivial
    | (refine And.intro (congrArg Value.bool ?_) trivial; grind [opR])
    | (refine And.intro (congrArg Value.bool ?_) trivial; simp_all [opR]; done)
    | (refine And.intro (congrArg Value.bool ?_) trivial; simp [opR] at *; omega)
    | skip
def tabR (t : TableD) : Bool := opR ⟨1, t.name, t.cols, []⟩ && (kidR t.kd (t.cols.length + 1) && (kidR t.zb (t.cols.length + 1) && (decide (t.kd.live = t.zb.live) && (decide (t.kd.key.length = 0) && (kidS t.zb kid0 || (decide (t.zb.key.length = t.cols.length + 1) && decide (t.zb.size = t.zb.live)))))))
def TableD.small (t : TableD) : Prop := shortS t.name ∧ t.cols.length ≤ 1000 ∧ (∀ i, shortS (t.cols.getD i default)) ∧ t.kd.small ∧ t.zb.small
theorem tright_ok (t : TableD) (h : t.small) : ACall Try.prog 112 [agD (tableL t)] [] (exB (tabR t)) [] := by
  obtain ⟨h1, h2, h3, h4, h5⟩ := h
  refine acall_of (mu := []) mixed Try.func112 rfl rfl rfl ?_
  conv => whnf
  repeat' (first
    | (refine And.intro (by omega) ?_; conv => whnf)
    | (refine And.intro rfl ?_; conv => whnf)
    | (refine And.intro (Nat.le_of_ble_eq_true rfl) ?_; conv => whnf)
    | (refine And.intro (fun i hi => ⟨_, rfl⟩) ?_; conv => whnf)
    | (refine ⟨_, _, _, .flat _ _ rfl (dims t h2) rfl, ?_⟩; conv => whnf)
    | (refine ⟨_, _, _, .flat _ _ rfl (bright_any' ⟨1, t.name, t.cols, []⟩ h1 (Nat.le_trans h2 (by omega)) h3) rfl, ?_⟩; conv => whnf)
    | (refine ⟨_, _, _, .flat _ _ rfl (kright_any t.kd _ h4) rfl, ?_⟩; conv => whnf)
    | (refine ⟨_, _, _, .flat _ _ rfl (kright_any t.zb _ h5) rfl, ?_⟩; conv => whnf)
    | (refine ⟨_, _, _, .flat _ _ rfl (nempty_any t.zb h5) rfl, ?_⟩; conv => whnf)
    | (refine ⟨_, _, _, .flat _ _ rfl (ACall.arg ?harg (dims t h2)) rfl, ?_⟩; (case harg => (repeat' (first | exact trivial | exact rfl | exact fun _ _ => rfl | apply And.intro | (intro i hi; rcases i with _ | _ | i <;> first | rfl | (exfalso; omega) | (simp at hi; done) | (simp at hi; omega)) | exact fun _ _ => by simp))); (conv => whnf))
    | (refine ⟨_, _, _, .flat _ _ rfl (ACall.arg ?harg (bright_any' ⟨1, t.name, t.cols, []⟩ h1 (Nat.le_trans h2 (by omega)) h3)) rfl, ?_⟩; (case harg => (repeat' (first | exact trivial | exact rfl | exact fun _ _ => rfl | apply And.intro | (intro i hi; rcases i with _ | _ | i <;> first | rfl | (exfalso; omega) | (simp at hi; done) | (simp at hi; omega)) | exact fun _ _ => by simp))); (conv => whnf))
    | (refine ⟨_, _, _, .flat _ _ rfl (ACall.arg ?harg (kright_any t.kd _ h4)) rfl, ?_⟩; (case harg => (repeat' (first | exact trivial | exact rfl | exact fun _ _ => rfl | apply And.intro | (intro i hi; rcases i with _ | _ | i <;> first | rfl | (exfalso; omega) | (simp at hi; done) | (simp at hi; omega)) | exact fun _ _ => by simp))); (conv => whnf))
    | (refine ⟨_, _, _, .flat _ _ rfl (ACall.arg ?harg (kright_any t.zb _ h5)) rfl, ?_⟩; (case harg => (repeat' (first | exact trivial | exact rfl | exact fun _ _ => rfl | apply And.intro | (intro i hi; rcases i with _ | _ | i <;> first | rfl | (exfalso; omega) | (simp at hi; done) | (simp at hi; omega)) | exact fun _ _ => by simp))); (conv => whnf))
    | (refine ⟨_, _, _, .flat _ _ rfl (ACall.arg ?harg (nempty_any t.zb h5)) rfl, ?_⟩; (case harg => (repeat' (first | exact trivial | exact rfl | exact fun _ _ => rfl | apply And.intro | (intro i hi; rcases i with _ | _ | i <;> first | rfl | (exfalso; omega) | (simp at hi; done) | (simp at hi; omega)) | exact fun _ _ => by simp))); (conv => whnf))
    | (refine And.intro (fun hq => ?_) (fun hq => ?_) <;> (first | (exfalso; simp at hq; done) | (exfalso; simp at *; omega) | (exfalso; simp_all; done) | (conv => whnf)))
    | (refine And.intro (by first | (show _ * 1 ≤ 140737488355328; omega) | (show _ * 8 ≤ 140737488355328; omega) | (show _ * 24 ≤ 140737488355328; omega) | (show _ * 16 ≤ 140737488355328; omega) | (show _ * 32 ≤ 140737488355328; omega) | (show _ * 120 ≤ 140737488355328; omega) | (show _ * 280 ≤ 140737488355328; omega) | (show _ * 72 ≤ 140737488355328; omega) | (show _ * 48 ≤ 140737488355328; omega)) ?_; conv => whnf)
    | (refine And.intro (by simp at *; omega) ?_; conv => whnf)
    | fail)
  all_goals first
    | exact trivial
    | (refine And.intro (congrArg Value.bool ?_) trivial; grind [tabR])
    | (refine And.intro (congrArg Value.bool ?_) trivial; simp_all [tabR]; done)
    | (refine And.intro (congrArg Value.bool ?_) trivial; simp [tabR] at *; omega)
    | skip
end Go.Proofs.Ytgcbodpjidoanaa
