/- The reference's SameRow, Same of boxes, Same of kids. Arguments told anew, lists within lists too. -/
import Derived.Test.YtbidoddghdbaoaaY22
import Derived.Test.YtbidoddghdbaoaaY24
set_option linter.unusedVariables false
set_option linter.unusedSimpArgs false
namespace Go.Proofs.Ytbidoddghdbaoaa
open Go.RowKit
set_option maxRecDepth 100000
set_option maxHeartbeats 1000000
theorem rsamerow_ok (l m : List Int) (h : l.length ≤ 1000000) : ACall Try.prog 30 [.d (i64L l), .d (i64L m)] [] (exB (decide (l = m))) [] := by
  refine acall_of (mu := []) mixed Try.func30 rfl rfl rfl ?_
  conv => whnf
  refine ⟨fun a => ?_, fun b => ?_⟩
  · have hne : l ≠ m := fun e => by subst e; simp at a
    rw [decide_eq_false hne]
    conv => whnf
    all_goals (repeat' (first | exact trivial | exact rfl | exact fun _ _ => rfl | apply And.intro | (intro i hi; rcases i with _ | _ | i <;> first | rfl | (exfalso; omega) | (simp at hi; done) | (simp at hi; omega)) | exact fun _ _ => by simp))
  · have hl : l.length = m.length := by simp at b; omega
    conv => whnf
    refine ⟨[], ?_⟩
    conv => whnf
    refine ⟨Nat, fun k => k ≤ l.length ∧ ∀ i, i < k → l.getD i 0 = m.getD i 0, fun k => l.length - k, fun k => [(4, exB false), (5, exI .i64 k)], fun _ => [], ⟨0, ⟨by omega, fun i hi => by omega⟩, ?_⟩, ?_⟩
    · skip
      refine ⟨[], ?_⟩
      conv => whnf
      refine ⟨rfl, ?_, ?_⟩ <;> (repeat' (first | exact trivial | exact rfl | exact fun _ _ => rfl | apply And.intro | (intro i hi; rcases i with _ | _ | i <;> first | rfl | (exfalso; omega) | (simp at hi; done) | (simp at hi; omega)) | exact fun _ _ => by simp))
    intro k ⟨hk, hn⟩
    conv => whnf
    repeat
      first
        | refine And.intro (by omega) ?_
        | refine And.intro rfl ?_
      conv => whnf
    refine ⟨fun hlt => ?_, fun hge => ?_⟩
    · have hlt : k < l.length := by simpa using hlt
      conv => whnf
      repeat
        first
          | refine And.intro (by omega) ?_
          | refine And.intro rfl ?_
        conv => whnf
      refine ⟨fun he => ?_, fun he => ?_⟩
      · have hne : l ≠ m := fun e => by subst e; simp at he
        rw [decide_eq_false hne]
        conv => whnf
        all_goals (repeat' (first | exact trivial | exact rfl | exact fun _ _ => rfl | apply And.intro | (intro i hi; rcases i with _ | _ | i <;> first | rfl | (exfalso; omega) | (simp at hi; done) | (simp at hi; omega)) | exact fun _ _ => by simp))
      · skip
        conv => whnf
        repeat
          first
            | refine And.intro (by omega) ?_
            | refine And.intro rfl ?_
          conv => whnf
        refine ⟨k + 1, ⟨by omega, fun i hi => ?_⟩, by dsimp only; omega, ?_⟩
        · rcases Nat.lt_or_ge i k with q | q
          · exact hn i q
          · obtain rfl : i = k := by omega
            simpa using he
        · skip
          refine ⟨[], ?_⟩
          conv => whnf
          refine ⟨rfl, ?_, ?_⟩ <;> (repeat' (first | exact trivial | exact rfl | exact fun _ _ => rfl | apply And.intro | (intro i hi; rcases i with _ | _ | i <;> first | rfl | (exfalso; omega) | (simp at hi; done) | (simp at hi; omega)) | exact fun _ _ => by simp))
    · have hge : ¬ k < l.length := by simpa using hge
      rw [decide_eq_true (list_eq hl fun i hi => hn i (by omega))]
      conv => whnf
      all_goals (repeat' (first | exact trivial | exact rfl | exact fun _ _ => rfl | apply And.intro | (intro i hi; rcases i with _ | _ | i <;> first | rfl | (exfalso; omega) | (simp at hi; done) | (simp at hi; omega)) | exact fun _ _ => by simp))
theorem rboxsame_ok (a b : BoxD) (h1 : a.lo.length ≤ 1000000) (h2 : a.hi.length ≤ 1000000) : ACall Try.prog 29 [agD (boxL a), agD (boxL b)] [] (exB (decide (a.lo = b.lo) && decide (a.hi = b.hi))) [] := by
  refine acall_of (mu := []) mixed Try.func29 rfl rfl rfl ?_
  conv => whnf
  repeat' (first
    | (refine And.intro (by omega) ?_; conv => whnf)
    | (refine And.intro rfl ?_; conv => whnf)
    | (refine And.intro (Nat.le_of_ble_eq_true rfl) ?_; conv => whnf)
    | (refine And.intro (fun i hi => ⟨_, rfl⟩) ?_; conv => whnf)
    | (refine ⟨_, _, _, .flat _ _ rfl (rsamerow_ok a.lo b.lo h1) rfl, ?_⟩; conv => whnf)
    | (refine ⟨_, _, _, .flat _ _ rfl (rsamerow_ok a.hi b.hi h2) rfl, ?_⟩; conv => whnf)
    | (refine ⟨_, _, _, .flat _ _ rfl (ACall.arg ?harg (rsamerow_ok a.lo b.lo h1)) rfl, ?_⟩; (case harg => (repeat' (first | exact trivial | exact rfl | exact fun _ _ => rfl | apply And.intro | (intro i hi; rcases i with _ | _ | i <;> first | rfl | (exfalso; omega) | (simp at hi; done) | (simp at hi; omega)) | exact fun _ _ => by simp))); (conv => whnf))
    | (refine ⟨_, _, _, .flat _ _ rfl (ACall.arg ?harg (rsamerow_ok a.hi b.hi h2)) rfl, ?_⟩; (case harg => (repeat' (first | exact trivial | exact rfl | exact fun _ _ => rfl | apply And.intro | (intro i hi; rcases i with _ | _ | i <;> first | rfl | (exfalso; omega) | (simp at hi; done) | (simp at hi; omega)) | exact fun _ _ => by simp))); (conv => whnf))
    | (refine And.intro (fun hq => ?_) (fun hq => ?_) <;> (first | (exfalso; simp at hq; done) | (exfalso; simp at *; omega) | (exfalso; simp_all; done) | (conv => whnf)))
    | (refine And.intro (by first | (show _ * 1 ≤ 140737488355328; omega) | (show _ * 8 ≤ _; omega) | (show _ * 24 ≤ _; omega) | (show _ * 16 ≤ _; omega) | (show _ * 32 ≤ _; omega) | (show _ * 120 ≤ _; omega) | (show _ * 280 ≤ _; omega) | (show _ * 72 ≤ _; omega) | (show _ * 48 ≤ _; omega)) ?_; conv => whnf)
    | (refine And.intro (by simp at *; omega) ?_; conv => whnf)
    | (refine fun hq => ?_; conv => whnf)
    | fail)
  all_goals first
    | exact trivial
    | (refine And.intro (congrArg Value.bool ?_) trivial; grind [boxR])
    | (refine And.intro (congrArg Value.bool ?_) trivial; simp_all [boxR]; done)
    | (refine And.intro (congrArg Value.bool ?_) trivial; simp [boxR] at *; omega)
    | skip
theorem rksame_ok (a b : KidD) (h : a.small) : ACall Try.prog 57 [agD (kidL a), agD (kidL b)] [] (exB (kidS a b)) [] := by
  obtain ⟨h1, h2, h3⟩ := h
  refine acall_of (mu := []) mixed Try.func57 rfl rfl rfl ?_
  conv => whnf
  refine ⟨fun h => ?_, fun h => ?_⟩
  · replace h : dgq a.sum b.sum = true := h
    conv => whnf
    repeat' (first
      | (refine And.intro (by omega) ?_; conv => whnf)
      | (refine And.intro rfl ?_; conv => whnf)
      | (refine And.intro (Nat.le_of_ble_eq_true rfl) ?_; conv => whnf)
      | (refine And.intro (fun i hi => ⟨_, rfl⟩) ?_; conv => whnf)
      | (refine ⟨_, _, _, .flat _ _ rfl (rboxsame_ok a.bx b.bx h1 h2) rfl, ?_⟩; conv => whnf)
      | (refine ⟨_, _, _, .flat _ _ rfl (rsamerow_ok a.key b.key h3) rfl, ?_⟩; conv => whnf)
      | (refine ⟨_, _, _, .flat _ _ rfl (ACall.arg ?harg (rboxsame_ok a.bx b.bx h1 h2)) rfl, ?_⟩; (case harg => (repeat' (first | exact trivial | exact rfl | exact fun _ _ => rfl | apply And.intro | (intro i hi; rcases i with _ | _ | i <;> first | rfl | (exfalso; omega) | (simp at hi; done) | (simp at hi; omega)) | exact fun _ _ => by simp))); (conv => whnf))
      | (refine ⟨_, _, _, .flat _ _ rfl (ACall.arg ?harg (rsamerow_ok a.key b.key h3)) rfl, ?_⟩; (case harg => (repeat' (first | exact trivial | exact rfl | exact fun _ _ => rfl | apply And.intro | (intro i hi; rcases i with _ | _ | i <;> first | rfl | (exfalso; omega) | (simp at hi; done) | (simp at hi; omega)) | exact fun _ _ => by simp))); (conv => whnf))
      | (refine And.intro (fun hq => ?_) (fun hq => ?_) <;> (first | (exfalso; simp at hq; done) | (exfalso; simp at *; omega) | (exfalso; simp_all; done) | (conv => whnf)))
      | (refine And.intro (by first | (show _ * 1 ≤ 140737488355328; omega) | (show _ * 8 ≤ _; omega) | (show _ * 24 ≤ _; omega) | (show _ * 16 ≤ _; omega) | (show _ * 32 ≤ _; omega) | (show _ * 120 ≤ _; omega) | (show _ * 280 ≤ _; omega) | (show _ * 72 ≤ _; omega) | (show _ * 48 ≤ _; omega)) ?_; conv => whnf)
      | (refine And.intro (by simp at *; omega) ?_; conv => whnf)
      | (refine fun hq => ?_; conv => whnf)
      | fail)
    all_goals first
      | exact trivial
      | (refine And.intro (congrArg Value.bool ?_) trivial; grind [kidS, KidD.bx])
      | (refine And.intro (congrArg Value.bool ?_) trivial; simp_all [kidS, KidD.bx]; done)
      | (refine And.intro (congrArg Value.bool ?_) trivial; simp [kidS, KidD.bx] at *; omega)
      | skip
  · replace h : dgq a.sum b.sum = false := h
    conv => whnf
    repeat' (first
      | (refine And.intro (by omega) ?_; conv => whnf)
      | (refine And.intro rfl ?_; conv => whnf)
      | (refine And.intro (Nat.le_of_ble_eq_true rfl) ?_; conv => whnf)
      | (refine And.intro (fun i hi => ⟨_, rfl⟩) ?_; conv => whnf)
      | (refine ⟨_, _, _, .flat _ _ rfl (rboxsame_ok a.bx b.bx h1 h2) rfl, ?_⟩; conv => whnf)
      | (refine ⟨_, _, _, .flat _ _ rfl (rsamerow_ok a.key b.key h3) rfl, ?_⟩; conv => whnf)
      | (refine ⟨_, _, _, .flat _ _ rfl (ACall.arg ?harg (rboxsame_ok a.bx b.bx h1 h2)) rfl, ?_⟩; (case harg => (repeat' (first | exact trivial | exact rfl | exact fun _ _ => rfl | apply And.intro | (intro i hi; rcases i with _ | _ | i <;> first | rfl | (exfalso; omega) | (simp at hi; done) | (simp at hi; omega)) | exact fun _ _ => by simp))); (conv => whnf))
      | (refine ⟨_, _, _, .flat _ _ rfl (ACall.arg ?harg (rsamerow_ok a.key b.key h3)) rfl, ?_⟩; (case harg => (repeat' (first | exact trivial | exact rfl | exact fun _ _ => rfl | apply And.intro | (intro i hi; rcases i with _ | _ | i <;> first | rfl | (exfalso; omega) | (simp at hi; done) | (simp at hi; omega)) | exact fun _ _ => by simp))); (conv => whnf))
      | (refine And.intro (fun hq => ?_) (fun hq => ?_) <;> (first | (exfalso; simp at hq; done) | (exfalso; simp at *; omega) | (exfalso; simp_all; done) | (conv => whnf)))
      | (refine And.intro (by first | (show _ * 1 ≤ 140737488355328; omega) | (show _ * 8 ≤ _; omega) | (show _ * 24 ≤ _; omega) | (show _ * 16 ≤ _; omega) | (show _ * 32 ≤ _; omega) | (show _ * 120 ≤ _; omega) | (show _ * 280 ≤ _; omega) | (show _ * 72 ≤ _; omega) | (show _ * 48 ≤ _; omega)) ?_; conv => whnf)
      | (refine And.intro (by simp at *; omega) ?_; conv => whnf)
      | (refine fun hq => ?_; conv => whnf)
      | fail)
    all_goals first
      | exact trivial
      | (refine And.intro (congrArg Value.bool ?_) trivial; grind [kidS])
      | (refine And.intro (congrArg Value.bool ?_) trivial; simp_all [kidS]; done)
      | (refine And.intro (congrArg Value.bool ?_) trivial; simp [kidS] at *; omega)
      | skip
end Go.Proofs.Ytbidoddghdbaoaa
namespace Go.Proofs.Ytbidoddghdbaoaa
open Go.RowKit
inductive DvE : DV → DV → Prop where
  | refl (x : DV) : DvE x x
  | nil (A : Option Addr) (c sz : Nat) (f : Nat → List DV) : DvE (.v (.slice A 0 c)) (.sl sz 0 f)
  | sl (sz n : Nat) (f f' : Nat → List DV) (hl : ∀ k, k < n → (f k).length = (f' k).length) (h : ∀ k j, k < n → j < (f k).length → DvE ((f k).getD j default) ((f' k).getD j default)) : DvE (.sl sz n f) (.sl sz n f')
  | p (cs ds : List DV) (hl : cs.length = ds.length) (h : ∀ j, j < cs.length → DvE (cs.getD j default) (ds.getD j default)) : DvE (.p cs) (.p ds)
theorem RD.deep {W : World} {N : Nat → Prop} {x y : DV} (e : DvE x y) : ∀ {v : Value}, RD W N x v → RD W N y v := by
  induction e with
  | refl x => exact fun h => h
  | nil A c sz f =>
    intro v h
    cases h
    exact .sl sz 0 f A 0 0 c (fun _ _ => default) (fun h => by omega) (Nat.zero_le _) (fun i hi => by omega) (fun i j hi => by omega) (fun i j hi => by omega)
  | sl sz n f f' hl h ih =>
    intro v hv
    cases hv with
    | sl _ _ _ A b off c u hA hc hl2 hu hr => exact .sl sz n f' A b off c u hA hc (fun i hi => by rw [← hl i hi]; exact hl2 i hi) hu fun i j hi hj => ih i j hi (by rw [hl2 i hi]; exact hj) (hr i j hi hj)
  | p cs ds hl h ih =>
    intro v hv
    cases hv with
    | p _ b off u hb hu hr => exact .p ds b off u hb (fun j hj => hu j (by rw [hl]; exact hj)) fun j hj => ih j (by rw [hl]; exact hj) (hr j (by rw [hl]; exact hj))
inductive DvL : List DV → List DV → Prop where
  | nil : DvL [] []
  | cons {x y : DV} {l m : List DV} (h : DvE x y) (r : DvL l m) : DvL (x :: l) (y :: m)
theorem DvL.len {l m : List DV} (h : DvL l m) : l.length = m.length := by
  induction h with
  | nil => rfl
  | cons _ _ ih => simp [ih]
theorem DvL.get {l m : List DV} (h : DvL l m) : ∀ j, j < l.length → DvE (l.getD j default) (m.getD j default) := by
  induction h with
  | nil => intro j hj; cases hj
  | cons h r ih =>
    intro j hj
    cases j with
    | zero => exact h
    | succ j => simpa using ih j (by simpa using hj)
theorem DvE.sl' {sz n : Nat} {f f' : Nat → List DV} (h : ∀ k, k < n → DvL (f k) (f' k)) : DvE (.sl sz n f) (.sl sz n f') := .sl sz n f f' (fun k hk => (h k hk).len) fun k j hk hj => (h k hk).get j hj
theorem DvE.p' {cs ds : List DV} (h : DvL cs ds) : DvE (.p cs) (.p ds) := .p cs ds h.len h.get
/-- a slice of as many elements as a list has, and of another list's elements -/
inductive AvE : AV → AV → Prop where
  | refl (a : AV) : AvE a a
  | any (a : AV) : AvE a .any
  | d {x y : DV} (h : DvE x y) : AvE (.d x) (.d y)
  | dp {cs ds : List DV} (h : DvL cs ds) : AvE (.dp cs) (.dp ds)
inductive AvL : List AV → List AV → Prop where
  | nil : AvL [] []
  | cons {x y : AV} {l m : List AV} (h : AvE x y) (r : AvL l m) : AvL (x :: l) (y :: m)
inductive AvA : AV → AV → Prop where
  | one {a b : AV} (h : AvE a b) : AvA a b
  | agg {l m : List AV} (h : AvL l m) : AvA (.agg l) (.agg m)
inductive AvT : List AV → List AV → Prop where
  | nil : AvT [] []
  | cons {x y : AV} {l m : List AV} (h : AvA x y) (r : AvT l m) : AvT (x :: l) (y :: m)
section
variable {C : Cx}
theorem Rb.deep {a b : AV} {v : Value} (e : AvE a b) (h : Rb C a v) : Rb C b v := by
  cases e with
  | refl => exact h
  | any => trivial
  | d hd => exact RD.deep hd h
  | dp hd =>
    obtain ⟨b, off, u, e, hb, hc⟩ := h
    exact ⟨b, off, u, e, hb, fun j hj => ⟨(hc j (by rw [hd.len]; exact hj)).1, RD.deep (hd.get j (by rw [hd.len]; exact hj)) (hc j (by rw [hd.len]; exact hj)).2⟩⟩
theorem AvL.len {l m : List AV} (h : AvL l m) : l.length = m.length := by
  induction h with
  | nil => rfl
  | cons _ _ ih => simp [ih]
theorem AvL.get {l m : List AV} (h : AvL l m) : ∀ j, j < l.length → AvE (l.getD j .any) (m.getD j .any) := by
  induction h with
  | nil => intro j hj; cases hj
  | cons h r ih =>
    intro j hj
    cases j with
    | zero => exact h
    | succ j => simpa using ih j (by simpa using hj)
theorem AvT.len {l m : List AV} (h : AvT l m) : l.length = m.length := by
  induction h with
  | nil => rfl
  | cons _ _ ih => simp [ih]
theorem AvT.get {l m : List AV} (h : AvT l m) : ∀ j, j < l.length → AvA (l.getD j .any) (m.getD j .any) := by
  induction h with
  | nil => intro j hj; cases hj
  | cons h r ih =>
    intro j hj
    cases j with
    | zero => exact h
    | succ j => simpa using ih j (by simpa using hj)
theorem Rv.deep {a b : AV} {v : Value} (e : AvA a b) (h : Rv C a v) : Rv C b v := by
  cases e with
  | agg hd =>
    obtain ⟨us, rfl, hl, hr⟩ := h
    exact ⟨us, rfl, by rw [← hd.len]; exact hl, fun j hj => Rb.deep (hd.get j (by rw [hd.len]; exact hj)) (hr j (by rw [hd.len]; exact hj))⟩
  | one e =>
    cases e with
    | refl => exact h
    | any => trivial
    | d hd => exact Rb.deep (a := .d _) (.d hd) h
    | dp hd => exact Rb.deep (a := .dp _) (.dp hd) h
end
/-- arguments may be told anew, however deep -/
theorem ACall.deep {P : Program} {f : FuncId} {xs bs : List AV} {Hp H' : OH} {r : AV} (e : AvT xs bs) (hc : ACall P f bs Hp r H') : ACall P f xs Hp r H' :=
  ⟨hc.1, fun A W vl vs G hl hv => hc.2 A W vl vs G (by rw [← hl, e.len]) fun j hj => Rv.deep (e.get j (by rw [e.len]; exact hj)) (hv j (by rw [e.len]; exact hj))⟩
end Go.Proofs.Ytbidoddghdbaoaa
