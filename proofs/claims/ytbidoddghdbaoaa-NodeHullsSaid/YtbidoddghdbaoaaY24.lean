/- box.Same, node.Same, node.Empty, node.KidRight. Plain: lists of bytes, of numbers of 64 bits. Bytes; a slice of no elements. -/
import Derived.Test.YtbidoddghdbaoaaY22
import Derived.Test.YtbidoddghdbaoaaY23
set_option linter.unusedVariables false
set_option linter.unusedSimpArgs false
namespace Go.Proofs.Ytbidoddghdbaoaa
open Go.RowKit
set_option maxRecDepth 100000
set_option maxHeartbeats 1000000
theorem boxsame_any (a b : BoxD) (h1 : a.lo.length ≤ 1000000) (h2 : a.hi.length ≤ 1000000) : ACall Try.prog 55 [agD (boxL a), agD (boxL b)] [] (exB (decide (a.lo = b.lo) && decide (a.hi = b.hi))) [] := by
  refine acall_of (mu := []) mixed Try.func55 rfl rfl rfl ?_
  conv => whnf
  repeat' (first
    | (refine And.intro (by omega) ?_; conv => whnf)
    | (refine And.intro rfl ?_; conv => whnf)
    | (refine And.intro (Nat.le_of_ble_eq_true rfl) ?_; conv => whnf)
    | (refine And.intro (fun i hi => ⟨_, rfl⟩) ?_; conv => whnf)
    | (refine ⟨_, _, _, .flat _ _ rfl (equal_any a.lo b.lo h1) rfl, ?_⟩; conv => whnf)
    | (refine ⟨_, _, _, .flat _ _ rfl (equal_any a.hi b.hi h2) rfl, ?_⟩; conv => whnf)
    | (refine ⟨_, _, _, .flat _ _ rfl (ACall.arg ?harg (equal_any a.lo b.lo h1)) rfl, ?_⟩; (case harg => (repeat' (first | exact trivial | exact rfl | exact fun _ _ => rfl | apply And.intro | (intro i hi; rcases i with _ | _ | i <;> first | rfl | (exfalso; omega) | (simp at hi; done) | (simp at hi; omega)) | exact fun _ _ => by simp))); (conv => whnf))
    | (refine ⟨_, _, _, .flat _ _ rfl (ACall.arg ?harg (equal_any a.hi b.hi h2)) rfl, ?_⟩; (case harg => (repeat' (first | exact trivial | exact rfl | exact fun _ _ => rfl | apply And.intro | (intro i hi; rcases i with _ | _ | i <;> first | rfl | (exfalso; omega) | (simp at hi; done) | (simp at hi; omega)) | exact fun _ _ => by simp))); (conv => whnf))
    | (refine And.intro (fun hq => ?_) (fun hq => ?_) <;> (first | (exfalso; simp at hq; done) | (exfalso; simp at *; omega) | (exfalso; simp_all; done) | (conv => whnf)))
    | (refine And.intro (by first | (show _ * 1 ≤ 140737488355328; omega) | (show _ * 8 ≤ _; omega) | (show _ * 24 ≤ _; omega) | (show _ * 16 ≤ _; omega) | (show _ * 32 ≤ _; omega) | (show _ * 120 ≤ _; omega) | (show _ * 280 ≤ _; omega) | (show _ * 72 ≤ _; omega) | (show _ * 48 ≤ _; omega)) ?_; conv => whnf)
    | (refine And.intro (by simp at *; omega) ?_; conv => whnf)
    | (refine fun hq => ?_; conv => whnf)
    | fail)
  all_goals first
    | exact trivial
    | (refine And.intro (congrArg Value.bool ?_) trivial; grind [boxR])
    | (refine And.intro (congrArg Value.bool ?_) trivial; simp_all [boxR]; done)
    | (refine And.intro (congrArg Value.bool ?_) trivial; simp [boxR] at *; omega)
    | skip
def KidD.bx (k : KidD) : BoxD := ⟨k.lo, k.hi⟩
def dgq (a b : List Nat) : Bool := (List.range 32).all fun i => decide (((a.getD i 0 : Nat) : Int) = (b.getD i 0 : Nat))
def kidS (a b : KidD) : Bool := dgq a.sum b.sum && (decide (a.live = b.live) && (decide (a.size = b.size) && (decide (a.lo = b.lo) && (decide (a.hi = b.hi) && decide (a.key = b.key)))))
def KidD.small (k : KidD) : Prop := k.lo.length ≤ 1000000 ∧ k.hi.length ≤ 1000000 ∧ k.key.length ≤ 1000000
theorem nsame_any (a b : KidD) (h : a.small) : ACall Try.prog 31 [agD (kidL a), agD (kidL b)] [] (exB (kidS a b)) [] := by
  obtain ⟨h1, h2, h3⟩ := h
  refine acall_of (mu := []) mixed Try.func31 rfl rfl rfl ?_
  conv => whnf
  refine ⟨fun h => ?_, fun h => ?_⟩
  · replace h : dgq a.sum b.sum = true := h
    conv => whnf
    repeat' (first
      | (refine And.intro (by omega) ?_; conv => whnf)
      | (refine And.intro rfl ?_; conv => whnf)
      | (refine And.intro (Nat.le_of_ble_eq_true rfl) ?_; conv => whnf)
      | (refine And.intro (fun i hi => ⟨_, rfl⟩) ?_; conv => whnf)
      | (refine ⟨_, _, _, .flat _ _ rfl (boxsame_any a.bx b.bx h1 h2) rfl, ?_⟩; conv => whnf)
      | (refine ⟨_, _, _, .flat _ _ rfl (equal_any a.key b.key h3) rfl, ?_⟩; conv => whnf)
      | (refine ⟨_, _, _, .flat _ _ rfl (ACall.arg ?harg (boxsame_any a.bx b.bx h1 h2)) rfl, ?_⟩; (case harg => (repeat' (first | exact trivial | exact rfl | exact fun _ _ => rfl | apply And.intro | (intro i hi; rcases i with _ | _ | i <;> first | rfl | (exfalso; omega) | (simp at hi; done) | (simp at hi; omega)) | exact fun _ _ => by simp))); (conv => whnf))
      | (refine ⟨_, _, _, .flat _ _ rfl (ACall.arg ?harg (equal_any a.key b.key h3)) rfl, ?_⟩; (case harg => (repeat' (first | exact trivial | exact rfl | exact fun _ _ => rfl | apply And.intro | (intro i hi; rcases i with _ | _ | i <;> first | rfl | (exfalso; omega) | (simp at hi; done) | (simp at hi; omega)) | exact fun _ _ => by simp))); (conv => whnf))
      | (refine And.intro (fun hq => ?_) (fun hq => ?_) <;> (first | (exfalso; simp at hq; done) | (exfalso; simp at *; omega) | (exfalso; simp_all; done) | (conv => whnf)))
      | (refine And.intro (by first | (show _ * 1 ≤ 140737488355328; omega) | (show _ * 8 ≤ _; omega) | (show _ * 24 ≤ _; omega) | (show _ * 16 ≤ _; omega) | (show _ * 32 ≤ _; omega) | (show _ * 120 ≤ _; omega) | (show _ * 280 ≤ _; omega) | (show _ * 72 ≤ _; omega) | (show _ * 48 ≤ _; omega)) ?_; conv => whnf)
      | (refine And.intro (by simp at *; omega) ?_; conv => whnf)
      | (refine fun hq => ?_; conv => whnf)
      | fail)
    all_goals first
      | exact trivial
      | (refine And.intro (congrArg Value.bool ?_) trivial; grind [kidS, KidD.bx])
      | (refine And.intro (congrArg Value.bool ?_) trivial; simp_all [kidS, KidD.bx]; done)
      | (refine And.intro (congrArg Value.bool ?_) trivial; simp [kidS, KidD.bx] at *; omega)
      | skip
  · replace h : dgq a.sum b.sum = false := h
    conv => whnf
    repeat' (first
      | (refine And.intro (by omega) ?_; conv => whnf)
      | (refine And.intro rfl ?_; conv => whnf)
      | (refine And.intro (Nat.le_of_ble_eq_true rfl) ?_; conv => whnf)
      | (refine And.intro (fun i hi => ⟨_, rfl⟩) ?_; conv => whnf)
      | (refine ⟨_, _, _, .flat _ _ rfl (boxsame_any a.bx b.bx h1 h2) rfl, ?_⟩; conv => whnf)
      | (refine ⟨_, _, _, .flat _ _ rfl (equal_any a.key b.key h3) rfl, ?_⟩; conv => whnf)
      | (refine ⟨_, _, _, .flat _ _ rfl (ACall.arg ?harg (boxsame_any a.bx b.bx h1 h2)) rfl, ?_⟩; (case harg => (repeat' (first | exact trivial | exact rfl | exact fun _ _ => rfl | apply And.intro | (intro i hi; rcases i with _ | _ | i <;> first | rfl | (exfalso; omega) | (simp at hi; done) | (simp at hi; omega)) | exact fun _ _ => by simp))); (conv => whnf))
      | (refine ⟨_, _, _, .flat _ _ rfl (ACall.arg ?harg (equal_any a.key b.key h3)) rfl, ?_⟩; (case harg => (repeat' (first | exact trivial | exact rfl | exact fun _ _ => rfl | apply And.intro | (intro i hi; rcases i with _ | _ | i <;> first | rfl | (exfalso; omega) | (simp at hi; done) | (simp at hi; omega)) | exact fun _ _ => by simp))); (conv => whnf))
      | (refine And.intro (fun hq => ?_) (fun hq => ?_) <;> (first | (exfalso; simp at hq; done) | (exfalso; simp at *; omega) | (exfalso; simp_all; done) | (conv => whnf)))
      | (refine And.intro (by first | (show _ * 1 ≤ 140737488355328; omega) | (show _ * 8 ≤ _; omega) | (show _ * 24 ≤ _; omega) | (show _ * 16 ≤ _; omega) | (show _ * 32 ≤ _; omega) | (show _ * 120 ≤ _; omega) | (show _ * 280 ≤ _; omega) | (show _ * 72 ≤ _; omega) | (show _ * 48 ≤ _; omega)) ?_; conv => whnf)
      | (refine And.intro (by simp at *; omega) ?_; conv => whnf)
      | (refine fun hq => ?_; conv => whnf)
      | fail)
    all_goals first
      | exact trivial
      | (refine And.intro (congrArg Value.bool ?_) trivial; grind [kidS])
      | (refine And.intro (congrArg Value.bool ?_) trivial; simp_all [kidS]; done)
      | (refine And.intro (congrArg Value.bool ?_) trivial; simp [kidS] at *; omega)
      | skip
def kid0 : KidD := ⟨[], [], [], 0, 0, []⟩
theorem nempty_any (a : KidD) (h : a.small) : ACall Try.prog 98 [agD (kidL a)] [] (exB (kidS a kid0)) [] := by
  refine acall_of (mu := []) mixed Try.func98 rfl rfl rfl ?_
  conv => whnf
  repeat' (first
    | (refine And.intro (by omega) ?_; conv => whnf)
    | (refine And.intro rfl ?_; conv => whnf)
    | (refine And.intro (Nat.le_of_ble_eq_true rfl) ?_; conv => whnf)
    | (refine And.intro (fun i hi => ⟨_, rfl⟩) ?_; conv => whnf)
    | (refine ⟨_, _, _, .flat _ _ rfl (nsame_any a kid0 h) rfl, ?_⟩; conv => whnf)
    | (refine ⟨_, _, _, .flat _ _ rfl (ACall.arg ?harg (nsame_any a kid0 h)) rfl, ?_⟩; (case harg => (repeat' (first | exact trivial | exact rfl | exact fun _ _ => rfl | apply And.intro | (intro i hi; rcases i with _ | _ | i <;> first | rfl | (exfalso; omega) | (simp at hi; done) | (simp at hi; omega)) | exact fun _ _ => by simp))); (conv => whnf))
    | (refine And.intro (fun hq => ?_) (fun hq => ?_) <;> (first | (exfalso; simp at hq; done) | (exfalso; simp at *; omega) | (exfalso; simp_all; done) | (conv => whnf)))
    | (refine And.intro (by first | (show _ * 1 ≤ 140737488355328; omega) | (show _ * 8 ≤ _; omega) | (show _ * 24 ≤ _; omega) | (show _ * 16 ≤ _; omega) | (show _ * 32 ≤ _; omega) | (show _ * 120 ≤ _; omega) | (show _ * 280 ≤ _; omega) | (show _ * 72 ≤ _; omega) | (show _ * 48 ≤ _; omega)) ?_; conv => whnf)
    | (refine And.intro (by simp at *; omega) ?_; conv => whnf)
    | (refine fun hq => ?_; conv => whnf)
    | fail)
  all_goals first
    | exact trivial
    | (refine And.intro (congrArg Value.bool ?_) trivial; grind [kidS])
    | (refine And.intro (congrArg Value.bool ?_) trivial; simp_all [kidS]; done)
    | (refine And.intro (congrArg Value.bool ?_) trivial; simp [kidS] at *; omega)
    | skip
def kidR (k : KidD) (d : Int) : Bool := kidS k kid0 || (decide (1 ≤ k.size) && (decide (k.size ≤ 1048576) && (decide (0 ≤ k.live) && (decide (k.live ≤ k.size) && (if k.live = 0 then decide (k.lo.length = 0) && decide (k.hi.length = 0) else boxR k.bx d)))))
theorem kright_any (a : KidD) (d : Int) (h : a.small) : ACall Try.prog 94 [agD (kidL a), exI .i64 d] [] (exB (kidR a d)) [] := by
  refine acall_of (mu := []) mixed Try.func94 rfl rfl rfl ?_
  conv => whnf
  repeat' (first
    | (refine And.intro (by omega) ?_; conv => whnf)
    | (refine And.intro rfl ?_; conv => whnf)
    | (refine And.intro (Nat.le_of_ble_eq_true rfl) ?_; conv => whnf)
    | (refine And.intro (fun i hi => ⟨_, rfl⟩) ?_; conv => whnf)
    | (refine ⟨_, _, _, .flat _ _ rfl (nempty_any a h) rfl, ?_⟩; conv => whnf)
    | (refine ⟨_, _, _, .flat _ _ rfl (boxr_any a.bx d h.1 h.2.1) rfl, ?_⟩; conv => whnf)
    | (refine ⟨_, _, _, .flat _ _ rfl (ACall.arg ?harg (nempty_any a h)) rfl, ?_⟩; (case harg => (repeat' (first | exact trivial | exact rfl | exact fun _ _ => rfl | apply And.intro | (intro i hi; rcases i with _ | _ | i <;> first | rfl | (exfalso; omega) | (simp at hi; done) | (simp at hi; omega)) | exact fun _ _ => by simp))); (conv => whnf))
    | (refine ⟨_, _, _, .flat _ _ rfl (ACall.arg ?harg (boxr_any a.bx d h.1 h.2.1)) rfl, ?_⟩; (case harg => (repeat' (first | exact trivial | exact rfl | exact fun _ _ => rfl | apply And.intro | (intro i hi; rcases i with _ | _ | i <;> first | rfl | (exfalso; omega) | (simp at hi; done) | (simp at hi; omega)) | exact fun _ _ => by simp))); (conv => whnf))
    | (refine And.intro (fun hq => ?_) (fun hq => ?_) <;> (first | (exfalso; simp at hq; done) | (exfalso; simp at *; omega) | (exfalso; simp_all; done) | (conv => whnf)))
    | (refine And.intro (by first | (show _ * 1 ≤ 140737488355328; omega) | (show _ * 8 ≤ _; omega) | (show _ * 24 ≤ _; omega) | (show _ * 16 ≤ _; omega) | (show _ * 32 ≤ _; omega) | (show _ * 120 ≤ _; omega) | (show _ * 280 ≤ _; omega) | (show _ * 72 ≤ _; omega) | (show _ * 48 ≤ _; omega)) ?_; conv => whnf)
    | (refine And.intro (by simp at *; omega) ?_; conv => whnf)
    | (refine fun hq => ?_; conv => whnf)
    | fail)
  all_goals first
    | exact trivial
    | (refine And.intro (congrArg Value.bool ?_) trivial; grind [kidR])
    | (refine And.intro (congrArg Value.bool ?_) trivial; simp_all [kidR]; done)
    | (refine And.intro (congrArg Value.bool ?_) trivial; simp [kidR] at *; omega)
    | skip
end Go.Proofs.Ytbidoddghdbaoaa
namespace Go.Proofs.Ytbidoddghdbaoaa.Pl
def IsB (l : List Nat) : Prop := ∀ i, l.getD i 0 < 256
def IsI (l : List Int) : Prop := ∀ i, -9223372036854775808 ≤ l.getD i 0 ∧ l.getD i 0 ≤ 9223372036854775807
end Go.Proofs.Ytbidoddghdbaoaa.Pl
namespace Go.Proofs.Ytbidoddghdbaoaa
open Go.RowKit
set_option maxRecDepth 100000
set_option maxHeartbeats 1000000
def byF (l : List Nat) (i : Nat) : List DV := [.v (.int .u8 (l.getD i 0 : Nat))]
def byteL (l : List Nat) : DV := .sl 1 l.length (byF l)
def digL (s : List Nat) : List DV := b32 fun i => .v (.int .u8 (s.getD i 0 : Nat))
/-- a slice of no elements is some value -/
theorem ACall.none0 {P : Program} {f : FuncId} {pre post : List AV} {sz : Nat} {fd : Nat → List DV} {Hp H' : OH} {r : AV} (h : ∀ A c, ACall P f (pre ++ .d (.v (.slice A 0 c)) :: post) Hp r H') : ACall P f (pre ++ .d (.sl sz 0 fd) :: post) Hp r H' := by
  refine ⟨(h none 0).1, fun A W vl vs G hl hv => ?_⟩
  have hlt : pre.length < vs.length := by rw [← hl]; simp
  have hp := hv pre.length (by simp)
  rw [show (pre ++ AV.d (.sl sz 0 fd) :: post).getD pre.length .any = .d (.sl sz 0 fd) by simp [List.getD_eq_getElem?_getD]] at hp
  replace hp : RD _ _ (.sl sz 0 fd) _ := hp
  generalize hz : vs.getD pre.length undef = z at hp
  cases hp with
  | sl _ _ _ A' b off c u hA hc _ _ _ =>
    refine (h A' c).2 A W vl vs G (by simpa using hl) fun j hj => ?_
    rcases Nat.lt_trichotomy j pre.length with q | q | q
    · have := hv j (by simp at hj ⊢; omega)
      rw [List.getD_eq_getElem?_getD, List.getElem?_append_left q] at this ⊢
      exact this
    · subst q
      rw [show (pre ++ AV.d (.v (.slice A' 0 c)) :: post).getD pre.length .any = .d (.v (.slice A' 0 c)) by simp [List.getD_eq_getElem?_getD], hz]
      exact rv_ex _
    · have := hv j (by simp at hj ⊢; omega)
      obtain ⟨t, rfl⟩ : ∃ t, j = pre.length + (t + 1) := ⟨j - pre.length - 1, by omega⟩
      rw [List.getD_eq_getElem?_getD, List.getElem?_append_right (by omega)] at this ⊢
      simpa using this
end Go.Proofs.Ytbidoddghdbaoaa
