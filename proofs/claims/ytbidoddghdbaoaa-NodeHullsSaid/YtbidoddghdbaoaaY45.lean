/- node.Say, node.Put, node.Get, in the new way. -/
import Derived.Test.YtbidoddghdbaoaaY31
import Derived.Test.YtbidoddghdbaoaaY32
import Derived.Test.YtbidoddghdbaoaaY44
set_option linter.unusedVariables false
set_option linter.unusedSimpArgs false
namespace Go.Proofs.Ytbidoddghdbaoaa
open Go.RowKit
set_option maxRecDepth 100000
set_option maxHeartbeats 4000000
theorem dgq_eq {a b : List Nat} (ha : a.length = 32) (hb : b.length = 32) : dgq a b = decide (a = b) := by
  rw [Bool.eq_iff_iff]
  unfold dgq
  simp only [List.all_eq_true, List.mem_range, decide_eq_true_eq]
  constructor
  · intro h
    apply List.ext_getElem (by omega)
    intro i h1 h2
    have := h i (by omega)
    rw [List.getD_eq_getElem?_getD, List.getD_eq_getElem?_getD, List.getElem?_eq_getElem h1, List.getElem?_eq_getElem h2] at this
    simp only [Option.getD_some] at this
    omega
  · rintro rfl i _; rfl
theorem kidS_eq {a b : KidD} (ha : a.sum.length = 32) (hb : b.sum.length = 32) : kidS a b = decide (a = b) := by
  rw [Bool.eq_iff_iff]
  unfold kidS
  rw [dgq_eq ha hb]
  simp only [Bool.and_eq_true, decide_eq_true_eq]
  constructor
  · rintro ⟨h1, h2, h3, h4, h5, h6⟩
    obtain ⟨a1, a2, a3, a4, a5, a6⟩ := a
    obtain ⟨b1, b2, b3, b4, b5, b6⟩ := b
    dsimp only at h1 h2 h3 h4 h5 h6
    subst h1 h2 h3 h4 h5 h6; rfl
  · rintro rfl; exact ⟨rfl, rfl, rfl, rfl, rfl, rfl⟩
theorem dgq0 (a : List Nat) : dgq a [] = dgq a (List.replicate 32 0) := by
  unfold dgq
  congr 1
  funext i
  congr 1
  have : (List.replicate 32 0).getD i 0 = 0 := by
    rw [List.getD_eq_getElem?_getD, List.getElem?_replicate]; split <;> rfl
  rw [this]; rfl
theorem kidS_zero {a : KidD} (ha : a.sum.length = 32) : kidS a kid0 = decide (a = Pl.kidZ) := by
  rw [← kidS_eq ha (by rfl)]
  unfold kidS
  rw [show kid0.sum = [] from rfl, dgq0]; rfl
theorem kidR_eq {k : KidD} (h : k.sum.length = 32) (d : Int) : kidR k d = Pl.kidR k d := by
  unfold kidR Pl.kidR
  rw [kidS_zero h, show k.bx = ⟨k.lo, k.hi⟩ from rfl, boxR_eq]
theorem all_congr {α : Type} [Inhabited α] {l : List α} {p q : α → Bool} (h : ∀ i, i < l.length → p (l.getD i default) = q (l.getD i default)) : l.all p = l.all q := by
  rw [Bool.eq_iff_iff, List.all_eq_true, List.all_eq_true]
  constructor
  · intro hp x hx; obtain ⟨i, hi, rfl⟩ := Pl.mem_getDN hx; rw [← h i hi]; exact hp _ hx
  · intro hp x hx; obtain ⟨i, hi, rfl⟩ := Pl.mem_getDN hx; rw [h i hi]; exact hp _ hx
theorem nodeR_eq {n : NodeD} (h : Pl.NodeOk n) (d : Int) : nodeR n d = Pl.nodeR n d := by
  unfold nodeR Pl.nodeR
  rw [all_congr (l := n.kids) (q := fun k => Pl.kidR k d) (fun i hi => kidR_eq (h.kid i hi).s d)]
  congr 4
  unfold nodeK Pl.kindR
  split
  · rfl
  · split
    · rfl
    · rw [all_congr (l := n.kids) (p := fun k => decide ((k.key.length : Int) = d) && !kidS k kid0) (q := fun k => decide ((k.key.length : Int) = d) && !decide (k = Pl.kidZ)) (fun i hi => by rw [kidS_zero (h.kid i hi).s])]
      by_cases e : n.kind = 3
      · rw [if_pos e, decide_eq_true e]; rfl
      · rw [if_neg e, decide_eq_false e]; rfl
theorem nodeS_of {n : NodeD} (h : Pl.NodeOk n) : NodeS n := ⟨h.rows, h.kids, fun i hi => (h.row i hi).2, fun i hi => ⟨(h.kid i hi).lo, (h.kid i hi).hi, (h.kid i hi).key⟩⟩
theorem nodeW_of {n : NodeD} {d : Nat} (h : Pl.NodeOk n) (r : Pl.NodeRt n d) : NodeW n := by
  refine ⟨by have := h.kind; omega, r.rows, r.kids, fun i hi => ⟨by have := r.row i hi; have := r.dd; omega, (h.row i hi).1⟩, fun i hi => ?_⟩
  have hb := Pl.kidR_box (r.kid i hi)
  have hl := Pl.kid_len8 r i hi
  have hk := r.key i hi
  have ho := h.kid i hi
  exact ⟨ho.s, hb.2.2.1, hb.2.2.2, ⟨by omega, ho.lI⟩, ⟨by omega, ho.hI⟩, ⟨by omega, ho.kI⟩⟩
def sayA_kid (n : NodeD) (s : Pl.SayS) (key : List Int) : KidD := ⟨Pl.sum9 (Pl.nodeB n), s.lo, s.hi, s.live, s.size, key⟩
theorem nsay_no (n : NodeD) (d : Int) (h : Pl.NodeOk n) (hr : Pl.nodeR n d = false) : ACall Try.prog 8 [agD (nodeL n), exI .i64 d] [] (.tup [agD (kidL Pl.kidZ), exI .i64 1]) [] := by
  have q := nencode_no n d (nodeS_of h) (by rw [nodeR_eq h]; exact hr)
  refine acall_on (mu := []) [] [] mixed Try.func8 rfl rfl rfl ?_
  conv => whnf
  repeat' (first
    | (refine And.intro (by omega) ?_; conv => whnf)
    | (refine And.intro rfl ?_; conv => whnf)
    | (refine And.intro (Nat.le_of_ble_eq_true rfl) ?_; conv => whnf)
    | (refine And.intro (fun i hi => ⟨_, rfl⟩) ?_; conv => whnf)
    | (refine ⟨_, _, _, .gen [] _ _ _ rfl (q) rfl rfl rfl rfl rfl, ?_⟩; conv => whnf)
    | (refine ⟨_, _, _, .gen [] _ _ _ rfl (ACall.arg ?harg (q)) rfl rfl rfl rfl rfl, ?_⟩; (case harg => (repeat' (first | exact trivial | exact rfl | exact fun _ _ => rfl | apply And.intro | (intro i hi; rcases i with _ | _ | i <;> first | rfl | (exfalso; omega) | (simp at hi; done) | (simp at hi; omega)) | exact fun _ _ => by simp))); (conv => whnf))
    | (refine And.intro (fun hq => ?_) (fun hq => ?_) <;> (first | (exfalso; simp at hq; done) | (exfalso; simp only [cond_true, cond_false, Bool.not_eq_true', Bool.not_eq_false', decide_eq_true_eq, decide_eq_false_iff_not] at hq; (try dsimp only at hq); omega) | (exfalso; simp at hq; omega) | ((try simp only [cond_true, cond_false, Bool.not_eq_true', Bool.not_eq_false', decide_eq_true_eq, decide_eq_false_iff_not] at hq); (try dsimp only at hq); (conv => whnf))))
    | (refine fun hq => ?_; conv => whnf)
    | (refine And.intro (by first | (show _ * 1 ≤ 140737488355328; omega) | (show _ * 8 ≤ _; omega) | (show _ * 24 ≤ _; omega) | (show _ * 16 ≤ _; omega) | (show _ * 32 ≤ _; omega) | (show _ * 120 ≤ _; omega) | (show _ * 280 ≤ _; omega) | (show _ * 72 ≤ _; omega) | (show _ * 48 ≤ _; omega)) ?_; conv => whnf)
    | (refine And.intro (by dsimp only; omega) ?_; conv => whnf)
    | fail)
  all_goals (repeat' (first | exact trivial | exact rfl | exact fun _ _ => rfl | apply And.intro | (intro i hi; rcases i with _ | _ | i <;> first | rfl | (exfalso; omega) | (simp at hi; done) | (simp at hi; omega)) | exact fun _ _ => by simp))
theorem nsay_ok (n : NodeD) (d : Int) (h : Pl.NodeOk n) (hr : Pl.nodeR n d = true) : ACall Try.prog 8 [agD (nodeL n), exI .i64 d] [] (if (Pl.sayN n).size ≤ 1048576 then .tup [agD (kidL (Pl.sayN n)), exI .i64 0] else .tup [agD (kidL Pl.kidZ), exI .i64 1]) [] := by
  obtain ⟨D, rfl, hrt⟩ := Pl.nodeR_rt hr
  have q := nencode_ok n D (nodeS_of h) (by rw [nodeR_eq h]; exact hr) (nodeW_of h hrt)
  have q2 := cpsum_d (Pl.nodeB n) (Pl.nodeB_isB hrt h) (by have := Pl.nodeB_len hrt h; omega)
  rw [pgD_eq] at q2
  have hr4 := hrt.rows
  have hk4 := hrt.kids
  have hd := hrt.dd
  obtain ⟨lo, hlo⟩ : ∃ f : Nat → List Int, ∀ k, f k = (Pl.sayR n k).lo := ⟨_, fun _ => rfl⟩
  obtain ⟨hi, hhi⟩ : ∃ f : Nat → List Int, ∀ k, f k = (Pl.sayR n k).hi := ⟨_, fun _ => rfl⟩
  obtain ⟨lv, hlv⟩ : ∃ f : Nat → Int, ∀ k, f k = (Pl.sayR n k).live := ⟨_, fun _ => rfl⟩
  have z1 : lo 0 = [] := hlo 0
  have z2 : hi 0 = [] := hhi 0
  have z3 : lv 0 = 0 := hlv 0
  obtain ⟨Lo, hLo⟩ : ∃ f : Nat → List Int, ∀ k, f k = (Pl.sayA n k).lo := ⟨_, fun _ => rfl⟩
  obtain ⟨Hi, hHi⟩ : ∃ f : Nat → List Int, ∀ k, f k = (Pl.sayA n k).hi := ⟨_, fun _ => rfl⟩
  obtain ⟨Lv, hLv⟩ : ∃ f : Nat → Int, ∀ k, f k = (Pl.sayA n k).live := ⟨_, fun _ => rfl⟩
  obtain ⟨Sz, hSz⟩ : ∃ f : Nat → Int, ∀ k, f k = (Pl.sayA n k).size := ⟨_, fun _ => rfl⟩
  have y1 : Lo 0 = lo n.rows.length := by rw [hLo, hlo]; rfl
  have y2 : Hi 0 = hi n.rows.length := by rw [hHi, hhi]; rfl
  have y3 : Lv 0 = lv n.rows.length := by rw [hLv, hlv]; rfl
  have y4 : Sz 0 = n.rows.length := by rw [hSz]; exact (Kd.sayR_le n n.rows.length (Nat.le_refl _)).2.2
  refine acall_on (mu := []) [] [] mixed Try.func8 rfl rfl rfl ?_
  conv => whnf
  repeat' (first
    | (refine And.intro (by omega) ?_; conv => whnf)
    | (refine And.intro rfl ?_; conv => whnf)
    | (refine And.intro (Nat.le_of_ble_eq_true rfl) ?_; conv => whnf)
    | (refine And.intro (fun i hi => ⟨_, rfl⟩) ?_; conv => whnf)
    | (refine ⟨_, _, _, .gen [] _ _ _ rfl (q) rfl rfl rfl rfl rfl, ?_⟩; conv => whnf)
    | (refine ⟨_, _, _, .gen [] _ _ _ rfl (q2) rfl rfl rfl rfl rfl, ?_⟩; conv => whnf)
    | (refine ⟨_, _, _, .gen [] _ _ _ rfl (ACall.arg ?harg (q)) rfl rfl rfl rfl rfl, ?_⟩; (case harg => (repeat' (first | exact trivial | exact rfl | exact fun _ _ => rfl | apply And.intro | (intro i hi; rcases i with _ | _ | i <;> first | rfl | (exfalso; omega) | (simp at hi; done) | (simp at hi; omega)) | exact fun _ _ => by simp))); (conv => whnf))
    | (refine ⟨_, _, _, .gen [] _ _ _ rfl (ACall.arg ?harg (q2)) rfl rfl rfl rfl rfl, ?_⟩; (case harg => (repeat' (first | exact trivial | exact rfl | exact fun _ _ => rfl | apply And.intro | (intro i hi; rcases i with _ | _ | i <;> first | rfl | (exfalso; omega) | (simp at hi; done) | (simp at hi; omega)) | exact fun _ _ => by simp))); (conv => whnf))
    | (refine And.intro (fun hq => ?_) (fun hq => ?_) <;> (first | (exfalso; simp at hq; done) | (exfalso; simp only [cond_true, cond_false, Bool.not_eq_true', Bool.not_eq_false', decide_eq_true_eq, decide_eq_false_iff_not] at hq; (try dsimp only at hq); omega) | (exfalso; simp at hq; omega) | ((try simp only [cond_true, cond_false, Bool.not_eq_true', Bool.not_eq_false', decide_eq_true_eq, decide_eq_false_iff_not] at hq); (try dsimp only at hq); (conv => whnf))))
    | (refine fun hq => ?_; conv => whnf)
    | (refine And.intro (by first | (show _ * 1 ≤ 140737488355328; omega) | (show _ * 8 ≤ _; omega) | (show _ * 24 ≤ _; omega) | (show _ * 16 ≤ _; omega) | (show _ * 32 ≤ _; omega) | (show _ * 120 ≤ _; omega) | (show _ * 280 ≤ _; omega) | (show _ * 72 ≤ _; omega) | (show _ * 48 ≤ _; omega)) ?_; conv => whnf)
    | (refine And.intro (by dsimp only; omega) ?_; conv => whnf)
    | fail)
  refine ⟨[], ?_⟩
  conv => whnf
  refine ⟨Nat, fun i => i ≤ n.rows.length, fun i => n.rows.length - i, fun i => [(32, exI .i64 i)], fun i => [(8, .box 35 ((kidL ⟨Pl.sum9 (Pl.nodeB n), lo i, hi i, lv i, n.rows.length, []⟩).map .d))], ⟨0, by omega, ?_⟩, ?_⟩
  · skip
    refine ⟨[], ?_⟩
    conv => whnf
    refine ⟨rfl, ?_, ?_⟩ <;> (repeat' (first | exact trivial | ((rw [z1]; done)) | ((rw [z1]; rfl)) | ((intro k_ hk_; rw [z1]; done)) | ((intro k_ hk_; rw [z1]; rfl)) | ((rw [z2]; done)) | ((rw [z2]; rfl)) | ((intro k_ hk_; rw [z2]; done)) | ((intro k_ hk_; rw [z2]; rfl)) | ((rw [z3]; done)) | ((rw [z3]; rfl)) | ((intro k_ hk_; rw [z3]; done)) | ((intro k_ hk_; rw [z3]; rfl)) | exact rfl | exact fun _ _ => rfl | apply And.intro | (intro i hi; rcases i with _ | _ | i <;> first | rfl | (exfalso; omega) | (simp at hi; done) | (simp at hi; omega)) | exact fun _ _ => by simp))
  intro i hi0
  conv => whnf
  rcases Nat.lt_or_ge i n.rows.length with hlt | hge
  · have hs := Pl.sayR_one n i hlt
    have hI := Pl.sayR_i hrt h i hi0
    have hle := Kd.sayR_le n i hi0
    have hrow := hrt.row i hlt
    have hrI := (h.row i hlt).1
    have c1 := of_ok (n.rows.getD i default).row (by omega) (by omega)
    have c2 := hull_ok ⟨lo i, hi i⟩ ⟨(n.rows.getD i default).row, (n.rows.getD i default).row⟩ D (by rw [hlo, hhi]; exact hI.b) (.inl (Pl.row_right hd.1 hd.2 hrow))
    rw [← hlv] at hle
    have m1 : lo (i + 1) = (if (n.rows.getD i default).live = true then (hullD ⟨lo i, hi i⟩ ⟨(n.rows.getD i default).row, (n.rows.getD i default).row⟩).lo else lo i) := by
      rw [hlo, hs, hlo, hhi]; unfold Pl.sayE; split <;> rfl
    have m2 : hi (i + 1) = (if (n.rows.getD i default).live = true then (hullD ⟨lo i, hi i⟩ ⟨(n.rows.getD i default).row, (n.rows.getD i default).row⟩).hi else hi i) := by
      rw [hhi, hs, hlo, hhi]; unfold Pl.sayE; split <;> rfl
    have m3 : lv (i + 1) = (if (n.rows.getD i default).live = true then lv i + 1 else lv i) := by
      rw [hlv, hs, hlv]; unfold Pl.sayE; split <;> rfl
    clear hs hI
    conv => whnf
    repeat' (first
      | (refine And.intro (by omega) ?_; conv => whnf)
      | (refine And.intro rfl ?_; conv => whnf)
      | (refine And.intro (Nat.le_of_ble_eq_true rfl) ?_; conv => whnf)
      | (refine And.intro (fun i hi => ⟨_, rfl⟩) ?_; conv => whnf)
      | (refine ⟨_, _, _, .gen [] _ _ _ rfl (c1) rfl rfl rfl rfl rfl, ?_⟩; conv => whnf)
      | (refine ⟨_, _, _, .gen [] _ _ _ rfl (c2) rfl rfl rfl rfl rfl, ?_⟩; conv => whnf)
      | (refine ⟨_, _, _, .gen [] _ _ _ rfl (ACall.arg ?harg (c1)) rfl rfl rfl rfl rfl, ?_⟩; (case harg => (repeat' (first | exact trivial | exact rfl | exact fun _ _ => rfl | apply And.intro | (intro i hi; rcases i with _ | _ | i <;> first | rfl | (exfalso; omega) | (simp at hi; done) | (simp at hi; omega)) | exact fun _ _ => by simp))); (conv => whnf))
      | (refine ⟨_, _, _, .gen [] _ _ _ rfl (ACall.arg ?harg (c2)) rfl rfl rfl rfl rfl, ?_⟩; (case harg => (repeat' (first | exact trivial | exact rfl | exact fun _ _ => rfl | apply And.intro | (intro i hi; rcases i with _ | _ | i <;> first | rfl | (exfalso; omega) | (simp at hi; done) | (simp at hi; omega)) | exact fun _ _ => by simp))); (conv => whnf))
      | (refine And.intro (fun hq => ?_) (fun hq => ?_) <;> (first | (exfalso; simp at hq; done) | (exfalso; simp only [cond_true, cond_false, Bool.not_eq_true', Bool.not_eq_false', decide_eq_true_eq, decide_eq_false_iff_not] at hq; (try dsimp only at hq); omega) | (exfalso; simp at hq; omega) | ((try simp only [cond_true, cond_false, Bool.not_eq_true', Bool.not_eq_false', decide_eq_true_eq, decide_eq_false_iff_not] at hq); (try dsimp only at hq); (conv => whnf))))
      | (refine fun hq => ?_; conv => whnf)
      | (refine And.intro (by first | (show _ * 1 ≤ 140737488355328; omega) | (show _ * 8 ≤ _; omega) | (show _ * 24 ≤ _; omega) | (show _ * 16 ≤ _; omega) | (show _ * 32 ≤ _; omega) | (show _ * 120 ≤ _; omega) | (show _ * 280 ≤ _; omega) | (show _ * 72 ≤ _; omega) | (show _ * 48 ≤ _; omega)) ?_; conv => whnf)
      | (refine And.intro (by dsimp only; omega) ?_; conv => whnf)
      | fail)
    · have hv : (n.rows.getD i default).live = true := hq
      rw [if_pos hv] at m1 m2 m3
      refine ⟨i + 1, by omega, by dsimp only; omega, ?_⟩
      refine ⟨[], ?_⟩
      conv => whnf
      refine ⟨rfl, ?_, ?_⟩ <;> (repeat' (first | exact trivial | ((rw [m1]; done)) | ((rw [m1]; rfl)) | ((intro k_ hk_; rw [m1]; done)) | ((intro k_ hk_; rw [m1]; rfl)) | ((rw [m2]; done)) | ((rw [m2]; rfl)) | ((intro k_ hk_; rw [m2]; done)) | ((intro k_ hk_; rw [m2]; rfl)) | ((rw [m3]; done)) | ((rw [m3]; rfl)) | ((intro k_ hk_; rw [m3]; done)) | ((intro k_ hk_; rw [m3]; rfl)) | exact rfl | exact fun _ _ => rfl | apply And.intro | (intro i hi; rcases i with _ | _ | i <;> first | rfl | (exfalso; omega) | (simp at hi; done) | (simp at hi; omega)) | exact fun _ _ => by simp))
    · have hv : ¬ (n.rows.getD i default).live = true := by rw [show (n.rows.getD i default).live = false from hq]; decide
      rw [if_neg hv] at m1 m2 m3
      refine ⟨i + 1, by omega, by dsimp only; omega, ?_⟩
      refine ⟨[], ?_⟩
      conv => whnf
      refine ⟨rfl, ?_, ?_⟩ <;> (repeat' (first | exact trivial | ((rw [m1]; done)) | ((rw [m1]; rfl)) | ((intro k_ hk_; rw [m1]; done)) | ((intro k_ hk_; rw [m1]; rfl)) | ((rw [m2]; done)) | ((rw [m2]; rfl)) | ((intro k_ hk_; rw [m2]; done)) | ((intro k_ hk_; rw [m2]; rfl)) | ((rw [m3]; done)) | ((rw [m3]; rfl)) | ((intro k_ hk_; rw [m3]; done)) | ((intro k_ hk_; rw [m3]; rfl)) | exact rfl | exact fun _ _ => rfl | apply And.intro | (intro i hi; rcases i with _ | _ | i <;> first | rfl | (exfalso; omega) | (simp at hi; done) | (simp at hi; omega)) | exact fun _ _ => by simp))
  · obtain rfl : i = n.rows.length := by omega
    conv => whnf
    repeat' (first
      | (refine And.intro (by omega) ?_; conv => whnf)
      | (refine And.intro rfl ?_; conv => whnf)
      | (refine And.intro (Nat.le_of_ble_eq_true rfl) ?_; conv => whnf)
      | (refine And.intro (fun i hi => ⟨_, rfl⟩) ?_; conv => whnf)
      | (refine And.intro (fun hq => ?_) (fun hq => ?_) <;> (first | (exfalso; simp at hq; done) | (exfalso; simp only [cond_true, cond_false, Bool.not_eq_true', Bool.not_eq_false', decide_eq_true_eq, decide_eq_false_iff_not] at hq; (try dsimp only at hq); omega) | (exfalso; simp at hq; omega) | ((try simp only [cond_true, cond_false, Bool.not_eq_true', Bool.not_eq_false', decide_eq_true_eq, decide_eq_false_iff_not] at hq); (try dsimp only at hq); (conv => whnf))))
      | (refine fun hq => ?_; conv => whnf)
      | (refine And.intro (by first | (show _ * 1 ≤ 140737488355328; omega) | (show _ * 8 ≤ _; omega) | (show _ * 24 ≤ _; omega) | (show _ * 16 ≤ _; omega) | (show _ * 32 ≤ _; omega) | (show _ * 120 ≤ _; omega) | (show _ * 280 ≤ _; omega) | (show _ * 72 ≤ _; omega) | (show _ * 48 ≤ _; omega)) ?_; conv => whnf)
      | (refine And.intro (by dsimp only; omega) ?_; conv => whnf)
      | fail)
    refine ⟨[], ?_⟩
    conv => whnf
    refine ⟨Nat, fun j => j ≤ n.kids.length, fun j => n.kids.length - j, fun j => [(53, exI .i64 j)], fun j => [(8, .box 35 ((kidL ⟨Pl.sum9 (Pl.nodeB n), Lo j, Hi j, Lv j, Sz j, []⟩).map .d))], ⟨0, by omega, ?_⟩, ?_⟩
    · skip
      refine ⟨[], ?_⟩
      conv => whnf
      refine ⟨rfl, ?_, ?_⟩ <;> (repeat' (first | exact trivial | ((rw [y1]; done)) | ((rw [y1]; rfl)) | ((intro k_ hk_; rw [y1]; done)) | ((intro k_ hk_; rw [y1]; rfl)) | ((rw [y2]; done)) | ((rw [y2]; rfl)) | ((intro k_ hk_; rw [y2]; done)) | ((intro k_ hk_; rw [y2]; rfl)) | ((rw [y3]; done)) | ((rw [y3]; rfl)) | ((intro k_ hk_; rw [y3]; done)) | ((intro k_ hk_; rw [y3]; rfl)) | ((rw [y4]; done)) | ((rw [y4]; rfl)) | ((intro k_ hk_; rw [y4]; done)) | ((intro k_ hk_; rw [y4]; rfl)) | exact rfl | exact fun _ _ => rfl | apply And.intro | (intro i hi; rcases i with _ | _ | i <;> first | rfl | (exfalso; omega) | (simp at hi; done) | (simp at hi; omega)) | exact fun _ _ => by simp))
    intro j hj
    conv => whnf
    rcases Nat.lt_or_ge j n.kids.length with hjt | hjg
    · have hs := Pl.sayA_one n j hjt
      have hI := Pl.sayA_i hrt h j hj
      have hkr := hrt.kid j hjt
      have hkb := Pl.kidR_box hkr
      have c2 := hull_ok ⟨Lo j, Hi j⟩ (n.kids.getD j default).bx D (by rw [hLo, hHi]; exact hI.b) hkb.1
      have hl := hI.l
      have hz := hI.z
      rw [← hLv] at hl
      rw [← hSz] at hz
      have hk1 : 0 ≤ (n.kids.getD ((j : Int)).toNat default).live ∧ (n.kids.getD ((j : Int)).toNat default).live ≤ 1048576 := hkb.2.2.1
      have hk2 : 0 ≤ (n.kids.getD ((j : Int)).toNat default).size ∧ (n.kids.getD ((j : Int)).toNat default).size ≤ 1048576 := hkb.2.2.2
      have m1 : Lo (j + 1) = (hullD ⟨Lo j, Hi j⟩ (n.kids.getD j default).bx).lo := by rw [hLo, hs, hLo, hHi]; rfl
      have m2 : Hi (j + 1) = (hullD ⟨Lo j, Hi j⟩ (n.kids.getD j default).bx).hi := by rw [hHi, hs, hLo, hHi]; rfl
      have m3 : Lv (j + 1) = Lv j + (n.kids.getD j default).live := by rw [hLv, hs, hLv]; rfl
      have m4 : Sz (j + 1) = Sz j + (n.kids.getD j default).size := by rw [hSz, hs, hSz]; rfl
      clear hs hI hkb hkr
      conv => whnf
      repeat' (first
        | (refine And.intro (by omega) ?_; conv => whnf)
        | (refine And.intro rfl ?_; conv => whnf)
        | (refine And.intro (Nat.le_of_ble_eq_true rfl) ?_; conv => whnf)
        | (refine And.intro (fun i hi => ⟨_, rfl⟩) ?_; conv => whnf)
        | (refine ⟨_, _, _, .gen [] _ _ _ rfl (c2) rfl rfl rfl rfl rfl, ?_⟩; conv => whnf)
        | (refine ⟨_, _, _, .gen [] _ _ _ rfl (ACall.arg ?harg (c2)) rfl rfl rfl rfl rfl, ?_⟩; (case harg => (repeat' (first | exact trivial | exact rfl | exact fun _ _ => rfl | apply And.intro | (intro i hi; rcases i with _ | _ | i <;> first | rfl | (exfalso; omega) | (simp at hi; done) | (simp at hi; omega)) | exact fun _ _ => by simp))); (conv => whnf))
        | (refine And.intro (fun hq => ?_) (fun hq => ?_) <;> (first | (exfalso; simp at hq; done) | (exfalso; simp only [cond_true, cond_false, Bool.not_eq_true', Bool.not_eq_false', decide_eq_true_eq, decide_eq_false_iff_not] at hq; (try dsimp only at hq); omega) | (exfalso; simp at hq; omega) | ((try simp only [cond_true, cond_false, Bool.not_eq_true', Bool.not_eq_false', decide_eq_true_eq, decide_eq_false_iff_not] at hq); (try dsimp only at hq); (conv => whnf))))
        | (refine fun hq => ?_; conv => whnf)
        | (refine And.intro (by first | (show _ * 1 ≤ 140737488355328; omega) | (show _ * 8 ≤ _; omega) | (show _ * 24 ≤ _; omega) | (show _ * 16 ≤ _; omega) | (show _ * 32 ≤ _; omega) | (show _ * 120 ≤ _; omega) | (show _ * 280 ≤ _; omega) | (show _ * 72 ≤ _; omega) | (show _ * 48 ≤ _; omega)) ?_; conv => whnf)
        | (refine And.intro (by dsimp only; omega) ?_; conv => whnf)
        | fail)
      refine ⟨j + 1, by omega, by dsimp only; omega, ?_⟩
      refine ⟨[], ?_⟩
      conv => whnf
      refine ⟨rfl, ?_, ?_⟩ <;> (repeat' (first | exact trivial | ((rw [m1]; done)) | ((rw [m1]; rfl)) | ((intro k_ hk_; rw [m1]; done)) | ((intro k_ hk_; rw [m1]; rfl)) | ((rw [m2]; done)) | ((rw [m2]; rfl)) | ((intro k_ hk_; rw [m2]; done)) | ((intro k_ hk_; rw [m2]; rfl)) | ((rw [m3]; done)) | ((rw [m3]; rfl)) | ((intro k_ hk_; rw [m3]; done)) | ((intro k_ hk_; rw [m3]; rfl)) | ((rw [m4]; done)) | ((rw [m4]; rfl)) | ((intro k_ hk_; rw [m4]; done)) | ((intro k_ hk_; rw [m4]; rfl)) | exact rfl | exact fun _ _ => rfl | apply And.intro | (intro i hi; rcases i with _ | _ | i <;> first | rfl | (exfalso; omega) | (simp at hi; done) | (simp at hi; omega)) | exact fun _ _ => by simp))
    · obtain rfl : j = n.kids.length := by omega
      have hI := Pl.sayA_i hrt h n.kids.length (Nat.le_refl _)
      have e : Pl.sayN n = ⟨Pl.sum9 (Pl.nodeB n), Lo n.kids.length, Hi n.kids.length, Lv n.kids.length, Sz n.kids.length, Pl.keyN n⟩ := by rw [hLo, hHi, hLv, hSz]; rfl
      rw [e]
      dsimp only
      have kinds := hrt.kind
      have leaf := hrt.leaf
      have inner := hrt.inner
      by_cases hc : Sz n.kids.length ≤ 1048576
      · rw [if_pos hc]
        have ck := iclone_ok (n.rows.getD 0 default).row.length (i64F (n.rows.getD 0 default).row) (by
          rcases Nat.eq_zero_or_pos n.rows.length with q | q
          · rw [List.eq_nil_of_length_eq_zero q]; decide
          · have := hrt.row 0 q; omega)
        have ck2 := iclone_ok (n.kids.getD 0 default).key.length (i64F (n.kids.getD 0 default).key) (by
          rcases Nat.eq_zero_or_pos n.kids.length with q | q
          · rw [List.eq_nil_of_length_eq_zero q]; decide
          · have := hrt.key 0 q; omega)
        unfold Pl.keyN
        rcases kinds with hk | hk | hk
        · rw [if_neg (by omega), if_neg (by omega)]
          conv => whnf
          repeat' (first
            | (refine And.intro (by omega) ?_; conv => whnf)
            | (refine And.intro rfl ?_; conv => whnf)
            | (refine And.intro (Nat.le_of_ble_eq_true rfl) ?_; conv => whnf)
            | (refine And.intro (fun i hi => ⟨_, rfl⟩) ?_; conv => whnf)
            | (refine And.intro (fun hq => ?_) (fun hq => ?_) <;> (first | (exfalso; simp at hq; done) | (exfalso; simp only [cond_true, cond_false, Bool.not_eq_true', Bool.not_eq_false', decide_eq_true_eq, decide_eq_false_iff_not] at hq; (try dsimp only at hq); omega) | (exfalso; simp at hq; omega) | ((try simp only [cond_true, cond_false, Bool.not_eq_true', Bool.not_eq_false', decide_eq_true_eq, decide_eq_false_iff_not] at hq); (try dsimp only at hq); (conv => whnf))))
            | (refine fun hq => ?_; conv => whnf)
            | (refine And.intro (by first | (show _ * 1 ≤ 140737488355328; omega) | (show _ * 8 ≤ _; omega) | (show _ * 24 ≤ _; omega) | (show _ * 16 ≤ _; omega) | (show _ * 32 ≤ _; omega) | (show _ * 120 ≤ _; omega) | (show _ * 280 ≤ _; omega) | (show _ * 72 ≤ _; omega) | (show _ * 48 ≤ _; omega)) ?_; conv => whnf)
            | (refine And.intro (by dsimp only; omega) ?_; conv => whnf)
            | fail)
          all_goals (repeat' (first | exact trivial | exact rfl | exact fun _ _ => rfl | apply And.intro | (intro i hi; rcases i with _ | _ | i <;> first | rfl | (exfalso; omega) | (simp at hi; done) | (simp at hi; omega)) | exact fun _ _ => by simp))
        · rw [if_pos hk]
          have h0 := leaf hk
          conv => whnf
          repeat' (first
            | (refine And.intro (by omega) ?_; conv => whnf)
            | (refine And.intro rfl ?_; conv => whnf)
            | (refine And.intro (Nat.le_of_ble_eq_true rfl) ?_; conv => whnf)
            | (refine And.intro (fun i hi => ⟨_, rfl⟩) ?_; conv => whnf)
            | (refine ⟨_, _, _, .gen [] _ _ _ rfl (ck) rfl rfl rfl rfl rfl, ?_⟩; conv => whnf)
            | (refine ⟨_, _, _, .gen [] _ _ _ rfl (ACall.arg ?harg (ck)) rfl rfl rfl rfl rfl, ?_⟩; (case harg => (repeat' (first | exact trivial | exact rfl | exact fun _ _ => rfl | apply And.intro | (intro i hi; rcases i with _ | _ | i <;> first | rfl | (exfalso; omega) | (simp at hi; done) | (simp at hi; omega)) | exact fun _ _ => by simp))); (conv => whnf))
            | (refine And.intro (fun hq => ?_) (fun hq => ?_) <;> (first | (exfalso; simp at hq; done) | (exfalso; simp only [cond_true, cond_false, Bool.not_eq_true', Bool.not_eq_false', decide_eq_true_eq, decide_eq_false_iff_not] at hq; (try dsimp only at hq); omega) | (exfalso; simp at hq; omega) | ((try simp only [cond_true, cond_false, Bool.not_eq_true', Bool.not_eq_false', decide_eq_true_eq, decide_eq_false_iff_not] at hq); (try dsimp only at hq); (conv => whnf))))
            | (refine fun hq => ?_; conv => whnf)
            | (refine And.intro (by first | (show _ * 1 ≤ 140737488355328; omega) | (show _ * 8 ≤ _; omega) | (show _ * 24 ≤ _; omega) | (show _ * 16 ≤ _; omega) | (show _ * 32 ≤ _; omega) | (show _ * 120 ≤ _; omega) | (show _ * 280 ≤ _; omega) | (show _ * 72 ≤ _; omega) | (show _ * 48 ≤ _; omega)) ?_; conv => whnf)
            | (refine And.intro (by dsimp only; omega) ?_; conv => whnf)
            | fail)
          all_goals (repeat' (first | exact trivial | exact rfl | exact fun _ _ => rfl | apply And.intro | (intro i hi; rcases i with _ | _ | i <;> first | rfl | (exfalso; omega) | (simp at hi; done) | (simp at hi; omega)) | exact fun _ _ => by simp))
        · rw [if_neg (by omega), if_pos hk]
          have h0 := inner hk
          conv => whnf
          repeat' (first
            | (refine And.intro (by omega) ?_; conv => whnf)
            | (refine And.intro rfl ?_; conv => whnf)
            | (refine And.intro (Nat.le_of_ble_eq_true rfl) ?_; conv => whnf)
            | (refine And.intro (fun i hi => ⟨_, rfl⟩) ?_; conv => whnf)
            | (refine ⟨_, _, _, .gen [] _ _ _ rfl (ck2) rfl rfl rfl rfl rfl, ?_⟩; conv => whnf)
            | (refine ⟨_, _, _, .gen [] _ _ _ rfl (ACall.arg ?harg (ck2)) rfl rfl rfl rfl rfl, ?_⟩; (case harg => (repeat' (first | exact trivial | exact rfl | exact fun _ _ => rfl | apply And.intro | (intro i hi; rcases i with _ | _ | i <;> first | rfl | (exfalso; omega) | (simp at hi; done) | (simp at hi; omega)) | exact fun _ _ => by simp))); (conv => whnf))
            | (refine And.intro (fun hq => ?_) (fun hq => ?_) <;> (first | (exfalso; simp at hq; done) | (exfalso; simp only [cond_true, cond_false, Bool.not_eq_true', Bool.not_eq_false', decide_eq_true_eq, decide_eq_false_iff_not] at hq; (try dsimp only at hq); omega) | (exfalso; simp at hq; omega) | ((try simp only [cond_true, cond_false, Bool.not_eq_true', Bool.not_eq_false', decide_eq_true_eq, decide_eq_false_iff_not] at hq); (try dsimp only at hq); (conv => whnf))))
            | (refine fun hq => ?_; conv => whnf)
            | (refine And.intro (by first | (show _ * 1 ≤ 140737488355328; omega) | (show _ * 8 ≤ _; omega) | (show _ * 24 ≤ _; omega) | (show _ * 16 ≤ _; omega) | (show _ * 32 ≤ _; omega) | (show _ * 120 ≤ _; omega) | (show _ * 280 ≤ _; omega) | (show _ * 72 ≤ _; omega) | (show _ * 48 ≤ _; omega)) ?_; conv => whnf)
            | (refine And.intro (by dsimp only; omega) ?_; conv => whnf)
            | fail)
          all_goals (repeat' (first | exact trivial | exact rfl | exact fun _ _ => rfl | apply And.intro | (intro i hi; rcases i with _ | _ | i <;> first | rfl | (exfalso; omega) | (simp at hi; done) | (simp at hi; omega)) | exact fun _ _ => by simp))
      · rw [if_neg hc]
        conv => whnf
        repeat' (first
          | (refine And.intro (by omega) ?_; conv => whnf)
          | (refine And.intro rfl ?_; conv => whnf)
          | (refine And.intro (Nat.le_of_ble_eq_true rfl) ?_; conv => whnf)
          | (refine And.intro (fun i hi => ⟨_, rfl⟩) ?_; conv => whnf)
          | (refine And.intro (fun hq => ?_) (fun hq => ?_) <;> (first | (exfalso; simp at hq; done) | (exfalso; simp only [cond_true, cond_false, Bool.not_eq_true', Bool.not_eq_false', decide_eq_true_eq, decide_eq_false_iff_not] at hq; (try dsimp only at hq); omega) | (exfalso; simp at hq; omega) | ((try simp only [cond_true, cond_false, Bool.not_eq_true', Bool.not_eq_false', decide_eq_true_eq, decide_eq_false_iff_not] at hq); (try dsimp only at hq); (conv => whnf))))
          | (refine fun hq => ?_; conv => whnf)
          | (refine And.intro (by first | (show _ * 1 ≤ 140737488355328; omega) | (show _ * 8 ≤ _; omega) | (show _ * 24 ≤ _; omega) | (show _ * 16 ≤ _; omega) | (show _ * 32 ≤ _; omega) | (show _ * 120 ≤ _; omega) | (show _ * 280 ≤ _; omega) | (show _ * 72 ≤ _; omega) | (show _ * 48 ≤ _; omega)) ?_; conv => whnf)
          | (refine And.intro (by dsimp only; omega) ?_; conv => whnf)
          | fail)
        all_goals (repeat' (first | exact trivial | exact rfl | exact fun _ _ => rfl | apply And.intro | (intro i hi; rcases i with _ | _ | i <;> first | rfl | (exfalso; omega) | (simp at hi; done) | (simp at hi; omega)) | exact fun _ _ => by simp))
end Go.Proofs.Ytbidoddghdbaoaa
