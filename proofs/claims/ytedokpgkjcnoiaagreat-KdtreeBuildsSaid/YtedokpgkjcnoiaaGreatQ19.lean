/- Plain: the page store as a list, and its first clash. No program in sight. Plain: sorting by a total order; the order of rows at a depth. No program in sight. Plain: nodes put into a store, and got from it. No program in sight. Plain: k-d trees, as the document tells them, and as kids in a store. No program in sight. -/
import Derived.Test.YtedokpgkjcnoiaaGreatQ16
import Derived.Test.YtedokpgkjcnoiaaGreatQ17
set_option linter.unusedVariables false
set_option linter.unusedSimpArgs false
namespace Go.Proofs.YtedokpgkjcnoiaaGreat
structure Sto where
 L : List (List Nat)
 c : Option (List Nat × List Nat)
deriving Inhabited
def Sto.new : Sto := ⟨[], none⟩
structure StoOk (s : Sto) : Prop where
 b : ∀ t ∈ s.L, Pl.IsB t ∧ t.length ≤ 1000000
 c : ∀ p, s.c = some p → p.1.length ≤ 1000000 ∧ p.2.length ≤ 1000000
def Sto.get (s : Sto) (d : List Nat) : Option (List Nat) := s.L.find? fun t => decide (Pl.sum9 t = d)
def Sto.put (s : Sto) (t : List Nat) : Sto := match s.get (Pl.sum9 t) with
 | none => ⟨s.L ++ [t], s.c⟩
 | some u => if s.c.isSome = true ∨ u = t then s else ⟨s.L, some (u, t)⟩
theorem Sto.get_some {s : Sto} {d t : List Nat} (h : s.get d = some t) : t ∈ s.L ∧ Pl.sum9 t = d := by
 have h1 := List.mem_of_find?_eq_some h
 have h2 := List.find?_some h
 exact ⟨h1, by simpa using h2⟩
theorem Sto.get_none {s : Sto} {d : List Nat} (h : s.get d = none) : ∀ t ∈ s.L, Pl.sum9 t ≠ d := fun t ht => by
 have := List.find?_eq_none.1 h t ht
 simpa using this
theorem StoOk.new : StoOk Sto.new := ⟨fun t h => (by cases h), fun p h => (by cases h)⟩
theorem StoOk.put {s : Sto} (h : StoOk s) {t : List Nat} (hB : Pl.IsB t) (hl : t.length ≤ 1000000) : StoOk (s.put t) := by
 unfold Sto.put
 split
 ·refine ⟨fun u hu => ?_, h.c⟩
  rcases List.mem_append.1 hu with hu | hu
  ·exact h.b u hu
  ·rw [List.mem_singleton.1 hu]; exact ⟨hB, hl⟩
 ·rename_i u hg
  split
  ·exact h
  ·exact ⟨h.b, fun p hp => by cases hp; exact ⟨(h.b _ (Sto.get_some hg).1).2, hl⟩⟩
end Go.Proofs.YtedokpgkjcnoiaaGreat
namespace Go.Proofs.YtedokpgkjcnoiaaGreat.Kd
/-- of unlike ones one is ahead -/
structure Tot {α : Type} (lt : α → α → Bool) (P : α → Prop) : Prop where
 tr : ∀ x y z, P x → P y → P z → lt x y = true → lt y z = true → lt x z = true
 ir : ∀ x, lt x x = false
 tot : ∀ x y, P x → P y → lt x y = false → lt y x = false → x = y
section
variable {α : Type} {lt : α → α → Bool} {P : α → Prop}
def ins1 (lt : α → α → Bool) (x : α) : List α → List α
 | [] => [x]
 | y :: r => if lt y x = true then y :: ins1 lt x r else x :: y :: r
def isort (lt : α → α → Bool) (l : List α) : List α := l.foldl (fun a x => ins1 lt x a) []
theorem ins1_perm (x : α) : ∀ l : List α, (ins1 lt x l).Perm (x :: l)
 | [] => .refl _
 | y :: r => by
  unfold ins1
  split
  ·exact ((ins1_perm x r).cons y).trans (.swap ..)
  ·exact .refl _
theorem fold_perm : ∀ (l a : List α), (l.foldl (fun a x => ins1 lt x a) a).Perm (a ++ l)
 | [], a => by simp
 | x :: l, a => by
  rw [List.foldl_cons]
  refine (fold_perm l _).trans ?_
  refine ((ins1_perm x a).append_right l).trans ?_
  exact List.perm_middle.symm
theorem isort_perm (l : List α) : (isort lt l).Perm l := by unfold isort; simpa using fold_perm (lt := lt) l []
theorem isort_len (l : List α) : (isort lt l).length = l.length := (isort_perm l).length_eq
theorem isort_mem {l : List α} {x : α} : x ∈ isort lt l ↔ x ∈ l := (isort_perm l).mem_iff
def Sd (lt : α → α → Bool) (l : List α) : Prop := l.Pairwise fun a b => lt b a = false
theorem ins1_sd (H : Tot lt P) (x : α) (hx : P x) : ∀ l : List α, (∀ y ∈ l, P y) → Sd lt l → Sd lt (ins1 lt x l)
 | [], _, _ => by unfold ins1 Sd; simp
 | y :: r, hP, h => by
  have hy := hP y (List.mem_cons_self ..)
  have hr : ∀ z ∈ r, P z := fun z hz => hP z (List.mem_cons_of_mem _ hz)
  obtain ⟨h1, h2⟩ := List.pairwise_cons.1 h
  unfold ins1
  split
  ·rename_i e
   refine List.pairwise_cons.2 ⟨fun z hz => ?_, ins1_sd H x hx r hr h2⟩
   rcases List.mem_cons.1 ((ins1_perm x r).mem_iff.1 hz) with rfl | hz
   ·cases q : lt z y with
    | false => rfl
    | true => have := H.tr _ _ _ hy hx hy e q; rw [H.ir] at this; cases this
   ·exact h1 z hz
  ·rename_i e
   have e : lt y x = false := by simpa using e
   refine List.pairwise_cons.2 ⟨fun z hz => ?_, h⟩
   rcases List.mem_cons.1 hz with rfl | hz
   ·exact e
   ·cases q : lt z x with
    | false => rfl
    | true =>
     have h3 := h1 z hz
     cases w : lt x y with
     | true => have := H.tr _ _ _ (hr z hz) hx hy q w; rw [h3] at this; cases this
     | false => have := H.tot x y hx hy w e; subst this; rw [q] at h3; cases h3
theorem fold_sd (H : Tot lt P) : ∀ (l a : List α), (∀ y ∈ a, P y) → (∀ y ∈ l, P y) → Sd lt a → Sd lt (l.foldl (fun a x => ins1 lt x a) a)
 | [], a, _, _, h => h
 | x :: l, a, ha, hl, h => by
  rw [List.foldl_cons]
  have hx := hl x (List.mem_cons_self ..)
  refine fold_sd H l _ (fun y hy => ?_) (fun y hy => hl y (List.mem_cons_of_mem _ hy)) (ins1_sd H x hx a ha h)
  rcases List.mem_cons.1 ((ins1_perm x a).mem_iff.1 hy) with rfl | hy
  ·exact hx
  ·exact ha y hy
theorem isort_sd (H : Tot lt P) {l : List α} (hl : ∀ y ∈ l, P y) : Sd lt (isort lt l) := fold_sd H l [] (fun y h => by cases h) hl (by unfold Sd; simp)
/-- what is sorted is one -/
theorem sd_one (H : Tot lt P) : ∀ (M N : List α), (∀ y ∈ M, P y) → Sd lt M → Sd lt N → M.Perm N → M = N
 | [], N, _, _, _, h => (List.nil_perm.1 h).symm
 | a :: M, [], _, _, _, h => absurd h.length_eq (by simp)
 | a :: M, b :: N, hP, h1, h2, h => by
  obtain ⟨p1, p2⟩ := List.pairwise_cons.1 h1
  obtain ⟨q1, q2⟩ := List.pairwise_cons.1 h2
  have e : a = b := by
   rcases List.mem_cons.1 (h.mem_iff.1 (List.mem_cons_self ..)) with e | e
   ·exact e
   ·rcases List.mem_cons.1 (h.mem_iff.2 (List.mem_cons_self ..)) with e2 | e2
    ·exact e2.symm
    ·exact H.tot a b (hP a (List.mem_cons_self ..)) (hP b (List.mem_cons_of_mem _ e2)) (q1 a e) (p1 b e2)
  subst e
  rw [sd_one H M N (fun y hy => hP y (List.mem_cons_of_mem _ hy)) p2 q2 (h.cons_inv)]
theorem isort_one (H : Tot lt P) {l M : List α} (hl : ∀ y ∈ l, P y) (h : Sd lt M) (hp : M.Perm l) : M = isort lt l :=
 sd_one H M _ (fun y hy => hl y (hp.mem_iff.1 hy)) h (isort_sd H hl) (hp.trans (isort_perm l).symm)
theorem isort_same (H : Tot lt P) {l m : List α} (hl : ∀ y ∈ l, P y) (hp : l.Perm m) : isort lt l = isort lt m :=
 (isort_one H (fun y hy => hl y (hp.mem_iff.2 hy)) (isort_sd H hl) ((isort_perm l).trans hp))
end
/-! ### Rows -/
def lexLt : List Int → List Int → Bool
 | [], [] => false
 | [], _ :: _ => true
 | _ :: _, [] => false
 | x :: p, y :: q => decide (x < y) || (decide (x = y) && lexLt p q)
theorem lexLt_ir : ∀ p, lexLt p p = false
 | [] => rfl
 | x :: p => by simp [lexLt, lexLt_ir p]
theorem lexLt_tr : ∀ p q r : List Int, lexLt p q = true → lexLt q r = true → lexLt p r = true
 | [], q, [], h, k => by cases q <;> simp [lexLt] at h k
 | [], _, _ :: _, _, _ => rfl
 | _ :: _, [], _, h, _ => by simp [lexLt] at h
 | _ :: _, _ :: _, [], _, k => by simp [lexLt] at k
 | x :: p, y :: q, z :: r, h, k => by
  simp only [lexLt, Bool.or_eq_true, Bool.and_eq_true, decide_eq_true_eq] at h k ⊢
  rcases h with h | ⟨rfl, h⟩
  ·rcases k with k | ⟨rfl, k⟩
   ·exact .inl (by omega)
   ·exact .inl h
  ·rcases k with k | ⟨rfl, k⟩
   ·exact .inl k
   ·exact .inr ⟨rfl, lexLt_tr p q r h k⟩
theorem lexLt_tot : ∀ p q : List Int, lexLt p q = false → lexLt q p = false → p = q
 | [], [], _, _ => rfl
 | [], _ :: _, h, _ => by simp [lexLt] at h
 | _ :: _, [], _, k => by simp [lexLt] at k
 | x :: p, y :: q, h, k => by
  simp only [lexLt, Bool.or_eq_false_iff, Bool.and_eq_false_iff, decide_eq_false_iff_not] at h k
  obtain rfl : x = y := by omega
  rw [lexLt_tot p q (by rcases h.2 with h | h; exact absurd rfl h; exact h) (by rcases k.2 with k | k; exact absurd rfl k; exact k)]
theorem lexLt_totl : Tot lexLt (fun _ => True) := ⟨fun x y z _ _ _ => lexLt_tr x y z, lexLt_ir, fun x y _ _ => lexLt_tot x y⟩
def ltAt (at_ : Nat) (p q : List Int) : Bool := decide (p.getD at_ 0 < q.getD at_ 0) || (decide (p.getD at_ 0 = q.getD at_ 0) && lexLt p q)
theorem ltAt_tot (a : Nat) : Tot (ltAt a) (fun _ => True) := by
 refine ⟨fun x y z _ _ _ h k => ?_, fun x => ?_, fun x y _ _ h k => ?_⟩
 ·simp only [ltAt, Bool.or_eq_true, Bool.and_eq_true, decide_eq_true_eq] at h k ⊢
  rcases h with h | ⟨e, h⟩
  ·rcases k with k | ⟨e2, k⟩
   ·exact .inl (by omega)
   ·exact .inl (by omega)
  ·rcases k with k | ⟨e2, k⟩
   ·exact .inl (by omega)
   ·exact .inr ⟨by omega, lexLt_tr x y z h k⟩
 ·simp [ltAt, lexLt_ir]
 ·simp only [ltAt, Bool.or_eq_false_iff, Bool.and_eq_false_iff, decide_eq_false_iff_not] at h k
  refine lexLt_tot x y ?_ ?_
  ·rcases h.2 with q | q
   ·omega
   ·exact q
  ·rcases k.2 with q | q
   ·omega
   ·exact q
/-- as Go's comparing tells it -/
def cmpL (lt : List Int → List Int → Bool) (p q : List Int) : Int := if lt p q = true then -1 else if lt q p = true then 1 else 0
theorem cmpL_neg {lt : List Int → List Int → Bool} {p q : List Int} : cmpL lt p q < 0 ↔ lt p q = true := by
 unfold cmpL; split
 ·simp [*]
 ·split <;> simp [*]
end Go.Proofs.YtedokpgkjcnoiaaGreat.Kd
namespace Go.Proofs.YtedokpgkjcnoiaaGreat.Kd
open Pl
/-! ### Stores -/
structure Le (s s' : Sto) : Prop where
 c : s'.c = none → s.c = none
 g : ∀ d t, s.get d = some t → s'.get d = some t
theorem Le.refl (s : Sto) : Le s s := ⟨id, fun _ _ => id⟩
theorem Le.trans {a b c : Sto} (h : Le a b) (k : Le b c) : Le a c := ⟨fun e => h.c (k.c e), fun d t q => k.g d t (h.g d t q)⟩
theorem get_app {s : Sto} {t d : List Nat} {x : List Nat} {c : Option (List Nat × List Nat)} (h : s.get d = some x) : Sto.get ⟨s.L ++ [t], c⟩ d = some x := by
 unfold Sto.get at h ⊢
 rw [List.find?_append, h]; rfl
theorem get_new {s : Sto} {t d : List Nat} {c : Option (List Nat × List Nat)} (h : s.get d = none) (e : sum9 t = d) : Sto.get ⟨s.L ++ [t], c⟩ d = some t := by
 unfold Sto.get at h ⊢
 rw [List.find?_append, h]
 simp [e]
theorem Le.put (s : Sto) (t : List Nat) : Le s (s.put t) := by
 unfold Sto.put
 split
 ·exact ⟨id, fun d x q => get_app q⟩
 ·split
  ·exact Le.refl s
  ·exact ⟨fun e => (by cases e), fun d x q => q⟩
theorem put_get {s : Sto} {t : List Nat} (h : (s.put t).c = none) : (s.put t).get (sum9 t) = some t := by
 unfold Sto.put at h ⊢
 split
 ·exact get_new ‹_› rfl
 ·rename_i u hu
  rw [hu] at h
  dsimp only at h
  split
  ·rename_i q
   rw [if_pos q] at h
   rcases q with q | q
   ·rw [h] at q; cases q
   ·rw [← q]; subst q; exact hu
  ·rename_i q
   rw [if_neg q] at h
   cases h
/-! ### Nodes -/
def nPut (s : Sto) (n : NodeD) (d : Int) : Sto × KidD × Int := if nodeR n d = true ∧ (sayN n).size ≤ 1048576 then (s.put (nodeB n), sayN n, 0) else (s, kidZ, 1)
def nGet (s : Sto) (k : KidD) (d : Int) : Option NodeD := match s.get k.sum with
 | none => none
 | some b => match readN d b with
  | none => none
  | some n => if (sayN n).size ≤ 1048576 ∧ sayN n = k then some n else none
theorem Le.nPut (s : Sto) (n : NodeD) (d : Int) : Le s (nPut s n d).1 := by
 unfold Kd.nPut
 split
 ·exact Le.put _ _
 ·exact Le.refl _
theorem nGet_of {s : Sto} {n : NodeD} {d : Int} (hn : NodeOk n) (hr : nodeR n d = true) (hz : (sayN n).size ≤ 1048576) (h : s.get (sum9 (nodeB n)) = some (nodeB n)) : nGet s (sayN n) d = some n := by
 unfold nGet
 rw [show (sayN n).sum = sum9 (nodeB n) from rfl, h]
 dsimp only
 rw [readN_app hn hr]
 dsimp only
 rw [if_pos ⟨hz, rfl⟩]
theorem nGet_facts {s : Sto} (hs : StoOk s) {k : KidD} {d : Int} {n : NodeD} (q : nGet s k d = some n) : nodeR n d = true ∧ NodeOk n ∧ sayN n = k ∧ (sayN n).size ≤ 1048576 ∧ s.get k.sum = some (nodeB n) := by
 unfold nGet at q
 cases e : s.get k.sum with
 | none => rw [e] at q; cases q
 | some b =>
  rw [e] at q
  dsimp only at q
  cases r : readN d b with
  | none => rw [r] at q; cases q
  | some m =>
   rw [r] at q
   dsimp only at q
   split at q
   ·rename_i h
    cases q
    have hb := (hs.b _ (Sto.get_some e).1).1
    obtain ⟨z1, z2, z3⟩ := readN_inv hb r
    exact ⟨z2, z3, h.2, h.1, by rw [z1]⟩
   ·cases q
theorem StoOk.nPut {s : Sto} (hs : StoOk s) {n : NodeD} {d : Int} (hn : NodeOk n) : StoOk (nPut s n d).1 := by
 unfold Kd.nPut
 split
 ·rename_i h
  obtain ⟨D, _, hrt⟩ := nodeR_rt h.1
  exact hs.put (nodeB_isB hrt hn) (by have := nodeB_len hrt hn; omega)
 ·exact hs
/-! ### What a node says -/
theorem sayR_le (n : NodeD) : ∀ i, i ≤ n.rows.length → 0 ≤ (sayR n i).live ∧ (sayR n i).live ≤ i ∧ (sayR n i).size = n.rows.length
 | 0, _ => by simp [sayR]
 | i + 1, hi => by
  have ih := sayR_le n i (by omega)
  rw [sayR_one n i (by omega)]
  unfold sayE
  split
  ·dsimp only; omega
  ·omega
theorem sayA_le {n : NodeD} {d : Nat} (h : NodeRt n d) : ∀ j, j ≤ n.kids.length → 0 ≤ (sayA n j).live ∧ (sayA n j).live ≤ (sayA n j).size ∧ (n.rows.length : Int) ≤ (sayA n j).size ∧ ∀ i, i < j → (n.kids.getD i default).size + n.rows.length ≤ (sayA n j).size
 | 0, _ => by
  have := sayR_le n n.rows.length (Nat.le_refl _)
  refine ⟨this.1, ?_, ?_, fun i hi => by omega⟩
  ·show (sayR n _).live ≤ (sayR n _).size; omega
  ·show _ ≤ (sayR n _).size; omega
 | j + 1, hj => by
  have ih := sayA_le h j (by omega)
  rw [sayA_one n j (by omega)]
  have hk := kidR_box (h.kid j (by omega))
  have hl : (n.kids.getD j default).live ≤ (n.kids.getD j default).size := by
   have q := h.kid j (by omega)
   unfold kidR at q
   simp only [Bool.or_eq_true, Bool.and_eq_true, decide_eq_true_eq] at q
   rcases q with q | q
   ·rw [q]; simp [kidZ]
   ·exact q.2.2.2.1
  unfold sayK
  dsimp only
  refine ⟨by omega, by omega, by omega, fun i hi => ?_⟩
  rcases Nat.lt_or_ge i j with q | q
  ·have := ih.2.2.2 i q; omega
  ·obtain rfl : i = j := by omega
   omega
theorem kid_size {k : KidD} {d : Int} (h : kidR k d = true) (e : k ≠ kidZ) : 1 ≤ k.size := by
 unfold kidR at h
 simp only [Bool.or_eq_true, Bool.and_eq_true, decide_eq_true_eq] at h
 rcases h with h | h
 ·exact absurd h e
 ·exact h.1
/-- a right node has something -/
theorem say_size {n : NodeD} {d : Int} (h : nodeR n d = true) : 1 ≤ (sayN n).size := by
 obtain ⟨D, rfl, hrt⟩ := nodeR_rt h
 have hA := sayA_le hrt n.kids.length (Nat.le_refl _)
 show 1 ≤ (sayA n n.kids.length).size
 unfold nodeR at h
 simp only [Bool.and_eq_true, decide_eq_true_eq, List.all_eq_true] at h
 obtain ⟨_, _, _, hk, h5⟩ := h
 unfold kindR at h5
 split at h5
 ·simp only [Bool.and_eq_true, decide_eq_true_eq] at h5; omega
 ·split at h5
  ·simp only [Bool.and_eq_true, decide_eq_true_eq] at h5; omega
  ·simp only [Bool.and_eq_true, decide_eq_true_eq, List.all_eq_true, Bool.not_eq_true', decide_eq_false_iff_not] at h5
   have h0 : 0 < n.kids.length := by omega
   have h1 := kid_size (hk _ (getD_mem' h0)) (h5.2.2.2.2 _ (getD_mem' h0)).2
   have := hA.2.2.2 0 h0
   omega
theorem say_kidR {n : NodeD} {d : Int} (h : nodeR n d = true) (hn : NodeOk n) (hz : (sayN n).size ≤ 1048576) : kidR (sayN n) d = true ∧ sayN n ≠ kidZ ∧ 1 ≤ (sayN n).size := by
 have h1 := say_size h
 obtain ⟨D, rfl, hrt⟩ := nodeR_rt h
 have hA := sayA_le hrt n.kids.length (Nat.le_refl _)
 refine ⟨?_, fun e => ?_, h1⟩
 ·unfold kidR
  simp only [Bool.or_eq_true, Bool.and_eq_true, decide_eq_true_eq]
  refine .inr ⟨h1, hz, hA.1, hA.2.1, ?_⟩
  split
  ·rename_i e
   have := say_none hrt hn e
   simp [this.1, this.2]
  ·rename_i e
   exact say_box hrt hn e
 ·rw [e] at h1; simp [kidZ] at h1
end Go.Proofs.YtedokpgkjcnoiaaGreat.Kd
namespace Go.Proofs.YtedokpgkjcnoiaaGreat.Kd
open Pl
abbrev Rw := List Int
inductive TreeD where
 | nil
 | node (row : Rw) (live : Bool) (l r : TreeD)
deriving Inhabited
def TreeD.size : TreeD → Nat
 | .nil => 0
 | .node _ _ l r => 1 + l.size + r.size
def TreeD.all : TreeD → List Rw
 | .nil => []
 | .node p v l r => l.all ++ r.all ++ (if v = true then [p] else [])
/-- all rows, dead ones too -/
def TreeD.rows : TreeD → List Rw
 | .nil => []
 | .node p _ l r => l.rows ++ r.rows ++ [p]
def TreeD.height : TreeD → Nat
 | .nil => 0
 | .node _ _ l r => 1 + max l.height r.height
theorem size_node {p : Rw} {v : Bool} {l r : TreeD} : (TreeD.node p v l r).size = 1 + l.size + r.size := rfl
theorem TreeD.all_le : ∀ t : TreeD, t.all.length ≤ t.size
 | .nil => Nat.le_refl _
 | .node p v l r => by
  have := l.all_le; have := r.all_le
  unfold TreeD.all TreeD.size
  split <;> simp <;> omega
theorem TreeD.all_rows : ∀ t : TreeD, ∀ p ∈ t.all, p ∈ t.rows
 | .nil, p, h => h
 | .node q v l r, p, h => by
  unfold TreeD.all at h; unfold TreeD.rows
  simp only [List.mem_append] at h ⊢
  rcases h with (h | h) | h
  ·exact .inl (.inl (l.all_rows p h))
  ·exact .inl (.inr (r.all_rows p h))
  ·split at h
   ·exact .inr h
   ·cases h
def RwOk (d : Nat) (p : Rw) : Prop := p.length = d ∧ IsI p
def okT (d : Nat) (t : TreeD) : Prop := ∀ p ∈ t.rows, RwOk d p
theorem okT_node {d : Nat} {p : Rw} {v : Bool} {l r : TreeD} : okT d (.node p v l r) ↔ RwOk d p ∧ okT d l ∧ okT d r := by
 unfold okT
 simp only [TreeD.rows, List.mem_append, List.mem_singleton]
 constructor
 ·intro h; exact ⟨h p (.inr rfl), fun q hq => h q (.inl (.inl hq)), fun q hq => h q (.inl (.inr hq))⟩
 ·rintro ⟨h1, h2, h3⟩ q ((hq | hq) | rfl)
  ·exact h2 q hq
  ·exact h3 q hq
  ·exact h1
theorem okT_nil (d : Nat) : okT d .nil := fun p h => by cases h
/-- rows laid at a depth -/
def layT (d : Nat) : Nat → List Rw → Nat → TreeD
 | 0, _, _ => .nil
 | f + 1, l, dep => if l = [] then .nil else
  .node ((isort (ltAt (dep % d)) l).getD (l.length / 2) []) true (layT d f ((isort (ltAt (dep % d)) l).take (l.length / 2)) (dep + 1)) (layT d f ((isort (ltAt (dep % d)) l).drop (l.length / 2 + 1)) (dep + 1))
def lightT (d : Nat) (t : TreeD) (dep : Nat) : TreeD := match t with
 | .nil => .nil
 | .node p v l r => if max l.size r.size > 2 * (TreeD.node p v l r).size / 3 + 1 then layT d (TreeD.node p v l r).all.length (TreeD.node p v l r).all dep else .node p v l r
def insT (d : Nat) : TreeD → Rw → Nat → TreeD × Bool
 | .nil, p, _ => (.node p true .nil .nil, true)
 | .node q v l r, p, dep => if q = p then (lightT d (.node q true l r) dep, !v)
  else if ltAt (dep % d) p q = true then (lightT d (.node q v (insT d l p (dep + 1)).1 r) dep, (insT d l p (dep + 1)).2)
  else (lightT d (.node q v l (insT d r p (dep + 1)).1) dep, (insT d r p (dep + 1)).2)
def remT (d : Nat) : TreeD → Rw → Nat → TreeD × Bool
 | .nil, _, _ => (.nil, false)
 | .node q v l r, p, dep => if q = p then (.node q false l r, v)
  else if ltAt (dep % d) p q = true then (.node q v (remT d l p (dep + 1)).1 r, (remT d l p (dep + 1)).2)
  else (.node q v l (remT d r p (dep + 1)).1, (remT d r p (dep + 1)).2)
def delT (d : Nat) (t : TreeD) (p : Rw) : TreeD × Bool :=
 if (remT d t p 0).2 = true ∧ 2 * (remT d t p 0).1.all.length < (remT d t p 0).1.size then (layT d (remT d t p 0).1.all.length (remT d t p 0).1.all 0, (remT d t p 0).2) else remT d t p 0
/-! ### Laid trees -/
theorem mid_perm {α : Type} (l : List α) (m : Nat) (x : α) (h : m < l.length) : l = l.take m ++ l.getD m x :: l.drop (m + 1) := by
 have e : l.getD m x = l[m] := by simp [List.getD, List.getElem?_eq_getElem h]
 rw [e, List.getElem_cons_drop]
 exact (List.take_append_drop m l).symm
theorem layT_all (d : Nat) : ∀ (f : Nat) (l : List Rw) (dep : Nat), l.length ≤ f → ((layT d f l dep).all.Perm l ∧ (layT d f l dep).rows.Perm l)
 | 0, l, dep, h => by
  obtain rfl : l = [] := List.eq_nil_of_length_eq_zero (by omega)
  exact ⟨.refl _, .refl _⟩
 | f + 1, l, dep, h => by
  unfold layT
  split
  ·rename_i e; subst e; exact ⟨.refl _, .refl _⟩
  ·rename_i hne
   have h0 : 0 < l.length := List.length_pos_iff.2 hne
   have hl := isort_len (lt := ltAt (dep % d)) l
   have hp := isort_perm (lt := ltAt (dep % d)) l
   generalize isort (ltAt (dep % d)) l = M at hl hp
   have hm : l.length / 2 < M.length := by omega
   have e := mid_perm M (l.length / 2) [] hm
   have a1 := layT_all d f (M.take (l.length / 2)) (dep + 1) (by rw [List.length_take]; omega)
   have a2 := layT_all d f (M.drop (l.length / 2 + 1)) (dep + 1) (by rw [List.length_drop]; omega)
   have key : ((M.take (l.length / 2) ++ M.drop (l.length / 2 + 1)) ++ [M.getD (l.length / 2) []]).Perm l := by
    refine List.Perm.trans ?_ hp
    conv => rhs; rw [e]
    rw [List.append_assoc]
    refine List.Perm.append_left _ ?_
    exact List.perm_append_comm
   unfold TreeD.all TreeD.rows
   rw [if_pos rfl]
   exact ⟨(((a1.1.append a2.1).append_right _).trans key), (((a1.2.append a2.2).append_right _).trans key)⟩
theorem TreeD.size_rows : ∀ t : TreeD, t.size = t.rows.length
 | .nil => rfl
 | .node p v l r => by
  unfold TreeD.size TreeD.rows
  rw [l.size_rows, r.size_rows]; simp; omega
theorem layT_size (d f : Nat) (l : List Rw) (dep : Nat) (h : l.length ≤ f) : (layT d f l dep).size = l.length := by
 rw [TreeD.size_rows, (layT_all d f l dep h).2.length_eq]
theorem layT_ok (d f : Nat) (l : List Rw) (dep : Nat) (h : l.length ≤ f) (hl : ∀ p ∈ l, RwOk d p) : okT d (layT d f l dep) := fun p hp => hl p ((layT_all d f l dep h).2.mem_iff.1 hp)
theorem layT_same (d : Nat) : ∀ (f : Nat) (l m : List Rw) (dep : Nat), l.Perm m → layT d f l dep = layT d f m dep
 | 0, l, m, dep, h => rfl
 | f + 1, l, m, dep, h => by
  unfold layT
  rw [isort_same (ltAt_tot (dep % d)) (fun _ _ => trivial) h, h.length_eq]
  by_cases e : l = []
  ·subst e; rw [List.nil_perm.1 h]
  ·rw [if_neg e, if_neg (fun q => e (by subst q; exact List.perm_nil.1 h))]
theorem light_rows (d : Nat) (t : TreeD) (dep : Nat) : (lightT d t dep).all.Perm t.all ∧ (∀ p ∈ (lightT d t dep).rows, p ∈ t.rows) ∧ (lightT d t dep).size ≤ t.size := by
 unfold lightT
 cases t with
 | nil => exact ⟨.refl _, fun _ h => h, Nat.le_refl _⟩
 | node p v l r =>
  dsimp only
  split
  ·have h := layT_all d (TreeD.node p v l r).all.length (TreeD.node p v l r).all dep (Nat.le_refl _)
   refine ⟨h.1, fun q hq => TreeD.all_rows _ q (h.2.mem_iff.1 hq), ?_⟩
   rw [layT_size _ _ _ _ (Nat.le_refl _)]
   exact TreeD.all_le _
  ·exact ⟨.refl _, fun _ h => h, Nat.le_refl _⟩
theorem ins_rows (d : Nat) : ∀ (t : TreeD) (p : Rw) (dep : Nat), (∀ q ∈ (insT d t p dep).1.rows, q = p ∨ q ∈ t.rows) ∧ (insT d t p dep).1.size ≤ t.size + 1 ∧ ((insT d t p dep).2 = true → (insT d t p dep).1.all.Perm (p :: t.all))
 | .nil, p, dep => by simp [insT, TreeD.rows, TreeD.size, TreeD.all]
 | .node q v l r, p, dep => by
  unfold insT
  split
  ·rename_i e
   subst e
   have h := light_rows d (.node q true l r) dep
   refine ⟨fun x hx => .inr (h.2.1 x hx), by have := h.2.2; simp only [size_node] at this ⊢; omega, fun hv => ?_⟩
   refine h.1.trans ?_
   have hv : v = false := by simpa using hv
   subst hv
   simp only [TreeD.all, if_true]
   rw [if_neg (by decide), List.append_nil]
   exact List.perm_append_comm
  ·split
   ·have ih := ins_rows d l p (dep + 1)
    have h := light_rows d (.node q v (insT d l p (dep + 1)).1 r) dep
    refine ⟨fun x hx => ?_, by have := h.2.2; simp only [size_node] at this ⊢; omega, fun hv => ?_⟩
    ·have := h.2.1 x hx
     simp only [TreeD.rows] at this ⊢
     simp only [List.mem_append, List.mem_singleton] at this ⊢
     rcases this with (z | z) | z
     ·rcases ih.1 x z with z | z
      ·exact .inl z
      ·exact .inr (.inl (.inl z))
     ·exact .inr (.inl (.inr z))
     ·exact .inr (.inr z)
    ·refine h.1.trans ?_
     have := ih.2.2 hv
     unfold TreeD.all
     exact ((this.append_right _).append_right _)
   ·have ih := ins_rows d r p (dep + 1)
    have h := light_rows d (.node q v l (insT d r p (dep + 1)).1) dep
    refine ⟨fun x hx => ?_, by have := h.2.2; simp only [size_node] at this ⊢; omega, fun hv => ?_⟩
    ·have := h.2.1 x hx
     simp only [TreeD.rows] at this ⊢
     simp only [List.mem_append, List.mem_singleton] at this ⊢
     rcases this with (z | z) | z
     ·exact .inr (.inl (.inl z))
     ·rcases ih.1 x z with z | z
      ·exact .inl z
      ·exact .inr (.inl (.inr z))
     ·exact .inr (.inr z)
    ·refine h.1.trans ?_
     have := ih.2.2 hv
     unfold TreeD.all
     refine ((this.append_left _).append_right _).trans ?_
     exact (List.perm_middle.append_right _)
theorem ins_ok {d : Nat} {t : TreeD} {p : Rw} (h : okT d t) (hp : RwOk d p) (dep : Nat) : okT d (insT d t p dep).1 := fun q hq => by
 rcases (ins_rows d t p dep).1 q hq with e | e
 ·rw [e]; exact hp
 ·exact h q e
theorem rem_rows (d : Nat) : ∀ (t : TreeD) (p : Rw) (dep : Nat), (remT d t p dep).1.rows = t.rows ∧ (remT d t p dep).1.size = t.size ∧ ((remT d t p dep).2 = true → t.all.Perm (p :: (remT d t p dep).1.all))
 | .nil, p, dep => by simp [remT]
 | .node q v l r, p, dep => by
  unfold remT
  split
  ·rename_i e
   subst e
   refine ⟨rfl, rfl, fun hv => ?_⟩
   have hv : v = true := hv
   subst hv
   simp only [TreeD.all, if_true]
   rw [if_neg (by decide), List.append_nil]
   exact List.perm_append_comm
  ·split
   ·have ih := rem_rows d l p (dep + 1)
    refine ⟨by simp only [TreeD.rows]; rw [ih.1], by simp only [TreeD.size]; rw [ih.2.1], fun hv => ?_⟩
    unfold TreeD.all
    exact (((ih.2.2 hv).append_right _).append_right _)
   ·have ih := rem_rows d r p (dep + 1)
    refine ⟨by simp only [TreeD.rows]; rw [ih.1], by simp only [TreeD.size]; rw [ih.2.1], fun hv => ?_⟩
    unfold TreeD.all
    refine (((ih.2.2 hv).append_left _).append_right _).trans ?_
    exact (List.perm_middle.append_right _)
theorem rem_ok {d : Nat} {t : TreeD} {p : Rw} (h : okT d t) (dep : Nat) : okT d (remT d t p dep).1 := fun q hq => h q (by rw [(rem_rows d t p dep).1] at hq; exact hq)
theorem del_ok {d : Nat} {t : TreeD} {p : Rw} (h : okT d t) : okT d (delT d t p).1 := by
 unfold delT
 split
 ·exact layT_ok d _ _ 0 (Nat.le_refl _) fun q hq => rem_ok h 0 q (TreeD.all_rows _ q hq)
 ·exact rem_ok h 0
theorem del_size (d : Nat) (t : TreeD) (p : Rw) : (delT d t p).1.size ≤ t.size := by
 unfold delT
 have h := rem_rows d t p 0
 split
 ·rw [layT_size _ _ _ _ (Nat.le_refl _)]
  have := TreeD.all_le (remT d t p 0).1
  omega
 ·omega
/-- what can't be taken away can be put in -/
theorem rem_ins (d : Nat) : ∀ (t : TreeD) (p : Rw) (dep : Nat), (remT d t p dep).2 = !(insT d t p dep).2
 | .nil, p, dep => rfl
 | .node q v l r, p, dep => by
  unfold remT insT
  split
  ·simp
  ·split
   ·exact rem_ins d l p (dep + 1)
   ·exact rem_ins d r p (dep + 1)
end Go.Proofs.YtedokpgkjcnoiaaGreat.Kd
