/- Plain: k-d trees as kids in a store. No program in sight. -/
import Derived.Test.YtedokpgkjcnoiaaGreatQ19
set_option linter.unusedVariables false
set_option linter.unusedSimpArgs false
namespace Go.Proofs.YtedokpgkjcnoiaaGreat.Kd
open Pl
/-! ### The kid that a tree says -/
def forkN (e : EntD) (a b : KidD) : NodeD := ⟨1, [e], [a, b]⟩
def kidT : TreeD → KidD
 | .nil => kidZ
 | .node p v l r => sayN (forkN ⟨p, v⟩ (kidT l) (kidT r))
def nodeT (p : Rw) (v : Bool) (l r : TreeD) : NodeD := forkN ⟨p, v⟩ (kidT l) (kidT r)
theorem kidZ_ok : KidOk kidZ := ⟨rfl, fun i => by
 rcases Nat.lt_or_ge i 32 with q | q
 ·show (List.replicate 32 0).getD i 0 < 256
  rw [List.getD_eq_getElem?_getD, List.getElem?_replicate, if_pos q]; decide
 ·show (List.replicate 32 0).getD i 0 < 256
  rw [List.getD_eq_getElem?_getD, List.getElem?_replicate, if_neg (by omega)]; decide, fun i => by simp [kidZ], fun i => by simp [kidZ], fun i => by simp [kidZ], by simp [kidZ], by simp [kidZ], by simp [kidZ], by simp [kidZ], by simp [kidZ]⟩
theorem kidR_Z (d : Int) : kidR kidZ d = true := by simp [kidR]
theorem fork_ok {e : EntD} {a b : KidD} (h1 : IsI e.row) (h2 : e.row.length ≤ 1000000) (ha : KidOk a) (hb : KidOk b) : NodeOk (forkN e a b) := by
 refine ⟨by show 1 < 256; decide, fun i hi => ?_, fun i hi => ?_, by simp [forkN], by simp [forkN]⟩
 ·have : i = 0 := by simp [forkN] at hi; omega
  subst this; exact ⟨h1, h2⟩
 ·have : i = 0 ∨ i = 1 := by simp [forkN] at hi; omega
  rcases this with rfl | rfl
  ·exact ha
  ·exact hb
theorem fork_right {e : EntD} {a b : KidD} {d : Nat} (h1 : 1 ≤ d) (h8 : d ≤ 8) (hl : e.row.length = d) (ha : kidR a d = true) (hb : kidR b d = true) (ka : a.key.length = 0) (kb : b.key.length = 0) : nodeR (forkN e a b) d = true := by
 unfold nodeR forkN kindR
 simp [hl, ha, hb, ka, kb]
 exact ⟨by omega, by omega, List.eq_nil_of_length_eq_zero ka, List.eq_nil_of_length_eq_zero kb⟩
theorem fork_size (e : EntD) (a b : KidD) : (sayN (forkN e a b)).size = 1 + a.size + b.size := by
 cases h : e.live <;> simp [sayN, sayA, sayR, sayE, sayK, forkN, h]
theorem fork_live (e : EntD) (a b : KidD) : (sayN (forkN e a b)).live = (if e.live = true then 1 else 0) + a.live + b.live := by
 cases h : e.live <;> simp [sayN, sayA, sayR, sayE, sayK, forkN, h]
theorem fork_key (e : EntD) (a b : KidD) : (sayN (forkN e a b)).key = [] := by simp [sayN, keyN, forkN]
structure KidGood (d : Nat) (k : KidD) : Prop where
 r : kidR k d = true
 o : KidOk k
 k : k.key.length = 0
theorem KidGood.zero (d : Nat) : KidGood d kidZ := ⟨kidR_Z d, kidZ_ok, rfl⟩
theorem KidGood.fork {d : Nat} {e : EntD} {a b : KidD} (h1 : 1 ≤ d) (h8 : d ≤ 8) (he : RwOk d e.row) (ha : KidGood d a) (hb : KidGood d b) : nodeR (forkN e a b) d = true ∧ NodeOk (forkN e a b) ∧ ((sayN (forkN e a b)).size ≤ 1048576 → KidGood d (sayN (forkN e a b)) ∧ sayN (forkN e a b) ≠ kidZ) := by
 have hr := fork_right (e := e) (a := a) (b := b) h1 h8 he.1 ha.r hb.r ha.k hb.k
 have hn := fork_ok (e := e) (a := a) (b := b) he.2 (by have := he.1; omega) ha.o hb.o
 refine ⟨hr, hn, fun hz => ?_⟩
 obtain ⟨D, e, hrt⟩ := nodeR_rt hr
 obtain rfl : D = d := by omega
 have := say_kidR hr hn hz
 exact ⟨⟨this.1, sayN_ok hrt hn, by rw [fork_key]; rfl⟩, this.2.1⟩
theorem kid_pos {d : Nat} {k : KidD} (h : KidGood d k) : 0 ≤ k.size ∧ k.size ≤ 1048576 ∧ 0 ≤ k.live ∧ k.live ≤ k.size ∧ (k = kidZ ↔ k.size = 0) := by
 have q := h.r
 unfold kidR at q
 simp only [Bool.or_eq_true, Bool.and_eq_true, decide_eq_true_eq] at q
 rcases q with q | q
 ·rw [q]; simp [kidZ]
 ·refine ⟨by omega, by omega, by omega, by omega, ?_⟩
  constructor
  ·intro e; rw [e]; rfl
  ·intro e; omega
theorem kidT_facts (d : Nat) (h1 : 1 ≤ d) (h8 : d ≤ 8) : ∀ t : TreeD, okT d t → t.size ≤ 1048576 → KidGood d (kidT t) ∧ (kidT t).size = t.size ∧ (kidT t).live = t.all.length
 | .nil, _, _ => ⟨KidGood.zero d, rfl, rfl⟩
 | .node p v l r, h, hz => by
  obtain ⟨hp, hl, hr⟩ := okT_node.1 h
  rw [size_node] at hz
  have i1 := kidT_facts d h1 h8 l hl (by omega)
  have i2 := kidT_facts d h1 h8 r hr (by omega)
  have hf := KidGood.fork (e := ⟨p, v⟩) h1 h8 hp i1.1 i2.1
  have hs := fork_size ⟨p, v⟩ (kidT l) (kidT r)
  have hv := fork_live ⟨p, v⟩ (kidT l) (kidT r)
  rw [i1.2.1, i2.2.1] at hs
  rw [i1.2.2, i2.2.2] at hv
  unfold kidT
  refine ⟨(hf.2.2 (by omega)).1, by rw [hs, size_node]; omega, ?_⟩
  rw [hv]
  simp only [TreeD.all]
  cases v <;> simp <;> omega
theorem kidT_Z {d : Nat} (h1 : 1 ≤ d) (h8 : d ≤ 8) {t : TreeD} (h : okT d t) (hz : t.size ≤ 1048576) : kidT t = kidZ ↔ t = .nil := by
 constructor
 ·intro e
  have := (kidT_facts d h1 h8 t h hz).2.1
  rw [e] at this
  cases t with
  | nil => rfl
  | node p v l r => rw [size_node] at this; simp [kidZ] at this; omega
 ·rintro rfl; rfl
/-! ### Trees in a store -/
def inS (s : Sto) : TreeD → Prop
 | .nil => True
 | .node p v l r => s.get (sum9 (nodeB (nodeT p v l r))) = some (nodeB (nodeT p v l r)) ∧ inS s l ∧ inS s r
theorem inS_le {s s' : Sto} (h : Le s s') : ∀ t : TreeD, inS s t → inS s' t
 | .nil, _ => trivial
 | .node p v l r, q => ⟨h.g _ _ q.1, inS_le h l q.2.1, inS_le h r q.2.2⟩
theorem inS_get {s : Sto} {d : Nat} (h1 : 1 ≤ d) (h8 : d ≤ 8) {p : Rw} {v : Bool} {l r : TreeD} (h : okT d (.node p v l r)) (hz : (TreeD.node p v l r).size ≤ 1048576) (hi : inS s (.node p v l r)) : nGet s (kidT (.node p v l r)) d = some (nodeT p v l r) := by
 obtain ⟨hp, hl, hr⟩ := okT_node.1 h
 have hs := (kidT_facts d h1 h8 _ h hz).2.1
 rw [size_node] at hz
 have i1 := kidT_facts d h1 h8 l hl (by omega)
 have i2 := kidT_facts d h1 h8 r hr (by omega)
 have hf := KidGood.fork (e := ⟨p, v⟩) h1 h8 hp i1.1 i2.1
 refine nGet_of hf.2.1 hf.1 ?_ hi.1
 have : (sayN (forkN ⟨p, v⟩ (kidT l) (kidT r))).size = _ := hs
 rw [this, size_node]; omega
/-! ### The program's way -/
def forkP (d : Nat) (s : Sto) (e : EntD) (a b : KidD) : Sto × KidD × Int := nPut s (forkN e a b) d
theorem fork_put {d : Nat} {s : Sto} {p : Rw} {v : Bool} {l r : TreeD} (h1 : 1 ≤ d) (h8 : d ≤ 8) (h : okT d (.node p v l r)) (hz : (TreeD.node p v l r).size ≤ 1048576) :
    (forkP d s ⟨p, v⟩ (kidT l) (kidT r)).2 = (kidT (.node p v l r), 0) ∧ Le s (forkP d s ⟨p, v⟩ (kidT l) (kidT r)).1 ∧ ((forkP d s ⟨p, v⟩ (kidT l) (kidT r)).1.c = none → inS s l → inS s r → inS (forkP d s ⟨p, v⟩ (kidT l) (kidT r)).1 (.node p v l r)) := by
  have hs := (kidT_facts d h1 h8 _ h hz).2.1
  obtain ⟨hp, hl, hr⟩ := okT_node.1 h
  rw [size_node] at hz
  have i1 := kidT_facts d h1 h8 l hl (by omega)
  have i2 := kidT_facts d h1 h8 r hr (by omega)
  have hf := KidGood.fork (e := ⟨p, v⟩) h1 h8 hp i1.1 i2.1
  have hz2 : (sayN (forkN ⟨p, v⟩ (kidT l) (kidT r))).size ≤ 1048576 := by
    have : (sayN (forkN ⟨p, v⟩ (kidT l) (kidT r))).size = _ := hs
    rw [this, size_node]; omega
  unfold forkP nPut
  rw [if_pos ⟨hf.1, hz2⟩]
  exact ⟨rfl, Le.put _ _, fun hc a b => ⟨put_get hc, inS_le (Le.put _ _) l a, inS_le (Le.put _ _) r b⟩⟩
/-- on, where there is no error -/
def thenP (r : Sto × KidD × Int) (g : Sto → KidD → Sto × KidD × Int) : Sto × KidD × Int := if r.2.2 ≠ 0 then (r.1, kidZ, r.2.2) else g r.1 r.2.1
theorem Le.thenP {s : Sto} {r : Sto × KidD × Int} {g : Sto → KidD → Sto × KidD × Int} (h : Le s r.1) (hg : Le r.1 (g r.1 r.2.1).1) : Le s (thenP r g).1 := by
 unfold Kd.thenP
 split
 ·exact h
 ·exact h.trans hg
theorem then_ok {r : Sto × KidD × Int} {k : KidD} (g : Sto → KidD → Sto × KidD × Int) (h : r.2 = (k, 0)) : thenP r g = g r.1 k := by
 unfold thenP
 rw [h]; exact if_neg (fun q => q rfl)
theorem then_no {r : Sto × KidD × Int} {k : KidD} {e : Int} (g : Sto → KidD → Sto × KidD × Int) (h : r.2 = (k, e)) (he : e ≠ 0) : thenP r g = (r.1, kidZ, e) := by
 unfold thenP
 rw [h]; exact if_pos he
def layP (d : Nat) : Nat → Sto → List Rw → Nat → Sto × KidD × Int
 | 0, s, _, _ => (s, kidZ, 0)
 | f + 1, s, l, dep => if l = [] then (s, kidZ, 0) else
  thenP (layP d f s ((isort (ltAt (dep % d)) l).take (l.length / 2)) (dep + 1)) fun s1 k1 =>
   thenP (layP d f s1 ((isort (ltAt (dep % d)) l).drop (l.length / 2 + 1)) (dep + 1)) fun s2 k2 =>
    forkP d s2 ⟨(isort (ltAt (dep % d)) l).getD (l.length / 2) [], true⟩ k1 k2
theorem lay_spec {d : Nat} (h1 : 1 ≤ d) (h8 : d ≤ 8) : ∀ (f : Nat) (s : Sto) (l : List Rw) (dep : Nat), l.length ≤ f → l.length ≤ 1048576 → (∀ p ∈ l, RwOk d p) →
    (layP d f s l dep).2 = (kidT (layT d f l dep), 0) ∧ Le s (layP d f s l dep).1 ∧ ((layP d f s l dep).1.c = none → inS (layP d f s l dep).1 (layT d f l dep))
  | 0, s, l, dep, _, _, _ => ⟨rfl, Le.refl s, fun _ => trivial⟩
  | f + 1, s, l, dep, hf, hz, hl => by
    unfold layP layT
    by_cases hne : l = []
    · rw [if_pos hne, if_pos hne]; exact ⟨rfl, Le.refl s, fun _ => trivial⟩
    · rw [if_neg hne, if_neg hne]
      have h0 : 0 < l.length := List.length_pos_iff.2 hne
      have hlen := isort_len (lt := ltAt (dep % d)) l
      have hmem : ∀ p ∈ isort (ltAt (dep % d)) l, RwOk d p := fun p hp => hl p (isort_mem.1 hp)
      generalize isort (ltAt (dep % d)) l = M at hlen hmem
      have lt1 : (M.take (l.length / 2)).length ≤ f := by rw [List.length_take]; omega
      have lt2 : (M.drop (l.length / 2 + 1)).length ≤ f := by rw [List.length_drop]; omega
      obtain ⟨a1, a2, a3⟩ := lay_spec h1 h8 f s (M.take (l.length / 2)) (dep + 1) lt1 (by rw [List.length_take]; omega) (fun p hp => hmem p (List.mem_of_mem_take hp))
      rw [then_ok _ a1]
      generalize (layP d f s (M.take (l.length / 2)) (dep + 1)).1 = s1 at a2 a3
      obtain ⟨b1, b2, b3⟩ := lay_spec h1 h8 f s1 (M.drop (l.length / 2 + 1)) (dep + 1) lt2 (by rw [List.length_drop]; omega) (fun p hp => hmem p (List.mem_of_mem_drop hp))
      rw [then_ok _ b1]
      generalize (layP d f s1 (M.drop (l.length / 2 + 1)) (dep + 1)).1 = s2 at b2 b3
      have hx : RwOk d (M.getD (l.length / 2) []) := hmem _ (by
        have : l.length / 2 < M.length := by omega
        rw [List.getD_eq_getElem?_getD, List.getElem?_eq_getElem this]
        exact List.getElem_mem this)
      have ok1 := layT_ok d f _ (dep + 1) lt1 (fun p hp => hmem p (List.mem_of_mem_take hp))
      have ok2 := layT_ok d f _ (dep + 1) lt2 (fun p hp => hmem p (List.mem_of_mem_drop hp))
      have z1 := layT_size d f _ (dep + 1) lt1
      have z2 := layT_size d f _ (dep + 1) lt2
      rw [List.length_take] at z1
      rw [List.length_drop] at z2
      have c := fork_put (s := s2) (p := M.getD (l.length / 2) []) (v := true) h1 h8 (okT_node.2 ⟨hx, ok1, ok2⟩) (by rw [size_node]; omega)
      exact ⟨c.1, a2.trans (b2.trans c.2.1), fun hc => c.2.2 hc (inS_le b2 _ (a3 (b2.c (c.2.1.c hc)))) (b3 (c.2.1.c hc))⟩
def tGet (s : Sto) (d : Nat) (k : KidD) : Option (EntD × KidD × KidD) := match nGet s k d with
 | none => none
 | some n => if n.kind = 1 then some (n.rows.getD 0 default, n.kids.getD 0 default, n.kids.getD 1 default) else none
theorem tGet_in {s : Sto} {d : Nat} (h1 : 1 ≤ d) (h8 : d ≤ 8) {p : Rw} {v : Bool} {l r : TreeD} (h : okT d (.node p v l r)) (hz : (TreeD.node p v l r).size ≤ 1048576) (hi : inS s (.node p v l r)) : tGet s d (kidT (.node p v l r)) = some (⟨p, v⟩, kidT l, kidT r) := by
 unfold tGet
 rw [inS_get h1 h8 h hz hi]
 rfl
def liveP (d : Nat) : Nat → Sto → KidD → Option (List Rw)
 | 0, _, _ => none
 | f + 1, s, k => if k.live = 0 then some [] else match tGet s d k with
  | none => none
  | some (x, a, b) => match liveP d f s a with
   | none => none
   | some l1 => match liveP d f s b with
    | none => none
    | some l2 => some ((if x.live = true then [x.row] else []) ++ l1 ++ l2)
theorem live_spec {d : Nat} (h1 : 1 ≤ d) (h8 : d ≤ 8) : ∀ (f : Nat) (s : Sto) (t : TreeD), t.size < f → t.size ≤ 1048576 → okT d t → inS s t → ∃ l, liveP d f s (kidT t) = some l ∧ l.Perm t.all
 | 0, s, t, h, _, _, _ => by omega
 | f + 1, s, t, hf, hz, hok, hin => by
  unfold liveP
  have hk := kidT_facts d h1 h8 t hok hz
  by_cases h0 : (kidT t).live = 0
  ·rw [if_pos h0]
   have : t.all = [] := List.eq_nil_of_length_eq_zero (by have := hk.2.2; omega)
   rw [this]
   exact ⟨[], rfl, .refl _⟩
  ·rw [if_neg h0]
   cases t with
   | nil => exact absurd rfl h0
   | node p v l r =>
    rw [tGet_in h1 h8 hok hz hin]
    dsimp only
    obtain ⟨hp, hl, hr⟩ := okT_node.1 hok
    rw [size_node] at hf hz
    obtain ⟨l1, e1, p1⟩ := live_spec h1 h8 f s l (by omega) (by omega) hl hin.2.1
    obtain ⟨l2, e2, p2⟩ := live_spec h1 h8 f s r (by omega) (by omega) hr hin.2.2
    rw [e1]
    dsimp only
    rw [e2]
    refine ⟨_, rfl, ?_⟩
    unfold TreeD.all
    rw [List.append_assoc]
    exact ((p1.append p2).append_left _).trans List.perm_append_comm
def anewP (d : Nat) (s : Sto) (k : KidD) (dep : Nat) : Sto × KidD × Int := match liveP d (k.size.toNat + 1) s k with
 | none => (s, kidZ, 21)
 | some l => layP d l.length s l dep
theorem anew_spec {d : Nat} (h1 : 1 ≤ d) (h8 : d ≤ 8) (s : Sto) (t : TreeD) (dep : Nat) (hz : t.size ≤ 1048576) (hok : okT d t) (hin : inS s t) :
    (anewP d s (kidT t) dep).2 = (kidT (layT d t.all.length t.all dep), 0) ∧ Le s (anewP d s (kidT t) dep).1 ∧ ((anewP d s (kidT t) dep).1.c = none → inS (anewP d s (kidT t) dep).1 (layT d t.all.length t.all dep)) := by
  have hk := kidT_facts d h1 h8 t hok hz
  obtain ⟨l, e, hp⟩ := live_spec h1 h8 ((kidT t).size.toNat + 1) s t (by have := hk.2.1; omega) hz hok hin
  unfold anewP
  rw [e]
  dsimp only
  have := lay_spec h1 h8 l.length s l dep (Nat.le_refl _) (by have := hp.length_eq; have := TreeD.all_le t; omega) (fun p q => hok p (TreeD.all_rows t p (hp.mem_iff.1 q)))
  rw [layT_same d l.length l t.all dep hp, hp.length_eq] at this
  rw [hp.length_eq]
  exact this
theorem Le.lay (d : Nat) : ∀ (f : Nat) (s : Sto) (l : List Rw) (dep : Nat), Le s (layP d f s l dep).1
 | 0, s, l, dep => Le.refl s
 | f + 1, s, l, dep => by
  unfold layP
  split
  ·exact Le.refl s
  ·exact Le.thenP (Le.lay d f s _ _) (Le.thenP (Le.lay d f _ _ _) (Le.nPut _ _ _))
theorem Le.anew (d : Nat) (s : Sto) (k : KidD) (dep : Nat) : Le s (anewP d s k dep).1 := by
 unfold anewP
 split
 ·exact Le.refl s
 ·exact Le.lay _ _ _ _ _
/-- the fork that is put again, laid anew where it is heavy -/
def againP (d : Nat) (s : Sto) (e : EntD) (a b : KidD) (dep : Nat) : Sto × KidD × Int :=
 if (forkP d s e a b).2.2 = 0 ∧ max a.size b.size > Int.tdiv (2 * (forkP d s e a b).2.1.size) 3 + 1 then anewP d (forkP d s e a b).1 (forkP d s e a b).2.1 dep else forkP d s e a b
theorem Le.again (d : Nat) (s : Sto) (e : EntD) (a b : KidD) (dep : Nat) : Le s (againP d s e a b dep).1 := by
 unfold againP
 have h : Le s (forkP d s e a b).1 := Le.nPut _ _ _
 split
 ·exact h.trans (Le.anew _ _ _ _)
 ·exact h
theorem again_spec {d : Nat} (h1 : 1 ≤ d) (h8 : d ≤ 8) {s : Sto} {p : Rw} {v : Bool} {l r : TreeD} (dep : Nat) (h : okT d (.node p v l r)) (hz : (TreeD.node p v l r).size ≤ 1048576) (il : inS s l) (ir : inS s r)
    (hn : (againP d s ⟨p, v⟩ (kidT l) (kidT r) dep).1.c = none) : (againP d s ⟨p, v⟩ (kidT l) (kidT r) dep).2 = (kidT (lightT d (.node p v l r) dep), 0) ∧ inS (againP d s ⟨p, v⟩ (kidT l) (kidT r) dep).1 (lightT d (.node p v l r) dep) := by
  obtain ⟨f1, f2, f3⟩ := fork_put (s := s) h1 h8 h hz
  have hsz := (kidT_facts d h1 h8 _ h hz).2.1
  obtain ⟨hp, hl, hr⟩ := okT_node.1 h
  have i1 := kidT_facts d h1 h8 l hl (by rw [size_node] at hz; omega)
  have i2 := kidT_facts d h1 h8 r hr (by rw [size_node] at hz; omega)
  have hcond : (max (kidT l).size (kidT r).size > Int.tdiv (2 * (kidT (.node p v l r)).size) 3 + 1) ↔ max l.size r.size > 2 * (TreeD.node p v l r).size / 3 + 1 := by
    rw [i1.2.1, i2.2.1, hsz, Int.tdiv_eq_ediv_of_nonneg (by omega)]
    omega
  unfold againP at hn ⊢
  rw [f1] at hn ⊢
  unfold lightT
  dsimp only at hn ⊢
  by_cases hc : max l.size r.size > 2 * (TreeD.node p v l r).size / 3 + 1
  · rw [if_pos ⟨rfl, hcond.2 hc⟩] at hn ⊢
    rw [if_pos hc]
    have hn1 := (Le.anew d _ (kidT (.node p v l r)) dep).c hn
    have := anew_spec h1 h8 _ (.node p v l r) dep hz h (f3 hn1 il ir)
    exact ⟨this.1, this.2.2 hn⟩
  · rw [if_neg (fun q => hc (hcond.1 q.2))] at hn ⊢
    rw [if_neg hc]
    exact ⟨f1, f3 hn il ir⟩
def insP (d : Nat) : Nat → Sto → KidD → Rw → Nat → Sto × KidD × Int
 | 0, s, _, _, _ => (s, kidZ, 21)
 | f + 1, s, k, p, dep => if k = kidZ then forkP d s ⟨p, true⟩ kidZ kidZ else match tGet s d k with
  | none => (s, kidZ, 21)
  | some (x, a, b) => if x.row = p then (if x.live = true then (s, kidZ, 8) else againP d s ⟨x.row, true⟩ a b dep)
   else if ltAt (dep % d) p x.row = true then thenP (insP d f s a p (dep + 1)) fun s1 k1 => againP d s1 x k1 b dep
   else thenP (insP d f s b p (dep + 1)) fun s1 k1 => againP d s1 x a k1 dep
section
variable {d f : Nat} {s : Sto} {k : KidD} {p q : Rw} {dep : Nat} {x : EntD} {a b : KidD} {v : Bool} {l r : TreeD}
theorem insP_Z : insP d (f + 1) s kidZ p dep = forkP d s ⟨p, true⟩ kidZ kidZ := if_pos rfl
theorem insP_none (hk : k ≠ kidZ) (hg : tGet s d k = none) : insP d (f + 1) s k p dep = (s, kidZ, 21) := by
 rw [insP, if_neg hk, hg]
theorem insP_dup (hk : k ≠ kidZ) (hg : tGet s d k = some (x, a, b)) (e : x.row = p) (hv : x.live = true) : insP d (f + 1) s k p dep = (s, kidZ, 8) := by
 rw [insP, if_neg hk, hg]; exact (if_pos e).trans (if_pos hv)
theorem insP_rev (hk : k ≠ kidZ) (hg : tGet s d k = some (x, a, b)) (e : x.row = p) (hv : x.live = false) : insP d (f + 1) s k p dep = againP d s ⟨x.row, true⟩ a b dep := by
 rw [insP, if_neg hk, hg]; exact (if_pos e).trans (if_neg (fun z => by rw [hv] at z; cases z))
theorem insP_lt (hk : k ≠ kidZ) (hg : tGet s d k = some (x, a, b)) (e : x.row ≠ p) (hv : ltAt (dep % d) p x.row = true) : insP d (f + 1) s k p dep = thenP (insP d f s a p (dep + 1)) fun s1 k1 => againP d s1 x k1 b dep := by
 rw [insP, if_neg hk, hg]; exact (if_neg e).trans (if_pos hv)
theorem insP_ge (hk : k ≠ kidZ) (hg : tGet s d k = some (x, a, b)) (e : x.row ≠ p) (hv : ltAt (dep % d) p x.row = false) : insP d (f + 1) s k p dep = thenP (insP d f s b p (dep + 1)) fun s1 k1 => againP d s1 x a k1 dep := by
 rw [insP, if_neg hk, hg]; exact (if_neg e).trans (if_neg (fun z => by rw [hv] at z; cases z))
theorem insT_at (e : q = p) : insT d (.node q v l r) p dep = (lightT d (.node q true l r) dep, !v) := if_pos e
theorem insT_lt (e : q ≠ p) (hv : ltAt (dep % d) p q = true) : insT d (.node q v l r) p dep = (lightT d (.node q v (insT d l p (dep + 1)).1 r) dep, (insT d l p (dep + 1)).2) := (if_neg e).trans (if_pos hv)
theorem insT_ge (e : q ≠ p) (hv : ltAt (dep % d) p q = false) : insT d (.node q v l r) p dep = (lightT d (.node q v l (insT d r p (dep + 1)).1) dep, (insT d r p (dep + 1)).2) := (if_neg e).trans (if_neg (fun z => by rw [hv] at z; cases z))
end
theorem Le.ins (d : Nat) : ∀ (f : Nat) (s : Sto) (k : KidD) (p : Rw) (dep : Nat), Le s (insP d f s k p dep).1
 | 0, s, k, p, dep => Le.refl s
 | f + 1, s, k, p, dep => by
  unfold insP
  split
  ·exact Le.nPut _ _ _
  ·split
   ·exact Le.refl s
   ·split
    ·split
     ·exact Le.refl s
     ·exact Le.again _ _ _ _ _ _
    ·split
     ·exact Le.thenP (Le.ins d f s _ _ _) (Le.again _ _ _ _ _ _)
     ·exact Le.thenP (Le.ins d f s _ _ _) (Le.again _ _ _ _ _ _)
def InsGood (d : Nat) (R : Sto × KidD × Int) (Q : TreeD × Bool) : Prop := (Q.2 = true → R.2 = (kidT Q.1, 0) ∧ inS R.1 Q.1) ∧ (Q.2 = false → R.2 = (kidZ, 8))
theorem then_good {d : Nat} {R : Sto × KidD × Int} {Q : TreeD × Bool} {g : Sto → KidD → Sto × KidD × Int} {G : TreeD → TreeD} (h : R.1.c = none → InsGood d R Q) (hg : Le R.1 (g R.1 R.2.1).1)
    (hn : (thenP R g).1.c = none) (k : R.1.c = none → inS R.1 Q.1 → (g R.1 (kidT Q.1)).1.c = none → (g R.1 (kidT Q.1)).2 = (kidT (G Q.1), 0) ∧ inS (g R.1 (kidT Q.1)).1 (G Q.1)) : InsGood d (thenP R g) (G Q.1, Q.2) := by
  have hn0 : R.1.c = none := (Le.thenP (Le.refl _) hg).c hn
  obtain ⟨h1, h2⟩ := h hn0
  cases hb : Q.2 with
  | true =>
    obtain ⟨e1, e2⟩ := h1 hb
    rw [then_ok g e1] at hn ⊢
    exact ⟨fun _ => k hn0 e2 hn, fun z => (by cases z)⟩
  | false =>
    rw [then_no g (h2 hb) (by decide)]
    exact ⟨fun z => (by cases z), fun _ => rfl⟩
theorem ins_spec {d : Nat} (h1 : 1 ≤ d) (h8 : d ≤ 8) : ∀ (f : Nat) (s : Sto) (t : TreeD) (p : Rw) (dep : Nat), t.size < f → t.size + 1 ≤ 1048576 → okT d t → inS s t → RwOk d p → (insP d f s (kidT t) p dep).1.c = none →
    InsGood d (insP d f s (kidT t) p dep) (insT d t p dep) := by
  intro f
  induction f with
  | zero => intro s t p dep hf; omega
  | succ f ih =>
  intro s t p dep hf hz hok hin hp hn
  cases t with
  | nil =>
    have e : insP d (f + 1) s (kidT .nil) p dep = _ := insP_Z
    rw [e] at hn ⊢
    have h := fork_put (s := s) (p := p) (v := true) (l := .nil) (r := .nil) h1 h8 (okT_node.2 ⟨hp, okT_nil d, okT_nil d⟩) (by simp [TreeD.size])
    exact ⟨fun _ => ⟨h.1, h.2.2 hn trivial trivial⟩, fun q => by cases q⟩
  | node q v l r =>
    have hzz : (TreeD.node q v l r).size ≤ 1048576 := by omega
    have hne : kidT (.node q v l r) ≠ kidZ := fun e => by have := (kidT_Z h1 h8 hok hzz).1 e; cases this
    have hg := tGet_in h1 h8 hok hzz hin
    obtain ⟨hq, hl, hr⟩ := okT_node.1 hok
    rw [size_node] at hf hz
    by_cases e : q = p
    · rw [insT_at e]
      cases v with
      | true => rw [insP_dup hne hg e rfl]; exact ⟨(fun z => by cases z), (fun _ => rfl)⟩
      | false =>
        rw [insP_rev hne hg e rfl] at hn ⊢
        have h := again_spec h1 h8 (p := q) (v := true) dep (okT_node.2 ⟨hq, hl, hr⟩) (by rw [size_node]; omega) hin.2.1 hin.2.2 hn
        exact ⟨(fun _ => h), (fun z => by cases z)⟩
    · cases hlt : ltAt (dep % d) p q with
      | true =>
        rw [insP_lt hne hg e hlt] at hn ⊢
        rw [insT_lt e hlt]
        have hr2 := ins_rows d l p (dep + 1)
        exact then_good (G := fun u => lightT d (.node q v u r) dep) (ih s l p (dep + 1) (by omega) (by omega) hl hin.2.1 hp) (Le.again _ _ _ _ _ _) hn fun hc hi hn2 =>
          again_spec h1 h8 (p := q) (v := v) dep (okT_node.2 ⟨hq, ins_ok hl hp (dep + 1), hr⟩) (by rw [size_node]; omega) hi (inS_le (Le.ins d f s (kidT l) p (dep + 1)) _ hin.2.2) hn2
      | false =>
        rw [insP_ge hne hg e hlt] at hn ⊢
        rw [insT_ge e hlt]
        have hr2 := ins_rows d r p (dep + 1)
        exact then_good (G := fun u => lightT d (.node q v l u) dep) (ih s r p (dep + 1) (by omega) (by omega) hr hin.2.2 hp) (Le.again _ _ _ _ _ _) hn fun hc hi hn2 =>
          again_spec h1 h8 (p := q) (v := v) dep (okT_node.2 ⟨hq, hl, ins_ok hr hp (dep + 1)⟩) (by rw [size_node]; omega) (inS_le (Le.ins d f s (kidT r) p (dep + 1)) _ hin.2.1) hi hn2
end Go.Proofs.YtedokpgkjcnoiaaGreat.Kd
