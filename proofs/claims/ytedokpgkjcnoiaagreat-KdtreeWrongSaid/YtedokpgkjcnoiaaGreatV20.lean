/- Plain: k-d trees as kids in a store. No program in sight. Plain: the program's way in k-d trees keeps stores and kids good; Delete, Has, Height, Rows. No program in sight. Plain: the trees of chapter 11's examples, their pages' sums written down. Printed by gen/alive11.py. No program in sight. -/
import Derived.Test.YtedokpgkjcnoiaaGreatV19
set_option linter.unusedVariables false
set_option linter.unusedSimpArgs false
namespace Go.Proofs.YtedokpgkjcnoiaaGreat.Kd
open Pl
/-! ### The kid that a tree says -/
def forkN (e : EntD) (a b : KidD) : NodeD := ⟨1, [e], [a, b]⟩
def kidT : TreeD → KidD
 | .nil => kidZ
 | .node p v l r => sayN (forkN ⟨p, v⟩ (kidT l) (kidT r))
def nodeT (p : Rw) (v : Bool) (l r : TreeD) : NodeD := forkN ⟨p, v⟩ (kidT l) (kidT r)
theorem kidZ_ok : KidOk kidZ := ⟨rfl, fun i => by
 rcases Nat.lt_or_ge i 32 with q | q
 ·show (List.replicate 32 0).getD i 0 < 256
  rw [List.getD_eq_getElem?_getD, List.getElem?_replicate, if_pos q]; decide
 ·show (List.replicate 32 0).getD i 0 < 256
  rw [List.getD_eq_getElem?_getD, List.getElem?_replicate, if_neg (by omega)]; decide, fun i => by simp [kidZ], fun i => by simp [kidZ], fun i => by simp [kidZ], by simp [kidZ], by simp [kidZ], by simp [kidZ], by simp [kidZ], by simp [kidZ]⟩
theorem kidR_Z (d : Int) : kidR kidZ d = true := by simp [kidR]
theorem fork_ok {e : EntD} {a b : KidD} (h1 : IsI e.row) (h2 : e.row.length ≤ 1000000) (ha : KidOk a) (hb : KidOk b) : NodeOk (forkN e a b) := by
 refine ⟨by show 1 < 256; decide, fun i hi => ?_, fun i hi => ?_, by simp [forkN], by simp [forkN]⟩
 ·have : i = 0 := by simp [forkN] at hi; omega
  subst this; exact ⟨h1, h2⟩
 ·have : i = 0 ∨ i = 1 := by simp [forkN] at hi; omega
  rcases this with rfl | rfl
  ·exact ha
  ·exact hb
theorem fork_right {e : EntD} {a b : KidD} {d : Nat} (h1 : 1 ≤ d) (h8 : d ≤ 8) (hl : e.row.length = d) (ha : kidR a d = true) (hb : kidR b d = true) (ka : a.key.length = 0) (kb : b.key.length = 0) : nodeR (forkN e a b) d = true := by
 unfold nodeR forkN kindR
 simp [hl, ha, hb, ka, kb]
 exact ⟨by omega, by omega, List.eq_nil_of_length_eq_zero ka, List.eq_nil_of_length_eq_zero kb⟩
theorem fork_size (e : EntD) (a b : KidD) : (sayN (forkN e a b)).size = 1 + a.size + b.size := by
 cases h : e.live <;> simp [sayN, sayA, sayR, sayE, sayK, forkN, h]
theorem fork_live (e : EntD) (a b : KidD) : (sayN (forkN e a b)).live = (if e.live = true then 1 else 0) + a.live + b.live := by
 cases h : e.live <;> simp [sayN, sayA, sayR, sayE, sayK, forkN, h]
theorem fork_key (e : EntD) (a b : KidD) : (sayN (forkN e a b)).key = [] := by simp [sayN, keyN, forkN]
structure KidGood (d : Nat) (k : KidD) : Prop where
 r : kidR k d = true
 o : KidOk k
 k : k.key.length = 0
theorem KidGood.zero (d : Nat) : KidGood d kidZ := ⟨kidR_Z d, kidZ_ok, rfl⟩
theorem KidGood.fork {d : Nat} {e : EntD} {a b : KidD} (h1 : 1 ≤ d) (h8 : d ≤ 8) (he : RwOk d e.row) (ha : KidGood d a) (hb : KidGood d b) : nodeR (forkN e a b) d = true ∧ NodeOk (forkN e a b) ∧ ((sayN (forkN e a b)).size ≤ 1048576 → KidGood d (sayN (forkN e a b)) ∧ sayN (forkN e a b) ≠ kidZ) := by
 have hr := fork_right (e := e) (a := a) (b := b) h1 h8 he.1 ha.r hb.r ha.k hb.k
 have hn := fork_ok (e := e) (a := a) (b := b) he.2 (by have := he.1; omega) ha.o hb.o
 refine ⟨hr, hn, fun hz => ?_⟩
 obtain ⟨D, e, hrt⟩ := nodeR_rt hr
 obtain rfl : D = d := by omega
 have := say_kidR hr hn hz
 exact ⟨⟨this.1, sayN_ok hrt hn, by rw [fork_key]; rfl⟩, this.2.1⟩
theorem kid_pos {d : Nat} {k : KidD} (h : KidGood d k) : 0 ≤ k.size ∧ k.size ≤ 1048576 ∧ 0 ≤ k.live ∧ k.live ≤ k.size ∧ (k = kidZ ↔ k.size = 0) := by
 have q := h.r
 unfold kidR at q
 simp only [Bool.or_eq_true, Bool.and_eq_true, decide_eq_true_eq] at q
 rcases q with q | q
 ·rw [q]; simp [kidZ]
 ·refine ⟨by omega, by omega, by omega, by omega, ?_⟩
  constructor
  ·intro e; rw [e]; rfl
  ·intro e; omega
theorem kidT_facts (d : Nat) (h1 : 1 ≤ d) (h8 : d ≤ 8) : ∀ t : TreeD, okT d t → t.size ≤ 1048576 → KidGood d (kidT t) ∧ (kidT t).size = t.size ∧ (kidT t).live = t.all.length
 | .nil, _, _ => ⟨KidGood.zero d, rfl, rfl⟩
 | .node p v l r, h, hz => by
  obtain ⟨hp, hl, hr⟩ := okT_node.1 h
  rw [size_node] at hz
  have i1 := kidT_facts d h1 h8 l hl (by omega)
  have i2 := kidT_facts d h1 h8 r hr (by omega)
  have hf := KidGood.fork (e := ⟨p, v⟩) h1 h8 hp i1.1 i2.1
  have hs := fork_size ⟨p, v⟩ (kidT l) (kidT r)
  have hv := fork_live ⟨p, v⟩ (kidT l) (kidT r)
  rw [i1.2.1, i2.2.1] at hs
  rw [i1.2.2, i2.2.2] at hv
  unfold kidT
  refine ⟨(hf.2.2 (by omega)).1, by rw [hs, size_node]; omega, ?_⟩
  rw [hv]
  simp only [TreeD.all]
  cases v <;> simp <;> omega
/-! ### Trees in a store -/
def inS (s : Sto) : TreeD → Prop
 | .nil => True
 | .node p v l r => s.get (sum9 (nodeB (nodeT p v l r))) = some (nodeB (nodeT p v l r)) ∧ inS s l ∧ inS s r
theorem inS_le {s s' : Sto} (h : Le s s') : ∀ t : TreeD, inS s t → inS s' t
 | .nil, _ => trivial
 | .node p v l r, q => ⟨h.g _ _ q.1, inS_le h l q.2.1, inS_le h r q.2.2⟩
theorem inS_get {s : Sto} {d : Nat} (h1 : 1 ≤ d) (h8 : d ≤ 8) {p : Rw} {v : Bool} {l r : TreeD} (h : okT d (.node p v l r)) (hz : (TreeD.node p v l r).size ≤ 1048576) (hi : inS s (.node p v l r)) : nGet s (kidT (.node p v l r)) d = some (nodeT p v l r) := by
 obtain ⟨hp, hl, hr⟩ := okT_node.1 h
 have hs := (kidT_facts d h1 h8 _ h hz).2.1
 rw [size_node] at hz
 have i1 := kidT_facts d h1 h8 l hl (by omega)
 have i2 := kidT_facts d h1 h8 r hr (by omega)
 have hf := KidGood.fork (e := ⟨p, v⟩) h1 h8 hp i1.1 i2.1
 refine nGet_of hf.2.1 hf.1 ?_ hi.1
 have : (sayN (forkN ⟨p, v⟩ (kidT l) (kidT r))).size = _ := hs
 rw [this, size_node]; omega
/-! ### The program's way -/
def forkP (d : Nat) (s : Sto) (e : EntD) (a b : KidD) : Sto × KidD × Int := nPut s (forkN e a b) d
theorem fork_put {d : Nat} {s : Sto} {p : Rw} {v : Bool} {l r : TreeD} (h1 : 1 ≤ d) (h8 : d ≤ 8) (h : okT d (.node p v l r)) (hz : (TreeD.node p v l r).size ≤ 1048576) :
    (forkP d s ⟨p, v⟩ (kidT l) (kidT r)).2 = (kidT (.node p v l r), 0) ∧ Le s (forkP d s ⟨p, v⟩ (kidT l) (kidT r)).1 ∧ ((forkP d s ⟨p, v⟩ (kidT l) (kidT r)).1.c = none → inS s l → inS s r → inS (forkP d s ⟨p, v⟩ (kidT l) (kidT r)).1 (.node p v l r)) := by
  have hs := (kidT_facts d h1 h8 _ h hz).2.1
  obtain ⟨hp, hl, hr⟩ := okT_node.1 h
  rw [size_node] at hz
  have i1 := kidT_facts d h1 h8 l hl (by omega)
  have i2 := kidT_facts d h1 h8 r hr (by omega)
  have hf := KidGood.fork (e := ⟨p, v⟩) h1 h8 hp i1.1 i2.1
  have hz2 : (sayN (forkN ⟨p, v⟩ (kidT l) (kidT r))).size ≤ 1048576 := by
    have : (sayN (forkN ⟨p, v⟩ (kidT l) (kidT r))).size = _ := hs
    rw [this, size_node]; omega
  unfold forkP nPut
  rw [if_pos ⟨hf.1, hz2⟩]
  exact ⟨rfl, Le.put _ _, fun hc a b => ⟨put_get hc, inS_le (Le.put _ _) l a, inS_le (Le.put _ _) r b⟩⟩
/-- on, where there is no error -/
def thenP (r : Sto × KidD × Int) (g : Sto → KidD → Sto × KidD × Int) : Sto × KidD × Int := if r.2.2 ≠ 0 then (r.1, kidZ, r.2.2) else g r.1 r.2.1
theorem Le.thenP {s : Sto} {r : Sto × KidD × Int} {g : Sto → KidD → Sto × KidD × Int} (h : Le s r.1) (hg : Le r.1 (g r.1 r.2.1).1) : Le s (thenP r g).1 := by
 unfold Kd.thenP
 split
 ·exact h
 ·exact h.trans hg
theorem then_ok {r : Sto × KidD × Int} {k : KidD} (g : Sto → KidD → Sto × KidD × Int) (h : r.2 = (k, 0)) : thenP r g = g r.1 k := by
 unfold thenP
 rw [h]; exact if_neg (fun q => q rfl)
theorem then_no {r : Sto × KidD × Int} {k : KidD} {e : Int} (g : Sto → KidD → Sto × KidD × Int) (h : r.2 = (k, e)) (he : e ≠ 0) : thenP r g = (r.1, kidZ, e) := by
 unfold thenP
 rw [h]; exact if_pos he
def layP (d : Nat) : Nat → Sto → List Rw → Nat → Sto × KidD × Int
 | 0, s, _, _ => (s, kidZ, 0)
 | f + 1, s, l, dep => if l = [] then (s, kidZ, 0) else
  thenP (layP d f s ((isort (ltAt (dep % d)) l).take (l.length / 2)) (dep + 1)) fun s1 k1 =>
   thenP (layP d f s1 ((isort (ltAt (dep % d)) l).drop (l.length / 2 + 1)) (dep + 1)) fun s2 k2 =>
    forkP d s2 ⟨(isort (ltAt (dep % d)) l).getD (l.length / 2) [], true⟩ k1 k2
def tGet (s : Sto) (d : Nat) (k : KidD) : Option (EntD × KidD × KidD) := match nGet s k d with
 | none => none
 | some n => if n.kind = 1 then some (n.rows.getD 0 default, n.kids.getD 0 default, n.kids.getD 1 default) else none
theorem tGet_in {s : Sto} {d : Nat} (h1 : 1 ≤ d) (h8 : d ≤ 8) {p : Rw} {v : Bool} {l r : TreeD} (h : okT d (.node p v l r)) (hz : (TreeD.node p v l r).size ≤ 1048576) (hi : inS s (.node p v l r)) : tGet s d (kidT (.node p v l r)) = some (⟨p, v⟩, kidT l, kidT r) := by
 unfold tGet
 rw [inS_get h1 h8 h hz hi]
 rfl
def liveP (d : Nat) : Nat → Sto → KidD → Option (List Rw)
 | 0, _, _ => none
 | f + 1, s, k => if k.live = 0 then some [] else match tGet s d k with
  | none => none
  | some (x, a, b) => match liveP d f s a with
   | none => none
   | some l1 => match liveP d f s b with
    | none => none
    | some l2 => some ((if x.live = true then [x.row] else []) ++ l1 ++ l2)
def anewP (d : Nat) (s : Sto) (k : KidD) (dep : Nat) : Sto × KidD × Int := match liveP d (k.size.toNat + 1) s k with
 | none => (s, kidZ, 21)
 | some l => layP d l.length s l dep
theorem Le.lay (d : Nat) : ∀ (f : Nat) (s : Sto) (l : List Rw) (dep : Nat), Le s (layP d f s l dep).1
 | 0, s, l, dep => Le.refl s
 | f + 1, s, l, dep => by
  unfold layP
  split
  ·exact Le.refl s
  ·exact Le.thenP (Le.lay d f s _ _) (Le.thenP (Le.lay d f _ _ _) (Le.nPut _ _ _))
theorem Le.anew (d : Nat) (s : Sto) (k : KidD) (dep : Nat) : Le s (anewP d s k dep).1 := by
 unfold anewP
 split
 ·exact Le.refl s
 ·exact Le.lay _ _ _ _ _
/-- the fork that is put again, laid anew where it is heavy -/
def againP (d : Nat) (s : Sto) (e : EntD) (a b : KidD) (dep : Nat) : Sto × KidD × Int :=
 if (forkP d s e a b).2.2 = 0 ∧ max a.size b.size > Int.tdiv (2 * (forkP d s e a b).2.1.size) 3 + 1 then anewP d (forkP d s e a b).1 (forkP d s e a b).2.1 dep else forkP d s e a b
theorem Le.again (d : Nat) (s : Sto) (e : EntD) (a b : KidD) (dep : Nat) : Le s (againP d s e a b dep).1 := by
 unfold againP
 have h : Le s (forkP d s e a b).1 := Le.nPut _ _ _
 split
 ·exact h.trans (Le.anew _ _ _ _)
 ·exact h
def insP (d : Nat) : Nat → Sto → KidD → Rw → Nat → Sto × KidD × Int
 | 0, s, _, _, _ => (s, kidZ, 21)
 | f + 1, s, k, p, dep => if k = kidZ then forkP d s ⟨p, true⟩ kidZ kidZ else match tGet s d k with
  | none => (s, kidZ, 21)
  | some (x, a, b) => if x.row = p then (if x.live = true then (s, kidZ, 8) else againP d s ⟨x.row, true⟩ a b dep)
   else if ltAt (dep % d) p x.row = true then thenP (insP d f s a p (dep + 1)) fun s1 k1 => againP d s1 x k1 b dep
   else thenP (insP d f s b p (dep + 1)) fun s1 k1 => againP d s1 x a k1 dep
section
variable {d f : Nat} {s : Sto} {k : KidD} {p q : Rw} {dep : Nat} {x : EntD} {a b : KidD} {v : Bool} {l r : TreeD}
theorem insP_Z : insP d (f + 1) s kidZ p dep = forkP d s ⟨p, true⟩ kidZ kidZ := if_pos rfl
theorem insP_none (hk : k ≠ kidZ) (hg : tGet s d k = none) : insP d (f + 1) s k p dep = (s, kidZ, 21) := by
 rw [insP, if_neg hk, hg]
theorem insP_dup (hk : k ≠ kidZ) (hg : tGet s d k = some (x, a, b)) (e : x.row = p) (hv : x.live = true) : insP d (f + 1) s k p dep = (s, kidZ, 8) := by
 rw [insP, if_neg hk, hg]; exact (if_pos e).trans (if_pos hv)
theorem insP_rev (hk : k ≠ kidZ) (hg : tGet s d k = some (x, a, b)) (e : x.row = p) (hv : x.live = false) : insP d (f + 1) s k p dep = againP d s ⟨x.row, true⟩ a b dep := by
 rw [insP, if_neg hk, hg]; exact (if_pos e).trans (if_neg (fun z => by rw [hv] at z; cases z))
theorem insP_lt (hk : k ≠ kidZ) (hg : tGet s d k = some (x, a, b)) (e : x.row ≠ p) (hv : ltAt (dep % d) p x.row = true) : insP d (f + 1) s k p dep = thenP (insP d f s a p (dep + 1)) fun s1 k1 => againP d s1 x k1 b dep := by
 rw [insP, if_neg hk, hg]; exact (if_neg e).trans (if_pos hv)
theorem insP_ge (hk : k ≠ kidZ) (hg : tGet s d k = some (x, a, b)) (e : x.row ≠ p) (hv : ltAt (dep % d) p x.row = false) : insP d (f + 1) s k p dep = thenP (insP d f s b p (dep + 1)) fun s1 k1 => againP d s1 x a k1 dep := by
 rw [insP, if_neg hk, hg]; exact (if_neg e).trans (if_neg (fun z => by rw [hv] at z; cases z))
end
theorem Le.ins (d : Nat) : ∀ (f : Nat) (s : Sto) (k : KidD) (p : Rw) (dep : Nat), Le s (insP d f s k p dep).1
 | 0, s, k, p, dep => Le.refl s
 | f + 1, s, k, p, dep => by
  unfold insP
  split
  ·exact Le.nPut _ _ _
  ·split
   ·exact Le.refl s
   ·split
    ·split
     ·exact Le.refl s
     ·exact Le.again _ _ _ _ _ _
    ·split
     ·exact Le.thenP (Le.ins d f s _ _ _) (Le.again _ _ _ _ _ _)
     ·exact Le.thenP (Le.ins d f s _ _ _) (Le.again _ _ _ _ _ _)
def InsGood (d : Nat) (R : Sto × KidD × Int) (Q : TreeD × Bool) : Prop := (Q.2 = true → R.2 = (kidT Q.1, 0) ∧ inS R.1 Q.1) ∧ (Q.2 = false → R.2 = (kidZ, 8))
end Go.Proofs.YtedokpgkjcnoiaaGreat.Kd
namespace Go.Proofs.YtedokpgkjcnoiaaGreat.Kd
open Pl
structure PGood (d : Nat) (R : Sto × KidD × Int) : Prop where
 s : StoOk R.1
 k : KidGood d R.2.1
theorem PGood.zero {d : Nat} {s : Sto} (h : StoOk s) (e : Int) : PGood d (s, kidZ, e) := ⟨h, KidGood.zero d⟩
theorem PGood.fork {d : Nat} {s : Sto} {x : EntD} {a b : KidD} (h1 : 1 ≤ d) (h8 : d ≤ 8) (hs : StoOk s) (hx : RwOk d x.row) (ha : KidGood d a) (hb : KidGood d b) : PGood d (forkP d s x a b) := by
 have hf := KidGood.fork (e := x) h1 h8 hx ha hb
 refine ⟨StoOk.nPut hs hf.2.1, ?_⟩
 unfold forkP nPut
 split
 ·rename_i h; exact (hf.2.2 h.2).1
 ·exact KidGood.zero d
theorem PGood.then_ {d : Nat} {R : Sto × KidD × Int} {g : Sto → KidD → Sto × KidD × Int} (h : PGood d R) (hg : PGood d (g R.1 R.2.1)) : PGood d (thenP R g) := by
 unfold thenP
 split
 ·exact PGood.zero h.s _
 ·exact hg
theorem getD_rw {d : Nat} {l : List Rw} {i : Nat} (h : ∀ p ∈ l, RwOk d p) (hi : i < l.length) : RwOk d (l.getD i []) := by
 rw [List.getD_eq_getElem?_getD, List.getElem?_eq_getElem hi]
 exact h _ (List.getElem_mem hi)
theorem PGood.lay {d : Nat} (h1 : 1 ≤ d) (h8 : d ≤ 8) : ∀ (f : Nat) (s : Sto) (l : List Rw) (dep : Nat), StoOk s → (∀ p ∈ l, RwOk d p) → PGood d (layP d f s l dep)
 | 0, s, l, dep, hs, _ => PGood.zero hs 0
 | f + 1, s, l, dep, hs, hl => by
  unfold layP
  split
  ·exact PGood.zero hs 0
  ·rename_i hne
   have h0 : 0 < l.length := List.length_pos_iff.2 hne
   have hlen := isort_len (lt := ltAt (dep % d)) l
   have hm : ∀ p ∈ isort (ltAt (dep % d)) l, RwOk d p := fun p hp => hl p (isort_mem.1 hp)
   generalize isort (ltAt (dep % d)) l = M at hlen hm ⊢
   have a := PGood.lay h1 h8 f s (M.take (l.length / 2)) (dep + 1) hs (fun p hp => hm p (List.mem_of_mem_take hp))
   refine PGood.then_ a ?_
   have b := PGood.lay h1 h8 f _ (M.drop (l.length / 2 + 1)) (dep + 1) a.s (fun p hp => hm p (List.mem_of_mem_drop hp))
   exact PGood.then_ b (PGood.fork h1 h8 b.s (getD_rw hm (by omega)) a.k b.k)
/-- what is got of a tree -/
structure TGood (d : Nat) (k : KidD) (x : EntD) (a b : KidD) : Prop where
 row : RwOk d x.row
 ga : KidGood d a
 gb : KidGood d b
 size : k.size = 1 + a.size + b.size
 live : k.live = (if x.live = true then 1 else 0) + a.live + b.live
theorem tGet_node {s : Sto} (hs : StoOk s) {d : Nat} {k : KidD} {n : NodeD} (h : nGet s k d = some n) (hk : n.kind = 1) : n = forkN (n.rows.getD 0 default) (n.kids.getD 0 default) (n.kids.getD 1 default) ∧ TGood d k (n.rows.getD 0 default) (n.kids.getD 0 default) (n.kids.getD 1 default) := by
 obtain ⟨hr, hn, he, hz, _⟩ := nGet_facts hs h
 obtain ⟨D, eD, hrt⟩ := nodeR_rt hr
 obtain rfl : D = d := by omega
 unfold nodeR kindR at hr
 rw [if_pos hk] at hr
 simp only [Bool.and_eq_true, decide_eq_true_eq, List.all_eq_true] at hr
 obtain ⟨h1, h8, r1, r2, r3, r4, r5⟩ := hr
 obtain ⟨kind, rows, kids⟩ := n
 dsimp only at hk r1 r2 r3 r4 r5
 match rows, r3 with
 | [x], _ =>
  match kids, r4 with
  | [a, b], _ =>
   subst hk
   have hx := hn.row 0 (by simp)
   have ha := hn.kid 0 (by simp)
   have hb := hn.kid 1 (by simp)
   refine ⟨rfl, ⟨by have := r1 x (by simp); show x.row.length = _; omega, hx.1⟩, ⟨r2 a (by simp), ha, by simpa using r5 a (by simp)⟩, ⟨r2 b (by simp), hb, by simpa using r5 b (by simp)⟩, ?_, ?_⟩
   ·rw [← he]; exact fork_size x a b
   ·rw [← he]; exact fork_live x a b
theorem tGet_good {s : Sto} (hs : StoOk s) {d : Nat} {k : KidD} {x : EntD} {a b : KidD} (h : tGet s d k = some (x, a, b)) : TGood d k x a b := by
 unfold tGet at h
 cases hn : nGet s k d with
 | none => rw [hn] at h; cases h
 | some n =>
  rw [hn] at h
  dsimp only at h
  split at h
  ·rename_i hk
   cases h
   exact (tGet_node hs hn hk).2
  ·cases h
theorem live_ok {d : Nat} : ∀ (f : Nat) (s : Sto) (k : KidD) (l : List Rw), StoOk s → liveP d f s k = some l → (∀ p ∈ l, RwOk d p) ∧ (KidGood d k → (l.length : Int) ≤ k.size)
 | 0, s, k, l, _, h => by cases h
 | f + 1, s, k, l, hs, h => by
  unfold liveP at h
  split at h
  ·cases h; exact ⟨fun p hp => (by cases hp), fun hk => by have := (kid_pos hk).1; simpa using this⟩
  ·split at h
   ·cases h
   ·rename_i x a b ht
    have hg := tGet_good hs ht
    split at h
    ·cases h
    ·rename_i l1 h1
     split at h
     ·cases h
     ·rename_i l2 h2
      cases h
      have i1 := live_ok f s a l1 hs h1
      have i2 := live_ok f s b l2 hs h2
      refine ⟨fun p hp => ?_, fun hk => ?_⟩
      ·simp only [List.mem_append] at hp
       rcases hp with (hp | hp) | hp
       ·split at hp
        ·rw [List.mem_singleton.1 hp]; exact hg.row
        ·cases hp
       ·exact i1.1 p hp
       ·exact i2.1 p hp
      ·have := i1.2 hg.ga; have := i2.2 hg.gb; have := hg.size
       simp only [List.length_append]
       split <;> simp <;> omega
theorem PGood.anew {d : Nat} (h1 : 1 ≤ d) (h8 : d ≤ 8) (s : Sto) (k : KidD) (dep : Nat) (hs : StoOk s) : PGood d (anewP d s k dep) := by
 unfold anewP
 split
 ·exact PGood.zero hs _
 ·rename_i l h
  exact PGood.lay h1 h8 _ _ _ _ hs (live_ok _ _ _ _ hs h).1
theorem PGood.again {d : Nat} (h1 : 1 ≤ d) (h8 : d ≤ 8) {s : Sto} {x : EntD} {a b : KidD} (dep : Nat) (hs : StoOk s) (hx : RwOk d x.row) (ha : KidGood d a) (hb : KidGood d b) : PGood d (againP d s x a b dep) := by
 have h := PGood.fork h1 h8 hs hx ha hb
 unfold againP
 split
 ·exact PGood.anew h1 h8 _ _ _ h.s
 ·exact h
theorem PGood.ins {d : Nat} (h1 : 1 ≤ d) (h8 : d ≤ 8) : ∀ (f : Nat) (s : Sto) (k : KidD) (p : Rw) (dep : Nat), StoOk s → RwOk d p → PGood d (insP d f s k p dep)
 | 0, s, k, p, dep, hs, _ => PGood.zero hs _
 | f + 1, s, k, p, dep, hs, hp => by
  unfold insP
  split
  ·exact PGood.fork h1 h8 hs hp (KidGood.zero d) (KidGood.zero d)
  ·split
   ·exact PGood.zero hs _
   ·rename_i x a b ht
    have hg := tGet_good hs ht
    split
    ·split
     ·exact PGood.zero hs _
     ·exact PGood.again h1 h8 dep hs hg.row hg.ga hg.gb
    ·split
     ·have i := PGood.ins h1 h8 f s a p (dep + 1) hs hp
      exact PGood.then_ i (PGood.again h1 h8 dep i.s hg.row i.k hg.gb)
     ·have i := PGood.ins h1 h8 f s b p (dep + 1) hs hp
      exact PGood.then_ i (PGood.again h1 h8 dep i.s hg.row hg.ga i.k)
/-! ### Delete -/
def remP (d : Nat) : Nat → Sto → KidD → Rw → Nat → Sto × KidD × Int
 | 0, s, _, _, _ => (s, kidZ, 21)
 | f + 1, s, k, p, dep => if k = kidZ then (s, kidZ, 9) else match tGet s d k with
  | none => (s, kidZ, 21)
  | some (x, a, b) => if x.row = p then (if x.live = true then forkP d s ⟨x.row, false⟩ a b else (s, kidZ, 9))
   else if ltAt (dep % d) p x.row = true then thenP (remP d f s a p (dep + 1)) fun s1 k1 => forkP d s1 x k1 b
   else thenP (remP d f s b p (dep + 1)) fun s1 k1 => forkP d s1 x a k1
theorem PGood.rem {d : Nat} (h1 : 1 ≤ d) (h8 : d ≤ 8) : ∀ (f : Nat) (s : Sto) (k : KidD) (p : Rw) (dep : Nat), StoOk s → PGood d (remP d f s k p dep)
 | 0, s, k, p, dep, hs => PGood.zero hs _
 | f + 1, s, k, p, dep, hs => by
  unfold remP
  split
  ·exact PGood.zero hs _
  ·split
   ·exact PGood.zero hs _
   ·rename_i x a b ht
    have hg := tGet_good hs ht
    split
    ·split
     ·exact PGood.fork h1 h8 hs hg.row hg.ga hg.gb
     ·exact PGood.zero hs _
    ·split
     ·have i := PGood.rem h1 h8 f s a p (dep + 1) hs
      exact PGood.then_ i (PGood.fork h1 h8 i.s hg.row i.k hg.gb)
     ·have i := PGood.rem h1 h8 f s b p (dep + 1) hs
      exact PGood.then_ i (PGood.fork h1 h8 i.s hg.row hg.ga i.k)
theorem Le.rem (d : Nat) : ∀ (f : Nat) (s : Sto) (k : KidD) (p : Rw) (dep : Nat), Le s (remP d f s k p dep).1
 | 0, s, k, p, dep => Le.refl s
 | f + 1, s, k, p, dep => by
  unfold remP
  split
  ·exact Le.refl s
  ·split
   ·exact Le.refl s
   ·split
    ·split
     ·exact Le.nPut _ _ _
     ·exact Le.refl s
    ·split
     ·exact Le.thenP (Le.rem d f s _ _ _) (Le.nPut _ _ _)
     ·exact Le.thenP (Le.rem d f s _ _ _) (Le.nPut _ _ _)
def delP (d : Nat) (s : Sto) (k : KidD) (p : Rw) : Sto × KidD × Int :=
 if (remP d (k.size.toNat + 1) s k p 0).2.2 = 0 ∧ 2 * (remP d (k.size.toNat + 1) s k p 0).2.1.live < (remP d (k.size.toNat + 1) s k p 0).2.1.size then
  anewP d (remP d (k.size.toNat + 1) s k p 0).1 (remP d (k.size.toNat + 1) s k p 0).2.1 0 else remP d (k.size.toNat + 1) s k p 0
theorem PGood.del {d : Nat} (h1 : 1 ≤ d) (h8 : d ≤ 8) (s : Sto) (k : KidD) (p : Rw) (hs : StoOk s) : PGood d (delP d s k p) := by
 have h := PGood.rem h1 h8 (k.size.toNat + 1) s k p 0 hs
 unfold delP
 split
 ·exact PGood.anew h1 h8 _ _ _ h.s
 ·exact h
theorem Le.del (d : Nat) (s : Sto) (k : KidD) (p : Rw) : Le s (delP d s k p).1 := by
 unfold delP
 split
 ·exact (Le.rem _ _ _ _ _ _).trans (Le.anew _ _ _ _)
 ·exact Le.rem _ _ _ _ _ _
def hasP (d : Nat) : Nat → Sto → KidD → Rw → Nat → Option Bool
 | 0, _, _, _, _ => none
 | f + 1, s, k, p, dep => if k = kidZ then some false else match tGet s d k with
  | none => none
  | some (x, a, b) => if x.row = p then some x.live else if ltAt (dep % d) p x.row = true then hasP d f s a p (dep + 1) else hasP d f s b p (dep + 1)
def heightP (d : Nat) : Nat → Sto → KidD → Option Nat
 | 0, _, _ => none
 | f + 1, s, k => if k = kidZ then some 0 else match tGet s d k with
  | none => none
  | some (x, a, b) => match heightP d f s a with
   | none => none
   | some h1 => match heightP d f s b with
    | none => none
    | some h2 => some (1 + max h1 h2)
def rowsP (d : Nat) (s : Sto) (k : KidD) : Option (List Rw) := (liveP d (k.size.toNat + 1) s k).map (isort lexLt)
end Go.Proofs.YtedokpgkjcnoiaaGreat.Kd
namespace Go.Proofs.YtedokpgkjcnoiaaGreat.Kd
open Pl
set_option maxRecDepth 100000
def tT1 : TreeD := .node [1] true .nil .nil
def dT1 : List Nat := [12, 199, 65, 34, 137, 110, 77, 236, 135, 155, 56, 152, 233, 158, 80, 52, 136, 58, 99, 22, 38, 55, 219, 234, 205, 104, 39, 76, 38, 9, 124, 125]
def kT1 : KidD := ⟨dT1, [1], [1], 1, 1, []⟩
theorem sumT1 : sum9 (nodeB (forkN ⟨[1], true⟩ kidZ kidZ)) = dT1 := Hk.chk_ok (by decide +kernel)
theorem kidT1 : kidT tT1 = kT1 := by
 show sayN (forkN ⟨[1], true⟩ (kidT .nil) (kidT .nil)) = _
 rw [show kidT .nil = kidZ from rfl]
 unfold sayN
 rw [sumT1]
 decide
theorem pgT1 : sum9 (nodeB (nodeT [1] true .nil .nil)) = dT1 := by
 unfold nodeT
 rw [show kidT .nil = kidZ from rfl]
 exact sumT1
theorem okT1 : okT 1 tT1 := okT_node.2 ⟨⟨rfl, fun i => by rcases i with _ | i <;> simp⟩, okT_nil 1, okT_nil 1⟩
def tT3 : TreeD := .node [3] true .nil .nil
def dT3 : List Nat := [68, 198, 80, 34, 150, 219, 183, 12, 122, 163, 61, 152, 194, 173, 34, 237, 249, 46, 157, 143, 228, 24, 54, 185, 67, 173, 218, 193, 74, 135, 106, 136]
def kT3 : KidD := ⟨dT3, [3], [3], 1, 1, []⟩
theorem sumT3 : sum9 (nodeB (forkN ⟨[3], true⟩ kidZ kidZ)) = dT3 := Hk.chk_ok (by decide +kernel)
theorem kidT3 : kidT tT3 = kT3 := by
 show sayN (forkN ⟨[3], true⟩ (kidT .nil) (kidT .nil)) = _
 rw [show kidT .nil = kidZ from rfl]
 unfold sayN
 rw [sumT3]
 decide
theorem pgT3 : sum9 (nodeB (nodeT [3] true .nil .nil)) = dT3 := by
 unfold nodeT
 rw [show kidT .nil = kidZ from rfl]
 exact sumT3
theorem okT3 : okT 1 tT3 := okT_node.2 ⟨⟨rfl, fun i => by rcases i with _ | i <;> simp⟩, okT_nil 1, okT_nil 1⟩
def tT2 : TreeD := .node [2] true tT1 tT3
def dT2 : List Nat := [34, 83, 231, 146, 236, 20, 41, 56, 146, 70, 231, 122, 146, 53, 173, 207, 226, 168, 121, 67, 74, 136, 252, 2, 219, 184, 84, 123, 75, 67, 142, 219]
def kT2 : KidD := ⟨dT2, [1], [3], 3, 3, []⟩
theorem sumT2 : sum9 (nodeB (forkN ⟨[2], true⟩ kT1 kT3)) = dT2 := Hk.chk_ok (by decide +kernel)
theorem kidT2 : kidT tT2 = kT2 := by
 show sayN (forkN ⟨[2], true⟩ (kidT tT1) (kidT tT3)) = _
 rw [kidT1]
 rw [kidT3]
 unfold sayN
 rw [sumT2]
 decide
theorem pgT2 : sum9 (nodeB (nodeT [2] true tT1 tT3)) = dT2 := by
 unfold nodeT
 rw [kidT1]
 rw [kidT3]
 exact sumT2
theorem okT2 : okT 1 tT2 := okT_node.2 ⟨⟨rfl, fun i => by rcases i with _ | i <;> simp⟩, okT1, okT3⟩
def tU4 : TreeD := .node [4] true .nil .nil
def dU4 : List Nat := [166, 63, 141, 89, 185, 232, 177, 92, 174, 240, 95, 193, 252, 76, 59, 245, 205, 2, 4, 133, 247, 15, 152, 92, 203, 197, 253, 13, 108, 243, 93, 212]
def kU4 : KidD := ⟨dU4, [4], [4], 1, 1, []⟩
theorem sumU4 : sum9 (nodeB (forkN ⟨[4], true⟩ kidZ kidZ)) = dU4 := Hk.chk_ok (by decide +kernel)
theorem kidU4 : kidT tU4 = kU4 := by
 show sayN (forkN ⟨[4], true⟩ (kidT .nil) (kidT .nil)) = _
 rw [show kidT .nil = kidZ from rfl]
 unfold sayN
 rw [sumU4]
 decide
theorem pgU4 : sum9 (nodeB (nodeT [4] true .nil .nil)) = dU4 := by
 unfold nodeT
 rw [show kidT .nil = kidZ from rfl]
 exact sumU4
theorem okU4 : okT 1 tU4 := okT_node.2 ⟨⟨rfl, fun i => by rcases i with _ | i <;> simp⟩, okT_nil 1, okT_nil 1⟩
def tU5 : TreeD := .node [5] true .nil .nil
def dU5 : List Nat := [27, 104, 212, 105, 73, 186, 90, 149, 47, 183, 151, 159, 178, 252, 43, 245, 247, 202, 108, 12, 46, 247, 34, 192, 152, 204, 207, 75, 216, 203, 85, 53]
def kU5 : KidD := ⟨dU5, [5], [5], 1, 1, []⟩
theorem sumU5 : sum9 (nodeB (forkN ⟨[5], true⟩ kidZ kidZ)) = dU5 := Hk.chk_ok (by decide +kernel)
theorem kidU5 : kidT tU5 = kU5 := by
 show sayN (forkN ⟨[5], true⟩ (kidT .nil) (kidT .nil)) = _
 rw [show kidT .nil = kidZ from rfl]
 unfold sayN
 rw [sumU5]
 decide
theorem pgU5 : sum9 (nodeB (nodeT [5] true .nil .nil)) = dU5 := by
 unfold nodeT
 rw [show kidT .nil = kidZ from rfl]
 exact sumU5
theorem okU5 : okT 1 tU5 := okT_node.2 ⟨⟨rfl, fun i => by rcases i with _ | i <;> simp⟩, okT_nil 1, okT_nil 1⟩
def tV4 : TreeD := .node [4] true .nil tU5
def dV4 : List Nat := [96, 116, 155, 190, 90, 94, 127, 123, 38, 87, 207, 142, 215, 53, 239, 61, 109, 34, 52, 43, 2, 75, 141, 150, 248, 218, 133, 48, 202, 210, 170, 202]
def kV4 : KidD := ⟨dV4, [4], [5], 2, 2, []⟩
theorem sumV4 : sum9 (nodeB (forkN ⟨[4], true⟩ kidZ kU5)) = dV4 := Hk.chk_ok (by decide +kernel)
theorem kidV4 : kidT tV4 = kV4 := by
 show sayN (forkN ⟨[4], true⟩ (kidT .nil) (kidT tU5)) = _
 rw [show kidT .nil = kidZ from rfl]
 rw [kidU5]
 unfold sayN
 rw [sumV4]
 decide
theorem pgV4 : sum9 (nodeB (nodeT [4] true .nil tU5)) = dV4 := by
 unfold nodeT
 rw [show kidT .nil = kidZ from rfl]
 rw [kidU5]
 exact sumV4
theorem okV4 : okT 1 tV4 := okT_node.2 ⟨⟨rfl, fun i => by rcases i with _ | i <;> simp⟩, okT_nil 1, okU5⟩
def tU6 : TreeD := .node [6] true .nil .nil
def dU6 : List Nat := [170, 59, 93, 177, 180, 62, 111, 90, 214, 52, 228, 241, 189, 22, 247, 184, 126, 102, 146, 166, 81, 118, 232, 7, 235, 143, 80, 222, 196, 247, 238, 161]
def kU6 : KidD := ⟨dU6, [6], [6], 1, 1, []⟩
theorem sumU6 : sum9 (nodeB (forkN ⟨[6], true⟩ kidZ kidZ)) = dU6 := Hk.chk_ok (by decide +kernel)
theorem kidU6 : kidT tU6 = kU6 := by
 show sayN (forkN ⟨[6], true⟩ (kidT .nil) (kidT .nil)) = _
 rw [show kidT .nil = kidZ from rfl]
 unfold sayN
 rw [sumU6]
 decide
theorem pgU6 : sum9 (nodeB (nodeT [6] true .nil .nil)) = dU6 := by
 unfold nodeT
 rw [show kidT .nil = kidZ from rfl]
 exact sumU6
theorem okU6 : okT 1 tU6 := okT_node.2 ⟨⟨rfl, fun i => by rcases i with _ | i <;> simp⟩, okT_nil 1, okT_nil 1⟩
def tV5 : TreeD := .node [5] true .nil tU6
def dV5 : List Nat := [118, 143, 154, 115, 5, 147, 119, 21, 125, 175, 131, 191, 131, 230, 7, 200, 51, 115, 48, 109, 214, 157, 246, 48, 150, 199, 148, 247, 203, 164, 193, 5]
def kV5 : KidD := ⟨dV5, [5], [6], 2, 2, []⟩
theorem sumV5 : sum9 (nodeB (forkN ⟨[5], true⟩ kidZ kU6)) = dV5 := Hk.chk_ok (by decide +kernel)
theorem kidV5 : kidT tV5 = kV5 := by
 show sayN (forkN ⟨[5], true⟩ (kidT .nil) (kidT tU6)) = _
 rw [show kidT .nil = kidZ from rfl]
 rw [kidU6]
 unfold sayN
 rw [sumV5]
 decide
theorem pgV5 : sum9 (nodeB (nodeT [5] true .nil tU6)) = dV5 := by
 unfold nodeT
 rw [show kidT .nil = kidZ from rfl]
 rw [kidU6]
 exact sumV5
theorem okV5 : okT 1 tV5 := okT_node.2 ⟨⟨rfl, fun i => by rcases i with _ | i <;> simp⟩, okT_nil 1, okU6⟩
def tW4 : TreeD := .node [4] true .nil tV5
def dW4 : List Nat := [66, 175, 200, 140, 244, 10, 56, 131, 41, 30, 186, 152, 43, 63, 49, 184, 190, 242, 159, 229, 164, 83, 177, 73, 56, 194, 151, 210, 35, 245, 247, 85]
def kW4 : KidD := ⟨dW4, [4], [6], 3, 3, []⟩
theorem sumW4 : sum9 (nodeB (forkN ⟨[4], true⟩ kidZ kV5)) = dW4 := Hk.chk_ok (by decide +kernel)
theorem kidW4 : kidT tW4 = kW4 := by
 show sayN (forkN ⟨[4], true⟩ (kidT .nil) (kidT tV5)) = _
 rw [show kidT .nil = kidZ from rfl]
 rw [kidV5]
 unfold sayN
 rw [sumW4]
 decide
theorem pgW4 : sum9 (nodeB (nodeT [4] true .nil tV5)) = dW4 := by
 unfold nodeT
 rw [show kidT .nil = kidZ from rfl]
 rw [kidV5]
 exact sumW4
theorem okW4 : okT 1 tW4 := okT_node.2 ⟨⟨rfl, fun i => by rcases i with _ | i <;> simp⟩, okT_nil 1, okV5⟩
end Go.Proofs.YtedokpgkjcnoiaaGreat.Kd
