/- Plain: the program's way in k-d trees keeps stores and kids good; Delete, Has, Height, Rows. No program in sight. Plain: the trees of chapter 11's examples, their pages' sums written down. Printed by gen/alive11.py. No program in sight. -/
import Derived.Test.YtedokpgkjcnoiaaGreatQ18
import Derived.Test.YtedokpgkjcnoiaaGreatQ20
set_option linter.unusedVariables false
set_option linter.unusedSimpArgs false
namespace Go.Proofs.YtedokpgkjcnoiaaGreat.Kd
open Pl
structure PGood (d : Nat) (R : Sto × KidD × Int) : Prop where
 s : StoOk R.1
 k : KidGood d R.2.1
theorem PGood.zero {d : Nat} {s : Sto} (h : StoOk s) (e : Int) : PGood d (s, kidZ, e) := ⟨h, KidGood.zero d⟩
theorem PGood.fork {d : Nat} {s : Sto} {x : EntD} {a b : KidD} (h1 : 1 ≤ d) (h8 : d ≤ 8) (hs : StoOk s) (hx : RwOk d x.row) (ha : KidGood d a) (hb : KidGood d b) : PGood d (forkP d s x a b) := by
 have hf := KidGood.fork (e := x) h1 h8 hx ha hb
 refine ⟨StoOk.nPut hs hf.2.1, ?_⟩
 unfold forkP nPut
 split
 ·rename_i h; exact (hf.2.2 h.2).1
 ·exact KidGood.zero d
theorem PGood.then_ {d : Nat} {R : Sto × KidD × Int} {g : Sto → KidD → Sto × KidD × Int} (h : PGood d R) (hg : PGood d (g R.1 R.2.1)) : PGood d (thenP R g) := by
 unfold thenP
 split
 ·exact PGood.zero h.s _
 ·exact hg
theorem getD_rw {d : Nat} {l : List Rw} {i : Nat} (h : ∀ p ∈ l, RwOk d p) (hi : i < l.length) : RwOk d (l.getD i []) := by
 rw [List.getD_eq_getElem?_getD, List.getElem?_eq_getElem hi]
 exact h _ (List.getElem_mem hi)
theorem PGood.lay {d : Nat} (h1 : 1 ≤ d) (h8 : d ≤ 8) : ∀ (f : Nat) (s : Sto) (l : List Rw) (dep : Nat), StoOk s → (∀ p ∈ l, RwOk d p) → PGood d (layP d f s l dep)
 | 0, s, l, dep, hs, _ => PGood.zero hs 0
 | f + 1, s, l, dep, hs, hl => by
  unfold layP
  split
  ·exact PGood.zero hs 0
  ·rename_i hne
   have h0 : 0 < l.length := List.length_pos_iff.2 hne
   have hlen := isort_len (lt := ltAt (dep % d)) l
   have hm : ∀ p ∈ isort (ltAt (dep % d)) l, RwOk d p := fun p hp => hl p (isort_mem.1 hp)
   generalize isort (ltAt (dep % d)) l = M at hlen hm ⊢
   have a := PGood.lay h1 h8 f s (M.take (l.length / 2)) (dep + 1) hs (fun p hp => hm p (List.mem_of_mem_take hp))
   refine PGood.then_ a ?_
   have b := PGood.lay h1 h8 f _ (M.drop (l.length / 2 + 1)) (dep + 1) a.s (fun p hp => hm p (List.mem_of_mem_drop hp))
   exact PGood.then_ b (PGood.fork h1 h8 b.s (getD_rw hm (by omega)) a.k b.k)
/-- what is got of a tree -/
structure TGood (d : Nat) (k : KidD) (x : EntD) (a b : KidD) : Prop where
 row : RwOk d x.row
 ga : KidGood d a
 gb : KidGood d b
 size : k.size = 1 + a.size + b.size
 live : k.live = (if x.live = true then 1 else 0) + a.live + b.live
theorem tGet_node {s : Sto} (hs : StoOk s) {d : Nat} {k : KidD} {n : NodeD} (h : nGet s k d = some n) (hk : n.kind = 1) : n = forkN (n.rows.getD 0 default) (n.kids.getD 0 default) (n.kids.getD 1 default) ∧ TGood d k (n.rows.getD 0 default) (n.kids.getD 0 default) (n.kids.getD 1 default) := by
 obtain ⟨hr, hn, he, hz, _⟩ := nGet_facts hs h
 obtain ⟨D, eD, hrt⟩ := nodeR_rt hr
 obtain rfl : D = d := by omega
 unfold nodeR kindR at hr
 rw [if_pos hk] at hr
 simp only [Bool.and_eq_true, decide_eq_true_eq, List.all_eq_true] at hr
 obtain ⟨h1, h8, r1, r2, r3, r4, r5⟩ := hr
 obtain ⟨kind, rows, kids⟩ := n
 dsimp only at hk r1 r2 r3 r4 r5
 match rows, r3 with
 | [x], _ =>
  match kids, r4 with
  | [a, b], _ =>
   subst hk
   have hx := hn.row 0 (by simp)
   have ha := hn.kid 0 (by simp)
   have hb := hn.kid 1 (by simp)
   refine ⟨rfl, ⟨by have := r1 x (by simp); show x.row.length = _; omega, hx.1⟩, ⟨r2 a (by simp), ha, by simpa using r5 a (by simp)⟩, ⟨r2 b (by simp), hb, by simpa using r5 b (by simp)⟩, ?_, ?_⟩
   ·rw [← he]; exact fork_size x a b
   ·rw [← he]; exact fork_live x a b
theorem tGet_good {s : Sto} (hs : StoOk s) {d : Nat} {k : KidD} {x : EntD} {a b : KidD} (h : tGet s d k = some (x, a, b)) : TGood d k x a b := by
 unfold tGet at h
 cases hn : nGet s k d with
 | none => rw [hn] at h; cases h
 | some n =>
  rw [hn] at h
  dsimp only at h
  split at h
  ·rename_i hk
   cases h
   exact (tGet_node hs hn hk).2
  ·cases h
theorem live_ok {d : Nat} : ∀ (f : Nat) (s : Sto) (k : KidD) (l : List Rw), StoOk s → liveP d f s k = some l → (∀ p ∈ l, RwOk d p) ∧ (KidGood d k → (l.length : Int) ≤ k.size)
 | 0, s, k, l, _, h => by cases h
 | f + 1, s, k, l, hs, h => by
  unfold liveP at h
  split at h
  ·cases h; exact ⟨fun p hp => (by cases hp), fun hk => by have := (kid_pos hk).1; simpa using this⟩
  ·split at h
   ·cases h
   ·rename_i x a b ht
    have hg := tGet_good hs ht
    split at h
    ·cases h
    ·rename_i l1 h1
     split at h
     ·cases h
     ·rename_i l2 h2
      cases h
      have i1 := live_ok f s a l1 hs h1
      have i2 := live_ok f s b l2 hs h2
      refine ⟨fun p hp => ?_, fun hk => ?_⟩
      ·simp only [List.mem_append] at hp
       rcases hp with (hp | hp) | hp
       ·split at hp
        ·rw [List.mem_singleton.1 hp]; exact hg.row
        ·cases hp
       ·exact i1.1 p hp
       ·exact i2.1 p hp
      ·have := i1.2 hg.ga; have := i2.2 hg.gb; have := hg.size
       simp only [List.length_append]
       split <;> simp <;> omega
theorem PGood.anew {d : Nat} (h1 : 1 ≤ d) (h8 : d ≤ 8) (s : Sto) (k : KidD) (dep : Nat) (hs : StoOk s) : PGood d (anewP d s k dep) := by
 unfold anewP
 split
 ·exact PGood.zero hs _
 ·rename_i l h
  exact PGood.lay h1 h8 _ _ _ _ hs (live_ok _ _ _ _ hs h).1
theorem PGood.again {d : Nat} (h1 : 1 ≤ d) (h8 : d ≤ 8) {s : Sto} {x : EntD} {a b : KidD} (dep : Nat) (hs : StoOk s) (hx : RwOk d x.row) (ha : KidGood d a) (hb : KidGood d b) : PGood d (againP d s x a b dep) := by
 have h := PGood.fork h1 h8 hs hx ha hb
 unfold againP
 split
 ·exact PGood.anew h1 h8 _ _ _ h.s
 ·exact h
theorem PGood.ins {d : Nat} (h1 : 1 ≤ d) (h8 : d ≤ 8) : ∀ (f : Nat) (s : Sto) (k : KidD) (p : Rw) (dep : Nat), StoOk s → RwOk d p → PGood d (insP d f s k p dep)
 | 0, s, k, p, dep, hs, _ => PGood.zero hs _
 | f + 1, s, k, p, dep, hs, hp => by
  unfold insP
  split
  ·exact PGood.fork h1 h8 hs hp (KidGood.zero d) (KidGood.zero d)
  ·split
   ·exact PGood.zero hs _
   ·rename_i x a b ht
    have hg := tGet_good hs ht
    split
    ·split
     ·exact PGood.zero hs _
     ·exact PGood.again h1 h8 dep hs hg.row hg.ga hg.gb
    ·split
     ·have i := PGood.ins h1 h8 f s a p (dep + 1) hs hp
      exact PGood.then_ i (PGood.again h1 h8 dep i.s hg.row i.k hg.gb)
     ·have i := PGood.ins h1 h8 f s b p (dep + 1) hs hp
      exact PGood.then_ i (PGood.again h1 h8 dep i.s hg.row hg.ga i.k)
/-! ### Delete -/
def remP (d : Nat) : Nat → Sto → KidD → Rw → Nat → Sto × KidD × Int
 | 0, s, _, _, _ => (s, kidZ, 21)
 | f + 1, s, k, p, dep => if k = kidZ then (s, kidZ, 9) else match tGet s d k with
  | none => (s, kidZ, 21)
  | some (x, a, b) => if x.row = p then (if x.live = true then forkP d s ⟨x.row, false⟩ a b else (s, kidZ, 9))
   else if ltAt (dep % d) p x.row = true then thenP (remP d f s a p (dep + 1)) fun s1 k1 => forkP d s1 x k1 b
   else thenP (remP d f s b p (dep + 1)) fun s1 k1 => forkP d s1 x a k1
theorem PGood.rem {d : Nat} (h1 : 1 ≤ d) (h8 : d ≤ 8) : ∀ (f : Nat) (s : Sto) (k : KidD) (p : Rw) (dep : Nat), StoOk s → PGood d (remP d f s k p dep)
 | 0, s, k, p, dep, hs => PGood.zero hs _
 | f + 1, s, k, p, dep, hs => by
  unfold remP
  split
  ·exact PGood.zero hs _
  ·split
   ·exact PGood.zero hs _
   ·rename_i x a b ht
    have hg := tGet_good hs ht
    split
    ·split
     ·exact PGood.fork h1 h8 hs hg.row hg.ga hg.gb
     ·exact PGood.zero hs _
    ·split
     ·have i := PGood.rem h1 h8 f s a p (dep + 1) hs
      exact PGood.then_ i (PGood.fork h1 h8 i.s hg.row i.k hg.gb)
     ·have i := PGood.rem h1 h8 f s b p (dep + 1) hs
      exact PGood.then_ i (PGood.fork h1 h8 i.s hg.row hg.ga i.k)
theorem Le.rem (d : Nat) : ∀ (f : Nat) (s : Sto) (k : KidD) (p : Rw) (dep : Nat), Le s (remP d f s k p dep).1
 | 0, s, k, p, dep => Le.refl s
 | f + 1, s, k, p, dep => by
  unfold remP
  split
  ·exact Le.refl s
  ·split
   ·exact Le.refl s
   ·split
    ·split
     ·exact Le.nPut _ _ _
     ·exact Le.refl s
    ·split
     ·exact Le.thenP (Le.rem d f s _ _ _) (Le.nPut _ _ _)
     ·exact Le.thenP (Le.rem d f s _ _ _) (Le.nPut _ _ _)
def delP (d : Nat) (s : Sto) (k : KidD) (p : Rw) : Sto × KidD × Int :=
 if (remP d (k.size.toNat + 1) s k p 0).2.2 = 0 ∧ 2 * (remP d (k.size.toNat + 1) s k p 0).2.1.live < (remP d (k.size.toNat + 1) s k p 0).2.1.size then
  anewP d (remP d (k.size.toNat + 1) s k p 0).1 (remP d (k.size.toNat + 1) s k p 0).2.1 0 else remP d (k.size.toNat + 1) s k p 0
theorem PGood.del {d : Nat} (h1 : 1 ≤ d) (h8 : d ≤ 8) (s : Sto) (k : KidD) (p : Rw) (hs : StoOk s) : PGood d (delP d s k p) := by
 have h := PGood.rem h1 h8 (k.size.toNat + 1) s k p 0 hs
 unfold delP
 split
 ·exact PGood.anew h1 h8 _ _ _ h.s
 ·exact h
theorem Le.del (d : Nat) (s : Sto) (k : KidD) (p : Rw) : Le s (delP d s k p).1 := by
 unfold delP
 split
 ·exact (Le.rem _ _ _ _ _ _).trans (Le.anew _ _ _ _)
 ·exact Le.rem _ _ _ _ _ _
def hasP (d : Nat) : Nat → Sto → KidD → Rw → Nat → Option Bool
 | 0, _, _, _, _ => none
 | f + 1, s, k, p, dep => if k = kidZ then some false else match tGet s d k with
  | none => none
  | some (x, a, b) => if x.row = p then some x.live else if ltAt (dep % d) p x.row = true then hasP d f s a p (dep + 1) else hasP d f s b p (dep + 1)
def heightP (d : Nat) : Nat → Sto → KidD → Option Nat
 | 0, _, _ => none
 | f + 1, s, k => if k = kidZ then some 0 else match tGet s d k with
  | none => none
  | some (x, a, b) => match heightP d f s a with
   | none => none
   | some h1 => match heightP d f s b with
    | none => none
    | some h2 => some (1 + max h1 h2)
def rowsP (d : Nat) (s : Sto) (k : KidD) : Option (List Rw) := (liveP d (k.size.toNat + 1) s k).map (isort lexLt)
end Go.Proofs.YtedokpgkjcnoiaaGreat.Kd
namespace Go.Proofs.YtedokpgkjcnoiaaGreat.Kd
open Pl
set_option maxRecDepth 100000
def tT1 : TreeD := .node [1] true .nil .nil
def dT1 : List Nat := [12, 199, 65, 34, 137, 110, 77, 236, 135, 155, 56, 152, 233, 158, 80, 52, 136, 58, 99, 22, 38, 55, 219, 234, 205, 104, 39, 76, 38, 9, 124, 125]
def kT1 : KidD := ⟨dT1, [1], [1], 1, 1, []⟩
theorem sumT1 : sum9 (nodeB (forkN ⟨[1], true⟩ kidZ kidZ)) = dT1 := Hk.chk_ok (by decide +kernel)
theorem kidT1 : kidT tT1 = kT1 := by
 show sayN (forkN ⟨[1], true⟩ (kidT .nil) (kidT .nil)) = _
 rw [show kidT .nil = kidZ from rfl]
 unfold sayN
 rw [sumT1]
 decide
theorem pgT1 : sum9 (nodeB (nodeT [1] true .nil .nil)) = dT1 := by
 unfold nodeT
 rw [show kidT .nil = kidZ from rfl]
 exact sumT1
theorem okT1 : okT 1 tT1 := okT_node.2 ⟨⟨rfl, fun i => by rcases i with _ | i <;> simp⟩, okT_nil 1, okT_nil 1⟩
def tT3 : TreeD := .node [3] true .nil .nil
def dT3 : List Nat := [68, 198, 80, 34, 150, 219, 183, 12, 122, 163, 61, 152, 194, 173, 34, 237, 249, 46, 157, 143, 228, 24, 54, 185, 67, 173, 218, 193, 74, 135, 106, 136]
def kT3 : KidD := ⟨dT3, [3], [3], 1, 1, []⟩
theorem sumT3 : sum9 (nodeB (forkN ⟨[3], true⟩ kidZ kidZ)) = dT3 := Hk.chk_ok (by decide +kernel)
theorem kidT3 : kidT tT3 = kT3 := by
 show sayN (forkN ⟨[3], true⟩ (kidT .nil) (kidT .nil)) = _
 rw [show kidT .nil = kidZ from rfl]
 unfold sayN
 rw [sumT3]
 decide
theorem pgT3 : sum9 (nodeB (nodeT [3] true .nil .nil)) = dT3 := by
 unfold nodeT
 rw [show kidT .nil = kidZ from rfl]
 exact sumT3
theorem okT3 : okT 1 tT3 := okT_node.2 ⟨⟨rfl, fun i => by rcases i with _ | i <;> simp⟩, okT_nil 1, okT_nil 1⟩
def tT2 : TreeD := .node [2] true tT1 tT3
def dT2 : List Nat := [34, 83, 231, 146, 236, 20, 41, 56, 146, 70, 231, 122, 146, 53, 173, 207, 226, 168, 121, 67, 74, 136, 252, 2, 219, 184, 84, 123, 75, 67, 142, 219]
def kT2 : KidD := ⟨dT2, [1], [3], 3, 3, []⟩
theorem sumT2 : sum9 (nodeB (forkN ⟨[2], true⟩ kT1 kT3)) = dT2 := Hk.chk_ok (by decide +kernel)
theorem kidT2 : kidT tT2 = kT2 := by
 show sayN (forkN ⟨[2], true⟩ (kidT tT1) (kidT tT3)) = _
 rw [kidT1]
 rw [kidT3]
 unfold sayN
 rw [sumT2]
 decide
theorem pgT2 : sum9 (nodeB (nodeT [2] true tT1 tT3)) = dT2 := by
 unfold nodeT
 rw [kidT1]
 rw [kidT3]
 exact sumT2
theorem okT2 : okT 1 tT2 := okT_node.2 ⟨⟨rfl, fun i => by rcases i with _ | i <;> simp⟩, okT1, okT3⟩
def tU4 : TreeD := .node [4] true .nil .nil
def dU4 : List Nat := [166, 63, 141, 89, 185, 232, 177, 92, 174, 240, 95, 193, 252, 76, 59, 245, 205, 2, 4, 133, 247, 15, 152, 92, 203, 197, 253, 13, 108, 243, 93, 212]
def kU4 : KidD := ⟨dU4, [4], [4], 1, 1, []⟩
theorem sumU4 : sum9 (nodeB (forkN ⟨[4], true⟩ kidZ kidZ)) = dU4 := Hk.chk_ok (by decide +kernel)
theorem kidU4 : kidT tU4 = kU4 := by
 show sayN (forkN ⟨[4], true⟩ (kidT .nil) (kidT .nil)) = _
 rw [show kidT .nil = kidZ from rfl]
 unfold sayN
 rw [sumU4]
 decide
theorem pgU4 : sum9 (nodeB (nodeT [4] true .nil .nil)) = dU4 := by
 unfold nodeT
 rw [show kidT .nil = kidZ from rfl]
 exact sumU4
theorem okU4 : okT 1 tU4 := okT_node.2 ⟨⟨rfl, fun i => by rcases i with _ | i <;> simp⟩, okT_nil 1, okT_nil 1⟩
def tU5 : TreeD := .node [5] true .nil .nil
def dU5 : List Nat := [27, 104, 212, 105, 73, 186, 90, 149, 47, 183, 151, 159, 178, 252, 43, 245, 247, 202, 108, 12, 46, 247, 34, 192, 152, 204, 207, 75, 216, 203, 85, 53]
def kU5 : KidD := ⟨dU5, [5], [5], 1, 1, []⟩
theorem sumU5 : sum9 (nodeB (forkN ⟨[5], true⟩ kidZ kidZ)) = dU5 := Hk.chk_ok (by decide +kernel)
theorem kidU5 : kidT tU5 = kU5 := by
 show sayN (forkN ⟨[5], true⟩ (kidT .nil) (kidT .nil)) = _
 rw [show kidT .nil = kidZ from rfl]
 unfold sayN
 rw [sumU5]
 decide
theorem pgU5 : sum9 (nodeB (nodeT [5] true .nil .nil)) = dU5 := by
 unfold nodeT
 rw [show kidT .nil = kidZ from rfl]
 exact sumU5
theorem okU5 : okT 1 tU5 := okT_node.2 ⟨⟨rfl, fun i => by rcases i with _ | i <;> simp⟩, okT_nil 1, okT_nil 1⟩
def tV4 : TreeD := .node [4] true .nil tU5
def dV4 : List Nat := [96, 116, 155, 190, 90, 94, 127, 123, 38, 87, 207, 142, 215, 53, 239, 61, 109, 34, 52, 43, 2, 75, 141, 150, 248, 218, 133, 48, 202, 210, 170, 202]
def kV4 : KidD := ⟨dV4, [4], [5], 2, 2, []⟩
theorem sumV4 : sum9 (nodeB (forkN ⟨[4], true⟩ kidZ kU5)) = dV4 := Hk.chk_ok (by decide +kernel)
theorem kidV4 : kidT tV4 = kV4 := by
 show sayN (forkN ⟨[4], true⟩ (kidT .nil) (kidT tU5)) = _
 rw [show kidT .nil = kidZ from rfl]
 rw [kidU5]
 unfold sayN
 rw [sumV4]
 decide
theorem pgV4 : sum9 (nodeB (nodeT [4] true .nil tU5)) = dV4 := by
 unfold nodeT
 rw [show kidT .nil = kidZ from rfl]
 rw [kidU5]
 exact sumV4
theorem okV4 : okT 1 tV4 := okT_node.2 ⟨⟨rfl, fun i => by rcases i with _ | i <;> simp⟩, okT_nil 1, okU5⟩
def tU6 : TreeD := .node [6] true .nil .nil
def dU6 : List Nat := [170, 59, 93, 177, 180, 62, 111, 90, 214, 52, 228, 241, 189, 22, 247, 184, 126, 102, 146, 166, 81, 118, 232, 7, 235, 143, 80, 222, 196, 247, 238, 161]
def kU6 : KidD := ⟨dU6, [6], [6], 1, 1, []⟩
theorem sumU6 : sum9 (nodeB (forkN ⟨[6], true⟩ kidZ kidZ)) = dU6 := Hk.chk_ok (by decide +kernel)
theorem kidU6 : kidT tU6 = kU6 := by
 show sayN (forkN ⟨[6], true⟩ (kidT .nil) (kidT .nil)) = _
 rw [show kidT .nil = kidZ from rfl]
 unfold sayN
 rw [sumU6]
 decide
theorem pgU6 : sum9 (nodeB (nodeT [6] true .nil .nil)) = dU6 := by
 unfold nodeT
 rw [show kidT .nil = kidZ from rfl]
 exact sumU6
theorem okU6 : okT 1 tU6 := okT_node.2 ⟨⟨rfl, fun i => by rcases i with _ | i <;> simp⟩, okT_nil 1, okT_nil 1⟩
def tV5 : TreeD := .node [5] true .nil tU6
def dV5 : List Nat := [118, 143, 154, 115, 5, 147, 119, 21, 125, 175, 131, 191, 131, 230, 7, 200, 51, 115, 48, 109, 214, 157, 246, 48, 150, 199, 148, 247, 203, 164, 193, 5]
def kV5 : KidD := ⟨dV5, [5], [6], 2, 2, []⟩
theorem sumV5 : sum9 (nodeB (forkN ⟨[5], true⟩ kidZ kU6)) = dV5 := Hk.chk_ok (by decide +kernel)
theorem kidV5 : kidT tV5 = kV5 := by
 show sayN (forkN ⟨[5], true⟩ (kidT .nil) (kidT tU6)) = _
 rw [show kidT .nil = kidZ from rfl]
 rw [kidU6]
 unfold sayN
 rw [sumV5]
 decide
theorem pgV5 : sum9 (nodeB (nodeT [5] true .nil tU6)) = dV5 := by
 unfold nodeT
 rw [show kidT .nil = kidZ from rfl]
 rw [kidU6]
 exact sumV5
theorem okV5 : okT 1 tV5 := okT_node.2 ⟨⟨rfl, fun i => by rcases i with _ | i <;> simp⟩, okT_nil 1, okU6⟩
def tW4 : TreeD := .node [4] true .nil tV5
def dW4 : List Nat := [66, 175, 200, 140, 244, 10, 56, 131, 41, 30, 186, 152, 43, 63, 49, 184, 190, 242, 159, 229, 164, 83, 177, 73, 56, 194, 151, 210, 35, 245, 247, 85]
def kW4 : KidD := ⟨dW4, [4], [6], 3, 3, []⟩
theorem sumW4 : sum9 (nodeB (forkN ⟨[4], true⟩ kidZ kV5)) = dW4 := Hk.chk_ok (by decide +kernel)
theorem kidW4 : kidT tW4 = kW4 := by
 show sayN (forkN ⟨[4], true⟩ (kidT .nil) (kidT tV5)) = _
 rw [show kidT .nil = kidZ from rfl]
 rw [kidV5]
 unfold sayN
 rw [sumW4]
 decide
theorem pgW4 : sum9 (nodeB (nodeT [4] true .nil tV5)) = dW4 := by
 unfold nodeT
 rw [show kidT .nil = kidZ from rfl]
 rw [kidV5]
 exact sumW4
theorem okW4 : okT 1 tW4 := okT_node.2 ⟨⟨rfl, fun i => by rcases i with _ | i <;> simp⟩, okT_nil 1, okV5⟩
end Go.Proofs.YtedokpgkjcnoiaaGreat.Kd
