/- Plain: chapter 11's examples, step by step. No program in sight. Words and small laws on memory that all my texts share; no program in sight.  Plain: Delete in a store is the document's; what scripts keep (KdtreeKeeps). No program in sight. Plain: heights in a store; rows twice (KdtreeBuilds). No program in sight.  box.all, box.Right, slices.Equal, box.Same, node.Same, node.Empty, node.KidRight. Bytes; a slice of no elements. -/
import Derived.WalkKit
import Derived.WalkSpells
import Derived.WalkLawsBesides
import Derived.BigQuiet
import Derived.Deep.QuietTactic
import Derived.Deep.OwnRows
import Derived.StillTailTactics
import Derived.Lib.Hide
import Derived.Handy
import Derived.Test.YtedokpgkjcnoiaaGreatRows
import Derived.Test.YtedokpgkjcnoiaaGreatProg
import Derived.KernelRfl
import Derived.Test.YtedokpgkjcnoiaaGreatQ16
import Derived.Test.YtedokpgkjcnoiaaGreatQ21
set_option linter.unusedVariables false
set_option linter.unusedSimpArgs false
namespace Go.Proofs.YtedokpgkjcnoiaaGreat.Kd
open Pl
set_option maxRecDepth 100000
structure Has (s : Sto) (Ds : List (List Nat)) : Prop where
 m : s.L.map sum9 = Ds
 c : s.c = none
 o : StoOk s
theorem Has.new : Has Sto.new [] := ⟨rfl, rfl, StoOk.new⟩
theorem Has.get {s : Sto} {Ds : List (List Nat)} {D : List Nat} (h : Has s Ds) (n : D ∉ Ds) : s.get D = none := by
 unfold Sto.get
 rw [List.find?_eq_none]
 intro t ht q
 have q : sum9 t = D := by simpa using q
 exact n (by rw [← h.m, ← q]; exact List.mem_map_of_mem ht)
theorem fstep {s : Sto} {Ds : List (List Nat)} {p : Rw} {v : Bool} {l r : TreeD} {D : List Nat} (h : Has s Ds) (hok : okT 1 (.node p v l r)) (hz : (TreeD.node p v l r).size ≤ 1048576) (hD : sum9 (nodeB (nodeT p v l r)) = D) (hn : D ∉ Ds) (il : inS s l) (ir : inS s r) :
    ∃ s', forkP 1 s ⟨p, v⟩ (kidT l) (kidT r) = (s', kidT (.node p v l r), 0) ∧ Has s' (Ds ++ [D]) ∧ inS s' (.node p v l r) ∧ Le s s' := by
  obtain ⟨f1, f2, f3⟩ := fork_put (s := s) (p := p) (v := v) (l := l) (r := r) (by decide) (by decide) hok hz
  obtain ⟨hp, hl, hr⟩ := okT_node.1 hok
  have zl : l.size ≤ 1048576 ∧ r.size ≤ 1048576 := by rw [size_node] at hz; omega
  have g := PGood.fork (x := ⟨p, v⟩) (by decide) (by decide) h.o hp (kidT_facts 1 (by decide) (by decide) l hl zl.1).1 (kidT_facts 1 (by decide) (by decide) r hr zl.2).1
  have e : (forkP 1 s ⟨p, v⟩ (kidT l) (kidT r)).1 = s.put (nodeB (nodeT p v l r)) := by
    unfold forkP nPut at f1 ⊢
    split
    · rfl
    · rename_i hc
      rw [if_neg hc] at f1
      have := (Prod.mk.inj f1).2
      cases this
  have e2 : s.put (nodeB (nodeT p v l r)) = ⟨s.L ++ [nodeB (nodeT p v l r)], s.c⟩ := by
    unfold Sto.put
    rw [hD, h.get hn]
  rw [e2] at e
  have hc : (forkP 1 s ⟨p, v⟩ (kidT l) (kidT r)).1.c = none := by rw [e]; exact h.c
  refine ⟨(forkP 1 s ⟨p, v⟩ (kidT l) (kidT r)).1, Prod.ext rfl f1, ⟨?_, hc, g.s⟩, f3 hc il ir, f2⟩
  rw [e, List.map_append, h.m, List.map_singleton, hD]
theorem lay_one (d f : Nat) (s : Sto) (p : Rw) (dep : Nat) : layP d (f + 1) s [p] dep = forkP d s ⟨p, true⟩ kidZ kidZ := by
 have h0 : ∀ s dep, layP d f s [] dep = (s, kidZ, 0) := fun s dep => by cases f <;> rfl
 have e : isort (ltAt (dep % d)) [p] = [p] := rfl
 rw [layP, if_neg (by simp), e]
 simp only [List.length_singleton, Nat.reduceDiv, List.take_zero]
 rw [h0, then_ok _ rfl]
 show thenP (layP d f s [] (dep + 1)) _ = _
 rw [h0, then_ok _ rfl]; rfl
theorem light_step {d : Nat} {s s' : Sto} {e : EntD} {a b k : KidD} {dep : Nat} (h : forkP d s e a b = (s', k, 0)) (hc : ¬ max a.size b.size > Int.tdiv (2 * k.size) 3 + 1) : againP d s e a b dep = (s', k, 0) := by
 unfold againP
 rw [h]
 exact if_neg (fun q => hc q.2)
theorem height_step {d f : Nat} {s : Sto} {k a b : KidD} {x : EntD} {m n : Nat} (hz : k ≠ kidZ) (hg : tGet s d k = some (x, a, b)) (h1 : heightP d f s a = some m) (h2 : heightP d f s b = some n) : heightP d (f + 1) s k = some (1 + max m n) := by
 rw [heightP, if_neg hz, hg]
 dsimp only
 rw [h1]
 dsimp only
 rw [h2]
theorem alive11P : ∃ s3 s4 s6 s9, layP 1 3 Sto.new [[1], [2], [3]] 0 = (s3, kT2, 0) ∧ nGet s3 kT2 1 = some (forkN ⟨[2], true⟩ kT1 kT3) ∧ insP 1 1 s3 kidZ [4] 0 = (s4, kU4, 0) ∧ insP 1 2 s4 kU4 [5] 0 = (s6, kV4, 0) ∧ insP 1 3 s6 kV4 [6] 0 = (s9, kW4, 0) ∧ heightP 1 4 s9 kW4 = some 3 ∧ StoOk s3 ∧ StoOk s4 ∧ StoOk s6 ∧ StoOk s9 := by
 have Z : kidT .nil = kidZ := rfl
 obtain ⟨s1, e1, h1, i1, l1⟩ := fstep Has.new okT1 (by decide) pgT1 (by decide) trivial trivial
 obtain ⟨s2, e2, h2, i2, l2⟩ := fstep h1 okT3 (by decide) pgT3 (by decide) trivial trivial
 obtain ⟨s3, e3, h3, i3, l3⟩ := fstep h2 okT2 (by decide) pgT2 (by decide) (inS_le l2 tT1 i1) i2
 obtain ⟨s4, e4, h4, i4, l4⟩ := fstep h3 okU4 (by decide) pgU4 (by decide) trivial trivial
 obtain ⟨s5, e5, h5, i5, l5⟩ := fstep h4 okU5 (by decide) pgU5 (by decide) trivial trivial
 obtain ⟨s6, e6, h6, i6, l6⟩ := fstep h5 okV4 (by decide) pgV4 (by decide) trivial i5
 obtain ⟨s7, e7, h7, i7, l7⟩ := fstep h6 okU6 (by decide) pgU6 (by decide) trivial trivial
 obtain ⟨s8, e8, h8, i8, l8⟩ := fstep h7 okV5 (by decide) pgV5 (by decide) trivial i7
 obtain ⟨s9, e9, h9, i9, l9⟩ := fstep h8 okW4 (by decide) pgW4 (by decide) trivial i8
 have gT2 := inS_get (d := 1) (by decide) (by decide) okT2 (by decide) i3
 have gU4 := tGet_in (d := 1) (by decide) (by decide) okU4 (by decide) i4
 have gV4 := tGet_in (d := 1) (by decide) (by decide) okV4 (by decide) i6
 have gU5 := tGet_in (d := 1) (s := s6) (by decide) (by decide) okU5 (by decide) (inS_le l6 tU5 i5)
 have gW4 := tGet_in (d := 1) (by decide) (by decide) okW4 (by decide) i9
 have gV5 := tGet_in (d := 1) (s := s9) (by decide) (by decide) okV5 (by decide) (inS_le l9 tV5 i8)
 have gU6 := tGet_in (d := 1) (s := s9) (by decide) (by decide) okU6 (by decide) (inS_le l9 tU6 (inS_le l8 tU6 i7))
 rw [← kidT2, ← kidU4, ← kidV4, ← kidW4, ← kidT1, ← kidT3]
 have z1 : kidT tU4 ≠ kidZ := by rw [kidU4]; decide
 have z2 : kidT tV4 ≠ kidZ := by rw [kidV4]; decide
 have z3 : kidT tU5 ≠ kidZ := by rw [kidU5]; decide
 have z4 : kidT tW4 ≠ kidZ := by rw [kidW4]; decide
 have z5 : kidT tV5 ≠ kidZ := by rw [kidV5]; decide
 have z6 : kidT tU6 ≠ kidZ := by rw [kidU6]; decide
 refine ⟨s3, s4, s6, s9, ?_, gT2, ?_, ?_, ?_, ?_, h3.o, h4.o, h6.o, h9.o⟩
 ·have e : isort (ltAt (0 % 1)) [[1], [2], [3]] = [[1], [2], [3]] := by decide
  rw [layP, if_neg (by simp), e]
  show thenP (layP 1 2 Sto.new [[1]] 1) (fun s1 k1 => thenP (layP 1 2 s1 [[3]] 1) fun s2 k2 => forkP 1 s2 ⟨[2], true⟩ k1 k2) = _
  rw [show layP 1 2 Sto.new [[1]] 1 = (s1, kidT tT1, 0) from (lay_one 1 1 Sto.new [1] 1).trans e1, then_ok _ rfl, show layP 1 2 s1 [[3]] 1 = (s2, kidT tT3, 0) from (lay_one 1 1 s1 [3] 1).trans e2, then_ok _ rfl]
  exact e3
 ·exact insP_Z.trans e4
 ·rw [insP_ge (f := 1) z1 gU4 (by decide) (by decide), show insP 1 1 s4 (kidT .nil) [5] (0 + 1) = (s5, kidT tU5, 0) from insP_Z.trans e5, then_ok _ rfl]
  refine light_step e6 ?_
  rw [kidV4, kidU5]
  decide
 ·rw [insP_ge (f := 2) z2 gV4 (by decide) (by decide), show insP 1 2 s6 (kidT tU5) [6] (0 + 1) = (s8, kidT tV5, 0) from ?_, then_ok _ rfl]
  ·refine light_step e9 ?_
   rw [kidW4, kidV5]
   decide
  ·rw [insP_ge (f := 1) z3 gU5 (by decide) (by decide), show insP 1 1 s6 (kidT .nil) [6] (0 + 1 + 1) = (s7, kidT tU6, 0) from insP_Z.trans e7, then_ok _ rfl]
   refine light_step e8 ?_
   rw [kidV5, kidU6]
   decide
 ·have n3 : heightP 1 3 s9 (kidT .nil) = some 0 := if_pos rfl
  have n2 : heightP 1 2 s9 (kidT .nil) = some 0 := if_pos rfl
  have n1 : heightP 1 1 s9 (kidT .nil) = some 0 := if_pos rfl
  exact height_step z4 gW4 n3 (height_step z5 gV5 n2 (height_step z6 gU6 n1 n1))
end Go.Proofs.YtedokpgkjcnoiaaGreat.Kd
namespace Go.Proofs.YtedokpgkjcnoiaaGreat
open Go.RowKit

/-- n elements of one cell each, f i, lie at A (nil is let in where n = 0), below block B. -/
def Arr (w : World) (B : Nat) (A : Option Addr) (n : Nat) (f : Nat → Value) : Prop :=
 0 < n → ∃ b off, A = some ⟨b, off, none⟩ ∧ b < B ∧ ∀ i, i < n → w.cell? ⟨b, off + i, none⟩ = some (f i)

def u8s (l : List Nat) (i : Nat) : Value := .int .u8 (l.getD i 0 : Nat)
def i64s (l : List Int) (i : Nat) : Value := .int .i64 (l.getD i 0)
def IsB (l : List Nat) : Prop := ∀ i, l.getD i 0 < 256
def IsI (l : List Int) : Prop := ∀ i, -9223372036854775808 ≤ l.getD i 0 ∧ l.getD i 0 ≤ 9223372036854775807

section
variable {w w' : World} {B B' n : Nat} {A : Option Addr} {f g : Nat → Value}
theorem Arr.keep (h : Arr w B A n f) (hk : ∀ p : Addr, p.block < B → w'.cell? p = w.cell? p) : Arr w' B A n f := fun hn => by
 obtain ⟨b, off, e, hb, hc⟩ := h hn
 exact ⟨b, off, e, hb, fun i hi => (hk _ hb).trans (hc i hi)⟩
theorem Arr.more (h : Arr w B A n f) (hB : B ≤ B') : Arr w B' A n f := fun hn => by
 obtain ⟨b, off, e, hb, hc⟩ := h hn
 exact ⟨b, off, e, by omega, hc⟩
theorem Arr.below (h : Arr w B A n f) (hb : Below B w w') : Arr w' B A n f := h.keep fun _ hp => hb.cell hp
/-- behind a call that has left old memory alone -/
theorem Arr.after (h : Arr w w.heap.size A n f) (hb : Below w.heap.size w w') : Arr w' w'.heap.size A n f := (h.below hb).more hb.size
theorem Arr.congr (h : Arr w B A n f) (e : ∀ i, i < n → f i = g i) : Arr w B A n g := fun hn => by
 obtain ⟨b, off, ea, hb, hc⟩ := h hn
 exact ⟨b, off, ea, hb, fun i hi => by rw [hc i hi, e i hi]⟩
theorem Arr.none_ : Arr w B A 0 f := fun h => absurd h (by omega)
theorem Arr.of_row {r : Nat} {t : TypeId} {m : Nat} (h : w.rowIs r t m f) (hn : n ≤ m) : Arr w w.heap.size (some ⟨r, 0, none⟩) n f :=
 fun _ => ⟨r, 0, rfl, h.lt, fun i hi => by rw [Nat.zero_add]; exact h.cell (by omega)⟩
theorem Arr.of_own {base : Nat} {e : TypeId} {c : Nat} {xs : List Value} (h : w.ownsRow base e 1 (.slice A n c) n xs) (hf : ∀ i, i < n → xs[i]? = some (f i)) : Arr w w.heap.size A n f := fun hn => by
 rcases h.2 with ⟨he, h0⟩ | ⟨r, cap, cur, hv, hb, hh, hcap, hm, hs, ht⟩
 ·omega
 ·injection hv with hA _ _
  subst hA
  refine ⟨r, 0, rfl, ?_, fun i hi => ?_⟩
  ·exact (Array.getElem?_eq_some_iff.1 hh).1
  ·rw [Nat.zero_add, cell_of_row w r i cur e (0, 0) hh]
   have h1 := hf i hi
   rw [← ht, List.getElem?_take] at h1
   split at h1
   ·simpa using h1
   ·cases h1
theorem Arr.cut (h : Arr w B A n f) {k cap : Nat} (hk : k ≤ n) (hc : n ≤ cap) :
    Arr w B (if cap = k then A else A.map (·.add k)) (n - k) (fun i => f (k + i)) := fun hn => by
  obtain ⟨b, off, rfl, hb, hcell⟩ := h (by omega)
  rw [if_neg (by omega)]
  refine ⟨b, off + k, ?_, hb, fun i hi => ?_⟩
  · simp only [Option.map_some, Addr.add]
    split
    · simp_all
    · rfl
  · rw [Nat.add_assoc]; exact hcell _ (by omega)
theorem Arr.front (h : Arr w B A n f) {k : Nat} (hk : k ≤ n) : Arr w B A k f := fun hn => by
 obtain ⟨b, off, e, hb, hc⟩ := h (by omega)
 exact ⟨b, off, e, hb, fun i hi => hc i (by omega)⟩
end

theorem getD_out {α : Type} (l : List α) (i : Nat) (d : α) (h : l.length ≤ i) : l.getD i d = d := by simp [List.getD, List.getElem?_eq_none h]
theorem ret_int {k : IntKind} {a b : Int} (h : a = b) : Ending.returned (.int k a) = .returned (.int k b) := by rw [h]
theorem hideP {p : Prop} (h : p) : Hid p := h
end Go.Proofs.YtedokpgkjcnoiaaGreat
namespace Go.Proofs.YtedokpgkjcnoiaaGreat.clKdtreeBuilds
open Go.ChangeShapes Go.WideShapes Go.ChangeAt Go.RowKit
theorem closed : joinedFacts Tryz.checked.prog 3 Tryz.f3 Rows.kdtreeBuildsSpec Rows.kdtreeBuildsRow = true := by kernel_rfl
end Go.Proofs.YtedokpgkjcnoiaaGreat.clKdtreeBuilds
namespace Go.Proofs.YtedokpgkjcnoiaaGreat.Kd
open Pl
def RemGood (R : Sto × KidD × Int) (Q : TreeD × Bool) : Prop := (Q.2 = true → R.2 = (kidT Q.1, 0) ∧ inS R.1 Q.1) ∧ (Q.2 = false → R.2 = (kidZ, 9))
theorem then_rem {R : Sto × KidD × Int} {Q : TreeD × Bool} {g : Sto → KidD → Sto × KidD × Int} {G : TreeD → TreeD} (h : R.1.c = none → RemGood R Q) (hg : Le R.1 (g R.1 R.2.1).1)
    (hn : (thenP R g).1.c = none) (k : R.1.c = none → inS R.1 Q.1 → (g R.1 (kidT Q.1)).1.c = none → (g R.1 (kidT Q.1)).2 = (kidT (G Q.1), 0) ∧ inS (g R.1 (kidT Q.1)).1 (G Q.1)) : RemGood (thenP R g) (G Q.1, Q.2) := by
  have hn0 : R.1.c = none := (Le.thenP (Le.refl _) hg).c hn
  obtain ⟨h1, h2⟩ := h hn0
  cases hb : Q.2 with
  | true =>
    obtain ⟨e1, e2⟩ := h1 hb
    rw [then_ok g e1] at hn ⊢
    exact ⟨fun _ => k hn0 e2 hn, fun z => (by cases z)⟩
  | false =>
    rw [then_no g (h2 hb) (by decide)]
    exact ⟨fun z => (by cases z), fun _ => rfl⟩
theorem rem_spec {d : Nat} (h1 : 1 ≤ d) (h8 : d ≤ 8) : ∀ (f : Nat) (s : Sto) (t : TreeD) (p : Rw) (dep : Nat), t.size < f → t.size ≤ 1048576 → okT d t → inS s t → (remP d f s (kidT t) p dep).1.c = none →
    RemGood (remP d f s (kidT t) p dep) (remT d t p dep) := by
  intro f
  induction f with
  | zero => intro s t p dep hf; omega
  | succ f ih =>
  intro s t p dep hf hz hok hin hn
  cases t with
  | nil => exact ⟨fun q => (by cases q), fun _ => by show (remP d (f + 1) s kidZ p dep).2 = _; rw [remP, if_pos rfl]⟩
  | node q v l r =>
    have hne : kidT (.node q v l r) ≠ kidZ := fun e => by have := (kidT_Z h1 h8 hok hz).1 e; cases this
    have hg := tGet_in h1 h8 hok hz hin
    obtain ⟨hq, hl, hr⟩ := okT_node.1 hok
    rw [size_node] at hf hz
    rw [remP, if_neg hne, hg] at hn ⊢
    dsimp only at hn ⊢
    unfold remT
    by_cases e : q = p
    · rw [if_pos e] at hn ⊢
      rw [if_pos e]
      cases v with
      | true =>
        rw [if_pos rfl] at hn ⊢
        have h := fork_put (s := s) (p := q) (v := false) (l := l) (r := r) h1 h8 (okT_node.2 ⟨hq, hl, hr⟩) (by rw [size_node]; omega)
        exact ⟨fun _ => ⟨h.1, h.2.2 hn hin.2.1 hin.2.2⟩, fun z => by cases z⟩
      | false => rw [if_neg (by decide)]; exact ⟨fun z => (by cases z), fun _ => rfl⟩
    · rw [if_neg e] at hn ⊢
      rw [if_neg e]
      cases hlt : ltAt (dep % d) p q with
      | true =>
        rw [hlt] at hn
        rw [if_pos rfl] at hn ⊢
        rw [if_pos rfl]
        have hr2 := rem_rows d l p (dep + 1)
        exact then_rem (G := fun u => .node q v u r) (ih s l p (dep + 1) (by omega) (by omega) hl hin.2.1) (Le.nPut _ _ _) hn fun hc hi hn2 => by
          have h := fork_put (s := (remP d f s (kidT l) p (dep + 1)).1) (p := q) (v := v) (l := (remT d l p (dep + 1)).1) (r := r) h1 h8 (okT_node.2 ⟨hq, rem_ok hl _, hr⟩) (by rw [size_node]; omega)
          exact ⟨h.1, h.2.2 hn2 hi (inS_le (Le.rem d f s (kidT l) p (dep + 1)) _ hin.2.2)⟩
      | false =>
        rw [hlt] at hn
        rw [if_neg (by decide)] at hn ⊢
        rw [if_neg (by decide)]
        have hr2 := rem_rows d r p (dep + 1)
        exact then_rem (G := fun u => .node q v l u) (ih s r p (dep + 1) (by omega) (by omega) hr hin.2.2) (Le.nPut _ _ _) hn fun hc hi hn2 => by
          have h := fork_put (s := (remP d f s (kidT r) p (dep + 1)).1) (p := q) (v := v) (l := l) (r := (remT d r p (dep + 1)).1) h1 h8 (okT_node.2 ⟨hq, hl, rem_ok hr _⟩) (by rw [size_node]; omega)
          exact ⟨h.1, h.2.2 hn2 (inS_le (Le.rem d f s (kidT r) p (dep + 1)) _ hin.2.1) hi⟩
theorem del_spec {d : Nat} (h1 : 1 ≤ d) (h8 : d ≤ 8) (s : Sto) (t : TreeD) (p : Rw) (hz : t.size ≤ 1048576) (hok : okT d t) (hin : inS s t) (hn : (delP d s (kidT t) p).1.c = none) : RemGood (delP d s (kidT t) p) (delT d t p) := by
 have hk := kidT_facts d h1 h8 t hok hz
 have hc : (remP d ((kidT t).size.toNat + 1) s (kidT t) p 0).1.c = none := by
  unfold delP at hn
  split at hn
  ·exact (Le.anew _ _ _ _).c hn
  ·exact hn
 have h := rem_spec h1 h8 ((kidT t).size.toNat + 1) s t p 0 (by have := hk.2.1; omega) hz hok hin hc
 have hrr := rem_rows d t p 0
 have hok2 : okT d (remT d t p 0).1 := rem_ok hok 0
 have hk2 := kidT_facts d h1 h8 _ hok2 (by omega)
 unfold delP at hn ⊢
 unfold delT
 generalize remP d ((kidT t).size.toNat + 1) s (kidT t) p 0 = R at h hn hc ⊢
 generalize remT d t p 0 = Q at h hrr hok2 hk2 ⊢
 obtain ⟨Q1, Q2⟩ := Q
 cases Q2 with
 | false =>
  have e := h.2 rfl
  rw [if_neg (fun z => by rw [e] at z; exact absurd z.1 (by decide))]
  rw [if_neg (fun z => by cases z.1)]
  exact ⟨fun z => (by cases z), fun _ => e⟩
 | true =>
  obtain ⟨e, hi⟩ := h.1 rfl
  rw [e] at hn ⊢
  dsimp only at hk2 hrr hn hi hok2 ⊢
  by_cases q : 2 * Q1.all.length < Q1.size
  ·have q2 : (0 : Int) = 0 ∧ 2 * (kidT Q1).live < (kidT Q1).size := ⟨rfl, by rw [hk2.2.1, hk2.2.2]; omega⟩
   rw [if_pos q2] at hn ⊢
   rw [if_pos ⟨rfl, q⟩]
   have := anew_spec h1 h8 R.1 Q1 0 (by omega) hok2 hi
   exact ⟨fun _ => ⟨this.1, this.2.2 hn⟩, fun z => by cases z⟩
  ·have q2 : ¬((0 : Int) = 0 ∧ 2 * (kidT Q1).live < (kidT Q1).size) := fun z => q (by have := z.2; rw [hk2.2.1, hk2.2.2] at this; omega)
   rw [if_neg q2] at hn ⊢
   rw [if_neg (fun z => q z.2)]
   exact ⟨fun _ => ⟨e, hi⟩, fun z => by cases z⟩
theorem del_half (d : Nat) (t : TreeD) (p : Rw) (h : (delT d t p).2 = true) : 2 * (delT d t p).1.all.length ≥ (delT d t p).1.size := by
 unfold delT at h ⊢
 split
 ·have := layT_all d (remT d t p 0).1.all.length (remT d t p 0).1.all 0 (Nat.le_refl _)
  dsimp only
  rw [layT_size _ _ _ _ (Nat.le_refl _), this.1.length_eq]; omega
 ·rename_i q
  rw [if_neg q] at h
  have : ¬ 2 * (remT d t p 0).1.all.length < (remT d t p 0).1.size := fun z => q ⟨h, z⟩
  omega
theorem del_ins (d : Nat) (t : TreeD) (p : Rw) : (delT d t p).2 = !(insT d t p 0).2 := by
 rw [← rem_ins]
 unfold delT
 split <;> rfl
/-! ### A script of Inserts -/
structure Inv1 (d i : Nat) (s : Sto) (k : KidD) : Prop where
 st : StoOk s
 kd : KidGood d k
 tr : s.c = none → ∃ t, okT d t ∧ kidT t = k ∧ inS s t ∧ t.size ≤ i ∧ t.all.length = t.size
theorem Inv1.new (d : Nat) : Inv1 d 0 Sto.new kidZ := ⟨⟨fun t h => (by cases h), fun p h => (by cases h)⟩, KidGood.zero d, fun _ => ⟨.nil, okT_nil d, rfl, trivial, Nat.le_refl _, rfl⟩⟩
theorem Inv1.step {d i : Nat} (h1 : 1 ≤ d) (h8 : d ≤ 8) {s : Sto} {k : KidD} {p : Rw} (h : Inv1 d i s k) (hi : i ≤ 100) (hp : RwOk d p) :
    PGood d (insP d (k.size.toNat + 1) s k p 0) ∧ Inv1 d (i + 1) (insP d (k.size.toNat + 1) s k p 0).1 (if (insP d (k.size.toNat + 1) s k p 0).2.2 = 0 then (insP d (k.size.toNat + 1) s k p 0).2.1 else k) := by
  have hg := PGood.ins h1 h8 (k.size.toNat + 1) s k p 0 h.st hp
  have hle := Le.ins d (k.size.toNat + 1) s k p 0
  refine ⟨hg, hg.s, ?_, fun hn => ?_⟩
  · split
    · exact hg.k
    · exact h.kd
  · obtain ⟨t, ok, rfl, hin, hz, ha⟩ := h.tr (hle.c hn)
    have hk := kidT_facts d h1 h8 t ok (by omega)
    have q := ins_spec h1 h8 ((kidT t).size.toNat + 1) s t p 0 (by have := hk.2.1; omega) (by omega) ok hin hp hn
    generalize insP d ((kidT t).size.toNat + 1) s (kidT t) p 0 = R at q hle hn ⊢
    have hr := ins_rows d t p 0
    have hok2 := ins_ok ok hp 0
    have hal := TreeD.all_le (insT d t p 0).1
    generalize insT d t p 0 = Q at q hr hok2 hal
    obtain ⟨Q1, Q2⟩ := Q
    cases Q2 with
    | true =>
      obtain ⟨e, hi2⟩ := q.1 rfl
      rw [e, if_pos rfl]
      have hpl := (hr.2.2 rfl).length_eq
      have hsz := hr.2.1
      simp only [List.length_cons] at hpl
      exact ⟨Q1, hok2, rfl, hi2, by dsimp only at hsz hpl hal; omega, by dsimp only at hsz hpl hal; omega⟩
    | false =>
      rw [q.2 rfl, if_neg (by decide)]
      exact ⟨t, ok, rfl, inS_le hle t hin, by omega, ha⟩
/-! ### A script of Deletes and Inserts, from a tree on -/
def chP (d : Nat) (s : Sto) (m : KidD) (p : Rw) : Sto × KidD × Int := if (delP d s m p).2.2 = 0 then delP d s m p else insP d (m.size.toNat + 1) (delP d s m p).1 m p 0
structure Inv2 (d i : Nat) (s0 s : Sto) (m : KidD) (good : Bool) : Prop where
 st : StoOk s
 kd : KidGood d m
 le : Le s0 s
 tr : s.c = none → good = true ∧ ∃ u, okT d u ∧ kidT u = m ∧ inS s u ∧ u.size ≤ i ∧ u.size ≤ 2 * u.all.length
theorem Inv2.of {d i : Nat} {s : Sto} {k : KidD} (h : Inv1 d i s k) : Inv2 d i s s k true := ⟨h.st, h.kd, Le.refl s, fun hn => by
 obtain ⟨t, a, b, c, e, f⟩ := h.tr hn
 exact ⟨rfl, t, a, b, c, e, by omega⟩⟩
theorem Inv2.step {d i : Nat} (h1 : 1 ≤ d) (h8 : d ≤ 8) {s0 s : Sto} {m : KidD} {p : Rw} {good : Bool} (h : Inv2 d i s0 s m good) (hi : i ≤ 100) (hp : RwOk d p) :
    PGood d (delP d s m p) ∧ PGood d (chP d s m p) ∧ Inv2 d (i + 1) s0 (chP d s m p).1 (chP d s m p).2.1 (good && (decide ((chP d s m p).2.2 = 0) && decide (2 * (chP d s m p).2.1.live ≥ (chP d s m p).2.1.size))) := by
  have hg := PGood.del h1 h8 s m p h.st
  have hle := Le.del d s m p
  have hg2 := PGood.ins h1 h8 (m.size.toNat + 1) (delP d s m p).1 m p 0 hg.s hp
  have hle2 := Le.ins d (m.size.toNat + 1) (delP d s m p).1 m p 0
  have hgc : PGood d (chP d s m p) := by unfold chP; split <;> assumption
  have hlc : Le s (chP d s m p).1 := by
    unfold chP; split
    · exact hle
    · exact hle.trans hle2
  refine ⟨hg, hgc, hgc.s, hgc.k, h.le.trans hlc, fun hn => ?_⟩
  obtain ⟨rfl, u, ok, rfl, hin, hz, ha⟩ := h.tr (hlc.c hn)
  have hk := kidT_facts d h1 h8 u ok (by omega)
  have hnd : (delP d s (kidT u) p).1.c = none := by
    unfold chP at hn
    split at hn
    · exact hn
    · exact hle2.c hn
  have q := del_spec h1 h8 s u p (by omega) ok hin hnd
  suffices hs : ∃ v : TreeD, (chP d s (kidT u) p).2 = (kidT v, 0) ∧ okT d v ∧ inS (chP d s (kidT u) p).1 v ∧ v.size ≤ i + 1 ∧ v.size ≤ 2 * v.all.length by
    obtain ⟨v, e, a, b, c, f⟩ := hs
    have hkv := kidT_facts d h1 h8 v a (by omega)
    refine ⟨?_, v, a, by rw [e], b, c, f⟩
    rw [e]
    have : 2 * (kidT v).live ≥ (kidT v).size := by rw [hkv.2.1, hkv.2.2]; omega
    simp only [decide_true, Bool.and_self, Bool.true_and, decide_eq_true_eq]
    exact this
  have hdi := del_ins d u p
  cases hb : (delT d u p).2 with
  | true =>
    obtain ⟨e, hi2⟩ := q.1 hb
    have ec : chP d s (kidT u) p = delP d s (kidT u) p := if_pos (by rw [e])
    rw [ec]
    have hsz := del_size d u p
    exact ⟨(delT d u p).1, e, del_ok ok, hi2, by omega, del_half d u p hb⟩
  | false =>
    have e := q.2 hb
    have ec : chP d s (kidT u) p = insP d ((kidT u).size.toNat + 1) (delP d s (kidT u) p).1 (kidT u) p 0 := if_neg (by rw [e]; decide)
    rw [ec] at hn ⊢
    have q2 := ins_spec h1 h8 ((kidT u).size.toNat + 1) (delP d s (kidT u) p).1 u p 0 (by have := hk.2.1; omega) (by omega) ok (inS_le hle u hin) hp hn
    have hb2 : (insT d u p 0).2 = true := by rw [hb] at hdi; simpa using hdi.symm
    obtain ⟨e2, hi2⟩ := q2.1 hb2
    have hr := ins_rows d u p 0
    have hpl := (hr.2.2 hb2).length_eq
    simp only [List.length_cons] at hpl
    exact ⟨(insT d u p 0).1, e2, ins_ok ok hp 0, hi2, by omega, by omega⟩
end Go.Proofs.YtedokpgkjcnoiaaGreat.Kd
namespace Go.Proofs.YtedokpgkjcnoiaaGreat.Kd
open Pl
theorem height_spec {d : Nat} (h1 : 1 ≤ d) (h8 : d ≤ 8) : ∀ (f : Nat) (s : Sto) (t : TreeD), t.size < f → t.size ≤ 1048576 → okT d t → inS s t → heightP d f s (kidT t) = some t.height
 | 0, s, t, h, _, _, _ => by omega
 | f + 1, s, t, hf, hz, hok, hin => by
  unfold heightP
  cases t with
  | nil => rw [if_pos (show kidT .nil = kidZ from rfl)]; rfl
  | node p v l r =>
   have hne : kidT (.node p v l r) ≠ kidZ := fun e => by have := (kidT_Z h1 h8 hok hz).1 e; cases this
   rw [if_neg hne, tGet_in h1 h8 hok hz hin]
   obtain ⟨hp, hl, hr⟩ := okT_node.1 hok
   rw [size_node] at hf hz
   dsimp only
   rw [height_spec h1 h8 f s l (by omega) (by omega) hl hin.2.1]
   dsimp only
   rw [height_spec h1 h8 f s r (by omega) (by omega) hr hin.2.2]
   rfl
theorem dup_iff (L : List Rw) : (∃ i, 1 ≤ i ∧ i < (isort lexLt L).length ∧ (isort lexLt L).getD i [] = (isort lexLt L).getD (i - 1) []) ↔ ¬ L.Nodup := by
 have hp := isort_perm (lt := lexLt) L
 have hs := isort_sd (lt := lexLt) lexLt_totl (l := L) (fun _ _ => trivial)
 rw [← hp.nodup_iff]
 generalize isort lexLt L = M at hs
 have hg : ∀ {i : Nat} (h : i < M.length), M.getD i [] = M[i] := fun h => by rw [List.getD_eq_getElem?_getD, List.getElem?_eq_getElem h]; rfl
 constructor
 ·rintro ⟨i, h1, h2, e⟩ hn
  have := List.pairwise_iff_getElem.1 hn (i - 1) i (by omega) h2 (by omega)
  rw [hg h2, hg (show i - 1 < M.length by omega)] at e
  exact this e.symm
 ·intro hn
  apply Classical.byContradiction
  intro hno
  apply hn
  have hs2 := List.pairwise_iff_getElem.1 hs
  have adj : ∀ i (h : i + 1 < M.length), lexLt (M[i]'(by omega)) M[i + 1] = true := fun i h => by
   cases q : lexLt (M[i]'(by omega)) M[i + 1] with
   | true => rfl
   | false =>
    have e := lexLt_tot _ _ q (hs2 i (i + 1) (by omega) h (by omega))
    exact absurd ⟨i + 1, by omega, h, by rw [hg h, hg (show i + 1 - 1 < M.length by omega)]; exact e.symm⟩ hno
  refine List.pairwise_iff_getElem.2 fun i j hi hj hij e => ?_
  have a := adj i (by omega)
  rcases Nat.lt_or_ge (i + 1) j with q | q
  ·have b := hs2 (i + 1) j (by omega) hj q
   rw [← e, a] at b
   cases b
  ·obtain rfl : j = i + 1 := by omega
   rw [← e, lexLt_ir] at a
   cases a
theorem lay_same (d : Nat) (L : List Rw) : layT d L.length (isort lexLt L) 0 = layT d L.length L 0 := layT_same d _ _ _ 0 (isort_perm L)
end Go.Proofs.YtedokpgkjcnoiaaGreat.Kd
namespace Go.Proofs.YtedokpgkjcnoiaaGreat
open Go.RowKit
def i64L (l : List Int) : DV := .sl 1 l.length (fun i => [.v (.int .i64 (l.getD i 0))])
def b32 (f : Nat → DV) : List DV := [f 0, f 1, f 2, f 3, f 4, f 5, f 6, f 7, f 8, f 9, f 10, f 11, f 12, f 13, f 14, f 15, f 16, f 17, f 18, f 19, f 20, f 21, f 22, f 23, f 24, f 25, f 26, f 27, f 28, f 29, f 30, f 31]
def kidL (k : KidD) : List DV := b32 (fun i => .v (.int .u8 (k.sum.getD i 0 : Nat))) ++ [i64L k.lo, i64L k.hi, .v (.int .i64 k.live), .v (.int .i64 k.size), i64L k.key]
def agD (l : List DV) : AV := .agg (l.map .d)
theorem avEqT_len : ∀ {xs bs : List AV}, avEqT xs bs → xs.length = bs.length
 | [], [], _ => rfl
 | _ :: r, _ :: s, h => by simp [avEqT_len h.2]
theorem avEqT_get {C : Cx} : ∀ {xs bs : List AV}, avEqT xs bs → ∀ j, j < bs.length → ∀ v, Rv C (xs.getD j .any) v → Rv C (bs.getD j .any) v
 | [], [], _, j, h, _, _ => by cases h
 | a :: r, b :: s, e, 0, _, v, h => by
  simp only [List.getD_cons_zero] at h ⊢
  have e1 := e.1
  cases a with
  | tup cs => cases b <;> first | trivial | (cases e1; done) | (cases e1; exact h)
  | _ => cases b <;> exact Rv.eqv h e1
 | a :: r, b :: s, e, j + 1, hj, v, h => by
  simp only [List.getD_cons_succ] at h ⊢
  exact avEqT_get e.2 j (by simpa using hj) v h
/-- arguments may be told anew -/
theorem ACall.arg {P : Program} {f : FuncId} {xs bs : List AV} {Hp H' : OH} {r : AV} (e : avEqT xs bs) (hc : ACall P f bs Hp r H') : ACall P f xs Hp r H' := by
 refine ⟨hc.1, fun A W vl vs G hl hv => hc.2 A W vl vs G (by rw [← hl, avEqT_len e]) fun j hj => avEqT_get e j hj _ (hv j (by rw [avEqT_len e]; exact hj))⟩
theorem mixed : Tryz.prog.follows .mixedOrders = true := by kernel_rfl
set_option maxRecDepth 100000
set_option maxHeartbeats 1000000
end Go.Proofs.YtedokpgkjcnoiaaGreat
namespace Go.Proofs.YtedokpgkjcnoiaaGreat
open Go.RowKit
set_option maxRecDepth 100000
set_option maxHeartbeats 1000000
theorem list_eq {α : Type} [DecidableEq α] {l m : List α} {d : α} (hl : l.length = m.length) (h : ∀ i, i < l.length → l.getD i d = m.getD i d) : l = m := by
 apply List.ext_getElem hl
 intro i h1 h2
 have := h i h1
 simpa [List.getD_eq_getElem?_getD, h1, h2] using this
theorem equal_any (l m : List Int) (h : l.length ≤ 1000000) : ACall Tryz.prog 37 [.d (i64L l), .d (i64L m)] [] (exB (decide (l = m))) [] := by
 refine acall_of (mu := []) mixed Tryz.func37 rfl rfl rfl ?_
 conv => whnf
 refine ⟨fun a => ?_, fun b => ?_⟩
 ·have hne : l ≠ m := fun e => by subst e; simp at a
  rw [decide_eq_false hne]
  conv => whnf
  all_goals (repeat' (first | exact sm | apply And.intro))
 ·have hl : l.length = m.length := by simp at b; omega
  conv => whnf
  refine ⟨[], ?_⟩
  conv => whnf
  refine ⟨Nat, fun k => k ≤ l.length ∧ ∀ i, i < k → l.getD i 0 = m.getD i 0, fun k => l.length - k, fun k => [(4, exB false), (13, exI .i64 k)], fun _ => [], ⟨0, ⟨by omega, fun i hi => by omega⟩, ?_⟩, ?_⟩
  ·skip
   refine ⟨[], ?_⟩
   conv => whnf
   refine ⟨rfl, ?_, ?_⟩ <;> (repeat' (first | exact sm | apply And.intro))
  intro k ⟨hk, hn⟩
  conv => whnf
  repeat
   first
    | refine And.intro (by omega) ?_
    | refine And.intro rfl ?_
   conv => whnf
  refine ⟨fun hlt => ?_, fun hge => ?_⟩
  ·have hlt : k < l.length := by simpa using hlt
   conv => whnf
   repeat
    first
     | refine And.intro (by omega) ?_
     | refine And.intro rfl ?_
    conv => whnf
   refine ⟨fun he => ?_, fun he => ?_⟩
   ·have hne : l ≠ m := fun e => by subst e; simp at he
    rw [decide_eq_false hne]
    conv => whnf
    all_goals (repeat' (first | exact sm | apply And.intro))
   ·skip
    conv => whnf
    repeat
     first
      | refine And.intro (by omega) ?_
      | refine And.intro rfl ?_
     conv => whnf
    refine ⟨k + 1, ⟨by omega, fun i hi => ?_⟩, by dsimp only; omega, ?_⟩
    ·rcases Nat.lt_or_ge i k with q | q
     ·exact hn i q
     ·obtain rfl : i = k := by omega
      simpa using he
    ·skip
     refine ⟨[], ?_⟩
     conv => whnf
     refine ⟨rfl, ?_, ?_⟩ <;> (repeat' (first | exact sm | apply And.intro))
  ·have hge : ¬ k < l.length := by simpa using hge
   rw [decide_eq_true (list_eq hl fun i hi => hn i (by omega))]
   conv => whnf
   all_goals (repeat' (first | exact sm | apply And.intro))
theorem right_cl (k : Nat) (lo hi : List Int) (h1 : k < lo.length) (h2 : k < hi.length) : ACall Tryz.prog 148 [exI .i64 k, .dp [i64L lo, i64L hi]] [] (exB (decide (lo.getD k 0 ≤ hi.getD k 0))) [] := by
 refine acall_of (mu := []) mixed Tryz.func148 rfl rfl rfl ?_
 conv => whnf
 repeat
  first
   | refine And.intro (by omega) ?_
   | refine And.intro rfl ?_
  conv => whnf
 all_goals (repeat' (first | exact sm | apply And.intro))
def allTo (p : Nat → Bool) (n : Nat) : Bool := (List.range n).all p
theorem allTo_iff (p : Nat → Bool) (n : Nat) : allTo p n = true ↔ ∀ i, i < n → p i = true := by simp [allTo]
theorem allTo_no {p : Nat → Bool} {n k : Nat} (hk : k < n) (h : p k = false) : allTo p n = false := by
 rw [Bool.eq_false_iff]
 intro q
 rw [allTo_iff] at q
 rw [q k hk] at h; cases h
theorem all1_any (lo hi : List Int) (n : Nat) (hn : n ≤ 1000000) (f : Nat) (p : Nat → Bool) (hc : ∀ i : Nat, i < n → ACall Tryz.prog f [exI .i64 i, .dp [i64L lo, i64L hi]] [] (exB (p i)) []) : ACall Tryz.prog 147 [exI .i64 n, .fn (.func f) [] [.dp [i64L lo, i64L hi]]] [] (exB (allTo p n)) [] := by
 refine acall_of (mu := []) mixed Tryz.func147 rfl rfl rfl ?_
 conv => whnf
 refine ⟨[], ?_⟩
 conv => whnf
 refine ⟨Nat, fun k => k ≤ n ∧ ∀ i, i < k → p i = true, fun k => n - k, fun k => [(4, exB false), (7, exI .i64 k)], fun _ => [], ⟨0, ⟨by omega, fun i hi => by omega⟩, ?_⟩, ?_⟩
 ·skip
  refine ⟨[], ?_⟩
  conv => whnf
  refine ⟨rfl, ?_, ?_⟩ <;> (repeat' (first | exact sm | apply And.intro))
 intro k ⟨hk, hp⟩
 conv => whnf
 repeat
  first
   | refine And.intro (by omega) ?_
   | refine And.intro rfl ?_
  conv => whnf
 refine ⟨fun hlt => ?_, fun hge => ?_⟩
 ·have hlt : k < n := by simpa using hlt
  conv => whnf
  repeat
   first
    | refine And.intro (by omega) ?_
    | refine And.intro rfl ?_
   conv => whnf
  refine ⟨_, _, _, .flat _ _ rfl (hc k hlt) rfl, ?_⟩
  conv => whnf
  refine ⟨fun he => ?_, fun he => ?_⟩
  ·have he : p k = false := by simpa using he
   rw [allTo_no hlt he]
   conv => whnf
   all_goals (repeat' (first | exact sm | apply And.intro))
  ·have he : p k = true := by simpa using he
   conv => whnf
   repeat
    first
     | refine And.intro (by omega) ?_
     | refine And.intro rfl ?_
    conv => whnf
   refine ⟨k + 1, ⟨by omega, fun i hi => ?_⟩, by dsimp only; omega, ?_⟩
   ·rcases Nat.lt_or_ge i k with q | q
    ·exact hp i q
    ·obtain rfl : i = k := by omega
     exact he
   ·skip
    refine ⟨[], ?_⟩
    conv => whnf
    refine ⟨rfl, ?_, ?_⟩ <;> (repeat' (first | exact sm | apply And.intro))
 ·have hge : ¬ k < n := by simpa using hge
  rw [(allTo_iff p n).2 fun i hi => hp i (by omega)]
  conv => whnf
  all_goals (repeat' (first | exact sm | apply And.intro))
structure BoxD where
 lo : List Int
 hi : List Int
deriving Inhabited
def boxL (b : BoxD) : List DV := [i64L b.lo, i64L b.hi]
def boxR (b : BoxD) (d : Int) : Bool := decide (1 ≤ d) && (decide (d ≤ 8) && (decide ((b.lo.length : Int) = d) && (decide ((b.hi.length : Int) = d) && allTo (fun i => decide (b.lo.getD i 0 ≤ b.hi.getD i 0)) d.toNat)))
theorem boxr_any (b : BoxD) (d : Int) (h1 : b.lo.length ≤ 1000000) (h2 : b.hi.length ≤ 1000000) : ACall Tryz.prog 126 [agD (boxL b), exI .i64 d] [] (exB (boxR b d)) [] := by
 refine acall_of (mu := []) mixed Tryz.func126 rfl rfl rfl ?_
 by_cases hd : 0 ≤ d
 ·obtain ⟨n, rfl⟩ : ∃ n : Nat, d = n := ⟨d.toNat, by omega⟩
  by_cases hn : (b.lo.length : Int) = n ∧ (b.hi.length : Int) = n
  ·skip
   conv => whnf
   repeat' ((first
   | refine ob ?_
   | refine ⟨_, _, _, .flat _ _ rfl (all1_any b.lo b.hi n (by omega) 148 (fun i => decide (b.lo.getD i 0 ≤ b.hi.getD i 0)) (fun i hi => right_cl i b.lo b.hi (by omega) (by omega))) rfl, ?_⟩
   | ((refine ⟨_, _, _, .flat _ _ rfl (.arg ?harg (all1_any b.lo b.hi n (by omega) 148 (fun i => decide (b.lo.getD i 0 ≤ b.hi.getD i 0)) (fun i hi => right_cl i b.lo b.hi (by omega) (by omega)))) rfl, ?_⟩); case harg => (repeat' (first | exact sm | apply And.intro))) | (refine And.intro (fun hq => ?_) (fun hq => ?_) <;> first | exact cl1 | exact cl3 | skip)
   | refine ob2 ?_ | refine ob4 ?_ | refine fun hq => ?_ | fail) <;> conv => whnf)
   all_goals first
    | exact trivial
    | (refine And.intro (congrArg Value.bool ?_) trivial; grind [boxR, hn])
    | (refine And.intro (congrArg Value.bool ?_) trivial; simp_all [boxR, hn]; done)
    | (refine And.intro (congrArg Value.bool ?_) trivial; simp [boxR, hn] at *; omega)
    | skip
  ·skip
   conv => whnf
   repeat' ((first
   | refine ob ?_
   | (refine And.intro (fun hq => ?_) (fun hq => ?_) <;> first | exact cl1 | exact cl3 | skip)
   | refine ob2 ?_ | refine ob4 ?_ | refine fun hq => ?_ | fail) <;> conv => whnf)
   all_goals first
    | exact trivial
    | (refine And.intro (congrArg Value.bool ?_) trivial; grind [boxR])
    | (refine And.intro (congrArg Value.bool ?_) trivial; simp_all [boxR]; done)
    | (refine And.intro (congrArg Value.bool ?_) trivial; simp [boxR] at *; omega)
    | skip
 ·skip
  conv => whnf
  repeat' ((first
  | refine ob ?_
  | (refine And.intro (fun hq => ?_) (fun hq => ?_) <;> first | exact cl1 | exact cl3 | skip)
  | refine ob2 ?_ | refine ob4 ?_ | refine fun hq => ?_ | fail) <;> conv => whnf)
  all_goals first
   | exact trivial
   | (refine And.intro (congrArg Value.bool ?_) trivial; grind [boxR])
   | (refine And.intro (congrArg Value.bool ?_) trivial; simp_all [boxR]; done)
   | (refine And.intro (congrArg Value.bool ?_) trivial; simp [boxR] at *; omega)
   | skip
end Go.Proofs.YtedokpgkjcnoiaaGreat
namespace Go.Proofs.YtedokpgkjcnoiaaGreat
open Go.RowKit
set_option maxRecDepth 100000
set_option maxHeartbeats 1000000
def byF (l : List Nat) (i : Nat) : List DV := [.v (.int .u8 (l.getD i 0 : Nat))]
def byteL (l : List Nat) : DV := .sl 1 l.length (byF l)
def digL (s : List Nat) : List DV := b32 fun i => .v (.int .u8 (s.getD i 0 : Nat))
/-- a slice of no elements is some value -/
theorem ACall.none0 {P : Program} {f : FuncId} {pre post : List AV} {sz : Nat} {fd : Nat → List DV} {Hp H' : OH} {r : AV} (h : ∀ A c, ACall P f (pre ++ .d (.v (.slice A 0 c)) :: post) Hp r H') : ACall P f (pre ++ .d (.sl sz 0 fd) :: post) Hp r H' := by
 refine ⟨(h none 0).1, fun A W vl vs G hl hv => ?_⟩
 have hlt : pre.length < vs.length := by rw [← hl]; simp
 have hp := hv pre.length (by simp)
 rw [show (pre ++ AV.d (.sl sz 0 fd) :: post).getD pre.length .any = .d (.sl sz 0 fd) by simp [List.getD_eq_getElem?_getD]] at hp
 replace hp : RD _ _ (.sl sz 0 fd) _ := hp
 generalize hz : vs.getD pre.length undef = z at hp
 cases hp with
 | sl _ _ _ A' b off c u hA hc _ _ _ =>
  refine (h A' c).2 A W vl vs G (by simpa using hl) fun j hj => ?_
  rcases Nat.lt_trichotomy j pre.length with q | q | q
  ·have := hv j (by simp at hj ⊢; omega)
   rw [List.getD_eq_getElem?_getD, List.getElem?_append_left q] at this ⊢
   exact this
  ·subst q
   rw [show (pre ++ AV.d (.v (.slice A' 0 c)) :: post).getD pre.length .any = .d (.v (.slice A' 0 c)) by simp [List.getD_eq_getElem?_getD], hz]
   exact rv_ex _
  ·have := hv j (by simp at hj ⊢; omega)
   obtain ⟨t, rfl⟩ : ∃ t, j = pre.length + (t + 1) := ⟨j - pre.length - 1, by omega⟩
   rw [List.getD_eq_getElem?_getD, List.getElem?_append_right (by omega)] at this ⊢
   simpa using this
end Go.Proofs.YtedokpgkjcnoiaaGreat
