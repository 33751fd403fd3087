/- catalog.readKid, readTable. -/
import Derived.Test.YtgcbodpjidoanaaGi
set_option linter.unusedVariables false
set_option linter.unusedSimpArgs false
namespace Go.Proofs.Ytgcbodpjidoanaa
open Go.RowKit
set_option maxRecDepth 100000
set_option maxHeartbeats 1000000
def boxK (k : KidD) : Ob := .box 43 ((kidL k).map .d)
theorem creadkid9 (l : List Nat) (e : Int) (hB : Pl.IsB l) : ACall Try.prog 189 [.ptr 900 0 0 0] (rdH 900 l e) (agD (kidL (Pl.rKid 8 l e).1)) (rdH 900 (Pl.rKid 8 l e).2.1 (Pl.rKid 8 l e).2.2) := by
  have q1 := rdig 900 l e
  have b1 : Pl.IsB (Pl.rTake 32 l e).2.1 := (Pl.take_suf 32 l e).isB hB
  unfold Pl.rKid
  simp only []
  generalize Pl.rDig l e = s at q1 ⊢
  generalize (Pl.rTake 32 l e).2 = s1 at q1 b1 ⊢
  obtain ⟨l1, e1⟩ := s1
  simp only [] at q1 b1 ⊢
  have q2 := rcount 900 1048576 l1 e1 b1
  have b2 : Pl.IsB (Pl.rCount 1048576 l1 e1).2.1 := (Pl.count_suf 1048576 l1 e1).isB b1
  generalize Pl.rCount 1048576 l1 e1 = c1 at q2 b2 ⊢
  obtain ⟨n1, l2, e2⟩ := c1
  simp only [] at q2 b2 ⊢
  have q3 := rcount 900 1048576 l2 e2 b2
  have b3 : Pl.IsB (Pl.rCount 1048576 l2 e2).2.1 := (Pl.count_suf 1048576 l2 e2).isB b2
  generalize Pl.rCount 1048576 l2 e2 = c2 at q3 b3 ⊢
  obtain ⟨n2, l3, e3⟩ := c2
  simp only [] at q3 b3 ⊢
  have q4 := rrow 900 8 l3 e3 b3
  have b4 : Pl.IsB (Pl.rRowI 8 l3 e3).2.1 := (Pl.rowI_suf 8 l3 e3).isB b3
  generalize Pl.rRowI 8 l3 e3 = c3 at q4 b4 ⊢
  obtain ⟨r1, l4, e4⟩ := c3
  simp only [] at q4 b4 ⊢
  have q5 := rrow 900 8 l4 e4 b4
  have b5 : Pl.IsB (Pl.rRowI 8 l4 e4).2.1 := (Pl.rowI_suf 8 l4 e4).isB b4
  generalize Pl.rRowI 8 l4 e4 = c4 at q5 b5 ⊢
  obtain ⟨r2, l5, e5⟩ := c4
  simp only [] at q5 b5 ⊢
  have q6 := rrow 900 8 l5 e5 b5
  generalize Pl.rRowI 8 l5 e5 = c5 at q6 ⊢
  obtain ⟨r3, l6, e6⟩ := c5
  simp only [] at q6 ⊢
  refine acall_on (mu := [20]) [] [] mixed Try.func189 rfl rfl rfl ?_
  conv => whnf
  repeat' (first
    | (refine And.intro (by omega) ?_; conv => whnf)
    | (refine And.intro rfl ?_; conv => whnf)
    | (refine And.intro (Nat.le_of_ble_eq_true rfl) ?_; conv => whnf)
    | (refine And.intro (fun i hi => ⟨_, rfl⟩) ?_; conv => whnf)
    | (refine ⟨_, _, _, .gen [900] _ _ _ rfl (q1) rfl rfl rfl rfl rfl, ?_⟩; conv => whnf)
    | (refine ⟨_, _, _, .gen [900] _ _ _ rfl (q2) rfl rfl rfl rfl rfl, ?_⟩; conv => whnf)
    | (refine ⟨_, _, _, .gen [900] _ _ _ rfl (q3) rfl rfl rfl rfl rfl, ?_⟩; conv => whnf)
    | (refine ⟨_, _, _, .gen [900] _ _ _ rfl (ACall.arg ?harg (q1)) rfl rfl rfl rfl rfl, ?_⟩; (case harg => (repeat' (first | exact trivial | exact rfl | exact fun _ _ => rfl | apply And.intro | (intro i hi; rcases i with _ | _ | i <;> first | rfl | (exfalso; omega) | (simp at hi; done) | (simp at hi; omega)) | exact fun _ _ => by simp))); (conv => whnf))
    | (refine ⟨_, _, _, .gen [900] _ _ _ rfl (ACall.arg ?harg (q2)) rfl rfl rfl rfl rfl, ?_⟩; (case harg => (repeat' (first | exact trivial | exact rfl | exact fun _ _ => rfl | apply And.intro | (intro i hi; rcases i with _ | _ | i <;> first | rfl | (exfalso; omega) | (simp at hi; done) | (simp at hi; omega)) | exact fun _ _ => by simp))); (conv => whnf))
    | (refine ⟨_, _, _, .gen [900] _ _ _ rfl (ACall.arg ?harg (q3)) rfl rfl rfl rfl rfl, ?_⟩; (case harg => (repeat' (first | exact trivial | exact rfl | exact fun _ _ => rfl | apply And.intro | (intro i hi; rcases i with _ | _ | i <;> first | rfl | (exfalso; omega) | (simp at hi; done) | (simp at hi; omega)) | exact fun _ _ => by simp))); (conv => whnf))
    | (refine And.intro (fun hq => ?_) (fun hq => ?_) <;> (first | (exfalso; simp at hq; done) | (exfalso; simp at *; omega) | (exfalso; simp_all; done) | (conv => whnf)))
    | (refine And.intro (by first | (show _ * 1 ≤ 140737488355328; omega) | (show _ * 8 ≤ 140737488355328; omega) | (show _ * 24 ≤ 140737488355328; omega) | (show _ * 16 ≤ 140737488355328; omega) | (show _ * 32 ≤ 140737488355328; omega) | (show _ * 120 ≤ 140737488355328; omega) | (show _ * 280 ≤ 140737488355328; omega) | (show _ * 72 ≤ 140737488355328; omega) | (show _ * 48 ≤ 140737488355328; omega)) ?_; conv => whnf)
    | (refine And.intro (by simp at *; omega) ?_; conv => whnf)
    | fail)
  refine ⟨[], ?_⟩
  conv => whnf
  refine ⟨Nat, fun i => i ≤ 3, fun i => 3 - i, fun i => [(22, exI .i64 i)], fun i => match i with
    | 0 => (3, boxK ⟨s, [], [], n1, n2, []⟩) :: rdH 900 l3 e3
    | 1 => (3, boxK ⟨s, r1, [], n1, n2, []⟩) :: rdH 900 l4 e4
    | 2 => (3, boxK ⟨s, r1, r2, n1, n2, []⟩) :: rdH 900 l5 e5
    | _ => (3, boxK ⟨s, r1, r2, n1, n2, r3⟩) :: rdH 900 l6 e6, ⟨0, by omega, ?_⟩, ?_⟩
  · skip
    refine ⟨[], ?_⟩
    conv => whnf
    refine ⟨rfl, ?_, ?_⟩ <;> (repeat' (first | exact trivial | exact rfl | exact fun _ _ => rfl | apply And.intro | (intro i hi; rcases i with _ | _ | i <;> first | rfl | (exfalso; omega) | (simp at hi; done) | (simp at hi; omega)) | exact fun _ _ => by simp))
  intro i hi
  rcases i with _ | _ | _ | _ | i
  · skip
    conv => whnf
    repeat' (first
      | (refine And.intro (by omega) ?_; conv => whnf)
      | (refine And.intro rfl ?_; conv => whnf)
      | (refine And.intro (Nat.le_of_ble_eq_true rfl) ?_; conv => whnf)
      | (refine And.intro (fun i hi => ⟨_, rfl⟩) ?_; conv => whnf)
      | (refine ⟨_, _, _, .gen [900] _ _ _ rfl (q4) rfl rfl rfl rfl rfl, ?_⟩; conv => whnf)
      | (refine ⟨_, _, _, .gen [900] _ _ _ rfl (ACall.arg ?harg (q4)) rfl rfl rfl rfl rfl, ?_⟩; (case harg => (repeat' (first | exact trivial | exact rfl | exact fun _ _ => rfl | apply And.intro | (intro i hi; rcases i with _ | _ | i <;> first | rfl | (exfalso; omega) | (simp at hi; done) | (simp at hi; omega)) | exact fun _ _ => by simp))); (conv => whnf))
      | (refine And.intro (fun hq => ?_) (fun hq => ?_) <;> (first | (exfalso; simp at hq; done) | (exfalso; simp at *; omega) | (exfalso; simp_all; done) | (conv => whnf)))
      | (refine And.intro (by first | (show _ * 1 ≤ 140737488355328; omega) | (show _ * 8 ≤ 140737488355328; omega) | (show _ * 24 ≤ 140737488355328; omega) | (show _ * 16 ≤ 140737488355328; omega) | (show _ * 32 ≤ 140737488355328; omega) | (show _ * 120 ≤ 140737488355328; omega) | (show _ * 280 ≤ 140737488355328; omega) | (show _ * 72 ≤ 140737488355328; omega) | (show _ * 48 ≤ 140737488355328; omega)) ?_; conv => whnf)
      | (refine And.intro (by simp at *; omega) ?_; conv => whnf)
      | fail)
    refine ⟨1, by omega, by dsimp only; omega, ?_⟩
    refine ⟨[], ?_⟩
    conv => whnf
    refine ⟨rfl, ?_, ?_⟩ <;> (repeat' (first | exact trivial | exact rfl | exact fun _ _ => rfl | apply And.intro | (intro i hi; rcases i with _ | _ | i <;> first | rfl | (exfalso; omega) | (simp at hi; done) | (simp at hi; omega)) | exact fun _ _ => by simp))
  · skip
    conv => whnf
    repeat' (first
      | (refine And.intro (by omega) ?_; conv => whnf)
      | (refine And.intro rfl ?_; conv => whnf)
      | (refine And.intro (Nat.le_of_ble_eq_true rfl) ?_; conv => whnf)
      | (refine And.intro (fun i hi => ⟨_, rfl⟩) ?_; conv => whnf)
      | (refine ⟨_, _, _, .gen [900] _ _ _ rfl (q5) rfl rfl rfl rfl rfl, ?_⟩; conv => whnf)
      | (refine ⟨_, _, _, .gen [900] _ _ _ rfl (ACall.arg ?harg (q5)) rfl rfl rfl rfl rfl, ?_⟩; (case harg => (repeat' (first | exact trivial | exact rfl | exact fun _ _ => rfl | apply And.intro | (intro i hi; rcases i with _ | _ | i <;> first | rfl | (exfalso; omega) | (simp at hi; done) | (simp at hi; omega)) | exact fun _ _ => by simp))); (conv => whnf))
      | (refine And.intro (fun hq => ?_) (fun hq => ?_) <;> (first | (exfalso; simp at hq; done) | (exfalso; simp at *; omega) | (exfalso; simp_all; done) | (conv => whnf)))
      | (refine And.intro (by first | (show _ * 1 ≤ 140737488355328; omega) | (show _ * 8 ≤ 140737488355328; omega) | (show _ * 24 ≤ 140737488355328; omega) | (show _ * 16 ≤ 140737488355328; omega) | (show _ * 32 ≤ 140737488355328; omega) | (show _ * 120 ≤ 140737488355328; omega) | (show _ * 280 ≤ 140737488355328; omega) | (show _ * 72 ≤ 140737488355328; omega) | (show _ * 48 ≤ 140737488355328; omega)) ?_; conv => whnf)
      | (refine And.intro (by simp at *; omega) ?_; conv => whnf)
      | fail)
    refine ⟨2, by omega, by dsimp only; omega, ?_⟩
    refine ⟨[], ?_⟩
    conv => whnf
    refine ⟨rfl, ?_, ?_⟩ <;> (repeat' (first | exact trivial | exact rfl | exact fun _ _ => rfl | apply And.intro | (intro i hi; rcases i with _ | _ | i <;> first | rfl | (exfalso; omega) | (simp at hi; done) | (simp at hi; omega)) | exact fun _ _ => by simp))
  · skip
    conv => whnf
    repeat' (first
      | (refine And.intro (by omega) ?_; conv => whnf)
      | (refine And.intro rfl ?_; conv => whnf)
      | (refine And.intro (Nat.le_of_ble_eq_true rfl) ?_; conv => whnf)
      | (refine And.intro (fun i hi => ⟨_, rfl⟩) ?_; conv => whnf)
      | (refine ⟨_, _, _, .gen [900] _ _ _ rfl (q6) rfl rfl rfl rfl rfl, ?_⟩; conv => whnf)
      | (refine ⟨_, _, _, .gen [900] _ _ _ rfl (ACall.arg ?harg (q6)) rfl rfl rfl rfl rfl, ?_⟩; (case harg => (repeat' (first | exact trivial | exact rfl | exact fun _ _ => rfl | apply And.intro | (intro i hi; rcases i with _ | _ | i <;> first | rfl | (exfalso; omega) | (simp at hi; done) | (simp at hi; omega)) | exact fun _ _ => by simp))); (conv => whnf))
      | (refine And.intro (fun hq => ?_) (fun hq => ?_) <;> (first | (exfalso; simp at hq; done) | (exfalso; simp at *; omega) | (exfalso; simp_all; done) | (conv => whnf)))
      | (refine And.intro (by first | (show _ * 1 ≤ 140737488355328; omega) | (show _ * 8 ≤ 140737488355328; omega) | (show _ * 24 ≤ 140737488355328; omega) | (show _ * 16 ≤ 140737488355328; omega) | (show _ * 32 ≤ 140737488355328; omega) | (show _ * 120 ≤ 140737488355328; omega) | (show _ * 280 ≤ 140737488355328; omega) | (show _ * 72 ≤ 140737488355328; omega) | (show _ * 48 ≤ 140737488355328; omega)) ?_; conv => whnf)
      | (refine And.intro (by simp at *; omega) ?_; conv => whnf)
      | fail)
    refine ⟨3, by omega, by dsimp only; omega, ?_⟩
    refine ⟨[], ?_⟩
    conv => whnf
    refine ⟨rfl, ?_, ?_⟩ <;> (repeat' (first | exact trivial | exact rfl | exact fun _ _ => rfl | apply And.intro | (intro i hi; rcases i with _ | _ | i <;> first | rfl | (exfalso; omega) | (simp at hi; done) | (simp at hi; omega)) | exact fun _ _ => by simp))
  · skip
    conv => whnf
    repeat' (first
      | (refine And.intro (by omega) ?_; conv => whnf)
      | (refine And.intro rfl ?_; conv => whnf)
      | (refine And.intro (Nat.le_of_ble_eq_true rfl) ?_; conv => whnf)
      | (refine And.intro (fun i hi => ⟨_, rfl⟩) ?_; conv => whnf)
      | (refine And.intro (fun hq => ?_) (fun hq => ?_) <;> (first | (exfalso; simp at hq; done) | (exfalso; simp at *; omega) | (exfalso; simp_all; done) | (conv => whnf)))
      | (refine And.intro (by first | (show _ * 1 ≤ 140737488355328; omega) | (show _ * 8 ≤ 140737488355328; omega) | (show _ * 24 ≤ 140737488355328; omega) | (show _ * 16 ≤ 140737488355328; omega) | (show _ * 32 ≤ 140737488355328; omega) | (show _ * 120 ≤ 140737488355328; omega) | (show _ * 280 ≤ 140737488355328; omega) | (show _ * 72 ≤ 140737488355328; omega) | (show _ * 48 ≤ 140737488355328; omega)) ?_; conv => whnf)
      | (refine And.intro (by simp at *; omega) ?_; conv => whnf)
      | fail)
    all_goals first | exact trivial | exact ⟨rfl, by (repeat' (first | exact trivial | exact rfl | exact fun _ _ => rfl | apply And.intro | (intro i hi; rcases i with _ | _ | i <;> first | rfl | (exfalso; omega) | (simp at hi; done) | (simp at hi; omega)) | exact fun _ _ => by simp)), trivial⟩ | exact ⟨by (repeat' (first | exact trivial | exact rfl | exact fun _ _ => rfl | apply And.intro | (intro i hi; rcases i with _ | _ | i <;> first | rfl | (exfalso; omega) | (simp at hi; done) | (simp at hi; omega)) | exact fun _ _ => by simp)), trivial⟩ | exact ⟨by (repeat' (first | exact trivial | exact rfl | exact fun _ _ => rfl | apply And.intro | (intro i hi; rcases i with _ | _ | i <;> first | rfl | (exfalso; omega) | (simp at hi; done) | (simp at hi; omega)) | exact fun _ _ => by simp)), by (repeat' (first | exact trivial | exact rfl | exact fun _ _ => rfl | apply And.intro | (intro i hi; rcases i with _ | _ | i <;> first | rfl | (exfalso; omega) | (simp at hi; done) | (simp at hi; omega)) | exact fun _ _ => by simp))⟩ | exact ⟨rfl, by (repeat' (first | exact trivial | exact rfl | exact fun _ _ => rfl | apply And.intro | (intro i hi; rcases i with _ | _ | i <;> first | rfl | (exfalso; omega) | (simp at hi; done) | (simp at hi; omega)) | exact fun _ _ => by simp)), by (repeat' (first | exact trivial | exact rfl | exact fun _ _ => rfl | apply And.intro | (intro i hi; rcases i with _ | _ | i <;> first | rfl | (exfalso; omega) | (simp at hi; done) | (simp at hi; omega)) | exact fun _ _ => by simp))⟩
  · omega
theorem creadkid (o : Nat) (l : List Nat) (e : Int) (hB : Pl.IsB l) : ACall Try.prog 189 [.ptr o 0 0 0] (rdH o l e) (agD (kidL (Pl.rKid 8 l e).1)) (rdH o (Pl.rKid 8 l e).2.1 (Pl.rKid 8 l e).2.2) := by
    obtain ⟨σ, τ, hστ, e1⟩ := names1 900 o
    have q := (creadkid9 l e hB).ren (σ := σ) (τ := τ) (δ := fun _ => 0) hστ (by intros; rfl)
    simp only [mapC, mapA_agD] at q
    simpa [mapC, mapA, mapA1, rnA, rnH, rnO, rdH, e1] using q
/-- bytes as a text -/
def bsL (t : List Nat) : ByteArray := strD t.length (byF t)
theorem bsL_eq (t : List Nat) : bsL t = ⟨(t.map fun n => UInt8.ofNat n).toArray⟩ := by
  unfold bsL strD strOfNums
  congr 2
  apply List.ext_getElem?
  intro i
  simp only [List.getElem?_map]
  rcases Nat.lt_or_ge i t.length with h | h
  · rw [List.getElem?_range h, List.getElem?_eq_getElem h]
    simp [byF, byteI, List.getD_eq_getElem?_getD, List.getElem?_eq_getElem h]
  · rw [List.getElem?_eq_none (by simpa using h), List.getElem?_eq_none h]; rfl
theorem nb_bsL (t : List Nat) (h : Pl.IsB t) : Pl.nb (bsL t) = t := by
  rw [bsL_eq]
  unfold Pl.nb
  simp only [List.map_map]
  apply List.ext_getElem?
  intro i
  rw [List.getElem?_map]
  rcases Nat.lt_or_ge i t.length with q | q
  · rw [List.getElem?_eq_getElem q]
    have := h i
    rw [List.getD_eq_getElem?_getD, List.getElem?_eq_getElem q] at this
    simp at this ⊢
    exact this
  · rw [List.getElem?_eq_none q]; rfl
theorem bsL_nb (s : ByteArray) : bsL (Pl.nb s) = s := by
  rw [bsL_eq]
  unfold Pl.nb
  rw [List.map_map]
  have : (UInt8.ofNat ∘ UInt8.toNat) = id := by funext x; simp
  rw [this, List.map_id]
def rCols : Nat → List Nat → Int → List ByteArray × List Nat × Int
  | 0, l, e => ([], l, e)
  | k + 1, l, e => ((rCols k l e).1 ++ [bsL (Pl.rText 16 (rCols k l e).2.1 (rCols k l e).2.2).1], (Pl.rText 16 (rCols k l e).2.1 (rCols k l e).2.2).2)
def rTab (l : List Nat) (e : Int) : TableD × List Nat × Int :=
  let s := Pl.rText 16 l e
  let n := min (Pl.rByte s.2.1 s.2.2) 8
  let s1 := (Pl.rTake 1 s.2.1 s.2.2).2
  let c := rCols n s1.1 s1.2
  let a := Pl.rKid 8 c.2.1 c.2.2
  let b := Pl.rKid 8 a.2.1 a.2.2
  (⟨bsL s.1, c.1, a.1, b.1⟩, b.2)
theorem text_suf (k : Nat) (l : List Nat) (e : Int) : Pl.Suf (Pl.rText k l e).2.1 l := (Pl.take_suf _ _ _).trans (Pl.count_suf k l e)
theorem cols_suf (l : List Nat) (e : Int) : ∀ k, Pl.Suf (rCols k l e).2.1 l
  | 0 => Pl.Suf.refl l
  | k + 1 => (text_suf 16 _ _).trans (cols_suf l e k)
theorem rCols_len (l : List Nat) (e : Int) : ∀ k, (rCols k l e).1.length = k
  | 0 => rfl
  | k + 1 => by simp [rCols, rCols_len l e k]
def sF (l : List ByteArray) (i : Nat) : List DV := [.v (.string (l.getD i default))]
theorem app_sF1 (r : List ByteArray) (x : ByteArray) : ∀ k, k < r.length + 1 → app r.length (sF r) (chop 1 [.v (.string x)]) k = sF (r ++ [x]) k := fun k hk => by
  rcases Nat.lt_or_ge k r.length with h | h
  · rw [app_lt h]; simp [sF, List.getD_eq_getElem?_getD, List.getElem?_append_left h]
  · obtain rfl : k = r.length := by omega
    rw [app_ge h]; simp [sF, chop, List.getD_eq_getElem?_getD]
theorem creadtab9 (l : List Nat) (e : Int) (hB : Pl.IsB l) : ACall Try.prog 119 [.ptr 900 0 0 0] (rdH 900 l e) (agD (tableL (rTab l e).1)) (rdH 900 (rTab l e).2.1 (rTab l e).2.2) := by
  unfold rTab
  simp only []
  have q1 := rtext 900 16 l e hB
  have b1 : Pl.IsB (Pl.rText 16 l e).2.1 := (text_suf 16 l e).isB hB
  generalize Pl.rText 16 l e = c1 at q1 b1 ⊢
  obtain ⟨t1, l1, e1⟩ := c1
  simp only [] at q1 b1 ⊢
  have q2 := rbyte 900 l1 e1
  have b2 : Pl.IsB (Pl.rTake 1 l1 e1).2.1 := (Pl.take_suf 1 l1 e1).isB b1
  have hx := Pl.rByte_lt l1 e1 b1
  generalize Pl.rByte l1 e1 = x at q2 hx ⊢
  generalize (Pl.rTake 1 l1 e1).2 = c2 at q2 b2 ⊢
  obtain ⟨l2, e2⟩ := c2
  simp only [] at q2 b2 ⊢
  obtain ⟨n, hn⟩ : ∃ n, n = min x 8 := ⟨_, rfl⟩
  rw [← hn]
  have hmin : (if (8 : Int) < (x : Int) then (8 : Int) else (x : Int)) = (n : Int) := by split <;> omega
  refine acall_on (mu := []) [(6, [.lay 50])] [] mixed Try.func119 rfl rfl rfl ?_
  conv => whnf
  repeat' (first
    | (refine And.intro (by omega) ?_; conv => whnf)
    | (refine And.intro rfl ?_; conv => whnf)
    | (refine And.intro (Nat.le_of_ble_eq_true rfl) ?_; conv => whnf)
    | (refine And.intro (fun i hi => ⟨_, rfl⟩) ?_; conv => whnf)
    | (refine ⟨_, _, _, .gen [900] _ _ _ rfl (q1) rfl rfl rfl rfl rfl, ?_⟩; conv => whnf)
    | (refine ⟨_, _, _, .gen [900] _ _ _ rfl (q2) rfl rfl rfl rfl rfl, ?_⟩; conv => whnf)
    | (refine ⟨_, _, _, .gen [900] _ _ _ rfl (ACall.arg ?harg (q1)) rfl rfl rfl rfl rfl, ?_⟩; (case harg => (repeat' (first | exact trivial | exact rfl | exact fun _ _ => rfl | apply And.intro | (intro i hi; rcases i with _ | _ | i <;> first | rfl | (exfalso; omega) | (simp at hi; done) | (simp at hi; omega)) | exact fun _ _ => by simp))); (conv => whnf))
    | (refine ⟨_, _, _, .gen [900] _ _ _ rfl (ACall.arg ?harg (q2)) rfl rfl rfl rfl rfl, ?_⟩; (case harg => (repeat' (first | exact trivial | exact rfl | exact fun _ _ => rfl | apply And.intro | (intro i hi; rcases i with _ | _ | i <;> first | rfl | (exfalso; omega) | (simp at hi; done) | (simp at hi; omega)) | exact fun _ _ => by simp))); (conv => whnf))
    | (refine And.intro (fun hq => ?_) (fun hq => ?_) <;> (first | (exfalso; simp at hq; done) | (exfalso; simp at *; omega) | (exfalso; simp_all; done) | (conv => whnf)))
    | (refine And.intro (by first | (show _ * 1 ≤ 140737488355328; omega) | (show _ * 8 ≤ 140737488355328; omega) | (show _ * 24 ≤ 140737488355328; omega) | (show _ * 16 ≤ 140737488355328; omega) | (show _ * 32 ≤ 140737488355328; omega) | (show _ * 120 ≤ 140737488355328; omega) | (show _ * 280 ≤ 140737488355328; omega) | (show _ * 72 ≤ 140737488355328; omega) | (show _ * 48 ≤ 140737488355328; omega)) ?_; conv => whnf)
    | (refine And.intro (by simp at *; omega) ?_; conv => whnf)
    | fail)
  rw [hmin]
  refine ⟨[.virtC 3 1 50 9 1, .tell 50 (sF [])], ?_⟩
  conv => whnf
  refine ⟨Nat, fun j => j ≤ n, fun j => n - j, fun j => [(12, exI .i64 j)], fun j => (3, .box 60 ([exS (bsL t1), .own 50 0] ++ (kidL kid0).map .d ++ (kidL kid0).map .d)) :: (50, .row 9 1 0 false (rCols j l2 e2).1.length (sF (rCols j l2 e2).1)) :: rdH 900 (rCols j l2 e2).2.1 (rCols j l2 e2).2.2, ⟨0, by omega, ?_⟩, ?_⟩
  · skip
    refine ⟨[], ?_⟩
    conv => whnf
    refine ⟨rfl, ?_, ?_⟩ <;> (repeat' (first | exact trivial | exact rfl | exact fun _ _ => rfl | apply And.intro | (intro i hi; rcases i with _ | _ | i <;> first | rfl | (exfalso; omega) | (simp at hi; done) | (simp at hi; omega)) | exact fun _ _ => by simp))
  intro j hj
  conv => whnf
  rcases Nat.lt_or_ge j n with hlt | hge
  · have q := rtext 900 16 (rCols j l2 e2).2.1 (rCols j l2 e2).2.2 ((cols_suf l2 e2 j).isB b2)
    have hs : rCols (j + 1) l2 e2 = ((rCols j l2 e2).1 ++ [bsL (Pl.rText 16 (rCols j l2 e2).2.1 (rCols j l2 e2).2.2).1], (Pl.rText 16 (rCols j l2 e2).2.1 (rCols j l2 e2).2.2).2) := rfl
    have hlen := rCols_len l2 e2 j
    generalize rCols j l2 e2 = S at q hs hlen ⊢
    obtain ⟨r, m1, y1⟩ := S
    simp only [] at q hs hlen ⊢
    generalize Pl.rText 16 m1 y1 = U at q hs
    obtain ⟨t2, m2, y2⟩ := U
    simp only [] at q hs
    conv => whnf
    repeat' (first
      | (refine And.intro (by omega) ?_; conv => whnf)
      | (refine And.intro rfl ?_; conv => whnf)
      | (refine And.intro (Nat.le_of_ble_eq_true rfl) ?_; conv => whnf)
      | (refine And.intro (fun i hi => ⟨_, rfl⟩) ?_; conv => whnf)
      | (refine ⟨_, _, _, .gen [900] _ _ _ rfl (q) rfl rfl rfl rfl rfl, ?_⟩; conv => whnf)
      | (refine ⟨_, _, _, .gen [900] _ _ _ rfl (ACall.arg ?harg (q)) rfl rfl rfl rfl rfl, ?_⟩; (case harg => (repeat' (first | exact trivial | exact rfl | exact fun _ _ => rfl | apply And.intro | (intro i hi; rcases i with _ | _ | i <;> first | rfl | (exfalso; omega) | (simp at hi; done) | (simp at hi; omega)) | exact fun _ _ => by simp))); (conv => whnf))
      | (refine And.intro (fun hq => ?_) (fun hq => ?_) <;> (first | (exfalso; simp at hq; done) | (exfalso; simp at *; omega) | (exfalso; simp_all; done) | (conv => whnf)))
      | (refine And.intro (by first | (show _ * 1 ≤ 140737488355328; omega) | (show _ * 8 ≤ 140737488355328; omega) | (show _ * 24 ≤ 140737488355328; omega) | (show _ * 16 ≤ 140737488355328; omega) | (show _ * 32 ≤ 140737488355328; omega) | (show _ * 120 ≤ 140737488355328; omega) | (show _ * 280 ≤ 140737488355328; omega) | (show _ * 72 ≤ 140737488355328; omega) | (show _ * 48 ≤ 140737488355328; omega)) ?_; conv => whnf)
      | (refine And.intro (by simp at *; omega) ?_; conv => whnf)
      | fail)
    refine ⟨j + 1, by omega, by omega, ?_⟩
    rw [hs]
    refine ⟨[.regen 50 0], ?_⟩
    conv => whnf
    refine ⟨rfl, ?_, ?_⟩ <;> (repeat' (first | exact trivial | (exact app_sF1 _ _) | ((simp; done)) | exact rfl | exact fun _ _ => rfl | apply And.intro | (intro i hi; rcases i with _ | _ | i <;> first | rfl | (exfalso; omega) | (simp at hi; done) | (simp at hi; omega)) | exact fun _ _ => by simp))
  · obtain rfl : j = n := by omega
    have hB3 := (cols_suf l2 e2 j).isB b2
    generalize rCols j l2 e2 = S at hB3 ⊢
    obtain ⟨r, m1, y1⟩ := S
    simp only [] at hB3 ⊢
    have q3 := creadkid 900 m1 y1 hB3
    have b4 : Pl.IsB (Pl.rKid 8 m1 y1).2.1 := (Pl.kid_suf 8 m1 y1).isB hB3
    generalize Pl.rKid 8 m1 y1 = c4 at q3 b4 ⊢
    obtain ⟨k1, m2, y2⟩ := c4
    simp only [] at q3 b4 ⊢
    have q4 := creadkid 900 m2 y2 b4
    generalize Pl.rKid 8 m2 y2 = c5 at q4 ⊢
    obtain ⟨k2, m3, y3⟩ := c5
    simp only [] at q4 ⊢
    conv => whnf
    repeat' (first
      | (refine And.intro (by omega) ?_; conv => whnf)
      | (refine And.intro rfl ?_; conv => whnf)
      | (refine And.intro (Nat.le_of_ble_eq_true rfl) ?_; conv => whnf)
      | (refine And.intro (fun i hi => ⟨_, rfl⟩) ?_; conv => whnf)
      | (refine ⟨_, _, _, .gen [900] _ _ _ rfl (q3) rfl rfl rfl rfl rfl, ?_⟩; conv => whnf)
      | (refine ⟨_, _, _, .gen [900] _ _ _ rfl (q4) rfl rfl rfl rfl rfl, ?_⟩; conv => whnf)
      | (refine ⟨_, _, _, .gen [900] _ _ _ rfl (ACall.arg ?harg (q3)) rfl rfl rfl rfl rfl, ?_⟩; (case harg => (repeat' (first | exact trivial | exact rfl | exact fun _ _ => rfl | apply And.intro | (intro i hi; rcases i with _ | _ | i <;> first | rfl | (exfalso; omega) | (simp at hi; done) | (simp at hi; omega)) | exact fun _ _ => by simp))); (conv => whnf))
      | (refine ⟨_, _, _, .gen [900] _ _ _ rfl (ACall.arg ?harg (q4)) rfl rfl rfl rfl rfl, ?_⟩; (case harg => (repeat' (first | exact trivial | exact rfl | exact fun _ _ => rfl | apply And.intro | (intro i hi; rcases i with _ | _ | i <;> first | rfl | (exfalso; omega) | (simp at hi; done) | (simp at hi; omega)) | exact fun _ _ => by simp))); (conv => whnf))
      | (refine And.intro (fun hq => ?_) (fun hq => ?_) <;> (first | (exfalso; simp at hq; done) | (exfalso; simp at *; omega) | (exfalso; simp_all; done) | (conv => whnf)))
      | (refine And.intro (by first | (show _ * 1 ≤ 140737488355328; omega) | (show _ * 8 ≤ 140737488355328; omega) | (show _ * 24 ≤ 140737488355328; omega) | (show _ * 16 ≤ 140737488355328; omega) | (show _ * 32 ≤ 140737488355328; omega) | (show _ * 120 ≤ 140737488355328; omega) | (show _ * 280 ≤ 140737488355328; omega) | (show _ * 72 ≤ 140737488355328; omega) | (show _ * 48 ≤ 140737488355328; omega)) ?_; conv => whnf)
      | (refine And.intro (by simp at *; omega) ?_; conv => whnf)
      | fail)
    all_goals first | exact trivial | exact ⟨rfl, by (repeat' (first | exact trivial | exact rfl | exact fun _ _ => rfl | apply And.intro | (intro i hi; rcases i with _ | _ | i <;> first | rfl | (exfalso; omega) | (simp at hi; done) | (simp at hi; omega)) | exact fun _ _ => by simp)), trivial⟩ | exact ⟨by (repeat' (first | exact trivial | exact rfl | exact fun _ _ => rfl | apply And.intro | (intro i hi; rcases i with _ | _ | i <;> first | rfl | (exfalso; omega) | (simp at hi; done) | (simp at hi; omega)) | exact fun _ _ => by simp)), trivial⟩ | exact ⟨by (repeat' (first | exact trivial | exact rfl | exact fun _ _ => rfl | apply And.intro | (intro i hi; rcases i with _ | _ | i <;> first | rfl | (exfalso; omega) | (simp at hi; done) | (simp at hi; omega)) | exact fun _ _ => by simp)), by (repeat' (first | exact trivial | exact rfl | exact fun _ _ => rfl | apply And.intro | (intro i hi; rcases i with _ | _ | i <;> first | rfl | (exfalso; omega) | (simp at hi; done) | (simp at hi; omega)) | exact fun _ _ => by simp))⟩ | exact ⟨rfl, by (repeat' (first | exact trivial | exact rfl | exact fun _ _ => rfl | apply And.intro | (intro i hi; rcases i with _ | _ | i <;> first | rfl | (exfalso; omega) | (simp at hi; done) | (simp at hi; omega)) | exact fun _ _ => by simp)), by (repeat' (first | exact trivial | exact rfl | exact fun _ _ => rfl | apply And.intro | (intro i hi; rcases i with _ | _ | i <;> first | rfl | (exfalso; omega) | (simp at hi; done) | (simp at hi; omega)) | exact fun _ _ => by simp))⟩
theorem creadtab (o : Nat) (l : List Nat) (e : Int) (hB : Pl.IsB l) : ACall Try.prog 119 [.ptr o 0 0 0] (rdH o l e) (agD (tableL (rTab l e).1)) (rdH o (rTab l e).2.1 (rTab l e).2.2) := by
    obtain ⟨σ, τ, hστ, e1⟩ := names1 900 o
    have q := (creadtab9 l e hB).ren (σ := σ) (τ := τ) (δ := fun _ => 0) hστ (by intros; rfl)
    simp only [mapC, mapA_agD] at q
    simpa [mapC, mapA, mapA1, rnA, rnH, rnO, rdH, e1] using q
end Go.Proofs.Ytgcbodpjidoanaa
