/- catalog.kid, catalog.Encode. -/
import Derived.Test.YtgcbodpjidoanaaGh
import Derived.Test.YtgcbodpjidoanaaHb
set_option linter.unusedVariables false
set_option linter.unusedSimpArgs false
namespace Go.Proofs.Ytgcbodpjidoanaa
open Go.RowKit

set_option maxRecDepth 100000
set_option maxHeartbeats 1000000
def rows3 (k : KidD) : Nat → List Nat
  | 0 => []
  | 1 => Pl.rowB k.lo
  | 2 => Pl.rowB k.lo ++ Pl.rowB k.hi
  | _ => Pl.rowB k.lo ++ Pl.rowB k.hi ++ Pl.rowB k.key
theorem ckid9 (l : List Nat) (k : KidD) (e : Int) (hk : Pl.KidW k 255) (hl : l.length ≤ 1000000) : ACall Try.prog 122 [.ptr 900 0 0 0, agD (kidL k)] (wrH 900 901 0 l e) (.tup []) (wrH 900 901 1 (l ++ Pl.kidB k) e) := by
  obtain ⟨h1, h2, h3, h4, h5, h6⟩ := hk
  have e1 : ((k.live.toNat : Nat) : Int) = k.live := by omega
  have e2 : ((k.size.toNat : Nat) : Int) = k.size := by omega
  have q1 := wdig 900 901 0 (by decide) l k.sum e h1 (by omega)
  have q2 := wcount 900 901 1 (by decide) (l ++ k.sum) k.live.toNat e (by omega) (by simp; omega)
  have q3 := wcount 900 901 2 (by decide) (l ++ k.sum ++ Pl.be3 k.live.toNat) k.size.toNat e (by omega) (by simp [Pl.be3]; omega)
  rw [e1] at q2
  rw [e2] at q3
  have hm : (l ++ k.sum ++ Pl.be3 k.live.toNat ++ Pl.be3 k.size.toNat).length ≤ 1000100 := by simp [Pl.be3]; omega
  have r1 := Pl.rows_len k.lo
  have r2 := Pl.rows_len k.hi
  have hb : ∀ r : List Int, (Pl.rowB r).length = 1 + 8 * r.length := fun r => by unfold Pl.rowB; rw [List.length_append, Pl.rows_len]; rfl
  rw [show l ++ Pl.kidB k = (l ++ k.sum ++ Pl.be3 k.live.toNat ++ Pl.be3 k.size.toNat) ++ rows3 k 3 by simp [Pl.kidB, rows3]]
  refine acall_on (mu := []) [] [] mixed Try.func122 rfl rfl rfl ?_
  conv => whnf
  repeat' (first
    | (refine And.intro (by omega) ?_; conv => whnf)
    | (refine And.intro rfl ?_; conv => whnf)
    | (refine And.intro (Nat.le_of_ble_eq_true rfl) ?_; conv => whnf)
    | (refine And.intro (fun i hi => ⟨_, rfl⟩) ?_; conv => whnf)
    | (refine ⟨_, _, _, .gen [900,901] _ _ _ rfl (q1) rfl rfl rfl rfl rfl, ?_⟩; conv => whnf)
    | (refine ⟨_, _, _, .gen [900,901] _ _ _ rfl (q2) rfl rfl rfl rfl rfl, ?_⟩; conv => whnf)
    | (refine ⟨_, _, _, .gen [900,901] _ _ _ rfl (q3) rfl rfl rfl rfl rfl, ?_⟩; conv => whnf)
    | (refine ⟨_, _, _, .gen [900,901] _ _ _ rfl (ACall.arg ?harg (q1)) rfl rfl rfl rfl rfl, ?_⟩; (case harg => (repeat' (first | exact trivial | exact rfl | exact fun _ _ => rfl | apply And.intro | (intro i hi; rcases i with _ | _ | i <;> first | rfl | (exfalso; omega) | (simp at hi; done) | (simp at hi; omega)) | exact fun _ _ => by simp))); (conv => whnf))
    | (refine ⟨_, _, _, .gen [900,901] _ _ _ rfl (ACall.arg ?harg (q2)) rfl rfl rfl rfl rfl, ?_⟩; (case harg => (repeat' (first | exact trivial | exact rfl | exact fun _ _ => rfl | apply And.intro | (intro i hi; rcases i with _ | _ | i <;> first | rfl | (exfalso; omega) | (simp at hi; done) | (simp at hi; omega)) | exact fun _ _ => by simp))); (conv => whnf))
    | (refine ⟨_, _, _, .gen [900,901] _ _ _ rfl (ACall.arg ?harg (q3)) rfl rfl rfl rfl rfl, ?_⟩; (case harg => (repeat' (first | exact trivial | exact rfl | exact fun _ _ => rfl | apply And.intro | (intro i hi; rcases i with _ | _ | i <;> first | rfl | (exfalso; omega) | (simp at hi; done) | (simp at hi; omega)) | exact fun _ _ => by simp))); (conv => whnf))
    | (refine And.intro (fun hq => ?_) (fun hq => ?_) <;> (first | (exfalso; simp at hq; done) | (exfalso; simp at *; omega) | (exfalso; simp_all; done) | (conv => whnf)))
    | (refine And.intro (by first | (show _ * 1 ≤ 140737488355328; omega) | (show _ * 8 ≤ 140737488355328; omega) | (show _ * 24 ≤ 140737488355328; omega) | (show _ * 16 ≤ 140737488355328; omega) | (show _ * 32 ≤ 140737488355328; omega) | (show _ * 120 ≤ 140737488355328; omega) | (show _ * 280 ≤ 140737488355328; omega) | (show _ * 72 ≤ 140737488355328; omega) | (show _ * 48 ≤ 140737488355328; omega)) ?_; conv => whnf)
    | (refine And.intro (by simp at *; omega) ?_; conv => whnf)
    | fail)
  generalize l ++ k.sum ++ Pl.be3 k.live.toNat ++ Pl.be3 k.size.toNat = m at hm ⊢
  refine ⟨[], ?_⟩
  conv => whnf
  refine ⟨Nat, fun i => i ≤ 3, fun i => 3 - i, fun i => [(28, exI .i64 i)], fun i => wrH 900 901 1 (m ++ rows3 k i) e, ⟨0, by omega, ?_⟩, ?_⟩
  · skip
    refine ⟨[.regen 901 1], ?_⟩
    conv => whnf
    refine ⟨rfl, ?_, ?_⟩ <;> (repeat' (first | exact trivial | ((simp [rows3]; done)) | exact rfl | exact fun _ _ => rfl | apply And.intro | (intro i hi; rcases i with _ | _ | i <;> first | rfl | (exfalso; omega) | (simp at hi; done) | (simp at hi; omega)) | exact fun _ _ => by simp))
  intro i hi
  have w1 := wrow 900 901 1 (by decide) (m ++ rows3 k 0) k.lo e h4.1 h4.2 (by simp [rows3]; omega)
  have w2 := wrow 900 901 1 (by decide) (m ++ rows3 k 1) k.hi e h5.1 h5.2 (by simp [rows3, hb]; omega)
  have w3 := wrow 900 901 1 (by decide) (m ++ rows3 k 2) k.key e h6.1 h6.2 (by simp [rows3, hb]; omega)
  rw [show m ++ rows3 k 0 ++ Pl.rowB k.lo = m ++ rows3 k 1 by simp [rows3]] at w1
  rw [show m ++ rows3 k 1 ++ Pl.rowB k.hi = m ++ rows3 k 2 by simp [rows3]] at w2
  rw [show m ++ rows3 k 2 ++ Pl.rowB k.key = m ++ rows3 k 3 by simp [rows3]] at w3
  rcases i with _ | _ | _ | _ | i
  · skip
    conv => whnf
    repeat' (first
      | (refine And.intro (by omega) ?_; conv => whnf)
      | (refine And.intro rfl ?_; conv => whnf)
      | (refine And.intro (Nat.le_of_ble_eq_true rfl) ?_; conv => whnf)
      | (refine And.intro (fun i hi => ⟨_, rfl⟩) ?_; conv => whnf)
      | (refine ⟨_, _, _, .gen [900,901] _ _ _ rfl (w1) rfl rfl rfl rfl rfl, ?_⟩; conv => whnf)
      | (refine ⟨_, _, _, .gen [900,901] _ _ _ rfl (ACall.arg ?harg (w1)) rfl rfl rfl rfl rfl, ?_⟩; (case harg => (repeat' (first | exact trivial | exact rfl | exact fun _ _ => rfl | apply And.intro | (intro i hi; rcases i with _ | _ | i <;> first | rfl | (exfalso; omega) | (simp at hi; done) | (simp at hi; omega)) | exact fun _ _ => by simp))); (conv => whnf))
      | (refine And.intro (fun hq => ?_) (fun hq => ?_) <;> (first | (exfalso; simp at hq; done) | (exfalso; simp at *; omega) | (exfalso; simp_all; done) | (conv => whnf)))
      | (refine And.intro (by first | (show _ * 1 ≤ 140737488355328; omega) | (show _ * 8 ≤ 140737488355328; omega) | (show _ * 24 ≤ 140737488355328; omega) | (show _ * 16 ≤ 140737488355328; omega) | (show _ * 32 ≤ 140737488355328; omega) | (show _ * 120 ≤ 140737488355328; omega) | (show _ * 280 ≤ 140737488355328; omega) | (show _ * 72 ≤ 140737488355328; omega) | (show _ * 48 ≤ 140737488355328; omega)) ?_; conv => whnf)
      | (refine And.intro (by simp at *; omega) ?_; conv => whnf)
      | fail)
    refine ⟨1, by omega, by dsimp only; omega, ?_⟩
    refine ⟨[.regen 901 1], ?_⟩
    conv => whnf
    refine ⟨rfl, ?_, ?_⟩ <;> (repeat' (first | exact trivial | exact rfl | exact fun _ _ => rfl | apply And.intro | (intro i hi; rcases i with _ | _ | i <;> first | rfl | (exfalso; omega) | (simp at hi; done) | (simp at hi; omega)) | exact fun _ _ => by simp))
  · skip
    conv => whnf
    repeat' (first
      | (refine And.intro (by omega) ?_; conv => whnf)
      | (refine And.intro rfl ?_; conv => whnf)
      | (refine And.intro (Nat.le_of_ble_eq_true rfl) ?_; conv => whnf)
      | (refine And.intro (fun i hi => ⟨_, rfl⟩) ?_; conv => whnf)
      | (refine ⟨_, _, _, .gen [900,901] _ _ _ rfl (w2) rfl rfl rfl rfl rfl, ?_⟩; conv => whnf)
      | (refine ⟨_, _, _, .gen [900,901] _ _ _ rfl (ACall.arg ?harg (w2)) rfl rfl rfl rfl rfl, ?_⟩; (case harg => (repeat' (first | exact trivial | exact rfl | exact fun _ _ => rfl | apply And.intro | (intro i hi; rcases i with _ | _ | i <;> first | rfl | (exfalso; omega) | (simp at hi; done) | (simp at hi; omega)) | exact fun _ _ => by simp))); (conv => whnf))
      | (refine And.intro (fun hq => ?_) (fun hq => ?_) <;> (first | (exfalso; simp at hq; done) | (exfalso; simp at *; omega) | (exfalso; simp_all; done) | (conv => whnf)))
      | (refine And.intro (by first | (show _ * 1 ≤ 140737488355328; omega) | (show _ * 8 ≤ 140737488355328; omega) | (show _ * 24 ≤ 140737488355328; omega) | (show _ * 16 ≤ 140737488355328; omega) | (show _ * 32 ≤ 140737488355328; omega) | (show _ * 120 ≤ 140737488355328; omega) | (show _ * 280 ≤ 140737488355328; omega) | (show _ * 72 ≤ 140737488355328; omega) | (show _ * 48 ≤ 140737488355328; omega)) ?_; conv => whnf)
      | (refine And.intro (by simp at *; omega) ?_; conv => whnf)
      | fail)
    refine ⟨2, by omega, by dsimp only; omega, ?_⟩
    refine ⟨[.regen 901 1], ?_⟩
    conv => whnf
    refine ⟨rfl, ?_, ?_⟩ <;> (repeat' (first | exact trivial | exact rfl | exact fun _ _ => rfl | apply And.intro | (intro i hi; rcases i with _ | _ | i <;> first | rfl | (exfalso; omega) | (simp at hi; done) | (simp at hi; omega)) | exact fun _ _ => by simp))
  · skip
    conv => whnf
    repeat' (first
      | (refine And.intro (by omega) ?_; conv => whnf)
      | (refine And.intro rfl ?_; conv => whnf)
      | (refine And.intro (Nat.le_of_ble_eq_true rfl) ?_; conv => whnf)
      | (refine And.intro (fun i hi => ⟨_, rfl⟩) ?_; conv => whnf)
      | (refine ⟨_, _, _, .gen [900,901] _ _ _ rfl (w3) rfl rfl rfl rfl rfl, ?_⟩; conv => whnf)
      | (refine ⟨_, _, _, .gen [900,901] _ _ _ rfl (ACall.arg ?harg (w3)) rfl rfl rfl rfl rfl, ?_⟩; (case harg => (repeat' (first | exact trivial | exact rfl | exact fun _ _ => rfl | apply And.intro | (intro i hi; rcases i with _ | _ | i <;> first | rfl | (exfalso; omega) | (simp at hi; done) | (simp at hi; omega)) | exact fun _ _ => by simp))); (conv => whnf))
      | (refine And.intro (fun hq => ?_) (fun hq => ?_) <;> (first | (exfalso; simp at hq; done) | (exfalso; simp at *; omega) | (exfalso; simp_all; done) | (conv => whnf)))
      | (refine And.intro (by first | (show _ * 1 ≤ 140737488355328; omega) | (show _ * 8 ≤ 140737488355328; omega) | (show _ * 24 ≤ 140737488355328; omega) | (show _ * 16 ≤ 140737488355328; omega) | (show _ * 32 ≤ 140737488355328; omega) | (show _ * 120 ≤ 140737488355328; omega) | (show _ * 280 ≤ 140737488355328; omega) | (show _ * 72 ≤ 140737488355328; omega) | (show _ * 48 ≤ 140737488355328; omega)) ?_; conv => whnf)
      | (refine And.intro (by simp at *; omega) ?_; conv => whnf)
      | fail)
    refine ⟨3, by omega, by dsimp only; omega, ?_⟩
    refine ⟨[.regen 901 1], ?_⟩
    conv => whnf
    refine ⟨rfl, ?_, ?_⟩ <;> (repeat' (first | exact trivial | exact rfl | exact fun _ _ => rfl | apply And.intro | (intro i hi; rcases i with _ | _ | i <;> first | rfl | (exfalso; omega) | (simp at hi; done) | (simp at hi; omega)) | exact fun _ _ => by simp))
  · skip
    conv => whnf
    repeat' (first
      | (refine And.intro (by omega) ?_; conv => whnf)
      | (refine And.intro rfl ?_; conv => whnf)
      | (refine And.intro (Nat.le_of_ble_eq_true rfl) ?_; conv => whnf)
      | (refine And.intro (fun i hi => ⟨_, rfl⟩) ?_; conv => whnf)
      | (refine And.intro (fun hq => ?_) (fun hq => ?_) <;> (first | (exfalso; simp at hq; done) | (exfalso; simp at *; omega) | (exfalso; simp_all; done) | (conv => whnf)))
      | (refine And.intro (by first | (show _ * 1 ≤ 140737488355328; omega) | (show _ * 8 ≤ 140737488355328; omega) | (show _ * 24 ≤ 140737488355328; omega) | (show _ * 16 ≤ 140737488355328; omega) | (show _ * 32 ≤ 140737488355328; omega) | (show _ * 120 ≤ 140737488355328; omega) | (show _ * 280 ≤ 140737488355328; omega) | (show _ * 72 ≤ 140737488355328; omega) | (show _ * 48 ≤ 140737488355328; omega)) ?_; conv => whnf)
      | (refine And.intro (by simp at *; omega) ?_; conv => whnf)
      | fail)
    all_goals first | exact trivial | exact ⟨rfl, by (repeat' (first | exact trivial | exact rfl | exact fun _ _ => rfl | apply And.intro | (intro i hi; rcases i with _ | _ | i <;> first | rfl | (exfalso; omega) | (simp at hi; done) | (simp at hi; omega)) | exact fun _ _ => by simp)), trivial⟩ | exact ⟨by (repeat' (first | exact trivial | exact rfl | exact fun _ _ => rfl | apply And.intro | (intro i hi; rcases i with _ | _ | i <;> first | rfl | (exfalso; omega) | (simp at hi; done) | (simp at hi; omega)) | exact fun _ _ => by simp)), trivial⟩ | exact ⟨by (repeat' (first | exact trivial | exact rfl | exact fun _ _ => rfl | apply And.intro | (intro i hi; rcases i with _ | _ | i <;> first | rfl | (exfalso; omega) | (simp at hi; done) | (simp at hi; omega)) | exact fun _ _ => by simp)), by (repeat' (first | exact trivial | exact rfl | exact fun _ _ => rfl | apply And.intro | (intro i hi; rcases i with _ | _ | i <;> first | rfl | (exfalso; omega) | (simp at hi; done) | (simp at hi; omega)) | exact fun _ _ => by simp))⟩ | exact ⟨rfl, by (repeat' (first | exact trivial | exact rfl | exact fun _ _ => rfl | apply And.intro | (intro i hi; rcases i with _ | _ | i <;> first | rfl | (exfalso; omega) | (simp at hi; done) | (simp at hi; omega)) | exact fun _ _ => by simp)), by (repeat' (first | exact trivial | exact rfl | exact fun _ _ => rfl | apply And.intro | (intro i hi; rcases i with _ | _ | i <;> first | rfl | (exfalso; omega) | (simp at hi; done) | (simp at hi; omega)) | exact fun _ _ => by simp))⟩
  · omega
theorem ckid (o k g : Nat) (hok : o ≠ k) (l : List Nat) (x : KidD) (e : Int) (hk : Pl.KidW x 255) (hl : l.length ≤ 1000000) : ACall Try.prog 122 [.ptr o 0 0 0, agD (kidL x)] (wrH o k g l e) (.tup []) (wrH o k (1 + g) (l ++ Pl.kidB x) e) := by
    obtain ⟨σ, τ, hστ, e1, e2⟩ := names2 (a1 := 900) (a2 := 901) (b1 := o) (b2 := k) (by decide) hok
    have q := (ckid9 l x e hk hl).ren (σ := σ) (τ := τ) (δ := fun x => if x = 901 then g else 0) hστ (by
      intro x ty cs hx
      by_cases ex : x = 901
      · subst ex; rcases hx with hx | hx <;> simp [wrH, look] at hx
      · simp [ex])
    simp only [mapC, mapA_agD] at q
    simpa [mapC, mapA, mapA1, rnA, rnH, rnO, wrH, e1, e2] using q
def tabB (t : TableD) : List Nat := Pl.textB (Pl.nb t.name) ++ [t.cols.length] ++ (t.cols.map fun s => Pl.textB (Pl.nb s)).flatten ++ Pl.kidB t.kd ++ Pl.kidB t.zb
def catB (l : List TableD) : List Nat := [l.length] ++ (l.map tabB).flatten
structure TabW (t : TableD) : Prop where
  name : t.name.size ≤ 16
  cols : t.cols.length ≤ 8
  col : ∀ i, (t.cols.getD i default).size ≤ 16
  kd : Pl.KidW t.kd 255
  zb : Pl.KidW t.zb 255
theorem kidB_len (k : KidD) (h : Pl.KidW k 255) : (Pl.kidB k).length ≤ 7000 := by
  have hb : ∀ r : List Int, (Pl.rowB r).length = 1 + 8 * r.length := fun r => by unfold Pl.rowB; rw [List.length_append, Pl.rows_len]; rfl
  have := h.s
  have := h.lo.1
  have := h.hi.1
  have := h.key.1
  simp only [Pl.kidB, List.length_append, hb, Pl.be3, List.length_cons, List.length_nil]
  omega
theorem nb_getD0 (s : ByteArray) (k : Nat) : (Pl.nb s).getD k 0 = (s.data.toList.getD k 0).toNat := by
  unfold Pl.nb
  rw [List.getD_eq_getElem?_getD, List.getElem?_map, List.getD_eq_getElem?_getD]
  cases s.data.toList[k]? <;> rfl
theorem str_byF (s : ByteArray) (k : Nat) : strF s k = byF (Pl.nb s) k := by unfold strF byF; rw [nb_getD0]
theorem textB_len (m : List Nat) : (Pl.textB m).length = 3 + m.length := by simp [Pl.textB, Pl.be3]; omega
def colsB (l : List ByteArray) (j : Nat) : List Nat := ((l.take j).map fun s => Pl.textB (Pl.nb s)).flatten
theorem colsB_succ (l : List ByteArray) (j : Nat) (h : j < l.length) : colsB l j ++ Pl.textB (Pl.nb (l.getD j default)) = colsB l (j + 1) := by
  unfold colsB
  rw [← take_one l default j h]; simp
theorem colsB_len (l : List ByteArray) (hl : ∀ i, (l.getD i default).size ≤ 16) : ∀ j, (colsB l j).length ≤ 19 * j
  | 0 => by simp [colsB]
  | j + 1 => by
    rcases Nat.lt_or_ge j l.length with h | h
    · rw [← colsB_succ l j h, List.length_append, textB_len, Pl.nb_len]
      have := colsB_len l hl j
      have := hl j
      omega
    · have e : colsB l (j + 1) = colsB l j := by unfold colsB; rw [List.take_of_length_le (by omega), List.take_of_length_le h]
      have := colsB_len l hl j
      rw [e]; omega
def tabsB (l : List TableD) (i : Nat) : List Nat := [l.length] ++ ((l.take i).map tabB).flatten
theorem tabsB_succ (l : List TableD) (i : Nat) (h : i < l.length) : tabsB l i ++ tabB (l.getD i default) = tabsB l (i + 1) := by
  unfold tabsB
  rw [← take_one l default i h]; simp
theorem tabB_len (t : TableD) (h : TabW t) : (tabB t).length ≤ 15000 := by
  have h1 := colsB_len t.cols h.col t.cols.length
  have h2 : colsB t.cols t.cols.length = (t.cols.map fun s => Pl.textB (Pl.nb s)).flatten := by unfold colsB; rw [List.take_length]
  rw [h2] at h1
  have := kidB_len t.kd h.kd
  have := kidB_len t.zb h.zb
  have := h.name
  have := h.cols
  simp only [tabB, List.length_append, textB_len, Pl.nb_len, List.length_cons, List.length_nil] at *
  omega
theorem tabsB_len (l : List TableD) (h : ∀ i, i < l.length → TabW (l.getD i default)) : ∀ i, i ≤ l.length → (tabsB l i).length ≤ 1 + 15000 * i
  | 0, _ => by simp [tabsB]
  | i + 1, hi => by
    rw [← tabsB_succ l i (by omega), List.length_append]
    have := tabsB_len l h i (by omega)
    have := tabB_len _ (h i (by omega))
    omega
theorem cencode_ok (l : List TableD) (hr : tabsR l = true) (hl : l.length ≤ 1000) (hs : ∀ i, (l.getD i default).small) (hw : ∀ i, i < l.length → TabW (l.getD i default)) : ACall Try.prog 47 [.d (tablesL l)] [] (.tup [.d (byteL (catB l)), exI .i64 0]) [] := by
  have h8 : l.length ≤ 8 := by
    simp only [tabsR, Bool.and_eq_true, decide_eq_true_eq] at hr
    exact hr.2
  have hR := cright_ok l hl hs
  rw [hr] at hR
  have q0 := wbyte 13 901 0 (by decide) [] l.length 0 (by simp)
  have hb : IntKind.u8.wrap (l.length : Int) = ((l.length : Nat) : Int) := by rw [wrap8]; omega
  refine acall_on (mu := [13]) [(4, [.virtC 13 0 901 5 1, .tell 901 (byF [])])] [] mixed Try.func47 rfl rfl rfl ?_
  conv => whnf
  repeat' (first
    | (refine And.intro (by omega) ?_; conv => whnf)
    | (refine And.intro rfl ?_; conv => whnf)
    | (refine And.intro (Nat.le_of_ble_eq_true rfl) ?_; conv => whnf)
    | (refine And.intro (fun i hi => ⟨_, rfl⟩) ?_; conv => whnf)
    | (refine ⟨_, _, _, .flat _ _ rfl (hR) rfl, ?_⟩; conv => whnf)
    | (refine ⟨_, _, _, .gen [13,901] _ _ _ rfl (q0) rfl rfl rfl rfl rfl, ?_⟩; conv => whnf)
    | (refine ⟨_, _, _, .flat _ _ rfl (ACall.arg ?harg (hR)) rfl, ?_⟩; (case harg => (repeat' (first | exact trivial | (exact congrArg (Value.int .u8) hb) | exact rfl | exact fun _ _ => rfl | apply And.intro | (intro i hi; rcases i with _ | _ | i <;> first | rfl | (exfalso; omega) | (simp at hi; done) | (simp at hi; omega)) | exact fun _ _ => by simp))); (conv => whnf))
    | (refine ⟨_, _, _, .gen [13,901] _ _ _ rfl (ACall.arg ?harg (q0)) rfl rfl rfl rfl rfl, ?_⟩; (case harg => (repeat' (first | exact trivial | (exact congrArg (Value.int .u8) hb) | exact rfl | exact fun _ _ => rfl | apply And.intro | (intro i hi; rcases i with _ | _ | i <;> first | rfl | (exfalso; omega) | (simp at hi; done) | (simp at hi; omega)) | exact fun _ _ => by simp))); (conv => whnf))
    | (refine And.intro (fun hq => ?_) (fun hq => ?_) <;> (first | (exfalso; simp at hq; done) | (exfalso; simp at *; omega) | (exfalso; simp_all; done) | (conv => whnf)))
    | (refine And.intro (by first | (show _ * 1 ≤ 140737488355328; omega) | (show _ * 8 ≤ 140737488355328; omega) | (show _ * 24 ≤ 140737488355328; omega) | (show _ * 16 ≤ 140737488355328; omega) | (show _ * 32 ≤ 140737488355328; omega) | (show _ * 120 ≤ 140737488355328; omega) | (show _ * 280 ≤ 140737488355328; omega) | (show _ * 72 ≤ 140737488355328; omega) | (show _ * 48 ≤ 140737488355328; omega)) ?_; conv => whnf)
    | (refine And.intro (by simp at *; omega) ?_; conv => whnf)
    | fail)
  refine ⟨[], ?_⟩
  conv => whnf
  refine ⟨Nat, fun i => i ≤ l.length, fun i => l.length - i, fun i => [(21, exI .i64 i)], fun i => wrH 13 901 1 (tabsB l i) 0, ⟨0, by omega, ?_⟩, ?_⟩
  · skip
    refine ⟨[], ?_⟩
    conv => whnf
    refine ⟨rfl, ?_, ?_⟩ <;> (repeat' (first | exact trivial | ((simp [tabsB]; done)) | exact rfl | exact fun _ _ => rfl | apply And.intro | (intro i hi; rcases i with _ | _ | i <;> first | rfl | (exfalso; omega) | (simp at hi; done) | (simp at hi; omega)) | exact fun _ _ => by simp))
  intro i hi
  conv => whnf
  have hbl := tabsB_len l hw i hi
  rcases Nat.lt_or_ge i l.length with hlt | hge
  · have hW := hw i hlt
    have hsucc := tabsB_succ l i hlt
    generalize tabsB l i = m at hbl hsucc ⊢
    have hcb := colsB_len (l.getD i default).cols hW.col
    have hbc : IntKind.u8.wrap ((l.getD i default).cols.length : Int) = (((l.getD i default).cols.length : Nat) : Int) := by rw [wrap8]; have := hW.cols; omega
    have hnl : (Pl.nb (l.getD i default).name).length = (l.getD i default).name.size := Pl.nb_len _
    have hc7 := hW.cols
    have hn16 := hW.name
    have q1 := wtext 13 901 1 (by decide) m (Pl.nb (l.getD i default).name) 0 (by omega) (by omega)
    have q2 := wbyte 13 901 2 (by decide) (m ++ Pl.textB (Pl.nb (l.getD i default).name)) (l.getD i default).cols.length 0 (by rw [List.length_append, textB_len]; omega)
    conv => whnf
    repeat' (first
      | (refine And.intro (by omega) ?_; conv => whnf)
      | (refine And.intro rfl ?_; conv => whnf)
      | (refine And.intro (Nat.le_of_ble_eq_true rfl) ?_; conv => whnf)
      | (refine And.intro (fun i hi => ⟨_, rfl⟩) ?_; conv => whnf)
      | (refine ⟨_, _, _, .gen [13,901] _ _ _ rfl (q1) rfl rfl rfl rfl rfl, ?_⟩; conv => whnf)
      | (refine ⟨_, _, _, .gen [13,901] _ _ _ rfl (q2) rfl rfl rfl rfl rfl, ?_⟩; conv => whnf)
      | (refine ⟨_, _, _, .gen [13,901] _ _ _ rfl (ACall.arg ?harg (q1)) rfl rfl rfl rfl rfl, ?_⟩; (case harg => (repeat' (first | exact trivial | (exact hnl.symm) | (exact fun k _ => str_byF _ k) | (exact congrArg (Value.int .u8) hbc) | exact rfl | exact fun _ _ => rfl | apply And.intro | (intro i hi; rcases i with _ | _ | i <;> first | rfl | (exfalso; omega) | (simp at hi; done) | (simp at hi; omega)) | exact fun _ _ => by simp))); (conv => whnf))
      | (refine ⟨_, _, _, .gen [13,901] _ _ _ rfl (ACall.arg ?harg (q2)) rfl rfl rfl rfl rfl, ?_⟩; (case harg => (repeat' (first | exact trivial | (exact hnl.symm) | (exact fun k _ => str_byF _ k) | (exact congrArg (Value.int .u8) hbc) | exact rfl | exact fun _ _ => rfl | apply And.intro | (intro i hi; rcases i with _ | _ | i <;> first | rfl | (exfalso; omega) | (simp at hi; done) | (simp at hi; omega)) | exact fun _ _ => by simp))); (conv => whnf))
      | (refine And.intro (fun hq => ?_) (fun hq => ?_) <;> (first | (exfalso; simp at hq; done) | (exfalso; simp at *; omega) | (exfalso; simp_all; done) | (conv => whnf)))
      | (refine And.intro (by first | (show _ * 1 ≤ 140737488355328; omega) | (show _ * 8 ≤ 140737488355328; omega) | (show _ * 24 ≤ 140737488355328; omega) | (show _ * 16 ≤ 140737488355328; omega) | (show _ * 32 ≤ 140737488355328; omega) | (show _ * 120 ≤ 140737488355328; omega) | (show _ * 280 ≤ 140737488355328; omega) | (show _ * 72 ≤ 140737488355328; omega) | (show _ * 48 ≤ 140737488355328; omega)) ?_; conv => whnf)
      | (refine And.intro (by simp at *; omega) ?_; conv => whnf)
      | fail)
    have hm2 : (m ++ Pl.textB (Pl.nb (l.getD i default).name) ++ [(l.getD i default).cols.length]).length ≤ m.length + 30 := by simp only [List.length_append, textB_len, Pl.nb_len, List.length_cons, List.length_nil]; omega
    have hsucc2 : m ++ Pl.textB (Pl.nb (l.getD i default).name) ++ [(l.getD i default).cols.length] ++ colsB (l.getD i default).cols (l.getD i default).cols.length ++ Pl.kidB (l.getD i default).kd ++ Pl.kidB (l.getD i default).zb = tabsB l (i + 1) := by
      rw [← hsucc]
      simp [tabB, colsB]
    generalize m ++ Pl.textB (Pl.nb (l.getD i default).name) ++ [(l.getD i default).cols.length] = m2 at hm2 hsucc2 ⊢
    refine ⟨[], ?_⟩
    conv => whnf
    refine ⟨Nat, fun j => j ≤ (l.getD i default).cols.length, fun j => (l.getD i default).cols.length - j, fun j => [(39, exI .i64 j)], fun j => wrH 13 901 1 (m2 ++ colsB (l.getD i default).cols j) 0, ⟨0, by omega, ?_⟩, ?_⟩
    · skip
      refine ⟨[.regen 901 1], ?_⟩
      conv => whnf
      refine ⟨rfl, ?_, ?_⟩ <;> (repeat' (first | exact trivial | ((simp [colsB]; done)) | exact rfl | exact fun _ _ => rfl | apply And.intro | (intro i hi; rcases i with _ | _ | i <;> first | rfl | (exfalso; omega) | (simp at hi; done) | (simp at hi; omega)) | exact fun _ _ => by simp))
    intro j hj
    have hcj := hcb j
    have hz : j ≤ 8 := by omega
    rcases Nat.lt_or_ge j (l.getD i default).cols.length with hjl | hjl
    · have q3 := wtext 13 901 1 (by decide) (m2 ++ colsB (l.getD i default).cols j) (Pl.nb ((l.getD i default).cols.getD j default)) 0 (by rw [Pl.nb_len]; have := hW.col j; omega) (by rw [List.length_append]; omega)
      rw [List.append_assoc, colsB_succ _ j hjl] at q3
      have hcl : (Pl.nb ((l.getD i default).cols.getD j default)).length = ((l.getD i default).cols.getD j default).size := Pl.nb_len _
      conv => whnf
      repeat' (first
        | (refine And.intro (by omega) ?_; conv => whnf)
        | (refine And.intro rfl ?_; conv => whnf)
        | (refine And.intro (Nat.le_of_ble_eq_true rfl) ?_; conv => whnf)
        | (refine And.intro (fun i hi => ⟨_, rfl⟩) ?_; conv => whnf)
        | (refine ⟨_, _, _, .gen [13,901] _ _ _ rfl (q3) rfl rfl rfl rfl rfl, ?_⟩; conv => whnf)
        | (refine ⟨_, _, _, .gen [13,901] _ _ _ rfl (ACall.arg ?harg (q3)) rfl rfl rfl rfl rfl, ?_⟩; (case harg => (repeat' (first | exact trivial | (exact hcl.symm) | (exact fun k _ => str_byF _ k) | exact rfl | exact fun _ _ => rfl | apply And.intro | (intro i hi; rcases i with _ | _ | i <;> first | rfl | (exfalso; omega) | (simp at hi; done) | (simp at hi; omega)) | exact fun _ _ => by simp))); (conv => whnf))
        | (refine And.intro (fun hq => ?_) (fun hq => ?_) <;> (first | (exfalso; simp at hq; done) | (exfalso; simp at *; omega) | (exfalso; simp_all; done) | (conv => whnf)))
        | (refine And.intro (by first | (show _ * 1 ≤ 140737488355328; omega) | (show _ * 8 ≤ 140737488355328; omega) | (show _ * 24 ≤ 140737488355328; omega) | (show _ * 16 ≤ 140737488355328; omega) | (show _ * 32 ≤ 140737488355328; omega) | (show _ * 120 ≤ 140737488355328; omega) | (show _ * 280 ≤ 140737488355328; omega) | (show _ * 72 ≤ 140737488355328; omega) | (show _ * 48 ≤ 140737488355328; omega)) ?_; conv => whnf)
        | (refine And.intro (by simp at *; omega) ?_; conv => whnf)
        | fail)
      refine ⟨j + 1, by omega, by dsimp only; omega, ?_⟩
      refine ⟨[.regen 901 1], ?_⟩
      conv => whnf
      refine ⟨rfl, ?_, ?_⟩ <;> (repeat' (first | exact trivial | exact rfl | exact fun _ _ => rfl | apply And.intro | (intro i hi; rcases i with _ | _ | i <;> first | rfl | (exfalso; omega) | (simp at hi; done) | (simp at hi; omega)) | exact fun _ _ => by simp))
    · obtain rfl : j = (l.getD i default).cols.length := by omega
      have q4 := ckid 13 901 1 (by decide) (m2 ++ colsB (l.getD i default).cols (l.getD i default).cols.length) (l.getD i default).kd 0 hW.kd (by rw [List.length_append]; omega)
      have hk4 := kidB_len _ hW.kd
      have q5 := ckid 13 901 2 (by decide) (m2 ++ colsB (l.getD i default).cols (l.getD i default).cols.length ++ Pl.kidB (l.getD i default).kd) (l.getD i default).zb 0 hW.zb (by rw [List.length_append, List.length_append]; omega)
      rw [hsucc2] at q5
      conv => whnf
      repeat' (first
        | (refine And.intro (by omega) ?_; conv => whnf)
        | (refine And.intro rfl ?_; conv => whnf)
        | (refine And.intro (Nat.le_of_ble_eq_true rfl) ?_; conv => whnf)
        | (refine And.intro (fun i hi => ⟨_, rfl⟩) ?_; conv => whnf)
        | (refine ⟨_, _, _, .gen [13,901] _ _ _ rfl (q4) rfl rfl rfl rfl rfl, ?_⟩; conv => whnf)
        | (refine ⟨_, _, _, .gen [13,901] _ _ _ rfl (q5) rfl rfl rfl rfl rfl, ?_⟩; conv => whnf)
        | (refine ⟨_, _, _, .gen [13,901] _ _ _ rfl (ACall.arg ?harg (q4)) rfl rfl rfl rfl rfl, ?_⟩; (case harg => (repeat' (first | exact trivial | exact rfl | exact fun _ _ => rfl | apply And.intro | (intro i hi; rcases i with _ | _ | i <;> first | rfl | (exfalso; omega) | (simp at hi; done) | (simp at hi; omega)) | exact fun _ _ => by simp))); (conv => whnf))
        | (refine ⟨_, _, _, .gen [13,901] _ _ _ rfl (ACall.arg ?harg (q5)) rfl rfl rfl rfl rfl, ?_⟩; (case harg => (repeat' (first | exact trivial | exact rfl | exact fun _ _ => rfl | apply And.intro | (intro i hi; rcases i with _ | _ | i <;> first | rfl | (exfalso; omega) | (simp at hi; done) | (simp at hi; omega)) | exact fun _ _ => by simp))); (conv => whnf))
        | (refine And.intro (fun hq => ?_) (fun hq => ?_) <;> (first | (exfalso; simp at hq; done) | (exfalso; simp at *; omega) | (exfalso; simp_all; done) | (conv => whnf)))
        | (refine And.intro (by first | (show _ * 1 ≤ 140737488355328; omega) | (show _ * 8 ≤ 140737488355328; omega) | (show _ * 24 ≤ 140737488355328; omega) | (show _ * 16 ≤ 140737488355328; omega) | (show _ * 32 ≤ 140737488355328; omega) | (show _ * 120 ≤ 140737488355328; omega) | (show _ * 280 ≤ 140737488355328; omega) | (show _ * 72 ≤ 140737488355328; omega) | (show _ * 48 ≤ 140737488355328; omega)) ?_; conv => whnf)
        | (refine And.intro (by simp at *; omega) ?_; conv => whnf)
        | fail)
      refine ⟨i + 1, by omega, by dsimp only; omega, ?_⟩
      refine ⟨[.regen 901 1], ?_⟩
      conv => whnf
      refine ⟨rfl, ?_, ?_⟩ <;> (repeat' (first | exact trivial | exact rfl | exact fun _ _ => rfl | apply And.intro | (intro i hi; rcases i with _ | _ | i <;> first | rfl | (exfalso; omega) | (simp at hi; done) | (simp at hi; omega)) | exact fun _ _ => by simp))
  · obtain rfl : i = l.length := by omega
    rw [show catB l = tabsB l l.length by unfold catB tabsB; rw [List.take_length]]
    have h0 : 0 < (tabsB l l.length).length := by simp [tabsB]
    generalize tabsB l l.length = m at hbl h0 ⊢
    have q6 := wbytes 13 901 1 (by decide) m h0 (by omega)
    have q7 := werr 13 901 1 (by decide) m 0
    conv => whnf
    repeat' (first
      | (refine And.intro (by omega) ?_; conv => whnf)
      | (refine And.intro rfl ?_; conv => whnf)
      | (refine And.intro (Nat.le_of_ble_eq_true rfl) ?_; conv => whnf)
      | (refine And.intro (fun i hi => ⟨_, rfl⟩) ?_; conv => whnf)
      | (refine ⟨_, _, _, .gen [13,901] _ _ _ rfl (q6) rfl rfl rfl rfl rfl, ?_⟩; conv => whnf)
      | (refine ⟨_, _, _, .gen [13,901] _ _ _ rfl (q7) rfl rfl rfl rfl rfl, ?_⟩; conv => whnf)
      | (refine ⟨_, _, _, .gen [13,901] _ _ _ rfl (ACall.arg ?harg (q6)) rfl rfl rfl rfl rfl, ?_⟩; (case harg => (repeat' (first | exact trivial | exact rfl | exact fun _ _ => rfl | apply And.intro | (intro i hi; rcases i with _ | _ | i <;> first | rfl | (exfalso; omega) | (simp at hi; done) | (simp at hi; omega)) | exact fun _ _ => by simp))); (conv => whnf))
      | (refine ⟨_, _, _, .gen [13,901] _ _ _ rfl (ACall.arg ?harg (q7)) rfl rfl rfl rfl rfl, ?_⟩; (case harg => (repeat' (first | exact trivial | exact rfl | exact fun _ _ => rfl | apply And.intro | (intro i hi; rcases i with _ | _ | i <;> first | rfl | (exfalso; omega) | (simp at hi; done) | (simp at hi; omega)) | exact fun _ _ => by simp))); (conv => whnf))
      | (refine And.intro (fun hq => ?_) (fun hq => ?_) <;> (first | (exfalso; simp at hq; done) | (exfalso; simp at *; omega) | (exfalso; simp_all; done) | (conv => whnf)))
      | (refine And.intro (by first | (show _ * 1 ≤ 140737488355328; omega) | (show _ * 8 ≤ 140737488355328; omega) | (show _ * 24 ≤ 140737488355328; omega) | (show _ * 16 ≤ 140737488355328; omega) | (show _ * 32 ≤ 140737488355328; omega) | (show _ * 120 ≤ 140737488355328; omega) | (show _ * 280 ≤ 140737488355328; omega) | (show _ * 72 ≤ 140737488355328; omega) | (show _ * 48 ≤ 140737488355328; omega)) ?_; conv => whnf)
      | (refine And.intro (by simp at *; omega) ?_; conv => whnf)
      | fail)
    all_goals first | exact trivial | exact ⟨rfl, by (repeat' (first | exact trivial | exact rfl | exact fun _ _ => rfl | apply And.intro | (intro i hi; rcases i with _ | _ | i <;> first | rfl | (exfalso; omega) | (simp at hi; done) | (simp at hi; omega)) | exact fun _ _ => by simp)), trivial⟩ | exact ⟨by (repeat' (first | exact trivial | exact rfl | exact fun _ _ => rfl | apply And.intro | (intro i hi; rcases i with _ | _ | i <;> first | rfl | (exfalso; omega) | (simp at hi; done) | (simp at hi; omega)) | exact fun _ _ => by simp)), trivial⟩ | exact ⟨by (repeat' (first | exact trivial | exact rfl | exact fun _ _ => rfl | apply And.intro | (intro i hi; rcases i with _ | _ | i <;> first | rfl | (exfalso; omega) | (simp at hi; done) | (simp at hi; omega)) | exact fun _ _ => by simp)), by (repeat' (first | exact trivial | exact rfl | exact fun _ _ => rfl | apply And.intro | (intro i hi; rcases i with _ | _ | i <;> first | rfl | (exfalso; omega) | (simp at hi; done) | (simp at hi; omega)) | exact fun _ _ => by simp))⟩ | exact ⟨rfl, by (repeat' (first | exact trivial | exact rfl | exact fun _ _ => rfl | apply And.intro | (intro i hi; rcases i with _ | _ | i <;> first | rfl | (exfalso; omega) | (simp at hi; done) | (simp at hi; omega)) | exact fun _ _ => by simp)), by (repeat' (first | exact trivial | exact rfl | exact fun _ _ => rfl | apply And.intro | (intro i hi; rcases i with _ | _ | i <;> first | rfl | (exfalso; omega) | (simp at hi; done) | (simp at hi; omega)) | exact fun _ _ => by simp))⟩
theorem cencode_no (l : List TableD) (hr : tabsR l = false) (hl : l.length ≤ 1000) (hs : ∀ i, (l.getD i default).small) : ACall Try.prog 47 [.d (tablesL l)] [] (.tup [.d (.v (.slice none 0 0)), exI .i64 1]) [] := by
  have hR := cright_ok l hl hs
  rw [hr] at hR
  refine acall_on (mu := [13]) [] [] mixed Try.func47 rfl rfl rfl ?_
  conv => whnf
  repeat' (first
    | (refine And.intro (by omega) ?_; conv => whnf)
    | (refine And.intro rfl ?_; conv => whnf)
    | (refine And.intro (Nat.le_of_ble_eq_true rfl) ?_; conv => whnf)
    | (refine And.intro (fun i hi => ⟨_, rfl⟩) ?_; conv => whnf)
    | (refine ⟨_, _, _, .flat _ _ rfl (hR) rfl, ?_⟩; conv => whnf)
    | (refine ⟨_, _, _, .flat _ _ rfl (ACall.arg ?harg (hR)) rfl, ?_⟩; (case harg => (repeat' (first | exact trivial | exact rfl | exact fun _ _ => rfl | apply And.intro | (intro i hi; rcases i with _ | _ | i <;> first | rfl | (exfalso; omega) | (simp at hi; done) | (simp at hi; omega)) | exact fun _ _ => by simp))); (conv => whnf))
    | (refine And.intro (fun hq => ?_) (fun hq => ?_) <;> (first | (exfalso; simp at hq; done) | (exfalso; simp at *; omega) | (exfalso; simp_all; done) | (conv => whnf)))
    | (refine And.intro (by first | (show _ * 1 ≤ 140737488355328; omega) | (show _ * 8 ≤ 140737488355328; omega) | (show _ * 24 ≤ 140737488355328; omega) | (show _ * 16 ≤ 140737488355328; omega) | (show _ * 32 ≤ 140737488355328; omega) | (show _ * 120 ≤ 140737488355328; omega) | (show _ * 280 ≤ 140737488355328; omega) | (show _ * 72 ≤ 140737488355328; omega) | (show _ * 48 ≤ 140737488355328; omega)) ?_; conv => whnf)
    | (refine And.intro (by simp at *; omega) ?_; conv => whnf)
    | fail)
  all_goals first | exact trivial | exact ⟨rfl, by (repeat' (first | exact trivial | exact rfl | exact fun _ _ => rfl | apply And.intro | (intro i hi; rcases i with _ | _ | i <;> first | rfl | (exfalso; omega) | (simp at hi; done) | (simp at hi; omega)) | exact fun _ _ => by simp)), trivial⟩ | exact ⟨by (repeat' (first | exact trivial | exact rfl | exact fun _ _ => rfl | apply And.intro | (intro i hi; rcases i with _ | _ | i <;> first | rfl | (exfalso; omega) | (simp at hi; done) | (simp at hi; omega)) | exact fun _ _ => by simp)), trivial⟩ | exact ⟨by (repeat' (first | exact trivial | exact rfl | exact fun _ _ => rfl | apply And.intro | (intro i hi; rcases i with _ | _ | i <;> first | rfl | (exfalso; omega) | (simp at hi; done) | (simp at hi; omega)) | exact fun _ _ => by simp)), by (repeat' (first | exact trivial | exact rfl | exact fun _ _ => rfl | apply And.intro | (intro i hi; rcases i with _ | _ | i <;> first | rfl | (exfalso; omega) | (simp at hi; done) | (simp at hi; omega)) | exact fun _ _ => by simp))⟩ | exact ⟨rfl, by (repeat' (first | exact trivial | exact rfl | exact fun _ _ => rfl | apply And.intro | (intro i hi; rcases i with _ | _ | i <;> first | rfl | (exfalso; omega) | (simp at hi; done) | (simp at hi; omega)) | exact fun _ _ => by simp)), by (repeat' (first | exact trivial | exact rfl | exact fun _ _ => rfl | apply And.intro | (intro i hi; rcases i with _ | _ | i <;> first | rfl | (exfalso; omega) | (simp at hi; done) | (simp at hi; omega)) | exact fun _ _ => by simp))⟩
theorem encode0 : ACall Try.prog 47 [nilS] [] (.tup [.d (byteL [0]), exI .i64 0]) [] :=
  ACall.arg (bs := [.d (tablesL [])]) ⟨⟨rfl, rfl⟩, trivial⟩ (cencode_ok [] rfl (Nat.le_of_ble_eq_true rfl) (fun _ => small_def) (fun i hi => absurd hi (Nat.not_lt_zero i)))
end Go.Proofs.Ytgcbodpjidoanaa
