/- CatalogReads: what the tables that are looked at hold; the walk. -/
import Derived.Test.YtgcbodpjidoanaaGu
import Derived.Test.YtgcbodpjidoanaaGj
import Derived.Test.YtgcbodpjidoanaaGy
set_option linter.unusedVariables false
set_option linter.unusedSimpArgs false
namespace Go.Proofs.Ytgcbodpjidoanaa
open Go.RowKit
set_option maxRecDepth 100000
set_option maxHeartbeats 1000000
theorem kidr_nums {k : KidD} {d : Int} (h : kidR k d = true) : (0 ≤ k.live ∧ k.live ≤ 1048576) ∧ (0 ≤ k.size ∧ k.size ≤ 1048576) := by
  unfold kidR at h
  cases h0 : kidS k kid0 with
  | true =>
    simp only [kidS, Bool.and_eq_true, decide_eq_true_eq] at h0
    have e1 : k.live = 0 := h0.2.1
    have e2 : k.size = 0 := h0.2.2.1
    omega
  | false =>
    rw [h0] at h
    simp only [Bool.false_or, Bool.and_eq_true, decide_eq_true_eq] at h
    omega
theorem kidw_of {k : KidD} {d : Int} (h : kidR k d = true) (q : KidQ k) (i : kidI k) : Pl.KidW k 255 :=
  ⟨q.s, (kidr_nums h).1, (kidr_nums h).2, ⟨Nat.le_trans i.1 (by decide), q.lo⟩, ⟨Nat.le_trans i.2.1 (by decide), q.hi⟩, ⟨Nat.le_trans i.2.2 (by decide), q.key⟩⟩
theorem tabw_of {t : TableD} (h : tabR t = true) (q : TabQ t) (i : tabI t = true) : TabW t := by
  unfold tabR at h
  simp only [Bool.and_eq_true] at h
  obtain ⟨h1, h2, h3, _⟩ := h
  unfold tabI at i
  simp only [Bool.and_eq_true, decide_eq_true_eq] at i
  obtain ⟨i1, i2, _⟩ := i
  have hop : nameB (nb t.name) = true ∧ colsOk t.cols = true := by
    simp [opR] at h1
    exact h1
  have hc := hop.2
  unfold colsOk at hc
  simp only [Bool.and_eq_true, decide_eq_true_eq, allTo_iff] at hc
  obtain ⟨c1, _, c3⟩ := hc
  refine ⟨?_, by omega, fun j => ?_, kidw_of h2 q.kd i1, kidw_of h3 q.zb i2⟩
  · have := nameB_len hop.1
    rwa [nb_len] at this
  · rcases Nat.lt_or_ge j t.cols.length with p | p
    · have := c1 j p
      unfold colOk at this
      simp only [Bool.and_eq_true] at this
      have := nameB_len this.1
      rwa [nb_len] at this
    · rw [List.getD_eq_getElem?_getD, List.getElem?_eq_none p]; exact Nat.le_of_ble_eq_true rfl
theorem isB_textB (m : List Nat) (h : Pl.IsB m) : Pl.IsB (Pl.textB m) := Pl.isB_append (Pl.isB_be3 _) h
theorem isB_kidB (k : KidD) (h : Pl.KidW k 255) (hs : Pl.IsB k.sum) : Pl.IsB (Pl.kidB k) :=
  Pl.isB_append (Pl.isB_append (Pl.isB_append (Pl.isB_append (Pl.isB_append hs (Pl.isB_be3 _)) (Pl.isB_be3 _)) (Pl.isB_rowB _ (Nat.lt_succ_of_le h.lo.1))) (Pl.isB_rowB _ (Nat.lt_succ_of_le h.hi.1))) (Pl.isB_rowB _ (Nat.lt_succ_of_le h.key.1))
theorem isB_tabB (t : TableD) (h : TabW t) (q : TabQ t) : Pl.IsB (tabB t) := by
  refine Pl.isB_append (Pl.isB_append (Pl.isB_append (Pl.isB_append (isB_textB _ (Pl.isB_nb _)) (Pl.isB_one (by have := h.cols; omega))) (Pl.isB_flat _ fun x hx => ?_)) (isB_kidB _ h.kd q.kd.sB)) (isB_kidB _ h.zb q.zb.sB)
  obtain ⟨s, _, rfl⟩ := List.mem_map.1 hx
  exact isB_textB _ (Pl.isB_nb _)
theorem mem_getD {l : List TableD} {P : TableD → Prop} (h : ∀ i, i < l.length → P (l.getD i default)) : ∀ x ∈ l, P x := fun x hx => by
  obtain ⟨i, hi, rfl⟩ := List.mem_iff_getElem.1 hx
  have := h i hi
  rwa [List.getD_eq_getElem?_getD, List.getElem?_eq_getElem hi] at this
theorem isB_catB (l : List TableD) (hl : l.length ≤ 8) (h : ∀ i, i < l.length → TabW (l.getD i default)) (q : ∀ i, i < l.length → TabQ (l.getD i default)) : Pl.IsB (catB l) := by
  refine Pl.isB_append (Pl.isB_one (by omega)) (Pl.isB_flat _ fun x hx => ?_)
  obtain ⟨t, ht, rfl⟩ := List.mem_map.1 hx
  exact isB_tabB t (mem_getD h t ht) (mem_getD q t ht)
theorem isB_set {l : List Nat} (h : Pl.IsB l) (a v : Nat) (hv : v < 256) : Pl.IsB (l.set a v) := fun i => by
  rw [List.getD_eq_getElem?_getD, List.getElem?_set]
  have := h i
  rw [List.getD_eq_getElem?_getD] at this
  split
  · split
    · simpa using hv
    · simp
  · exact this
theorem catB_len (l : List TableD) (hl : l.length ≤ 8) (h : ∀ i, i < l.length → TabW (l.getD i default)) : (catB l).length ≤ 120001 ∧ 0 < (catB l).length := by
  have e : catB l = tabsB l l.length := by unfold catB tabsB; rw [List.take_length]
  have := tabsB_len l h l.length (Nat.le_refl _)
  rw [← e] at this
  exact ⟨by omega, by unfold catB; simp⟩
theorem tabsR_len {l : List TableD} (h : tabsR l = true) : l.length ≤ 8 := by
  simp only [tabsR, Bool.and_eq_true, decide_eq_true_eq] at h
  exact h.2
theorem tabsR_at {l : List TableD} (h : tabsR l = true) : ∀ i, i < l.length → tabR (l.getD i default) = true := fun i hi => by
  simp only [tabsR, Bool.and_eq_true, allTo_iff] at h
  have := h.1 i hi
  simp only [tabAt, Bool.and_eq_true] at this
  exact this.1
theorem greatB_at {l : List TableD} (h : greatB l = false) : l.length ≤ 30 ∧ ∀ i, i < l.length → tabI (l.getD i default) = true := by
  unfold greatB at h
  simp only [Bool.not_eq_false', Bool.and_eq_true, decide_eq_true_eq, allTo_iff] at h
  exact h
theorem tabI_small {l : List TableD} (h : ∀ i, i < l.length → tabI (l.getD i default) = true) : ∀ i, (l.getD i default).small := fun i => by
  rcases Nat.lt_or_ge i l.length with p | p
  · have i1 := h i p
    unfold tabI at i1
    simp only [Bool.and_eq_true, decide_eq_true_eq, allTo_iff] at i1
    obtain ⟨a, b, ⟨c, d⟩, e⟩ := i1
    refine ⟨Nat.le_trans c (by decide), Nat.le_trans d (by decide), fun j => ?_, ⟨Nat.le_trans a.1 (by decide), Nat.le_trans a.2.1 (by decide), Nat.le_trans a.2.2 (by decide)⟩, ⟨Nat.le_trans b.1 (by decide), Nat.le_trans b.2.1 (by decide), Nat.le_trans b.2.2 (by decide)⟩⟩
    rcases Nat.lt_or_ge j (l.getD i default).cols.length with s | s
    · exact Nat.le_trans (of_decide_eq_true (e j s)) (by decide)
    · rw [show (l.getD i default).cols.getD j default = default by rw [List.getD_eq_getElem?_getD, List.getElem?_eq_none s]; rfl]; exact Nat.le_of_ble_eq_true rfl
  · rw [List.getD_eq_getElem?_getD, List.getElem?_eq_none p]; exact small_def
/-- what is read is right, and its bytes are these -/
theorem dec_some {b : List Nat} {m : List TableD} (hB : Pl.IsB b) (h : decC b = some m) : tabsR m = true ∧ catB m = b ∧ ∀ i, i < m.length → TabW (m.getD i default) := by
  unfold decC at h
  split at h
  case isFalse => cases h
  rename_i c
  cases h
  refine ⟨c.2.1, c.2.2, fun i hi => ?_⟩
  unfold decS at hi ⊢
  rw [rTabs_len] at hi
  exact rTabs_w _ _ ((Pl.take_suf 1 b 0).isB hB) _ i hi
theorem Byt.put {n : Nat} {f : Nat → List DV} {l : List Nat} (h : Byt n f l) (a : Nat) (z : Int) (hz : z = a) (v : Nat) (d : DV) (hd : d = .v (.int .u8 (v : Int))) : Byt n (fun k => if k = z.toNat then spl (f z.toNat) 0 [d] else f k) (l.set a v) := by
  subst hz hd
  refine ⟨by rw [List.length_set]; exact h.len, fun k hk => ?_⟩
  rw [Int.toNat_natCast]
  have hg : byF (l.set a v) k = if k = a then [.v (.int .u8 (v : Int))] else byF l k := by
    unfold byF
    have hk2 : k < l.length := by rw [← h.len]; exact hk
    rw [List.getD_eq_getElem?_getD, List.getElem?_set]
    split
    · subst k; simp [hk2]
    · rename_i ne; rw [if_neg (fun q => ne q.symm)]; rw [List.getD_eq_getElem?_getD]
  rw [hg]
  split
  · subst k; rw [h.get a hk]; rfl
  · exact h.get k hk
end Go.Proofs.Ytgcbodpjidoanaa
