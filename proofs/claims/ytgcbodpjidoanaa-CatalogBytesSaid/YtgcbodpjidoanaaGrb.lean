/- A catalog's bytes are read as the catalog (plain). -/
import Derived.Test.YtgcbodpjidoanaaGw
set_option linter.unusedVariables false
set_option linter.unusedSimpArgs false
namespace Go.Proofs.Ytgcbodpjidoanaa
open Go.RowKit
theorem drop_getD {α : Type} (l : List α) (d : α) (k : Nat) (h : k < l.length) : l.drop k = l.getD k d :: l.drop (k + 1) := by
  rw [List.drop_eq_getElem_cons h, List.getD_eq_getElem?_getD, List.getElem?_eq_getElem h]; rfl
theorem take_getD {α : Type} (l : List α) (d : α) (k : Nat) (h : k < l.length) : l.take k ++ [l.getD k d] = l.take (k + 1) := by
  rw [List.take_add_one, List.getElem?_eq_getElem h, List.getD_eq_getElem?_getD, List.getElem?_eq_getElem h]; rfl
theorem rcols_app (l : List ByteArray) (r : List Nat) (h : ∀ i, (l.getD i default).size ≤ 16) : ∀ k, k ≤ l.length → rCols k ((l.map fun s => Pl.textB (Pl.nb s)).flatten ++ r) 0 = (l.take k, ((l.drop k).map fun s => Pl.textB (Pl.nb s)).flatten ++ r, 0)
  | 0, _ => rfl
  | k + 1, hk => by
    have ih := rcols_app l r h k (by omega)
    have hs := h k
    unfold rCols
    rw [ih]
    dsimp only
    rw [drop_getD l default k (by omega), List.map_cons, List.flatten_cons, List.append_assoc, Pl.text_app 16 _ _ (by rw [Pl.nb_len]; exact hs) (by rw [Pl.nb_len]; omega)]
    dsimp only
    rw [bsL_nb, take_getD l default k (by omega)]
theorem rkid_app8 (k : KidD) (l : List Nat) (h : Pl.KidW k 8) : Pl.rKid 8 (Pl.kidB k ++ l) 0 = (k, l, 0) := Pl.kid_app 8 k l h
theorem rtab_app (t : TableD) (r : List Nat) (h : TabW t) (k1 : Pl.KidW t.kd 8) (k2 : Pl.KidW t.zb 8) : rTab (tabB t ++ r) 0 = (t, r, 0) := by
  have e : tabB t ++ r = Pl.textB (Pl.nb t.name) ++ (t.cols.length :: ((t.cols.map fun s => Pl.textB (Pl.nb s)).flatten ++ (Pl.kidB t.kd ++ (Pl.kidB t.zb ++ r)))) := by simp [tabB]
  have hn := h.name
  have hc := h.cols
  have q1 := Pl.text_app 16 (Pl.nb t.name) (t.cols.length :: ((t.cols.map fun s => Pl.textB (Pl.nb s)).flatten ++ (Pl.kidB t.kd ++ (Pl.kidB t.zb ++ r)))) (by rw [Pl.nb_len]; exact hn) (by rw [Pl.nb_len]; omega)
  have q2 := Pl.byte_app t.cols.length ((t.cols.map fun s => Pl.textB (Pl.nb s)).flatten ++ (Pl.kidB t.kd ++ (Pl.kidB t.zb ++ r)))
  have q3 := rcols_app t.cols (Pl.kidB t.kd ++ (Pl.kidB t.zb ++ r)) h.col t.cols.length (Nat.le_refl _)
  rw [List.take_length, List.drop_length, List.map_nil, List.flatten_nil, List.nil_append] at q3
  have q4 := rkid_app8 t.kd (Pl.kidB t.zb ++ r) k1
  have q5 := rkid_app8 t.zb r k2
  unfold rTab
  rw [e, q1]
  dsimp only
  rw [q2.1, q2.2, Nat.min_eq_left hc]
  dsimp only
  rw [q3]
  dsimp only
  rw [q4]
  dsimp only
  rw [q5, bsL_nb]
theorem rtabs_app (l : List TableD) (r : List Nat) (h : ∀ i, i < l.length → TabW (l.getD i default) ∧ Pl.KidW (l.getD i default).kd 8 ∧ Pl.KidW (l.getD i default).zb 8) : ∀ k, k ≤ l.length → rTabs k ((l.map tabB).flatten ++ r) 0 = (l.take k, ((l.drop k).map tabB).flatten ++ r, 0)
  | 0, _ => rfl
  | k + 1, hk => by
    have ih := rtabs_app l r h k (by omega)
    obtain ⟨h1, h2, h3⟩ := h k (by omega)
    unfold rTabs
    rw [ih]
    dsimp only
    rw [drop_getD l default k (by omega), List.map_cons, List.flatten_cons, List.append_assoc, rtab_app _ _ h1 h2 h3]
    dsimp only
    rw [take_getD l default k (by omega)]
theorem dec_back (l : List TableD) (hr : tabsR l = true) (h : ∀ i, i < l.length → TabW (l.getD i default) ∧ Pl.KidW (l.getD i default).kd 8 ∧ Pl.KidW (l.getD i default).zb 8) : decC (catB l) = some l := by
  have h8 := tabsR_len hr
  have e : decS (catB l) = (l, [], 0) := by
    have q := Pl.byte_app l.length (l.map tabB).flatten
    have q2 := rtabs_app l [] h l.length (Nat.le_refl _)
    rw [List.append_nil, List.take_length, List.drop_length] at q2
    unfold decS catB
    rw [List.singleton_append, q.1, q.2, Nat.min_eq_left (by omega)]
    exact q2
  unfold decC
  rw [e]
  exact if_pos ⟨rfl, hr, rfl⟩
theorem boxR_len {b : BoxD} {d : Int} (h : boxR b d = true) : d ≤ 8 ∧ (b.lo.length : Int) = d ∧ (b.hi.length : Int) = d := by
  simp only [boxR, Bool.and_eq_true, decide_eq_true_eq] at h
  omega
theorem kidr_rows {k : KidD} {d : Int} (h : kidR k d = true) : k.lo.length ≤ 8 ∧ k.hi.length ≤ 8 := by
  unfold kidR at h
  cases h0 : kidS k kid0 with
  | true =>
    simp only [kidS, Bool.and_eq_true, decide_eq_true_eq] at h0
    have e1 : k.lo = [] := h0.2.2.2.1
    have e2 : k.hi = [] := h0.2.2.2.2.1
    rw [e1, e2]; exact ⟨Nat.zero_le _, Nat.zero_le _⟩
  | false =>
    rw [h0] at h
    simp only [Bool.false_or, Bool.and_eq_true, decide_eq_true_eq] at h
    obtain ⟨_, _, _, _, h5⟩ := h
    split at h5
    · simp only [Bool.and_eq_true, decide_eq_true_eq] at h5; omega
    · have := boxR_len h5
      simp only [KidD.bx] at this
      omega
theorem tab_kids {t : TableD} (h : tabR t = true) (w : TabW t) : Pl.KidW t.kd 8 ∧ Pl.KidW t.zb 8 := by
  have hc := w.cols
  unfold tabR at h
  simp only [Bool.and_eq_true, Bool.or_eq_true, decide_eq_true_eq] at h
  obtain ⟨h1, h2, h3, _, h5, h6⟩ := h
  have c7 : t.cols.length ≤ 7 := by
    simp [opR] at h1
    have := h1.2
    unfold colsOk at this
    simp only [Bool.and_eq_true, decide_eq_true_eq] at this
    omega
  have r1 := kidr_rows h2
  have r2 := kidr_rows h3
  have hz : t.zb.key.length ≤ 8 := by
    rcases h6 with h6 | h6
    · simp only [kidS, Bool.and_eq_true, decide_eq_true_eq] at h6
      have e : t.zb.key = [] := h6.2.2.2.2.2
      rw [e]; exact Nat.zero_le _
    · omega
  exact ⟨⟨w.kd.s, w.kd.a, w.kd.b, ⟨r1.1, w.kd.lo.2⟩, ⟨r1.2, w.kd.hi.2⟩, ⟨by omega, w.kd.key.2⟩⟩, ⟨w.zb.s, w.zb.a, w.zb.b, ⟨r2.1, w.zb.lo.2⟩, ⟨r2.2, w.zb.hi.2⟩, ⟨hz, w.zb.key.2⟩⟩⟩
end Go.Proofs.Ytgcbodpjidoanaa
