/- Order of texts of bytes, and of codes; no program in sight. -/
import Derived.Test.YtjdbpeblbejllaaMortPl2
import Derived.Test.YtjdbpeblbejllaaMem
set_option linter.unusedVariables false
set_option linter.unusedSimpArgs false
namespace Go.Proofs.Ytjdbpeblbejllaa
open Go.RowKit
theorem lexLt_irr : ∀ a : List Nat, lexLt a a = false
  | [] => rfl
  | x :: a => by simp [lexLt, lexLt_irr a]
theorem lexLt_asymm (a b : List Nat) (hl : a.length = b.length) (h : lexLt a b = true) : lexLt b a = false := by
  rw [Bool.eq_false_iff]
  intro h'
  rw [lexLt_iff _ _ hl] at h
  rw [lexLt_iff _ _ hl.symm] at h'
  obtain ⟨i, hi, h1, h2⟩ := h
  obtain ⟨j, hj, h3, h4⟩ := h'
  rcases Nat.lt_trichotomy i j with e | e | e
  · have := h3 i e; omega
  · subst e; omega
  · have := h1 j e; omega
theorem lexLt_total (a b : List Nat) (hl : a.length = b.length) (h : lexLt a b = false) (h' : lexLt b a = false) : a = b := by
  induction a generalizing b with
  | nil => exact (List.eq_nil_of_length_eq_zero hl.symm).symm
  | cons x a ih =>
    cases b with
    | nil => simp at hl
    | cons y b =>
      simp only [lexLt, Bool.or_eq_false_iff, Bool.and_eq_false_iff, decide_eq_false_iff_not] at h h'
      have hxy : x = y := by omega
      subst hxy
      rw [ih b (by simpa using hl) (by simpa using h.2) (by simpa using h'.2)]
theorem code_inj (p q : List Int) (hp : IsI p) (hq : IsI q) (hl : p.length = q.length) (h : code p = code q) : p = q := by
  rw [← ptL_code p hp, ← ptL_code q hq, h, hl]
theorem code_mono (p q : List Int) (hp : IsI p) (hq : IsI q) (hl : p.length = q.length) (h : ∀ i, i < p.length → p.getD i 0 ≤ q.getD i 0) : lexLt (code q) (code p) = false := by
  rw [Bool.eq_false_iff]
  intro h'
  rw [lex_bits q p hl.symm] at h'
  obtain ⟨i, hi, h1, h2⟩ := h'
  have h0 : 0 < q.length := by
    rcases Nat.eq_zero_or_pos q.length with e | e
    · rw [e] at hi; omega
    · exact e
  have hj : i % q.length < q.length := Nat.mod_lt _ h0
  have ei : i / q.length * q.length + i % q.length = i := by rw [Nat.mul_comm, Nat.div_add_mod]
  have hb : i / q.length < 64 := by rw [Nat.div_lt_iff_lt_mul h0]; exact hi
  have rq : ∀ b, rbit q (b * q.length + i % q.length) = pl (q.getD (i % q.length) 0) / 2 ^ (63 - b) % 2 := fun b => rbit_at q b _ hj
  have rp : ∀ b, rbit p (b * q.length + i % q.length) = pl (p.getD (i % q.length) 0) / 2 ^ (63 - b) % 2 := fun b => by
    rw [← hl]; exact rbit_at p b _ (by rw [hl]; exact hj)
  have hle := h (i % q.length) (by rw [hl]; exact hj)
  have hlt : pl (q.getD (i % q.length) 0) < pl (p.getD (i % q.length) 0) := by
    rw [word_lt _ _ (pl_lt _ (hq _).2) (pl_lt _ (hp _).2)]
    refine ⟨i / q.length, hb, fun s hs => ?_, ?_⟩
    · have := h1 (s * q.length + i % q.length) (by
        have : (s + 1) * q.length ≤ i / q.length * q.length := Nat.mul_le_mul_right _ hs
        rw [Nat.add_mul] at this; omega)
      rw [rq, rp] at this
      exact this
    · have := h2
      rw [← ei, rq, rp] at this
      exact this
  rw [pl_le _ _ (hq _).1 (hp _).1] at hlt
  omega
end Go.Proofs.Ytjdbpeblbejllaa
