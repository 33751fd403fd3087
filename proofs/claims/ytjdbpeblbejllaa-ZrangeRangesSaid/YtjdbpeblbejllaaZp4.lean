/- Order of texts of bytes, and of codes; no program in sight. -/
import Derived.Test.YtjdbpeblbejllaaMortPl2
import Derived.Test.YtjdbpeblbejllaaMem
import Derived.Test.YtjdbpeblbejllaaZr15
set_option linter.unusedVariables false
set_option linter.unusedSimpArgs false
namespace Go.Proofs.Ytjdbpeblbejllaa
open Go.RowKit
theorem lexLt_irr : ∀ a : List Nat, lexLt a a = false
  | [] => rfl
  | x :: a => by simp [lexLt, lexLt_irr a]
theorem lexLt_asymm (a b : List Nat) (hl : a.length = b.length) (h : lexLt a b = true) : lexLt b a = false := by
  rw [Bool.eq_false_iff]
  intro h'
  rw [lexLt_iff _ _ hl] at h
  rw [lexLt_iff _ _ hl.symm] at h'
  obtain ⟨i, hi, h1, h2⟩ := h
  obtain ⟨j, hj, h3, h4⟩ := h'
  rcases Nat.lt_trichotomy i j with e | e | e
  · have := h3 i e; omega
  · subst e; omega
  · have := h1 j e; omega
theorem lexLt_total (a b : List Nat) (hl : a.length = b.length) (h : lexLt a b = false) (h' : lexLt b a = false) : a = b := by
  induction a generalizing b with
  | nil => exact (List.eq_nil_of_length_eq_zero hl.symm).symm
  | cons x a ih =>
    cases b with
    | nil => simp at hl
    | cons y b =>
      simp only [lexLt, Bool.or_eq_false_iff, Bool.and_eq_false_iff, decide_eq_false_iff_not] at h h'
      have hxy : x = y := by omega
      subst hxy
      rw [ih b (by simpa using hl) (by simpa using h.2) (by simpa using h'.2)]
theorem code_inj (p q : List Int) (hp : IsI p) (hq : IsI q) (hl : p.length = q.length) (h : code p = code q) : p = q := by
  rw [← ptL_code p hp, ← ptL_code q hq, h, hl]
theorem code_mono (p q : List Int) (hp : IsI p) (hq : IsI q) (hl : p.length = q.length) (h : ∀ i, i < p.length → p.getD i 0 ≤ q.getD i 0) : lexLt (code q) (code p) = false := by
  rw [Bool.eq_false_iff]
  intro h'
  rw [lex_bits q p hl.symm] at h'
  obtain ⟨i, hi, h1, h2⟩ := h'
  have h0 : 0 < q.length := by
    rcases Nat.eq_zero_or_pos q.length with e | e
    · rw [e] at hi; omega
    · exact e
  have hj : i % q.length < q.length := Nat.mod_lt _ h0
  have ei : i / q.length * q.length + i % q.length = i := by rw [Nat.mul_comm, Nat.div_add_mod]
  have hb : i / q.length < 64 := by rw [Nat.div_lt_iff_lt_mul h0]; exact hi
  have rq : ∀ b, rbit q (b * q.length + i % q.length) = pl (q.getD (i % q.length) 0) / 2 ^ (63 - b) % 2 := fun b => rbit_at q b _ hj
  have rp : ∀ b, rbit p (b * q.length + i % q.length) = pl (p.getD (i % q.length) 0) / 2 ^ (63 - b) % 2 := fun b => by
    rw [← hl]; exact rbit_at p b _ (by rw [hl]; exact hj)
  have hle := h (i % q.length) (by rw [hl]; exact hj)
  have hlt : pl (q.getD (i % q.length) 0) < pl (p.getD (i % q.length) 0) := by
    rw [word_lt _ _ (pl_lt _ (hq _).2) (pl_lt _ (hp _).2)]
    refine ⟨i / q.length, hb, fun s hs => ?_, ?_⟩
    · have := h1 (s * q.length + i % q.length) (by
        have : (s + 1) * q.length ≤ i / q.length * q.length := Nat.mul_le_mul_right _ hs
        rw [Nat.add_mul] at this; omega)
      rw [rq, rp] at this
      exact this
    · have := h2
      rw [← ei, rq, rp] at this
      exact this
  rw [pl_le _ _ (hq _).1 (hp _).1] at hlt
  omega
/-- a point of a region begins with its bits -/
theorem bits_step (g : Nat → Nat) (hg : ∀ i, g i ≤ 1) (X : List Int) (d : Nat) (hd : 0 < d) (hX : X.length = d) (s : Nat) (hn : s < 64 * d) (h : regF g (s + 1) d (s % d) 0 ≤ pl (X.getD (s % d) 0) ∧ pl (X.getD (s % d) 0) ≤ regF g (s + 1) d (s % d) 1) : rbit X s = g s := by
  obtain ⟨M, q, hq, hM, r0, r1, s0, s1, hx⟩ := side_step g hg s d hd hn
  rw [s0, s1] at h
  have hgs := hg s
  have hx1 := (hx (pl (X.getD (s % d) 0)) (by rcases (by omega : g s = 0 ∨ g s = 1) with e | e <;> rw [e] at h <;> omega) (by rcases (by omega : g s = 0 ∨ g s = 1) with e | e <;> rw [e] at h <;> omega)).1
  unfold rbit
  rw [hX, hx1]
  rcases (by omega : g s = 0 ∨ g s = 1) with e | e <;> rw [e] at h ⊢
  · rw [if_neg (by omega)]
  · rw [if_pos (by omega)]
theorem bits_of_region (g : Nat → Nat) (hg : ∀ i, g i ≤ 1) (X : List Int) (d : Nat) (hd : 0 < d) (hX : X.length = d) (n : Nat) (hn : n ≤ 64 * d) (h : ∀ k, k < d → regF g n d k 0 ≤ pl (X.getD k 0) ∧ pl (X.getD k 0) ≤ regF g n d k 1) (s : Nat) (hs : s < n) : rbit X s = g s := by
  refine bits_step g hg X d hd hX s (by omega) ?_
  have h1 := regF_finer g hg (s + 1) n d (s % d) (by omega)
  have h2 := h (s % d) (Nat.mod_lt s hd)
  omega
theorem findS_spec {lo hi : List Int} {d : Nat} (hb : Bx lo hi d) (f : Nat → Nat) : ∀ m, (findS f lo hi d m = none ∧ ∀ t, t < m → ¬ (f t = 0 ∧ Meets (bend f t 1) (t + 1) d lo hi)) ∨
    ∃ t, t < m ∧ f t = 0 ∧ Meets (bend f t 1) (t + 1) d lo hi ∧ findS f lo hi d m = some (code (cLo (rgn (bend f t 1) (t + 1) d 0) lo d)) ∧ ∀ s, t < s → s < m → ¬ (f s = 0 ∧ Meets (bend f s 1) (s + 1) d lo hi)
  | 0 => .inl ⟨rfl, fun t ht => by omega⟩
  | m + 1 => by
    rw [findS]
    by_cases h : f m = 0 ∧ cOk (rgn (bend f m 1) (m + 1) d 0) (rgn (bend f m 1) (m + 1) d 1) lo hi d = true
    · rw [if_pos h]
      exact .inr ⟨m, by omega, h.1, (cOk_iff hb _ _).1 h.2, rfl, fun s h1 h2 => by omega⟩
    · rw [if_neg h]
      have h' : ¬ (f m = 0 ∧ Meets (bend f m 1) (m + 1) d lo hi) := fun k => h ⟨k.1, (cOk_iff hb _ _).2 k.2⟩
      rcases findS_spec hb f m with ⟨h1, h2⟩ | ⟨t, h1, h2, h3, h4, h5⟩
      · refine .inl ⟨h1, fun t ht => ?_⟩
        by_cases e : t = m
        · subst e; exact h'
        · exact h2 t (by omega)
      · refine .inr ⟨t, by omega, h2, h3, h4, fun s hs1 hs2 => ?_⟩
        by_cases e : s = m
        · subst e; exact h'
        · exact h5 s hs1 (by omega)
theorem findB_spec {lo hi : List Int} {d : Nat} (hb : Bx lo hi d) (f : Nat → Nat) : ∀ m, (findB f lo hi d m = none ∧ ∀ t, t < m → ¬ (f t = 1 ∧ Meets (bend f t 0) (t + 1) d lo hi)) ∨
    ∃ t, t < m ∧ f t = 1 ∧ Meets (bend f t 0) (t + 1) d lo hi ∧ findB f lo hi d m = some (code (cHi (rgn (bend f t 0) (t + 1) d 1) hi d)) ∧ ∀ s, t < s → s < m → ¬ (f s = 1 ∧ Meets (bend f s 0) (s + 1) d lo hi)
  | 0 => .inl ⟨rfl, fun t ht => by omega⟩
  | m + 1 => by
    rw [findB]
    by_cases h : f m = 1 ∧ cOk (rgn (bend f m 0) (m + 1) d 0) (rgn (bend f m 0) (m + 1) d 1) lo hi d = true
    · rw [if_pos h]
      exact .inr ⟨m, by omega, h.1, (cOk_iff hb _ _).1 h.2, rfl, fun s h1 h2 => by omega⟩
    · rw [if_neg h]
      have h' : ¬ (f m = 1 ∧ Meets (bend f m 0) (m + 1) d lo hi) := fun k => h ⟨k.1, (cOk_iff hb _ _).2 k.2⟩
      rcases findB_spec hb f m with ⟨h1, h2⟩ | ⟨t, h1, h2, h3, h4, h5⟩
      · refine .inl ⟨h1, fun t ht => ?_⟩
        by_cases e : t = m
        · subst e; exact h'
        · exact h2 t (by omega)
      · refine .inr ⟨t, by omega, h2, h3, h4, fun s hs1 hs2 => ?_⟩
        by_cases e : s = m
        · subst e; exact h'
        · exact h5 s hs1 (by omega)
theorem mono_toI (a b : Nat) (z : Int) (h : -9223372036854775808 ≤ z) : (toI a ≤ z ↔ a ≤ pl z) ∧ (z ≤ toI a ↔ pl z ≤ a) := by unfold toI pl; omega
/-- what is told from a code on -/
theorem between_skip {lo hi p q : List Int} {d : Nat} (hb : Bx lo hi d) (hp : IsI p) (hq : IsI q) (hpl : p.length = d) (hql : q.length = d) (hin : hasB lo hi q = true) (hle : lexLt (code q) (code p) = false) :
    ∃ x, findAll false (code p) lo hi d = some x ∧ x.length = 8 * d ∧ IsB x ∧ lexLt (code q) x = false ∧ lexLt x (code p) = false ∧ hasB lo hi (ptL x d) = true := by
  have hd := hb.d1
  have hinq := (hasB_iff hb q hql).1 hin
  unfold findAll
  by_cases hh : hasB lo hi (ptL (code p) d) = true
  · rw [if_pos hh]
    exact ⟨code p, rfl, by rw [code_len, hpl], code_lt p, hle, lexLt_irr _, hh⟩
  · rw [if_neg hh, findX_skip]
    have hne : code q ≠ code p := fun e => hh (by rw [← e, ← hql, ptL_code q hq]; exact hin)
    have hlt : lexLt (code p) (code q) = true := by
      by_cases h : lexLt (code p) (code q) = true
      · exact h
      · exact absurd (lexLt_total (code q) (code p) (by rw [code_len, code_len, hpl, hql]) hle (by simpa using h)) hne
    obtain ⟨i, hi1, hi2, hi3⟩ := (lex_bits p q (by omega)).1 hlt
    rw [hpl] at hi1
    have fb : ∀ s, s < 64 * d → bitAt (code p) s = rbit p s := fun s hs => bitAt_code p s (by rw [hpl]; exact hs)
    have hpi := rbit_le p i; have hqi := rbit_le q i
    have hmi : Meets (bend (bitAt (code p)) i 1) (i + 1) d lo hi := fun k hk => by
      have e0 : ∀ x, regF (bend (bitAt (code p)) i 1) (i + 1) d k x = regF (rbit q) (i + 1) d k x := fun x => regF_congr _ _ _ _ _ _ fun s hs => by
        unfold bend
        by_cases e : s < i
        · rw [if_pos e, fb s (by omega)]; exact hi2 s e
        · obtain rfl : s = i := by omega
          rw [if_neg e]; omega
      rw [e0, e0]
      have := regF_own q hq (i + 1) k (by omega) (by rw [hql]; omega)
      rw [hql] at this
      have := hinq k hk
      have := hb.li k; have := hb.hi' k; have := hq k
      unfold pl at *
      omega
    rcases findS_spec hb (bitAt (code p)) (64 * d) with ⟨_, h2⟩ | ⟨t, ht, ft, mt, hres, hlast⟩
    · exact absurd ⟨by rw [fb i hi1]; omega, hmi⟩ (h2 i hi1)
    · have hti : ¬ t < i := fun h => hlast i h hi1 ⟨by rw [fb i hi1]; omega, hmi⟩
      have hfl := bend_le (f := bitAt (code p)) (fun j => bitAt_le _ j) (t := t) (b := 1) (by omega)
      have X_len := cLo_len (rgn (bend (bitAt (code p)) t 1) (t + 1) d 0) lo d
      have X_get := fun (k : Nat) (hk : k < d) => cLo_get hb.li (bend (bitAt (code p)) t 1) (t + 1) k hk
      obtain ⟨X, hX⟩ : ∃ X, X = cLo (rgn (bend (bitAt (code p)) t 1) (t + 1) d 0) lo d := ⟨_, rfl⟩
      rw [← hX] at hres X_len X_get
      have XI : IsI X := by rw [hX]; exact cornerX_I false hfl hb
      have Xpl : ∀ k, k < d → pl (X.getD k 0) = max (regF (bend (bitAt (code p)) t 1) (t + 1) d k 0) (pl (lo.getD k 0)) := fun k hk => by rw [X_get k hk, pl_toI]
      have Xbits := bits_of_region _ hfl X d hd X_len (t + 1) (by omega) fun k hk => by
        rw [Xpl k hk]
        have := mt k hk
        have := regF_le (bend (bitAt (code p)) t 1) (t + 1) d k
        omega
      have xl8 : (code X).length = 8 * d := by rw [code_len, X_len]
      refine ⟨code X, hres, xl8, code_lt X, ?_, ?_, ?_⟩
      · by_cases e : t = i
        · subst e
          refine code_mono X q XI hq (by omega) fun k hk => ?_
          rw [X_len] at hk
          have e0 : regF (bend (bitAt (code p)) t 1) (t + 1) d k 0 = regF (rbit q) (t + 1) d k 0 := regF_congr _ _ _ _ _ _ fun s hs => by
            unfold bend
            by_cases e : s < t
            · rw [if_pos e, fb s (by omega)]; exact hi2 s e
            · obtain rfl : s = t := by omega
              rw [if_neg e]; omega
          have h1 := regF_own q hq (t + 1) k (by omega) (by rw [hql]; omega)
          rw [hql] at h1
          have h2 := hinq k hk
          rw [X_get k hk, e0]
          have := hb.li k; have := hq k
          unfold toI pl at *
          omega
        · have : lexLt (code X) (code q) = true := (lex_bits X q (by omega)).2 ⟨i, by rw [X_len]; exact hi1, fun s hs => by
            rw [Xbits s (by omega)]; unfold bend; rw [if_pos (by omega), fb s (by omega)]; exact hi2 s hs, by
            rw [Xbits i (by omega)]; unfold bend; rw [if_pos (by omega), fb i hi1]; exact hi3⟩
          exact lexLt_asymm _ _ (by rw [code_len, code_len, X_len, hql]) this
      · have : lexLt (code p) (code X) = true := (lex_bits p X (by omega)).2 ⟨t, by rw [hpl]; exact ht, fun s hs => by
          rw [Xbits s (by omega)]; unfold bend; rw [if_pos (by omega), fb s (by omega)], by
          rw [Xbits t (by omega), bend_at, ← fb t ht]; omega⟩
        exact lexLt_asymm _ _ (by rw [code_len, code_len, X_len, hpl]) this
      · have : ptL (code X) d = X := by rw [← X_len]; exact ptL_code X XI
        rw [this]
        refine (hasB_iff hb X X_len).2 fun k hk => ?_
        rw [X_get k hk]
        have := mt k hk
        have := hb.le k hk
        have := hb.li k; have := hb.hi' k
        unfold toI pl at *
        omega
/-- what is told up to a code -/
theorem between_back {lo hi p q : List Int} {d : Nat} (hb : Bx lo hi d) (hp : IsI p) (hq : IsI q) (hpl : p.length = d) (hql : q.length = d) (hin : hasB lo hi q = true) (hlt : lexLt (code q) (code p) = true) :
    ∃ x, findAll true (code p) lo hi d = some x ∧ x.length = 8 * d ∧ IsB x ∧ lexLt x (code q) = false ∧ lexLt (code p) x = false ∧ hasB lo hi (ptL x d) = true := by
  have hd := hb.d1
  have hinq := (hasB_iff hb q hql).1 hin
  unfold findAll
  by_cases hh : hasB lo hi (ptL (code p) d) = true
  · rw [if_pos hh]
    exact ⟨code p, rfl, by rw [code_len, hpl], code_lt p, lexLt_asymm _ _ (by rw [code_len, code_len, hpl, hql]) hlt, lexLt_irr _, hh⟩
  · rw [if_neg hh, findX_back]
    obtain ⟨i, hi1, hi2, hi3⟩ := (lex_bits q p (by omega)).1 hlt
    rw [hql] at hi1
    have fb : ∀ s, s < 64 * d → bitAt (code p) s = rbit p s := fun s hs => bitAt_code p s (by rw [hpl]; exact hs)
    have hpi := rbit_le p i; have hqi := rbit_le q i
    have hmi : Meets (bend (bitAt (code p)) i 0) (i + 1) d lo hi := fun k hk => by
      have e0 : ∀ x, regF (bend (bitAt (code p)) i 0) (i + 1) d k x = regF (rbit q) (i + 1) d k x := fun x => regF_congr _ _ _ _ _ _ fun s hs => by
        unfold bend
        by_cases e : s < i
        · rw [if_pos e, fb s (by omega)]; exact (hi2 s e).symm
        · obtain rfl : s = i := by omega
          rw [if_neg e]; omega
      rw [e0, e0]
      have := regF_own q hq (i + 1) k (by omega) (by rw [hql]; omega)
      rw [hql] at this
      have := hinq k hk
      have := hb.li k; have := hb.hi' k; have := hq k
      unfold pl at *
      omega
    rcases findB_spec hb (bitAt (code p)) (64 * d) with ⟨_, h2⟩ | ⟨t, ht, ft, mt, hres, hlast⟩
    · exact absurd ⟨by rw [fb i hi1]; omega, hmi⟩ (h2 i hi1)
    · have hti : ¬ t < i := fun h => hlast i h hi1 ⟨by rw [fb i hi1]; omega, hmi⟩
      have hfl := bend_le (f := bitAt (code p)) (fun j => bitAt_le _ j) (t := t) (b := 0) (by omega)
      have X_len := cHi_len (rgn (bend (bitAt (code p)) t 0) (t + 1) d 1) hi d
      have X_get := fun (k : Nat) (hk : k < d) => cHi_get hb.hi' (bend (bitAt (code p)) t 0) (t + 1) k hk
      obtain ⟨X, hX⟩ : ∃ X, X = cHi (rgn (bend (bitAt (code p)) t 0) (t + 1) d 1) hi d := ⟨_, rfl⟩
      rw [← hX] at hres X_len X_get
      have XI : IsI X := by rw [hX]; exact cornerX_I true hfl hb
      have Xpl : ∀ k, k < d → pl (X.getD k 0) = min (regF (bend (bitAt (code p)) t 0) (t + 1) d k 1) (pl (hi.getD k 0)) := fun k hk => by rw [X_get k hk, pl_toI]
      have Xbits := bits_of_region _ hfl X d hd X_len (t + 1) (by omega) fun k hk => by
        rw [Xpl k hk]
        have := mt k hk
        have := regF_le (bend (bitAt (code p)) t 0) (t + 1) d k
        omega
      have xl8 : (code X).length = 8 * d := by rw [code_len, X_len]
      refine ⟨code X, hres, xl8, code_lt X, ?_, ?_, ?_⟩
      · by_cases e : t = i
        · subst e
          refine code_mono q X hq XI (by omega) fun k hk => ?_
          rw [hql] at hk
          have e0 : regF (bend (bitAt (code p)) t 0) (t + 1) d k 1 = regF (rbit q) (t + 1) d k 1 := regF_congr _ _ _ _ _ _ fun s hs => by
            unfold bend
            by_cases e : s < t
            · rw [if_pos e, fb s (by omega)]; exact (hi2 s e).symm
            · obtain rfl : s = t := by omega
              rw [if_neg e]; omega
          have h1 := regF_own q hq (t + 1) k (by omega) (by rw [hql]; omega)
          rw [hql] at h1
          have h2 := hinq k hk
          rw [X_get k hk, e0]
          have := hb.hi' k; have := hq k
          unfold toI pl at *
          omega
        · have : lexLt (code q) (code X) = true := (lex_bits q X (by omega)).2 ⟨i, by rw [hql]; exact hi1, fun s hs => by
            rw [Xbits s (by omega)]; unfold bend; rw [if_pos (by omega), fb s (by omega)]; exact hi2 s hs, by
            rw [Xbits i (by omega)]; unfold bend; rw [if_pos (by omega), fb i hi1]; exact hi3⟩
          exact lexLt_asymm _ _ (by rw [code_len, code_len, X_len, hql]) this
      · have : lexLt (code X) (code p) = true := (lex_bits X p (by omega)).2 ⟨t, by rw [X_len]; exact ht, fun s hs => by
          rw [Xbits s (by omega)]; unfold bend; rw [if_pos (by omega), fb s (by omega)], by
          rw [Xbits t (by omega), bend_at, ← fb t ht]; omega⟩
        exact lexLt_asymm _ _ (by rw [code_len, code_len, X_len, hpl]) this
      · have : ptL (code X) d = X := by rw [← X_len]; exact ptL_code X XI
        rw [this]
        refine (hasB_iff hb X X_len).2 fun k hk => ?_
        rw [X_get k hk]
        have := mt k hk
        have := hb.le k hk
        have := hb.li k; have := hb.hi' k
        unfold toI pl at *
        omega
end Go.Proofs.Ytjdbpeblbejllaa
