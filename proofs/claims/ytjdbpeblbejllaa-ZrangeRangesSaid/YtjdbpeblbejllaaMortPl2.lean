/- Plain laws of Morton codes: codes and points back and forth; order. -/
import Derived.Test.YtjdbpeblbejllaaMortPl
import Derived.Test.YtjdbpeblbejllaaMem
set_option linter.unusedVariables false
set_option linter.unusedSimpArgs false
namespace Go.Proofs.Ytjdbpeblbejllaa
open Go.RowKit

theorem bitAt_code (p : List Int) (i : Nat) (hi : i < 64 * p.length) : bitAt (code p) i = rbit p i := by
  have h : (code p).getD (i / 8) 0 = byteOf (rbit p) (i / 8) := by
    unfold code
    simp only [List.getD, List.getElem?_map, List.getElem?_range (show i / 8 < 8 * p.length by omega), Option.map_some, Option.getD_some]
  unfold bitAt
  rw [h]
  have b0 := rbit_le p (8 * (i / 8)); have b1 := rbit_le p (8 * (i / 8) + 1); have b2 := rbit_le p (8 * (i / 8) + 2); have b3 := rbit_le p (8 * (i / 8) + 3)
  have b4 := rbit_le p (8 * (i / 8) + 4); have b5 := rbit_le p (8 * (i / 8) + 5); have b6 := rbit_le p (8 * (i / 8) + 6); have b7 := rbit_le p (8 * (i / 8) + 7)
  unfold byteOf
  have e : rbit p i = rbit p (8 * (i / 8) + i % 8) := by rw [Nat.div_add_mod]
  rw [e]
  rcases (by omega : i % 8 = 0 ∨ i % 8 = 1 ∨ i % 8 = 2 ∨ i % 8 = 3 ∨ i % 8 = 4 ∨ i % 8 = 5 ∨ i % 8 = 6 ∨ i % 8 = 7) with h|h|h|h|h|h|h|h <;> rw [h] <;> (try simp only [Nat.add_zero, Nat.sub_zero]) <;> simp <;> omega

/-! ### points and codes, back and forth -/
theorem horn_bits (x : Nat) (hx : x < 2 ^ 64) : ∀ m, m ≤ 64 → hornN (fun b => x / 2 ^ (63 - b) % 2) m = x / 2 ^ (64 - m)
  | 0, _ => by rw [hornN, Nat.sub_zero, Nat.div_eq_of_lt hx]
  | m + 1, h => by
    have ih := horn_bits x hx m (by omega)
    have e : 64 - m = (64 - (m + 1)) + 1 := by omega
    have e2 : 63 - m = 64 - (m + 1) := by omega
    rw [e, Nat.pow_succ, ← Nat.div_div_eq_div_mul] at ih
    rw [hornN, ih, e2]
    omega
theorem hornN_congr (f g : Nat → Nat) : ∀ m, (∀ b, b < m → f b = g b) → hornN f m = hornN g m
  | 0, _ => rfl
  | m + 1, h => by rw [hornN, hornN, hornN_congr f g m fun b hb => h b (by omega), h m (by omega)]
theorem hornN_bit (f : Nat → Nat) (hf : ∀ i, f i ≤ 1) : ∀ m b, b < m → hornN f m / 2 ^ (m - 1 - b) % 2 = f b
  | 0, _, h => absurd h (by omega)
  | m + 1, b, h => by
    have hm := hf m
    by_cases e : b = m
    · subst e
      rw [show b + 1 - 1 - b = 0 by omega, Nat.pow_zero, Nat.div_one, hornN]; omega
    · have ih := hornN_bit f hf m b (by omega)
      rw [show m + 1 - 1 - b = (m - 1 - b) + 1 by omega, hornN, Nat.pow_succ, Nat.mul_comm (2 ^ _) 2, ← Nat.div_div_eq_div_mul]
      rw [show (2 * hornN f m + f m) / 2 = hornN f m by omega]
      exact ih
def ptL (c : List Nat) (d : Nat) : List Int := (List.range d).map (ptNum c d)
theorem ptL_len (c : List Nat) (d : Nat) : (ptL c d).length = d := by simp [ptL]
theorem ptL_get (c : List Nat) (d k : Nat) (hk : k < d) : (ptL c d).getD k 0 = ptNum c d k := by
  unfold ptL
  simp only [List.getD, List.getElem?_map, List.getElem?_range hk, Option.map_some, Option.getD_some]
theorem ptVals_get (c : List Nat) (d k : Nat) (hk : k < d) : (ptVals c d d)[k]? = some (i64s (ptL c d) k) := by
  unfold ptVals i64s
  rw [ptL_get c d k hk]
  simp only [List.getElem?_map, List.getElem?_range hk, Option.map_some]
theorem ptNum_bd (c : List Nat) (d k : Nat) : -9223372036854775808 ≤ ptNum c d k ∧ ptNum c d k ≤ 9223372036854775807 := by
  have := hornN_lt64 (fun b => bitAt c (b * d + k)) (fun i => bitAt_le _ _) 64 (by omega)
  unfold ptNum; omega
theorem ptL_I (c : List Nat) (d : Nat) : IsI (ptL c d) := fun i => by
  by_cases hi : i < d
  · rw [ptL_get c d i hi]; exact ptNum_bd c d i
  · rw [getD_out _ _ _ (by rw [ptL_len]; omega)]; omega
theorem ptNum_code (p : List Int) (hp : IsI p) (k : Nat) (hk : k < p.length) : ptNum (code p) p.length k = p.getD k 0 := by
  unfold ptNum
  have h1 : hornN (fun b => bitAt (code p) (b * p.length + k)) 64 = hornN (fun b => pl (p.getD k 0) / 2 ^ (63 - b) % 2) 64 := by
    apply hornN_congr
    intro b hb
    have : (b + 1) * p.length ≤ 64 * p.length := Nat.mul_le_mul_right _ hb
    rw [Nat.add_mul] at this
    rw [bitAt_code p _ (by omega), rbit_at p b k hk]
  rw [h1, horn_bits _ (pl_lt _ (hp k).2) 64 (Nat.le_refl _), Nat.sub_self, Nat.pow_zero, Nat.div_one]
  have := hp k
  unfold pl; omega
theorem ptL_code (p : List Int) (hp : IsI p) : ptL (code p) p.length = p := by
  apply List.ext_getElem (ptL_len _ _)
  intro i h1 h2
  have h := ptL_get (code p) p.length i h2
  rw [ptNum_code p hp i h2] at h
  simpa [List.getD, List.getElem?_eq_getElem h1, List.getElem?_eq_getElem h2] using h
theorem pl_ptNum (c : List Nat) (d k : Nat) : pl (ptNum c d k) = hornN (fun b => bitAt c (b * d + k)) 64 := by
  unfold pl ptNum; omega
theorem rbit_ptL (c : List Nat) (d i : Nat) (hd : 0 < d) (hi : i < 64 * d) : rbit (ptL c d) i = bitAt c i := by
  unfold rbit
  rw [ptL_len, ptL_get c d _ (Nat.mod_lt _ hd), pl_ptNum]
  have hb : i / d < 64 := by rw [Nat.div_lt_iff_lt_mul hd]; exact hi
  have h := hornN_bit (fun b => bitAt c (b * d + i % d)) (fun i => bitAt_le _ _) 64 (i / d) hb
  rw [show 64 - 1 - i / d = 63 - i / d by omega] at h
  rw [h]
  show bitAt c (i / d * d + i % d) = bitAt c i
  rw [Nat.mul_comm, Nat.div_add_mod]
theorem byteOf_bitAt (c : List Nat) (hc : IsB c) (j : Nat) : byteOf (bitAt c) j = c.getD j 0 := by
  have e : ∀ t, t < 8 → bitAt c (8 * j + t) = c.getD j 0 / 2 ^ (7 - t) % 2 := fun t ht => by
    unfold bitAt
    rw [show (8 * j + t) / 8 = j by omega, show (8 * j + t) % 8 = t by omega]
  have e0 := e 0 (by omega)
  have hx := hc j
  unfold byteOf
  rw [Nat.add_zero] at e0
  rw [e0, e 1 (by omega), e 2 (by omega), e 3 (by omega), e 4 (by omega), e 5 (by omega), e 6 (by omega), e 7 (by omega)]
  generalize c.getD j 0 = x at *
  simp
  omega
theorem code_ptL (c : List Nat) (d : Nat) (hc : IsB c) (hd : 0 < d) (hl : c.length = 8 * d) : code (ptL c d) = c := by
  apply List.ext_getElem (by rw [code_len, ptL_len, hl])
  intro i h1 h2
  have hi : i < 8 * d := by omega
  have hx : (code (ptL c d)).getD i 0 = c.getD i 0 := by
    unfold code
    rw [ptL_len]
    simp only [List.getD, List.getElem?_map, List.getElem?_range hi, Option.map_some, Option.getD_some]
    rw [byteOf_congr (rbit (ptL c d)) (bitAt c) i fun t ht => rbit_ptL c d _ hd (by omega), byteOf_bitAt c hc]
    rfl
  simpa [List.getD, List.getElem?_eq_getElem h1, List.getElem?_eq_getElem h2] using hx

/-! ### order -/
def FirstDiff (f g : Nat → Nat) (n i : Nat) : Prop := i < n ∧ (∀ s, s < i → f s = g s) ∧ f i < g i
theorem horn_eq_iff (f g : Nat → Nat) (hf : ∀ i, f i ≤ 1) (hg : ∀ i, g i ≤ 1) : ∀ n, hornN f n = hornN g n ↔ ∀ s, s < n → f s = g s
  | 0 => by simp [hornN]
  | n + 1 => by
    have ih := horn_eq_iff f g hf hg n
    have h1 := hf n; have h2 := hg n
    rw [hornN, hornN]
    constructor
    · intro h s hs
      by_cases e : s = n
      · subst e; omega
      · exact ih.1 (by omega) s (by omega)
    · intro h
      rw [ih.2 fun s hs => h s (by omega), h n (by omega)]
theorem horn_lt_iff (f g : Nat → Nat) (hf : ∀ i, f i ≤ 1) (hg : ∀ i, g i ≤ 1) : ∀ n, hornN f n < hornN g n ↔ ∃ t, FirstDiff f g n t
  | 0 => by simp [hornN, FirstDiff]
  | n + 1 => by
    have ih := horn_lt_iff f g hf hg n
    have ie := horn_eq_iff f g hf hg n
    have h1 := hf n; have h2 := hg n
    rw [hornN, hornN]
    constructor
    · intro h
      by_cases hlt : hornN f n < hornN g n
      · obtain ⟨t, ht, h3, h4⟩ := ih.1 hlt
        exact ⟨t, by omega, h3, h4⟩
      · have he : hornN f n = hornN g n := by omega
        exact ⟨n, by omega, ie.1 he, by omega⟩
    · rintro ⟨t, ht, h3, h4⟩
      by_cases e : t = n
      · subst e
        have := ie.2 h3; omega
      · have := ih.2 ⟨t, by omega, h3, h4⟩; omega
theorem code_get (p : List Int) (j : Nat) (hj : j < 8 * p.length) : (code p).getD j 0 = hornN (fun k => rbit p (8 * j + k)) 8 := by
  rw [hornN_8 (rbit p) j]
  unfold code
  simp only [List.getD, List.getElem?_map, List.getElem?_range hj, Option.map_some, Option.getD_some]
theorem lex_bits (p q : List Int) (hl : p.length = q.length) : lexLt (code p) (code q) = true ↔ ∃ i, FirstDiff (rbit p) (rbit q) (64 * p.length) i := by
  rw [lexLt_iff _ _ (by rw [code_len, code_len, hl]), code_len]
  have hp : ∀ j i, rbit p (8 * j + i) ≤ 1 := fun j i => rbit_le p _
  have hq : ∀ j i, rbit q (8 * j + i) ≤ 1 := fun j i => rbit_le q _
  have ge : ∀ j, j < 8 * p.length → ((code p).getD j 0 = (code q).getD j 0 ↔ ∀ s, s < 8 → rbit p (8 * j + s) = rbit q (8 * j + s)) := fun j hj => by
    rw [code_get p j hj, code_get q j (by omega)]; exact horn_eq_iff _ _ (hp j) (hq j) 8
  have gl : ∀ j, j < 8 * p.length → ((code p).getD j 0 < (code q).getD j 0 ↔ ∃ t, FirstDiff (fun s => rbit p (8 * j + s)) (fun s => rbit q (8 * j + s)) 8 t) := fun j hj => by
    rw [code_get p j hj, code_get q j (by omega)]; exact horn_lt_iff _ _ (hp j) (hq j) 8
  constructor
  · rintro ⟨j, hj, h1, h2⟩
    obtain ⟨t, ht, h3, h4⟩ := (gl j hj).1 h2
    refine ⟨8 * j + t, by omega, fun s hs => ?_, h4⟩
    by_cases e : s < 8 * j
    · have := (ge (s / 8) (by omega)).1 (h1 (s / 8) (by omega)) (s % 8) (by omega)
      rwa [Nat.div_add_mod] at this
    · have := h3 (s - 8 * j) (by omega)
      simp only at this
      rwa [show 8 * j + (s - 8 * j) = s by omega] at this
  · rintro ⟨i, hi, h1, h2⟩
    refine ⟨i / 8, by omega, fun j hj => (ge j (by omega)).2 fun s hs => h1 _ (by omega), (gl (i / 8) (by omega)).2 ⟨i % 8, by omega, fun s hs => h1 _ (by omega), ?_⟩⟩
    simp only
    rwa [Nat.div_add_mod]

/-! ### Ahead -/
def aStep (p q : List Int) (s : Nat × Nat) (i : Nat) : Nat × Nat :=
  if s.2 < pl (p.getD i 0) ^^^ pl (q.getD i 0) ∧ s.2 < s.2 ^^^ (pl (p.getD i 0) ^^^ pl (q.getD i 0)) then (i, pl (p.getD i 0) ^^^ pl (q.getD i 0)) else s
def aSt (p q : List Int) : Nat → Nat × Nat
  | 0 => (0, 0)
  | k + 1 => aStep p q (aSt p q k) k
def aheadB (p q : List Int) : Bool := decide (p.getD (aSt p q p.length).1 0 < q.getD (aSt p q p.length).1 0)
theorem pl_xor_lt (a b : Int) (ha : a ≤ 9223372036854775807) (hb : b ≤ 9223372036854775807) : pl a ^^^ pl b < 18446744073709551616 := Nat.xor_lt_two_pow (n := 64) (pl_lt a ha) (pl_lt b hb)

def Top (x m : Nat) : Prop := m ≤ 63 ∧ 2 ^ (63 - m) ≤ x ∧ x < 2 ^ (64 - m)
theorem top_of (x : Nat) (h0 : 0 < x) (hx : x < 2 ^ 64) : ∃ m, Top x m := by
  have key : ∀ n, n ≤ 64 → x < 2 ^ n → ∃ m, Top x m := by
    intro n
    induction n with
    | zero => intro _ h; simp at h; omega
    | succ n ih =>
      intro hn h
      by_cases e : x < 2 ^ n
      · exact ih (by omega) e
      · exact ⟨63 - n, by omega, by rw [show 63 - (63 - n) = n by omega]; omega, by rw [show 64 - (63 - n) = n + 1 by omega]; exact h⟩
  exact key 64 (Nat.le_refl _) hx
theorem top_bit {x m : Nat} (h : Top x m) : x / 2 ^ (63 - m) % 2 = 1 ∧ ∀ b, b < m → x / 2 ^ (63 - b) % 2 = 0 := by
  obtain ⟨h1, h2, h3⟩ := h
  constructor
  · have : x / 2 ^ (63 - m) = 1 := by
      rw [show 64 - m = (63 - m) + 1 by omega, Nat.pow_succ] at h3
      have hp : 0 < 2 ^ (63 - m) := Nat.pow_pos (by omega)
      apply Nat.div_eq_of_lt_le
      · omega
      · omega
    rw [this]
  · intro b hb
    have : 2 ^ (64 - m) ≤ 2 ^ (63 - b) := Nat.pow_le_pow_right (by omega) (by omega)
    rw [Nat.div_eq_of_lt (by omega)]
theorem pow_lt_of (a b : Nat) (h : a < b) : 2 * 2 ^ a ≤ 2 ^ b := by
  have : 2 ^ (a + 1) ≤ 2 ^ b := Nat.pow_le_pow_right (by omega) h
  rw [Nat.pow_succ] at this; omega
theorem top_testBit {x m : Nat} (h : Top x m) : x.testBit (63 - m) = true := by
  rw [Nat.testBit_eq_decide_div_mod_eq]; simp [(top_bit h).1]
theorem trick {y x a b : Nat} (hy : Top y a) (hx : Top x b) : (y < x ∧ y < y ^^^ x) ↔ b < a := by
  have ta := top_testBit hy
  have tb := top_testBit hx
  obtain ⟨a1, a2, a3⟩ := hy
  obtain ⟨b1, b2, b3⟩ := hx
  constructor
  · rintro ⟨h1, h2⟩
    rcases Nat.lt_trichotomy b a with h | h | h
    · exact h
    · subst h
      exfalso
      have : y ^^^ x < 2 ^ (63 - b) := by
        apply Nat.lt_pow_two_of_testBit
        intro i hi
        rw [Nat.testBit_xor]
        by_cases e : i = 63 - b
        · rw [e, ta, tb]; rfl
        · have : 2 ^ (64 - b) ≤ 2 ^ i := Nat.pow_le_pow_right (by omega) (by omega)
          rw [Nat.testBit_lt_two_pow (by omega), Nat.testBit_lt_two_pow (by omega)]; rfl
      omega
    · exfalso
      have : 2 ^ (64 - b) ≤ 2 ^ (63 - a) := Nat.pow_le_pow_right (by omega) (by omega)
      omega
  · intro h
    have h2 : 2 ^ (64 - a) ≤ 2 ^ (63 - b) := Nat.pow_le_pow_right (by omega) (by omega)
    refine ⟨by omega, ?_⟩
    have : (y ^^^ x).testBit (63 - b) = true := by
      rw [Nat.testBit_xor, tb, Nat.testBit_lt_two_pow (by omega)]; rfl
    have := Nat.ge_two_pow_of_testBit this
    omega
theorem xbit (a b s : Nat) : (a ^^^ b) / 2 ^ s % 2 = 0 ↔ a / 2 ^ s % 2 = b / 2 ^ s % 2 := by
  have h : (a ^^^ b).testBit s = (a.testBit s ^^ b.testBit s) := Nat.testBit_xor a b s
  simp only [Nat.testBit_eq_decide_div_mod_eq] at h
  have h1 : (a ^^^ b) / 2 ^ s % 2 = 0 ∨ (a ^^^ b) / 2 ^ s % 2 = 1 := by omega
  have h2 : a / 2 ^ s % 2 = 0 ∨ a / 2 ^ s % 2 = 1 := by omega
  have h3 : b / 2 ^ s % 2 = 0 ∨ b / 2 ^ s % 2 = 1 := by omega
  rcases h1 with h1 | h1 <;> rcases h2 with h2 | h2 <;> rcases h3 with h3 | h3 <;> simp_all

def X (p q : List Int) (j : Nat) : Nat := pl (p.getD j 0) ^^^ pl (q.getD j 0)
theorem X_lt (p q : List Int) (hp : IsI p) (hq : IsI q) (j : Nat) : X p q j < 2 ^ 64 := Nat.xor_lt_two_pow (pl_lt _ (hp j).2) (pl_lt _ (hq j).2)
theorem no_top (m : Nat) : ¬ Top 0 m := fun h => by have := h.2.1; have : 0 < 2 ^ (63 - m) := Nat.pow_pos (by omega); omega
def AInv (p q : List Int) (k : Nat) (s : Nat × Nat) : Prop :=
  (s.2 = 0 ∧ s.1 = 0 ∧ ∀ j, j < k → X p q j = 0) ∨
  (∃ m, Top s.2 m ∧ s.1 < k ∧ s.2 = X p q s.1 ∧ ∀ j, j < k → ∀ m', Top (X p q j) m' → m ≤ m' ∧ (j < s.1 → m < m'))
theorem top_uniq {x m m' : Nat} (h : Top x m) (h' : Top x m') : m = m' := by
  have t := top_bit h; have t' := top_bit h'
  rcases Nat.lt_trichotomy m m' with e | e | e
  · have := t'.2 m e; omega
  · exact e
  · have := t.2 m' e; omega
theorem aInv (p q : List Int) (hp : IsI p) (hq : IsI q) : ∀ k, AInv p q k (aSt p q k)
  | 0 => .inl ⟨rfl, rfl, fun j hj => absurd hj (by omega)⟩
  | k + 1 => by
    have ih := aInv p q hp hq k
    rw [aSt, aStep]
    show AInv p q (k + 1) (if (aSt p q k).2 < X p q k ∧ (aSt p q k).2 < (aSt p q k).2 ^^^ X p q k then (k, X p q k) else aSt p q k)
    generalize aSt p q k = s at *
    rcases ih with ⟨h1, h2, h3⟩ | ⟨m, h1, h2, h3, h4⟩
    · rw [h1, Nat.zero_xor]
      by_cases hx : 0 < X p q k
      · rw [if_pos ⟨hx, hx⟩]
        obtain ⟨m, hm⟩ := top_of _ hx (X_lt p q hp hq k)
        refine .inr ⟨m, hm, by simp, rfl, fun j hj m' hm' => ?_⟩
        by_cases e : j = k
        · subst e
          exact ⟨Nat.le_of_eq (top_uniq hm hm'), fun h => absurd h (by simp)⟩
        · rw [h3 j (by omega)] at hm'
          exact (no_top _ hm').elim
      · rw [if_neg (fun h => hx h.1)]
        refine .inl ⟨h1, h2, fun j hj => ?_⟩
        by_cases e : j = k
        · subst e; omega
        · exact h3 j (by omega)
    · by_cases hx : 0 < X p q k
      · obtain ⟨b, hb⟩ := top_of _ hx (X_lt p q hp hq k)
        by_cases hc : b < m
        · rw [if_pos ((trick h1 hb).2 hc)]
          refine .inr ⟨b, hb, by simp, rfl, fun j hj m' hm' => ?_⟩
          by_cases e : j = k
          · subst e
            exact ⟨Nat.le_of_eq (top_uniq hb hm'), fun h => absurd h (by simp)⟩
          · have := (h4 j (by omega) m' hm').1
            exact ⟨by omega, fun _ => by omega⟩
        · rw [if_neg (fun h => hc ((trick h1 hb).1 h))]
          refine .inr ⟨m, h1, by omega, h3, fun j hj m' hm' => ?_⟩
          by_cases e : j = k
          · subst e
            have := top_uniq hb hm'
            exact ⟨by omega, fun h => absurd h (by omega)⟩
          · exact h4 j (by omega) m' hm'
      · have hx0 : X p q k = 0 := by omega
        rw [if_neg (fun h => by omega)]
        refine .inr ⟨m, h1, by omega, h3, fun j hj m' hm' => ?_⟩
        by_cases e : j = k
        · subst e
          rw [hx0] at hm'
          exact (no_top _ hm').elim
        · exact h4 j (by omega) m' hm'
theorem pl_le (a b : Int) (ha : -9223372036854775808 ≤ a) (hb : -9223372036854775808 ≤ b) : pl a < pl b ↔ a < b := by unfold pl; omega
theorem word_lt (a b : Nat) (ha : a < 2 ^ 64) (hb : b < 2 ^ 64) : a < b ↔ ∃ t, FirstDiff (fun s => a / 2 ^ (63 - s) % 2) (fun s => b / 2 ^ (63 - s) % 2) 64 t := by
  have h := horn_lt_iff (fun s => a / 2 ^ (63 - s) % 2) (fun s => b / 2 ^ (63 - s) % 2) (fun i => by omega) (fun i => by omega) 64
  rw [horn_bits a ha 64 (Nat.le_refl _), horn_bits b hb 64 (Nat.le_refl _), Nat.sub_self, Nat.pow_zero, Nat.div_one, Nat.div_one] at h
  exact h
theorem firstDiff_at {f g : Nat → Nat} {n i : Nat} (hi : i < n) (h1 : ∀ s, s < i → f s = g s) (h2 : f i ≠ g i) : (∃ t, FirstDiff f g n t) ↔ f i < g i := by
  constructor
  · rintro ⟨t, h3, h4, h5⟩
    rcases Nat.lt_trichotomy t i with e | e | e
    · have := h1 t e; omega
    · subst e; exact h5
    · exact absurd (h4 i e) h2
  · exact fun h => ⟨i, hi, h1, h⟩
theorem ahead_eq (p q : List Int) (hp : IsI p) (hq : IsI q) (hl : p.length = q.length) (h1 : 1 ≤ p.length) : aheadB p q = lexLt (code p) (code q) := by
  rw [Bool.eq_iff_iff, lex_bits p q hl]
  unfold aheadB
  rw [decide_eq_true_eq]
  have inv := aInv p q hp hq p.length
  generalize aSt p q p.length = s at *
  have rp : ∀ b j, j < p.length → rbit p (b * p.length + j) = pl (p.getD j 0) / 2 ^ (63 - b) % 2 := fun b j hj => rbit_at p b j hj
  have rq : ∀ b j, j < p.length → rbit q (b * p.length + j) = pl (q.getD j 0) / 2 ^ (63 - b) % 2 := fun b j hj => by
    rw [hl]; exact rbit_at q b j (by omega)
  rcases inv with ⟨i1, i2, i3⟩ | ⟨m, i1, i2, i3, i4⟩
  · have hall : ∀ s, s < 64 * p.length → rbit p s = rbit q s := fun s hs => by
      have hj : s % p.length < p.length := Nat.mod_lt _ (by omega)
      have e : s / p.length * p.length + s % p.length = s := by rw [Nat.mul_comm, Nat.div_add_mod]
      rw [← e, rp _ _ hj, rq _ _ hj, ← xbit]
      have := i3 _ hj
      unfold X at this
      rw [this]; simp
    rw [i2]
    constructor
    · intro h
      exfalso
      have hx := i3 0 (by omega)
      unfold X at hx
      have h3 := (pl_le _ _ (hp 0).1 (hq 0).1).2 h
      have : pl (p.getD 0 0) = pl (q.getD 0 0) := by
        have h4 : pl (p.getD 0 0) ^^^ (pl (p.getD 0 0) ^^^ pl (q.getD 0 0)) = pl (p.getD 0 0) := by rw [hx, Nat.xor_zero]
        rw [← Nat.xor_assoc, Nat.xor_self, Nat.zero_xor] at h4
        exact h4.symm
      omega
    · rintro ⟨t, h3, h4, h5⟩
      have := hall t h3; omega
  · have hm : m ≤ 63 := i1.1
    have tb := top_bit i1
    rw [i3] at tb
    have hstar : m * p.length + s.1 < 64 * p.length := by
      have : (m + 1) * p.length ≤ 64 * p.length := Nat.mul_le_mul_right _ (by omega)
      rw [Nat.add_mul] at this; omega
    have hdiff : rbit p (m * p.length + s.1) ≠ rbit q (m * p.length + s.1) := by
      rw [rp _ _ i2, rq _ _ i2]
      intro h
      have := (xbit _ _ _).2 h
      have h2 := tb.1
      unfold X at h2
      omega
    have hpre : ∀ t, t < m * p.length + s.1 → rbit p t = rbit q t := fun t ht => by
      have hj : t % p.length < p.length := Nat.mod_lt _ (by omega)
      have e : t / p.length * p.length + t % p.length = t := by rw [Nat.mul_comm, Nat.div_add_mod]
      rw [← e, rp _ _ hj, rq _ _ hj, ← xbit]
      show X p q (t % p.length) / 2 ^ (63 - t / p.length) % 2 = 0
      rcases Nat.eq_zero_or_pos (X p q (t % p.length)) with h0 | h0
      · rw [h0]; simp
      · obtain ⟨m', hm'⟩ := top_of _ h0 (X_lt p q hp hq _)
        have h6 := i4 _ hj m' hm'
        refine (top_bit hm').2 _ ?_
        have hb : t / p.length ≤ m := by
          rcases Nat.lt_or_ge m (t / p.length) with h | h
          · exfalso
            have : (m + 1) * p.length ≤ t / p.length * p.length := Nat.mul_le_mul_right _ h
            rw [Nat.add_mul] at this; omega
          · exact h
        rcases Nat.lt_or_ge (t / p.length) m with h | h
        · omega
        · have e2 : t / p.length = m := by omega
          rw [e2] at e
          have := h6.2 (by omega)
          omega
    rw [firstDiff_at hstar hpre hdiff, rp _ _ i2, rq _ _ i2, ← pl_le _ _ (hp _).1 (hq _).1, word_lt _ _ (pl_lt _ (hp _).2) (pl_lt _ (hq _).2)]
    refine firstDiff_at (i := m) (by omega) (fun t ht => ?_) ?_
    · rw [← xbit]
      exact tb.2 t ht
    · have h2 := hdiff
      rw [rp _ _ i2, rq _ _ i2] at h2
      exact h2
end Go.Proofs.Ytjdbpeblbejllaa
