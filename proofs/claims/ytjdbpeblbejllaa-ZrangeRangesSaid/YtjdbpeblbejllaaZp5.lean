/- Split: the first bit at which the corners' codes are unlike; no program in sight. -/
import Derived.Test.YtjdbpeblbejllaaZp4
set_option linter.unusedVariables false
set_option linter.unusedSimpArgs false
namespace Go.Proofs.Ytjdbpeblbejllaa
open Go.RowKit
theorem bitLen_zero : Lib.bitLen 0 = 0 := by decide
/-- the highest bit of x is below b + 1 -/
theorem bit_high (x b t : Nat) (hx : x < 2 ^ 64) (h : (Lib.bitLen x : Int) - 1 < (b : Int)) (ht : b ≤ t) (h63 : t ≤ 63) : x / 2 ^ t % 2 = 0 := by
  rcases Nat.eq_zero_or_pos x with e | e
  · subst e; simp
  · obtain ⟨m, hm⟩ := top_of x e hx
    rw [bitLen_top hm] at h
    have h1 := hm.1
    have := (top_bit hm).2 (63 - t) (by omega)
    rwa [show 63 - (63 - t) = t by omega] at this
theorem bit_top (x b : Nat) (hx : x < 2 ^ 64) (h : (Lib.bitLen x : Int) - 1 = (b : Int)) : x / 2 ^ b % 2 = 1 := by
  rcases Nat.eq_zero_or_pos x with e | e
  · subst e; rw [bitLen_zero] at h; omega
  · obtain ⟨m, hm⟩ := top_of x e hx
    rw [bitLen_top hm] at h
    have h1 := hm.1
    have := (top_bit hm).1
    rwa [show 63 - m = b by omega] at this
theorem uSt_spec (lo hi : List Int) : ∀ n, (∀ k, k < n → (Lib.bitLen (X lo hi k) : Int) - 1 ≤ (uSt lo hi n).2) ∧ (0 ≤ (uSt lo hi n).2 → (uSt lo hi n).1 < n ∧ (Lib.bitLen (X lo hi (uSt lo hi n).1) : Int) - 1 = (uSt lo hi n).2 ∧ ∀ k, k < (uSt lo hi n).1 → (Lib.bitLen (X lo hi k) : Int) - 1 < (uSt lo hi n).2)
  | 0 => ⟨fun k hk => by omega, fun h => by simp [uSt] at h⟩
  | n + 1 => by
    obtain ⟨h1, h2⟩ := uSt_spec lo hi n
    have e : uSt lo hi (n + 1) = uStep lo hi (uSt lo hi n) n := rfl
    rw [e]
    unfold uStep
    split
    · rename_i h
      dsimp only
      refine ⟨fun k hk => ?_, fun _ => ⟨by omega, rfl, fun k hk => ?_⟩⟩
      · by_cases e : k = n
        · subst e; exact Int.le_refl _
        · have := h1 k (by omega); omega
      · have := h1 k hk; omega
    · rename_i h
      refine ⟨fun k hk => ?_, fun h0 => ?_⟩
      · by_cases e : k = n
        · subst e; omega
        · exact h1 k (by omega)
      · obtain ⟨a, b, c⟩ := h2 h0
        exact ⟨by omega, b, c⟩
/-- the first bit at which two rows' codes are unlike: at 64 d there is none -/
def FD (lo hi : List Int) (d N : Nat) : Prop := N ≤ 64 * d ∧ (∀ i, i < N → rbit lo i = rbit hi i) ∧ (N < 64 * d → rbit lo N ≠ rbit hi N)
theorem rbit_xor {lo hi : List Int} {d : Nat} (hl : lo.length = d) (hh : hi.length = d) (i : Nat) : rbit lo i = rbit hi i ↔ X lo hi (i % d) / 2 ^ (63 - i / d) % 2 = 0 := by
  unfold rbit X
  rw [hl, hh]
  exact (xbit _ _ _).symm
theorem fd_at {lo hi : List Int} {d : Nat} (hb : Bx lo hi d) (h : 0 ≤ (uSt lo hi d).2) : ∃ b, (uSt lo hi d).2 = (b : Nat) ∧ b ≤ 63 ∧ (uSt lo hi d).1 < d ∧ FD lo hi d ((63 - b) * d + (uSt lo hi d).1) ∧ (63 - b) * d + (uSt lo hi d).1 < 64 * d := by
  obtain ⟨h1, h2⟩ := uSt_spec lo hi d
  obtain ⟨h3, h4, h5⟩ := h2 h
  have hbd := uSt_bd lo hi hb.li hb.hi' d
  obtain ⟨b, hbe⟩ := Int.eq_ofNat_of_zero_le h
  obtain ⟨s, hs⟩ : ∃ s, s = (uSt lo hi d).1 := ⟨_, rfl⟩
  rw [hbe] at h1 h4 h5 hbd
  rw [← hs] at h3 h4 h5 ⊢
  have hd := hb.d1
  have hX := fun k => X_lt lo hi hb.li hb.hi' k
  have hNlt : (63 - b) * d + s < 64 * d := by
    have : (63 - b + 1) * d ≤ 64 * d := Nat.mul_le_mul_right _ (by omega)
    rw [Nat.add_mul] at this; omega
  have hNm : ((63 - b) * d + s) % d = s := by rw [Nat.add_comm, Nat.add_mul_mod_self_right, Nat.mod_eq_of_lt h3]
  have hNd : ((63 - b) * d + s) / d = 63 - b := by rw [Nat.add_comm, Nat.add_mul_div_right _ _ hd, Nat.div_eq_of_lt h3, Nat.zero_add]
  have hb63 : b ≤ 63 := by omega
  refine ⟨b, hbe, hb63, h3, ⟨Nat.le_of_lt hNlt, fun i hI => ?_, fun _ => ?_⟩, hNlt⟩
  · rw [rbit_xor hb.ll hb.hl]
    have hk := Nat.mod_lt i hd
    have hid := Nat.div_add_mod i d
    have hi64 : i / d < 64 := Nat.div_lt_of_lt_mul (by rw [Nat.mul_comm]; omega)
    have hk1 := h1 _ hk
    generalize i / d = j at *
    by_cases e : j < 63 - b
    · exact bit_high _ (b + 1) _ (hX _) (by omega) (by omega) (by omega)
    · have e2 : j = 63 - b := by
        have h6 : d * j ≤ i := by omega
        have h7 : ¬ (63 - b + 1) * d ≤ i := by rw [Nat.add_mul]; omega
        have h8 : ¬ (63 - b + 1) ≤ j := fun h => h7 (Nat.le_trans (Nat.mul_le_mul_right d h) (by rw [Nat.mul_comm]; exact h6))
        omega
      have e3 : i % d < s := by
        have h9 : d * (63 - b) = (63 - b) * d := Nat.mul_comm _ _
        rw [e2, h9] at hid; omega
      exact bit_high _ b _ (hX _) (h5 _ e3) (by omega) (by omega)
  · rw [Ne, rbit_xor hb.ll hb.hl, hNm, hNd, show 63 - (63 - b) = b by omega, bit_top _ b (hX _) h4]
    omega
theorem fd_none {lo hi : List Int} {d : Nat} (hb : Bx lo hi d) (h : (uSt lo hi d).2 < 0) : FD lo hi d (64 * d) := by
  obtain ⟨h1, _⟩ := uSt_spec lo hi d
  have hd := hb.d1
  refine ⟨Nat.le_refl _, fun i hI => ?_, fun h => by omega⟩
  rw [rbit_xor hb.ll hb.hl]
  have hi64 : i / d < 64 := Nat.div_lt_of_lt_mul (by rw [Nat.mul_comm]; omega)
  have hk1 := h1 _ (Nat.mod_lt i hd)
  generalize i / d = j at *
  exact bit_high _ 0 _ (X_lt lo hi hb.li hb.hi' _) (by omega) (by omega) (by omega)
theorem fd_uniq {lo hi : List Int} {d N N' : Nat} (h : FD lo hi d N) (h' : FD lo hi d N') : N = N' := by
  obtain ⟨a, b, c⟩ := h
  obtain ⟨a', b', c'⟩ := h'
  rcases Nat.lt_or_ge N N' with hh | hh
  · exact absurd (b' N hh) (c (by omega))
  · rcases Nat.lt_or_ge N' N with hh' | hh'
    · exact absurd (b N' hh') (c' (by omega))
    · omega
/-- the halves at the first unlike bit -/
structure Halves (lo hi : List Int) (d N : Nat) : Prop where
  ok1 : cOk (rgn (rbit lo) (N + 1) d 0) (rgn (rbit lo) (N + 1) d 1) lo hi d = true
  ok2 : cOk (rgn (rbit hi) (N + 1) d 0) (rgn (rbit hi) (N + 1) d 1) lo hi d = true
  l1 : cLo (rgn (rbit lo) (N + 1) d 0) lo d = lo
  h1 : cHi (rgn (rbit lo) (N + 1) d 1) hi d = hi.set (N % d) (toI (upN (pl (hi.getD (N % d) 0)) (63 - N / d)))
  l2 : cLo (rgn (rbit hi) (N + 1) d 0) lo d = lo.set (N % d) (toI (loN (pl (hi.getD (N % d) 0)) (63 - N / d)))
  h2 : cHi (rgn (rbit hi) (N + 1) d 1) hi d = hi
  b0 : rbit lo N = 0
  b1 : rbit hi N = 1
theorem halves {lo hi : List Int} {d N : Nat} (hb : Bx lo hi d) (h : FD lo hi d N) (hN : N < 64 * d) : Halves lo hi d N := by
  have hd := hb.d1
  obtain ⟨_, hag, hne⟩ := h
  have hne := hne hN
  have hk := Nat.mod_lt N hd
  obtain ⟨M, q, hq, hM, r0, r1, s0, s1, hx⟩ := side_step (rbit lo) (rbit_le lo) N d hd hN
  obtain ⟨M', q', hq', hM', r0', r1', s0', s1', hx'⟩ := side_step (rbit hi) (rbit_le hi) N d hd hN
  have ec : ∀ k x, regF (rbit lo) N d k x = regF (rbit hi) N d k x := fun k x => regF_congr _ _ _ _ _ _ hag
  have e0 := ec (N % d) 0; have e1 := ec (N % d) 1
  rw [r0, r0'] at e0
  rw [r1, r1'] at e1
  subst e0
  obtain rfl : q' = q := by omega
  have ownL := fun n k hk hn => regF_own lo hb.li n k (by rw [hb.ll]; exact hk) (by rw [hb.ll]; exact hn)
  have ownH := fun n k hk hn => regF_own hi hb.hi' n k (by rw [hb.hl]; exact hk) (by rw [hb.hl]; exact hn)
  simp only [hb.ll] at ownL
  simp only [hb.hl] at ownH
  have oL := ownL (N + 1) _ hk (by omega)
  have oH := ownH (N + 1) _ hk (by omega)
  rw [s0, s1] at oL
  rw [s0', s1'] at oH
  have hle := hb.le _ hk
  have bl := rbit_le lo N; have bh := rbit_le hi N
  have hL := pl_bd _ (hb.li (N % d)); have hH := pl_bd _ (hb.hi' (N % d))
  have hpl : pl (lo.getD (N % d) 0) ≤ pl (hi.getD (N % d) 0) := by unfold pl; omega
  have b01 : rbit lo N = 0 ∧ rbit hi N = 1 := by
    rcases (by omega : rbit lo N = 0 ∨ rbit lo N = 1) with e | e <;> rcases (by omega : rbit hi N = 0 ∨ rbit hi N = 1) with e' | e'
    · omega
    · exact ⟨e, e'⟩
    · rw [e] at oL; rw [e'] at oH; omega
    · omega
  rw [b01.1] at s0 s1 oL
  rw [b01.2] at s0' s1' oH
  have xH := hx' (pl (hi.getD (N % d) 0)) (by omega) (by omega)
  have oth : ∀ k, k < d → regF (rbit lo) N d k 0 ≤ pl (lo.getD k 0) ∧ pl (lo.getD k 0) ≤ regF (rbit lo) N d k 1 ∧ regF (rbit lo) N d k 0 ≤ pl (hi.getD k 0) ∧ pl (hi.getD k 0) ≤ regF (rbit lo) N d k 1 := fun k hkd => by
    have a := ownL N k hkd (by omega)
    have b := ownH N k hkd (by omega)
    rw [← ec, ← ec] at b
    exact ⟨a.1, a.2, b.1, b.2⟩
  have hpk : ∀ k, k < d → pl (lo.getD k 0) ≤ pl (hi.getD k 0) := fun k hkd => by have := hb.le k hkd; unfold pl; omega
  refine ⟨(cOk_iff hb _ _).2 fun k hkd => ?_, (cOk_iff hb _ _).2 fun k hkd => ?_, list_eq _ _ d (cLo_len _ _ _) hb.ll fun k hkd => ?_, list_eq _ _ d (cHi_len _ _ _) (by rw [List.length_set]; exact hb.hl) fun k hkd => ?_,
    list_eq _ _ d (cLo_len _ _ _) (by rw [List.length_set]; exact hb.ll) fun k hkd => ?_, list_eq _ _ d (cHi_len _ _ _) hb.hl fun k hkd => ?_, b01.1, b01.2⟩
  · by_cases e : k = N % d
    · subst e; rw [s0, s1]; omega
    · rw [regF_other _ _ _ _ _ hd hkd e, regF_other _ _ _ _ _ hd hkd e]; have := oth k hkd; omega
  · by_cases e : k = N % d
    · subst e; rw [s0', s1']; omega
    · rw [regF_other _ _ _ _ _ hd hkd e, regF_other _ _ _ _ _ hd hkd e, ← ec, ← ec]; have := oth k hkd; omega
  · rw [cLo_get hb.li _ _ _ hkd, (pl_bd _ (hb.li k)).2, pl_toI]
    congr 1
    by_cases e : k = N % d
    · subst e; rw [s0]; omega
    · rw [regF_other _ _ _ _ _ hd hkd e]; have := oth k hkd; omega
  · rw [cHi_get hb.hi' _ _ _ hkd, getD_set]
    by_cases e : k = N % d
    · subst e; rw [if_pos ⟨rfl, by rw [hb.hl]; exact hk⟩, s1, xH.2.1]; congr 1; omega
    · rw [if_neg (fun h => e h.1), regF_other _ _ _ _ _ hd hkd e, (pl_bd _ (hb.hi' k)).2, pl_toI]
      congr 1
      have := oth k hkd; omega
  · rw [cLo_get hb.li _ _ _ hkd, getD_set]
    by_cases e : k = N % d
    · subst e; rw [if_pos ⟨rfl, by rw [hb.ll]; exact hk⟩, s0', xH.2.2]; congr 1; omega
    · rw [if_neg (fun h => e h.1), regF_other _ _ _ _ _ hd hkd e, ← ec, (pl_bd _ (hb.li k)).2, pl_toI]
      congr 1
      have := oth k hkd; omega
  · rw [cHi_get hb.hi' _ _ _ hkd, (pl_bd _ (hb.hi' k)).2, pl_toI]
    congr 1
    by_cases e : k = N % d
    · subst e; rw [s1']; omega
    · rw [regF_other _ _ _ _ _ hd hkd e, ← ec]; have := oth k hkd; omega
/-- what Split tells -/
def splitP (lo hi : List Int) : Option ((List Int × List Int) × (List Int × List Int)) :=
  if rightB lo hi lo.length = true ∧ 0 ≤ (uSt lo hi lo.length).2 then
    some ((lo, hi.set (uSt lo hi lo.length).1 (toI (upN (pl (hi.getD (uSt lo hi lo.length).1 0)) (uSt lo hi lo.length).2.toNat))), (lo.set (uSt lo hi lo.length).1 (toI (loN (pl (hi.getD (uSt lo hi lo.length).1 0)) (uSt lo hi lo.length).2.toNat)), hi))
  else none
theorem low0 (x : Nat) : ∀ n, x % 2 ^ n = 0 ↔ ∀ t, t < n → x / 2 ^ t % 2 = 0
  | 0 => by simp [Nat.mod_one]
  | n + 1 => by
    have ih := low0 x n
    have e := Nat.mod_pow_succ (b := 2) (x := x) (k := n)
    have hp : 0 < 2 ^ n := Nat.pow_pos (by omega)
    have hl := Nat.mod_lt x hp
    rw [e]
    constructor
    · intro h t ht
      by_cases et : t = n
      · subst et
        rcases (by omega : x / 2 ^ t % 2 = 0 ∨ x / 2 ^ t % 2 = 1) with h2 | h2
        · exact h2
        · rw [h2] at h; omega
      · exact ih.1 (by omega) t (by omega)
    · intro h
      rw [ih.2 fun t ht => h t (by omega), h n (by omega)]
      simp
theorem low1 (x : Nat) : ∀ n, x % 2 ^ n = 2 ^ n - 1 ↔ ∀ t, t < n → x / 2 ^ t % 2 = 1
  | 0 => by simp [Nat.mod_one]
  | n + 1 => by
    have ih := low1 x n
    have e := Nat.mod_pow_succ (b := 2) (x := x) (k := n)
    have hp : 0 < 2 ^ n := Nat.pow_pos (by omega)
    have hl := Nat.mod_lt x hp
    have e2 : 2 ^ (n + 1) = 2 * 2 ^ n := by rw [Nat.pow_succ, Nat.mul_comm]
    rw [e, e2]
    constructor
    · intro h t ht
      have h2 : x / 2 ^ n % 2 = 1 := by
        rcases (by omega : x / 2 ^ n % 2 = 0 ∨ x / 2 ^ n % 2 = 1) with h2 | h2
        · rw [h2] at h; omega
        · exact h2
      by_cases et : t = n
      · subst et; exact h2
      · rw [h2] at h
        exact ih.1 (by omega) t (by omega)
    · intro h
      rw [ih.2 fun t ht => h t (by omega), h n (by omega)]
      omega
theorem whole_iff (lo hi : List Int) (s b k : Nat) : wholeB lo hi s b k = true ↔ ∀ t, t < askN s b k → pl (lo.getD k 0) / 2 ^ t % 2 = 0 ∧ pl (hi.getD k 0) / 2 ^ t % 2 = 1 := by
  unfold wholeB
  rw [Bool.and_eq_true, decide_eq_true_eq, decide_eq_true_eq, low0, low1]
  exact ⟨fun h t ht => ⟨h.1 t ht, h.2 t ht⟩, fun h => ⟨fun t ht => (h t ht).1, fun t ht => (h t ht).2⟩⟩
/-- the document's answer -/
def blkD (lo hi : List Int) (d N : Nat) : Bool := decide (d = 1) || (List.range (64 * d)).all fun i => decide (i < N) || (rbit lo i == 0 && rbit hi i == 1)
theorem blkD_iff (lo hi : List Int) (d N : Nat) : blkD lo hi d N = true ↔ d = 1 ∨ ∀ i, i < 64 * d → N ≤ i → rbit lo i = 0 ∧ rbit hi i = 1 := by
  unfold blkD
  rw [Bool.or_eq_true, decide_eq_true_eq, List.all_eq_true]
  refine or_congr Iff.rfl ⟨fun h i hi hN => ?_, fun h i hi => ?_⟩
  · have := h i (List.mem_range.2 hi)
    simp only [Bool.or_eq_true, decide_eq_true_eq, Bool.and_eq_true, beq_iff_eq] at this
    exact this.resolve_left (by omega)
  · simp only [Bool.or_eq_true, decide_eq_true_eq, Bool.and_eq_true, beq_iff_eq]
    by_cases e : i < N
    · exact .inl e
    · exact .inr (h i (List.mem_range.1 hi) (by omega))
theorem block_doc {lo hi : List Int} {d N : Nat} (hb : Bx lo hi d) (hfd : FD lo hi d N) : blockP lo hi = blkD lo hi d N := by
  have hd := hb.d1
  rw [Bool.eq_iff_iff, blkD_iff]
  unfold blockP
  rw [hb.ll, hb.right, Bool.true_and, Bool.or_eq_true, Bool.or_eq_true, decide_eq_true_eq, decide_eq_true_eq, List.all_eq_true]
  by_cases h0 : (uSt lo hi d).2 < 0
  · have := fd_uniq hfd (fd_none hb h0)
    subst this
    exact ⟨fun _ => .inr fun i h1 h2 => by omega, fun _ => .inl (.inl h0)⟩
  · obtain ⟨b, hbe, hb63, hs, hfd', hN⟩ := fd_at hb (by omega)
    have := fd_uniq hfd hfd'
    subst this
    obtain ⟨s, hse⟩ : ∃ s, s = (uSt lo hi d).1 := ⟨_, rfl⟩
    rw [hbe, ← hse]
    rw [← hse] at hs hN
    clear h0 hfd hfd' hbe
    have eb : ((b : Nat) : Int).toNat = b := by omega
    rw [eb]
    have rb : ∀ l : List Int, l.length = d → ∀ k t, k < d → t ≤ 63 → rbit l ((63 - t) * d + k) = pl (l.getD k 0) / 2 ^ t % 2 := fun l hl k t hk ht => by
      have := rbit_at l (63 - t) k (by rw [hl]; exact hk)
      rw [hl] at this
      rw [this, show 63 - (63 - t) = t by omega]
    have ord : ∀ k t, k < d → t ≤ 63 → ((63 - b) * d + s ≤ (63 - t) * d + k ↔ t < askN s b k) := fun k t hk ht => by
      unfold askN
      rcases Nat.lt_trichotomy t b with h | h | h
      · have : (63 - b + 1) * d ≤ (63 - t) * d := Nat.mul_le_mul_right _ (by omega)
        rw [Nat.add_mul] at this
        constructor
        · intro _; split <;> omega
        · intro _; omega
      · subst h
        constructor
        · intro h; rw [if_pos (by omega)]; omega
        · intro h; split at h <;> omega
      · have : (63 - t + 1) * d ≤ (63 - b) * d := Nat.mul_le_mul_right _ (by omega)
        rw [Nat.add_mul] at this
        constructor
        · intro _; omega
        · intro h; split at h <;> omega
    have main : (∀ x ∈ List.range d, wholeB lo hi s b x = true) ↔ ∀ i, i < 64 * d → (63 - b) * d + s ≤ i → rbit lo i = 0 ∧ rbit hi i = 1 := by
      constructor
      · intro h i hi1 hi2
        have hk := Nat.mod_lt i hd
        have hid := Nat.div_add_mod i d
        rw [Nat.mul_comm] at hid
        have hi64 : i / d < 64 := Nat.div_lt_of_lt_mul (by rw [Nat.mul_comm]; omega)
        obtain ⟨t, ht⟩ : ∃ t, t = 63 - i / d := ⟨_, rfl⟩
        have e : i = (63 - t) * d + i % d := by
          have e1 : 63 - t = i / d := by generalize i / d = j at *; omega
          rw [e1]; exact hid.symm
        have ht63 : t ≤ 63 := by rw [ht]; exact Nat.sub_le _ _
        have := (whole_iff lo hi s b (i % d)).1 (h _ (List.mem_range.2 hk)) t ((ord _ _ hk ht63).1 (by rw [← e]; exact hi2))
        rw [e, rb lo hb.ll _ _ hk ht63, rb hi hb.hl _ _ hk ht63]
        exact this
      · intro h k hk
        have hk := List.mem_range.1 hk
        rw [whole_iff]
        intro t ht
        have ht63 : t ≤ 63 := by unfold askN at ht; split at ht <;> omega
        have := h ((63 - t) * d + k) (by
          have : (63 - t + 1) * d ≤ 64 * d := Nat.mul_le_mul_right _ (by omega)
          rw [Nat.add_mul] at this; omega) ((ord _ _ hk ht63).2 ht)
        rw [rb lo hb.ll _ _ hk ht63, rb hi hb.hl _ _ hk ht63] at this
        exact this
    rw [main]
    constructor
    · rintro ((h | h) | h)
      · exact absurd h (by omega)
      · exact .inl h
      · exact .inr h
    · rintro (h | h)
      · exact .inl (.inr h)
      · exact .inr h
theorem pl_horn (p : List Int) (hp : IsI p) (k : Nat) (hk : k < p.length) : pl (p.getD k 0) = hornN (fun b => rbit p (b * p.length + k)) 64 := by
  have hb := horn_bits (pl (p.getD k 0)) (by rw [pow64]; exact pl_lt _ (hp k).2) 64 (Nat.le_refl _)
  rw [Nat.sub_self, Nat.pow_zero, Nat.div_one] at hb
  rw [← hb]
  exact hornN_congr _ _ _ fun b _ => (rbit_at p b k hk).symm
theorem hornN_le (f g : Nat → Nat) : ∀ m, (∀ b, b < m → f b ≤ g b) → hornN f m ≤ hornN g m
  | 0, _ => Nat.le_refl _
  | m + 1, h => by have := hornN_le f g m fun b hb => h b (by omega); have := h m (by omega); rw [hornN, hornN]; omega
/-- of a block each code between the corners' is in it -/
theorem block_between {lo hi p : List Int} {d N : Nat} (hb : Bx lo hi d) (hfd : FD lo hi d N) (hbl : blkD lo hi d N = true) (hp : IsI p) (hpl : p.length = d) (h1 : lexLt (code p) (code lo) = false) (h2 : lexLt (code hi) (code p) = false) : hasB lo hi p = true := by
  have hd := hb.d1
  refine (hasB_iff hb p hpl).2 ?_
  rcases (blkD_iff _ _ _ _).1 hbl with hone | hbits
  · intro k hk
    have hk0 : k = 0 := by omega
    subst hk0
    constructor
    · refine Decidable.byContradiction fun hc => ?_
      have h3 := code_mono p lo hp hb.li (by rw [hpl, hb.ll]) fun i hi => by
        have : i = 0 := by omega
        subst this; omega
      have := lexLt_total _ _ (by rw [code_len, code_len, hpl, hb.ll]) h1 h3
      have := code_inj p lo hp hb.li (by rw [hpl, hb.ll]) this
      subst this; omega
    · refine Decidable.byContradiction fun hc => ?_
      have h3 := code_mono hi p hb.hi' hp (by rw [hpl, hb.hl]) fun i hi => by
        have h4 := hb.hl
        have : i = 0 := by omega
        subst this; omega
      have := lexLt_total _ _ (by rw [code_len, code_len, hpl, hb.hl]) h2 h3
      have := code_inj hi p hb.hi' hp (by rw [hpl, hb.hl]) this
      subst this; omega
  · obtain ⟨hN, hag, _⟩ := hfd
    have hpre : ∀ n, n ≤ N → ∀ i, i < n → rbit p i = rbit lo i := by
      intro n
      induction n with
      | zero => intro _ i hI; omega
      | succ n ih =>
        intro hn i hI
        have ih := ih (by omega)
        by_cases e : i < n
        · exact ih i e
        · obtain rfl : i = n := by omega
          refine Decidable.byContradiction fun hc => ?_
          rcases Nat.lt_or_ge (rbit p i) (rbit lo i) with h | h
          · have : lexLt (code p) (code lo) = true := (lex_bits p lo (by rw [hpl, hb.ll])).2 ⟨i, by rw [hpl]; omega, fun s hs => ih s hs, h⟩
            rw [h1] at this; cases this
          · have h' : rbit hi i < rbit p i := by rw [← hag i (by omega)]; omega
            have : lexLt (code hi) (code p) = true := (lex_bits hi p (by rw [hpl, hb.hl])).2 ⟨i, by rw [hb.hl]; omega, fun s hs => by rw [ih s hs, hag s (by omega)], h'⟩
            rw [h2] at this; cases this
    have hpre := hpre N (Nat.le_refl _)
    intro k hk
    have key : ∀ b, b < 64 → rbit lo (b * d + k) ≤ rbit p (b * d + k) ∧ rbit p (b * d + k) ≤ rbit hi (b * d + k) := fun b hb64 => by
      have hlt : b * d + k < 64 * d := by
        have : (b + 1) * d ≤ 64 * d := Nat.mul_le_mul_right _ hb64
        rw [Nat.add_mul] at this; omega
      by_cases e : b * d + k < N
      · rw [hpre _ e, hag _ e]; exact ⟨Nat.le_refl _, Nat.le_refl _⟩
      · have := hbits _ hlt (by omega)
        rw [this.1, this.2]
        exact ⟨Nat.zero_le _, rbit_le _ _⟩
    have e1 := pl_horn lo hb.li k (by rw [hb.ll]; exact hk)
    have e2 := pl_horn p hp k (by rw [hpl]; exact hk)
    have e3 := pl_horn hi hb.hi' k (by rw [hb.hl]; exact hk)
    rw [hb.ll] at e1
    rw [hpl] at e2
    rw [hb.hl] at e3
    have g1 := hornN_le _ _ 64 fun b hb => (key b hb).1
    have g2 := hornN_le _ _ 64 fun b hb => (key b hb).2
    rw [← e1, ← e2] at g1
    rw [← e2, ← e3] at g2
    have := hb.li k; have := hb.hi' k; have := hp k
    unfold pl at *
    omega
theorem has_between {lo hi p : List Int} {d : Nat} (hb : Bx lo hi d) (hp : IsI p) (hpl : p.length = d) (h : hasB lo hi p = true) : lexLt (code p) (code lo) = false ∧ lexLt (code hi) (code p) = false := by
  have h := (hasB_iff hb p hpl).1 h
  exact ⟨code_mono lo p hb.li hp (by rw [hpl, hb.ll]) fun i hi => (h i (by rw [hb.ll] at hi; exact hi)).1, code_mono p hi hp hb.hi' (by rw [hpl, hb.hl]) fun i hi => (h i (by rw [hpl] at hi; exact hi)).2⟩
theorem cOk_le {A B lo hi : List Int} {d : Nat} (h : cOk A B lo hi d = true) (k : Nat) (hk : k < d) : (cLo A lo d).getD k 0 ≤ (cHi B hi d).getD k 0 := by
  unfold cOk at h
  rw [List.all_eq_true] at h
  have := h k (List.mem_range.2 hk)
  rw [decide_eq_true_eq] at this
  simp only [cLo, cHi, List.getD, List.getElem?_map, List.getElem?_range hk, Option.map_some, Option.getD_some]
  simp only [List.getD] at this
  exact this
/-- the parts, side by side -/
structure Parts (lo hi a b c e : List Int) (d N s : Nat) (U : Int) : Prop where
  s_lt : s < d
  a_eq : a = lo
  e_eq : e = hi
  b_eq : b = hi.set s U
  c_eq : c = lo.set s (U + 1)
  bx1 : Bx a b d
  bx2 : Bx c e d
  N_lt : N < 64 * d
  r1 : ∀ k, k < d → regF (rbit lo) (N + 1) d k 0 ≤ pl (a.getD k 0) ∧ pl (b.getD k 0) ≤ regF (rbit lo) (N + 1) d k 1
  r2 : ∀ k, k < d → regF (rbit hi) (N + 1) d k 0 ≤ pl (c.getD k 0) ∧ pl (e.getD k 0) ≤ regF (rbit hi) (N + 1) d k 1
  ag : ∀ i, i < N → rbit lo i = rbit hi i
  b0 : rbit lo N = 0
  b1 : rbit hi N = 1
theorem parts {lo hi : List Int} {d N : Nat} (hb : Bx lo hi d) (hfd : FD lo hi d N) (hN : N < 64 * d) :
    Parts lo hi lo (hi.set (N % d) (toI (upN (pl (hi.getD (N % d) 0)) (63 - N / d)))) (lo.set (N % d) (toI (loN (pl (hi.getD (N % d) 0)) (63 - N / d)))) hi d N (N % d) (toI (upN (pl (hi.getD (N % d) 0)) (63 - N / d))) := by
  have H := halves hb hfd hN
  have hd := hb.d1
  have hk := Nat.mod_lt N hd
  have e1 : toI (loN (pl (hi.getD (N % d) 0)) (63 - N / d)) = toI (upN (pl (hi.getD (N % d) 0)) (63 - N / d)) + 1 := by
    have : 0 < 2 ^ (63 - N / d) := Nat.pow_pos (by omega)
    unfold toI loN upN; omega
  have h63 : 63 - N / d ≤ 63 := Nat.sub_le _ _
  have bU := toI_bd _ (upN_lt (pl (hi.getD (N % d) 0)) _ (pl_lt _ (hb.hi' _).2) h63)
  have bV := toI_bd _ (loN_lt (pl (hi.getD (N % d) 0)) _ (pl_lt _ (hb.hi' _).2) h63)
  have le1 := cOk_le H.ok1
  have le2 := cOk_le H.ok2
  rw [H.l1, H.h1] at le1
  rw [H.l2, H.h2] at le2
  refine ⟨hk, rfl, rfl, rfl, by rw [e1], ⟨hb.d1, hb.d8, hb.ll, by rw [List.length_set]; exact hb.hl, hb.li, isI_set hb.hi' bU, le1⟩, ⟨hb.d1, hb.d8, by rw [List.length_set]; exact hb.ll, hb.hl, isI_set hb.li bV, hb.hi', le2⟩, hN, fun k hkd => ?_, fun k hkd => ?_, hfd.2.1, H.b0, H.b1⟩
  · have g1 := cLo_get hb.li (rbit lo) (N + 1) k hkd
    have g2 := cHi_get hb.hi' (rbit lo) (N + 1) k hkd
    rw [H.l1] at g1
    rw [H.h1] at g2
    have e2 := congrArg pl g1
    have e3 := congrArg pl g2
    rw [pl_toI] at e2 e3
    omega
  · have g1 := cLo_get hb.li (rbit hi) (N + 1) k hkd
    have g2 := cHi_get hb.hi' (rbit hi) (N + 1) k hkd
    rw [H.l2] at g1
    rw [H.h2] at g2
    have e2 := congrArg pl g1
    have e3 := congrArg pl g2
    rw [pl_toI] at e2 e3
    omega
theorem split_parts {lo hi a b c e : List Int} (hp : IsI lo) (hq : IsI hi) (h : splitP lo hi = some ((a, b), (c, e))) : Bx lo hi lo.length ∧ ∃ N s U, Parts lo hi a b c e lo.length N s U := by
  unfold splitP at h
  split at h
  · rename_i hc
    have bx := Bx.of hc.1 hp hq
    obtain ⟨bt, hbe, hb63, hs, hfd, hN⟩ := fd_at bx hc.2
    have hd := bx.d1
    have hNm : ((63 - bt) * lo.length + (uSt lo hi lo.length).1) % lo.length = (uSt lo hi lo.length).1 := by rw [Nat.add_comm, Nat.add_mul_mod_self_right, Nat.mod_eq_of_lt hs]
    have hNd : ((63 - bt) * lo.length + (uSt lo hi lo.length).1) / lo.length = 63 - bt := by rw [Nat.add_comm, Nat.add_mul_div_right _ _ hd, Nat.div_eq_of_lt hs, Nat.zero_add]
    have P := parts bx hfd hN
    rw [hNm, hNd, show 63 - (63 - bt) = bt by omega] at P
    rw [hbe, show ((bt : Nat) : Int).toNat = bt by omega] at h
    simp only [Option.some.injEq, Prod.mk.injEq] at h
    obtain ⟨⟨rfl, rfl⟩, rfl, rfl⟩ := h
    exact ⟨bx, _, _, _, P⟩
  · cases h
theorem hasB_len {lo hi p : List Int} {d : Nat} (hb : Bx lo hi d) (h : ¬ p.length = d) : hasB lo hi p = false := by
  unfold hasB
  have : rightB lo hi (p.length : Int) = false := by
    refine Decidable.byContradiction fun hc => ?_
    have := rightB_len (show rightB lo hi (p.length : Int) = true by simpa using hc)
    have := hb.ll
    omega
  rw [this]; rfl
theorem parts_has {lo hi a b c e p : List Int} {d N s : Nat} {U : Int} (hb : Bx lo hi d) (h : Parts lo hi a b c e d N s U) : hasB lo hi p = (hasB a b p || hasB c e p) ∧ (hasB a b p && hasB c e p) = false := by
  by_cases hl : p.length = d
  · have i0 := hasB_iff hb p hl
    have i1 := hasB_iff h.bx1 p hl
    have i2 := hasB_iff h.bx2 p hl
    have hs := h.s_lt
    have g1 : ∀ k, b.getD k 0 = if k = s then U else hi.getD k 0 := fun k => by
      rw [h.b_eq, getD_set]
      by_cases e : k = s
      · rw [if_pos e, if_pos ⟨e, by rw [hb.hl]; exact hs⟩]
      · rw [if_neg e, if_neg (fun h => e h.1)]
    have g2 : ∀ k, c.getD k 0 = if k = s then U + 1 else lo.getD k 0 := fun k => by
      rw [h.c_eq, getD_set]
      by_cases e : k = s
      · rw [if_pos e, if_pos ⟨e, by rw [hb.ll]; exact hs⟩]
      · rw [if_neg e, if_neg (fun h => e h.1)]
    have l1 := h.bx1.le s hs
    have l2 := h.bx2.le s hs
    rw [g1 s, if_pos rfl, h.a_eq] at l1
    rw [g2 s, if_pos rfl, h.e_eq] at l2
    have j1 : hasB a b p = true ↔ hasB lo hi p = true ∧ p.getD s 0 ≤ U := by
      rw [i0, i1]
      constructor
      · intro h1
        have hs1 := h1 s hs
        rw [h.a_eq, g1 s, if_pos rfl] at hs1
        refine ⟨fun k hk => ?_, hs1.2⟩
        have := h1 k hk
        rw [h.a_eq, g1 k] at this
        by_cases e : k = s
        · subst e; omega
        · rw [if_neg e] at this; exact this
      · intro h1 k hk
        have := h1.1 k hk
        rw [h.a_eq, g1 k]
        by_cases e : k = s
        · subst e; rw [if_pos rfl]; omega
        · rw [if_neg e]; exact this
    have j2 : hasB c e p = true ↔ hasB lo hi p = true ∧ U < p.getD s 0 := by
      rw [i0, i2]
      constructor
      · intro h1
        have hs1 := h1 s hs
        rw [h.e_eq, g2 s, if_pos rfl] at hs1
        refine ⟨fun k hk => ?_, by omega⟩
        have := h1 k hk
        rw [h.e_eq, g2 k] at this
        by_cases e : k = s
        · subst e; rw [if_pos rfl] at this; omega
        · rw [if_neg e] at this; exact this
      · intro h1 k hk
        have := h1.1 k hk
        rw [h.e_eq, g2 k]
        by_cases e : k = s
        · subst e; rw [if_pos rfl]; omega
        · rw [if_neg e]; exact this
    rcases h0 : hasB lo hi p with _ | _
    · rw [h0] at j1 j2
      have k1 : hasB a b p = false := by simpa using j1
      have k2 : hasB c e p = false := by simpa using j2
      rw [k1, k2]; exact ⟨rfl, rfl⟩
    · rw [h0] at j1 j2
      by_cases hu : p.getD s 0 ≤ U
      · have k1 : hasB a b p = true := j1.2 ⟨rfl, hu⟩
        have k2 : hasB c e p = false := by
          refine Decidable.byContradiction fun hc => ?_
          have := (j2.1 (by simpa using hc)).2
          omega
        rw [k1, k2]; exact ⟨rfl, rfl⟩
      · have k2 : hasB c e p = true := j2.2 ⟨rfl, by omega⟩
        have k1 : hasB a b p = false := by
          refine Decidable.byContradiction fun hc => ?_
          have := (j1.1 (by simpa using hc)).2
          omega
        rw [k1, k2]; exact ⟨rfl, rfl⟩
  · rw [hasB_len hb hl, hasB_len h.bx1 hl, hasB_len h.bx2 hl]; exact ⟨rfl, rfl⟩
theorem hasB_plen {lo hi p : List Int} (h : hasB lo hi p = true) : lo.length = p.length := by
  unfold hasB at h
  simp only [Bool.and_eq_true] at h
  have := rightB_len h.1
  omega
theorem parts_less {lo hi a b c e p q : List Int} {d N s : Nat} {U : Int} (hb : Bx lo hi d) (h : Parts lo hi a b c e d N s U) (hp : IsI p) (hq : IsI q) (h1 : hasB a b p = true) (h2 : hasB c e q = true) : lexLt (code p) (code q) = true := by
  have hpl : p.length = d := by rw [← hasB_plen h1, h.bx1.ll]
  have hql : q.length = d := by rw [← hasB_plen h2, h.bx2.ll]
  have i1 := (hasB_iff h.bx1 p hpl).1 h1
  have i2 := (hasB_iff h.bx2 q hql).1 h2
  have hN := h.N_lt
  have p1 := bits_of_region (rbit lo) (rbit_le lo) p d hb.d1 hpl (N + 1) (by omega) fun k hk => by
    have a1 := h.r1 k hk
    have a2 := i1 k hk
    have := h.bx1.li k; have := h.bx1.hi' k; have := hp k
    unfold pl at *
    omega
  have p2 := bits_of_region (rbit hi) (rbit_le hi) q d hb.d1 hql (N + 1) (by omega) fun k hk => by
    have a1 := h.r2 k hk
    have a2 := i2 k hk
    have := h.bx2.li k; have := h.bx2.hi' k; have := hq k
    unfold pl at *
    omega
  refine (lex_bits p q (by omega)).2 ⟨N, by rw [hpl]; exact hN, fun i hi => ?_, ?_⟩
  · rw [p1 i (by omega), p2 i (by omega)]; exact h.ag i hi
  · rw [p1 N (by omega), p2 N (by omega), h.b0, h.b1]; omega
end Go.Proofs.Ytjdbpeblbejllaa
