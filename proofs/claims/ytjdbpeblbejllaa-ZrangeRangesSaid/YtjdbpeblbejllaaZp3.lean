/- Regions of codes: the ends of a region's sides, bit by bit; no program in sight. -/
import Derived.Test.YtjdbpeblbejllaaZr0
import Derived.Test.YtjdbpeblbejllaaDuo
import Derived.Test.YtjdbpeblbejllaaZr10
import Derived.Test.YtjdbpeblbejllaaRef04b
set_option linter.unusedVariables false
set_option linter.unusedSimpArgs false
namespace Go.Proofs.Ytjdbpeblbejllaa
open Go.RowKit
theorem hornN_mono (f g : Nat → Nat) (h : ∀ b, f b ≤ g b) : ∀ m, hornN f m ≤ hornN g m
  | 0 => Nat.le_refl _
  | m + 1 => by have := hornN_mono f g h m; have := h m; rw [hornN, hornN]; omega
theorem hornN_mix (f : Nat → Nat) (j x : Nat) (hx : x ≤ 1) : ∀ e, hornN (fun b => if b < j then f b else x) (j + e) = hornN f j * 2 ^ e + x * (2 ^ e - 1)
  | 0 => by
    rw [Nat.add_zero, Nat.pow_zero, Nat.mul_one, Nat.sub_self, Nat.mul_zero, Nat.add_zero]
    exact hornN_congr _ _ j fun b hb => if_pos hb
  | e + 1 => by
    have ih := hornN_mix f j x hx e
    have hp : 0 < 2 ^ e := Nat.pow_pos (by omega)
    rw [← Nat.add_assoc, hornN, ih, if_neg (by omega), Nat.pow_succ]
    have e1 : hornN f j * (2 ^ e * 2) = 2 * (hornN f j * 2 ^ e) := by rw [← Nat.mul_assoc, Nat.mul_comm]
    rw [e1]
    rcases (by omega : x = 0 ∨ x = 1) with h | h <;> subst h <;> omega
/-- the ends of side k of all points whose codes begin with the first n bits of f: x fills up -/
def regF (f : Nat → Nat) (n d k x : Nat) : Nat := hornN (fun b => if b * d + k < n then f (b * d + k) else x) 64
theorem regF_congr (f g : Nat → Nat) (n d k x : Nat) (h : ∀ i, i < n → f i = g i) : regF f n d k x = regF g n d k x :=
  hornN_congr _ _ _ fun b _ => by
    split
    · rename_i hb; exact h _ hb
    · rfl
theorem regF_le (f : Nat → Nat) (n d k : Nat) : regF f n d k 0 ≤ regF f n d k 1 :=
  hornN_mono _ _ (fun b => by split <;> omega) 64
theorem regF_finer (f : Nat → Nat) (hf : ∀ i, f i ≤ 1) (n m d k : Nat) (h : n ≤ m) : regF f n d k 0 ≤ regF f m d k 0 ∧ regF f m d k 1 ≤ regF f n d k 1 := by
  constructor
  · refine hornN_mono _ _ (fun b => ?_) 64
    by_cases h1 : b * d + k < n
    · rw [if_pos h1, if_pos (by omega)]; exact Nat.le_refl _
    · rw [if_neg h1]; exact Nat.zero_le _
  · refine hornN_mono _ _ (fun b => ?_) 64
    by_cases h1 : b * d + k < n
    · rw [if_pos h1, if_pos (by omega)]; exact Nat.le_refl _
    · rw [if_neg h1]
      split
      · exact hf _
      · exact Nat.le_refl _
theorem regF_full (f : Nat → Nat) (d k x : Nat) (hk : k < d) : regF f (64 * d) d k x = hornN (fun b => f (b * d + k)) 64 :=
  hornN_congr _ _ _ fun b hb => by
    have : (b + 1) * d ≤ 64 * d := Nat.mul_le_mul_right _ hb
    rw [Nat.add_mul] at this
    exact if_pos (by omega)
theorem side_lt (t d b : Nat) (hd : 0 < d) : (b * d + t % d < t ↔ b < t / d) ∧ (b * d + t % d < t + 1 ↔ b < t / d + 1) := by
  have h := Nat.div_add_mod t d
  rw [Nat.mul_comm] at h
  have key : ∀ b c : Nat, b < c ↔ b * d < c * d := fun b c => ⟨fun h => Nat.mul_lt_mul_of_pos_right h hd, fun h => Nat.lt_of_mul_lt_mul_right h⟩
  have keyle : ∀ b c : Nat, b ≤ c ↔ b * d ≤ c * d := fun b c => ⟨fun h => Nat.mul_le_mul_right _ h, fun h => Nat.le_of_mul_le_mul_right h hd⟩
  constructor
  · rw [key b (t / d)]; omega
  · rw [Nat.lt_succ_iff (m := b) (n := t / d), keyle b (t / d)]; omega
theorem regF_side (f : Nat → Nat) (t d x : Nat) (hd : 0 < d) (hx : x ≤ 1) (ht : t < 64 * d) :
    regF f t d (t % d) x = hornN (fun b => f (b * d + t % d)) (t / d) * 2 ^ (63 - t / d + 1) + x * (2 ^ (63 - t / d + 1) - 1) ∧
    regF f (t + 1) d (t % d) x = hornN (fun b => f (b * d + t % d)) (t / d) * 2 ^ (63 - t / d + 1) + f t * 2 ^ (63 - t / d) + x * (2 ^ (63 - t / d) - 1) := by
  have hj : t / d < 64 := Nat.div_lt_of_lt_mul (by rw [Nat.mul_comm]; exact ht)
  have ht' : t / d * d + t % d = t := by have := Nat.div_add_mod t d; rw [Nat.mul_comm] at this; exact this
  constructor
  · have := hornN_mix (fun b => f (b * d + t % d)) (t / d) x hx (63 - t / d + 1)
    rw [show t / d + (63 - t / d + 1) = 64 by omega] at this
    rw [← this]
    exact hornN_congr _ _ _ fun b _ => by
      by_cases h : b < t / d
      · rw [if_pos h, if_pos ((side_lt t d b hd).1.2 h)]
      · rw [if_neg h, if_neg fun h' => h ((side_lt t d b hd).1.1 h')]
  · have := hornN_mix (fun b => f (b * d + t % d)) (t / d + 1) x hx (63 - t / d)
    have e0 : hornN (fun b => f (b * d + t % d)) (t / d + 1) = 2 * hornN (fun b => f (b * d + t % d)) (t / d) + f t := by rw [hornN, ht']
    rw [show t / d + 1 + (63 - t / d) = 64 by omega, e0] at this
    have e : hornN (fun b => f (b * d + t % d)) (t / d) * 2 ^ (63 - t / d + 1) + f t * 2 ^ (63 - t / d) = (2 * hornN (fun b => f (b * d + t % d)) (t / d) + f t) * 2 ^ (63 - t / d) := by
      rw [Nat.pow_succ, Nat.add_mul, ← Nat.mul_assoc, Nat.mul_comm _ 2, ← Nat.mul_assoc]
    rw [e, ← this]
    exact hornN_congr _ _ _ fun b _ => by
      by_cases h : b < t / d + 1
      · rw [if_pos h, if_pos ((side_lt t d b hd).2.2 h)]
      · rw [if_neg h, if_neg fun h' => h ((side_lt t d b hd).2.1 h')]
theorem regF_other (f : Nat → Nat) (t d k x : Nat) (hd : 0 < d) (hk : k < d) (hne : k ≠ t % d) : regF f (t + 1) d k x = regF f t d k x :=
  hornN_congr _ _ _ fun b _ => by
    have : b * d + k ≠ t := fun e => hne (by rw [← e, Nat.add_comm, Nat.add_mul_mod_self_right, Nat.mod_eq_of_lt hk])
    by_cases h : b * d + k < t
    · rw [if_pos h, if_pos (by omega)]
    · rw [if_neg h, if_neg (by omega)]
theorem half (A s x : Nat) (h1 : A * 2 ^ (s + 1) ≤ x) (h2 : x < A * 2 ^ (s + 1) + 2 ^ (s + 1)) :
    (x / 2 ^ s % 2 = if A * 2 ^ (s + 1) + 2 ^ s ≤ x then 1 else 0) ∧ upN x s = A * 2 ^ (s + 1) + (2 ^ s - 1) ∧ loN x s = A * 2 ^ (s + 1) + 2 ^ s := by
  have hq : 0 < 2 ^ s := Nat.pow_pos (by omega)
  have e1 : x / 2 ^ (s + 1) = A := by
    refine Nat.div_eq_of_lt_le h1 ?_
    rw [Nat.add_mul, Nat.one_mul]; exact h2
  refine ⟨?_, by unfold upN; rw [e1], by unfold loN; rw [e1]⟩
  have e2 : A * 2 ^ (s + 1) = 2 * A * 2 ^ s := by rw [Nat.pow_succ, ← Nat.mul_assoc, Nat.mul_comm _ 2, ← Nat.mul_assoc]
  have e3 : 2 ^ (s + 1) = 2 * 2 ^ s := by rw [Nat.pow_succ, Nat.mul_comm]
  rw [e2] at h1 h2 ⊢
  rw [e3] at h2
  generalize 2 ^ s = q at *
  split
  · rename_i h
    have : x / q = 2 * A + 1 := by
      refine Nat.div_eq_of_lt_le ?_ ?_
      · rw [Nat.add_mul, Nat.one_mul]; exact h
      · rw [show 2 * A + 1 + 1 = 2 * A + 2 by omega, Nat.add_mul]; omega
    rw [this]; omega
  · rename_i h
    have : x / q = 2 * A := by
      refine Nat.div_eq_of_lt_le h1 ?_
      rw [Nat.add_mul, Nat.one_mul]; omega
    rw [this]; omega
/-- all of one step at bit t: the region's ends M .. M + 2q - 1 at its side -/
theorem side_step (f : Nat → Nat) (hf : ∀ i, f i ≤ 1) (t d : Nat) (hd : 0 < d) (ht : t < 64 * d) : ∃ M q, 0 < q ∧ M + 2 * q ≤ 18446744073709551616 ∧
    regF f t d (t % d) 0 = M ∧ regF f t d (t % d) 1 = M + 2 * q - 1 ∧ regF f (t + 1) d (t % d) 0 = M + f t * q ∧ regF f (t + 1) d (t % d) 1 = M + f t * q + (q - 1) ∧
    ∀ x, M ≤ x → x < M + 2 * q → (x / 2 ^ (63 - t / d) % 2 = if M + q ≤ x then 1 else 0) ∧ upN x (63 - t / d) = M + q - 1 ∧ loN x (63 - t / d) = M + q := by
  obtain ⟨a1, a2⟩ := regF_side f t d 0 hd (by omega) ht
  obtain ⟨b1, b2⟩ := regF_side f t d 1 hd (by omega) ht
  have hj : t / d < 64 := Nat.div_lt_of_lt_mul (by rw [Nat.mul_comm]; exact ht)
  have hq : 0 < 2 ^ (63 - t / d) := Nat.pow_pos (by omega)
  have e3 : 2 ^ (63 - t / d + 1) = 2 * 2 ^ (63 - t / d) := by rw [Nat.pow_succ, Nat.mul_comm]
  have hA := hornN_lt (fun b => f (b * d + t % d)) (fun i => hf _) (t / d)
  have hbig : hornN (fun b => f (b * d + t % d)) (t / d) * 2 ^ (63 - t / d + 1) + 2 ^ (63 - t / d + 1) ≤ 18446744073709551616 := by
    have h1 : (hornN (fun b => f (b * d + t % d)) (t / d) + 1) * 2 ^ (63 - t / d + 1) ≤ 2 ^ (t / d) * 2 ^ (63 - t / d + 1) := Nat.mul_le_mul_right _ hA
    rw [← Nat.pow_add, show t / d + (63 - t / d + 1) = 64 by omega, pow64, Nat.add_mul, Nat.one_mul] at h1
    exact h1
  refine ⟨hornN (fun b => f (b * d + t % d)) (t / d) * 2 ^ (63 - t / d + 1), 2 ^ (63 - t / d), hq, by omega, ?_, ?_, ?_, ?_, ?_⟩
  · rw [a1]; omega
  · rw [b1]; omega
  · rw [a2]; omega
  · rw [b2]; omega
  · intro x h1 h2
    have := half (hornN (fun b => f (b * d + t % d)) (t / d)) (63 - t / d) x h1 (by omega)
    refine ⟨this.1, ?_, this.2.2⟩
    rw [this.2.1]; omega
/-- a point lies in each region of its own bits -/
theorem regF_own (p : List Int) (hp : IsI p) (n k : Nat) (hk : k < p.length) (hn : n ≤ 64 * p.length) : regF (rbit p) n p.length k 0 ≤ pl (p.getD k 0) ∧ pl (p.getD k 0) ≤ regF (rbit p) n p.length k 1 := by
  have h1 := regF_finer (rbit p) (rbit_le p) n (64 * p.length) p.length k hn
  have h2 : hornN (fun b => rbit p (b * p.length + k)) 64 = pl (p.getD k 0) := by
    have hb := horn_bits (pl (p.getD k 0)) (by rw [pow64]; exact pl_lt _ (hp k).2) 64 (Nat.le_refl _)
    rw [Nat.sub_self, Nat.pow_zero, Nat.div_one] at hb
    rw [← hb]
    exact hornN_congr _ _ _ fun b _ => rbit_at p b k hk
  rw [regF_full _ _ _ _ hk, regF_full _ _ _ _ hk, h2] at h1
  exact h1
structure Bx (lo hi : List Int) (d : Nat) : Prop where
  d1 : 1 ≤ d
  d8 : d ≤ 8
  ll : lo.length = d
  hl : hi.length = d
  li : IsI lo
  hi' : IsI hi
  le : ∀ k, k < d → lo.getD k 0 ≤ hi.getD k 0
theorem Bx.of {lo hi : List Int} {d : Nat} (h : rightB lo hi (d : Int) = true) (hp : IsI lo) (hq : IsI hi) : Bx lo hi d := by
  have hf := rightB_len h
  refine ⟨by omega, by omega, by omega, by omega, hp, hq, fun k hk => ?_⟩
  have := hf.2.2.2.2
  unfold leAll at this
  rw [List.all_eq_true] at this
  have h2 := this k (List.mem_range.2 (by omega))
  simpa using h2
theorem Bx.right {lo hi : List Int} {d : Nat} (h : Bx lo hi d) : rightB lo hi (d : Int) = true := by
  unfold rightB leAll
  simp only [Bool.and_eq_true, decide_eq_true_eq, List.all_eq_true]
  have := h.d1; have := h.d8
  refine ⟨⟨⟨⟨by omega, by omega⟩, by rw [h.ll]⟩, by rw [h.hl]⟩, fun k hk => ?_⟩
  exact h.le k (by have := List.mem_range.1 hk; rw [h.ll] at this; exact this)
theorem pl_bd (z : Int) (h : -9223372036854775808 ≤ z ∧ z ≤ 9223372036854775807) : pl z < 18446744073709551616 ∧ z = toI (pl z) := by unfold pl toI; omega
/-- the box of all points whose codes begin with the first n bits of f -/
def rgn (f : Nat → Nat) (n d x : Nat) : List Int := (List.range d).map fun k => toI (regF f n d k x)
theorem rgn_len (f : Nat → Nat) (n d x : Nat) : (rgn f n d x).length = d := by simp [rgn]
theorem rgn_get (f : Nat → Nat) (n d x k : Nat) (hk : k < d) : (rgn f n d x).getD k 0 = toI (regF f n d k x) := by
  simp [rgn, List.getD, List.getElem?_map, List.getElem?_range hk]
theorem regF_lt (f : Nat → Nat) (hf : ∀ i, f i ≤ 1) (n d k x : Nat) (hx : x ≤ 1) : regF f n d k x < 18446744073709551616 :=
  hornN_lt64 _ (fun i => by split; exact hf _; exact hx) 64 (by omega)
theorem rgn_I (f : Nat → Nat) (hf : ∀ i, f i ≤ 1) (n d x : Nat) (hx : x ≤ 1) : IsI (rgn f n d x) := fun k => by
  by_cases hk : k < d
  · rw [rgn_get f n d x k hk]; exact toI_bd _ (regF_lt f hf n d k x hx)
  · rw [getD_out _ _ _ (by rw [rgn_len]; omega)]; omega
theorem rgn_bx (f : Nat → Nat) (hf : ∀ i, f i ≤ 1) (n d : Nat) (h1 : 1 ≤ d) (h8 : d ≤ 8) : Bx (rgn f n d 0) (rgn f n d 1) d :=
  ⟨h1, h8, rgn_len _ _ _ _, rgn_len _ _ _ _, rgn_I f hf n d 0 (by omega), rgn_I f hf n d 1 (by omega), fun k hk => by
    rw [rgn_get _ _ _ _ _ hk, rgn_get _ _ _ _ _ hk]
    have := regF_le f n d k
    unfold toI; omega⟩
def Meets (f : Nat → Nat) (n d : Nat) (lo hi : List Int) : Prop := ∀ k, k < d → regF f n d k 0 ≤ pl (hi.getD k 0) ∧ pl (lo.getD k 0) ≤ regF f n d k 1
theorem cOk_iff {lo hi : List Int} {d : Nat} (hb : Bx lo hi d) (f : Nat → Nat) (n : Nat) : cOk (rgn f n d 0) (rgn f n d 1) lo hi d = true ↔ Meets f n d lo hi := by
  unfold cOk Meets
  rw [List.all_eq_true]
  have key : ∀ k, k < d → (decide (mx ((rgn f n d 0).getD k 0) (lo.getD k 0) ≤ mn ((rgn f n d 1).getD k 0) (hi.getD k 0)) = true ↔ regF f n d k 0 ≤ pl (hi.getD k 0) ∧ pl (lo.getD k 0) ≤ regF f n d k 1) := fun k hk => by
    rw [rgn_get _ _ _ _ _ hk, rgn_get _ _ _ _ _ hk, decide_eq_true_eq]
    have h1 := regF_le f n d k
    have h2 := hb.le k hk
    have h3 := hb.li k
    have h4 := hb.hi' k
    generalize regF f n d k 0 = a at *
    generalize regF f n d k 1 = a' at *
    generalize lo.getD k 0 = b at *
    generalize hi.getD k 0 = b' at *
    unfold mx mn toI pl
    split <;> split <;> omega
  constructor
  · intro h k hk; exact (key k hk).1 (h k (List.mem_range.2 hk))
  · intro h k hk; exact (key k (List.mem_range.1 hk)).2 (h k (List.mem_range.1 hk))
theorem cLo_get {lo : List Int} {d : Nat} (hl : IsI lo) (f : Nat → Nat) (n k : Nat) (hk : k < d) : (cLo (rgn f n d 0) lo d).getD k 0 = toI (max (regF f n d k 0) (pl (lo.getD k 0))) := by
  unfold cLo
  simp only [List.getD, List.getElem?_map, List.getElem?_range hk, Option.map_some, Option.getD_some]
  have h1 := rgn_get f n d 0 k hk
  have h3 := hl k
  simp only [List.getD] at h1 h3
  rw [h1]
  generalize lo[k]?.getD 0 = b at *
  unfold mx toI pl
  split <;> omega
theorem cHi_get {hi : List Int} {d : Nat} (hl : IsI hi) (f : Nat → Nat) (n k : Nat) (hk : k < d) : (cHi (rgn f n d 1) hi d).getD k 0 = toI (min (regF f n d k 1) (pl (hi.getD k 0))) := by
  unfold cHi
  simp only [List.getD, List.getElem?_map, List.getElem?_range hk, Option.map_some, Option.getD_some]
  have h1 := rgn_get f n d 1 k hk
  have h3 := hl k
  simp only [List.getD] at h1 h3
  rw [h1]
  generalize hi[k]?.getD 0 = b at *
  unfold mn toI pl
  split <;> omega
theorem Meets.of_finer {f : Nat → Nat} (hf : ∀ i, f i ≤ 1) {n m d : Nat} {lo hi : List Int} (h : Meets f m d lo hi) (hn : n ≤ m) : Meets f n d lo hi := fun k hk => by
  have h1 := regF_finer f hf n m d k hn
  have h2 := h k hk
  omega
theorem Meets.congr {f g : Nat → Nat} {n d : Nat} {lo hi : List Int} (h : Meets f n d lo hi) (hfg : ∀ i, i < n → f i = g i) : Meets g n d lo hi := fun k hk => by
  have h2 := h k hk
  rw [regF_congr f g n d k 0 hfg, regF_congr f g n d k 1 hfg] at h2
  exact h2
/-- the first t bits of f, and b behind them -/
def bend (f : Nat → Nat) (t b : Nat) : Nat → Nat := fun i => if i < t then f i else b
theorem bend_le {f : Nat → Nat} (hf : ∀ i, f i ≤ 1) {t b : Nat} (hb : b ≤ 1) : ∀ i, bend f t b i ≤ 1 := fun i => by unfold bend; split; exact hf i; exact hb
def findS (f : Nat → Nat) (lo hi : List Int) (d : Nat) : Nat → Option (List Nat)
  | 0 => none
  | t + 1 => if f t = 0 ∧ cOk (rgn (bend f t 1) (t + 1) d 0) (rgn (bend f t 1) (t + 1) d 1) lo hi d = true then some (code (cLo (rgn (bend f t 1) (t + 1) d 0) lo d)) else findS f lo hi d t
def findB (f : Nat → Nat) (lo hi : List Int) (d : Nat) : Nat → Option (List Nat)
  | 0 => none
  | t + 1 => if f t = 1 ∧ cOk (rgn (bend f t 0) (t + 1) d 0) (rgn (bend f t 0) (t + 1) d 1) lo hi d = true then some (code (cHi (rgn (bend f t 0) (t + 1) d 1) hi d)) else findB f lo hi d t
theorem bend_meets {f : Nat → Nat} (hf : ∀ i, f i ≤ 1) {t b n d : Nat} {lo hi : List Int} (hb : b ≤ 1) (hn : n ≤ t) (h : Meets (bend f t b) (t + 1) d lo hi) : Meets f n d lo hi :=
  (h.of_finer (bend_le hf hb) (show n ≤ t + 1 by omega)).congr fun i hi => if_pos (by omega)
theorem findS_empty {lo hi : List Int} {d : Nat} (hb : Bx lo hi d) {f : Nat → Nat} (hf : ∀ i, f i ≤ 1) {n : Nat} (h : ¬ Meets f n d lo hi) : ∀ m, findS f lo hi d (n + m) = findS f lo hi d n
  | 0 => rfl
  | m + 1 => by
    rw [← Nat.add_assoc, findS, if_neg (fun hc => h (bend_meets hf (by omega) (show n ≤ n + m by omega) ((cOk_iff hb _ _).1 hc.2)))]
    exact findS_empty hb hf h m
theorem findB_empty {lo hi : List Int} {d : Nat} (hb : Bx lo hi d) {f : Nat → Nat} (hf : ∀ i, f i ≤ 1) {n : Nat} (h : ¬ Meets f n d lo hi) : ∀ m, findB f lo hi d (n + m) = findB f lo hi d n
  | 0 => rfl
  | m + 1 => by
    rw [← Nat.add_assoc, findB, if_neg (fun hc => h (bend_meets hf (by omega) (show n ≤ n + m by omega) ((cOk_iff hb _ _).1 hc.2)))]
    exact findB_empty hb hf h m
/-- what is left of the box at bit t -/
structure SInv (f : Nat → Nat) (d : Nat) (lo hi : List Int) (t : Nat) (xl xh : List Int) : Prop where
  ll : xl.length = d
  hl : xh.length = d
  li : IsI xl
  hi' : IsI xh
  lo : ∀ k, k < d → pl (xl.getD k 0) = max (regF f t d k 0) (pl (lo.getD k 0))
  hi : ∀ k, k < d → pl (xh.getD k 0) = min (regF f t d k 1) (pl (hi.getD k 0))
  le : ∀ k, k < d → pl (xl.getD k 0) ≤ pl (xh.getD k 0)
theorem getD_set (l : List Int) (k i : Nat) (v : Int) : (l.set k v).getD i 0 = if i = k ∧ k < l.length then v else l.getD i 0 := by
  unfold List.getD
  rw [List.getElem?_set]
  by_cases e : k = i
  · subst e
    by_cases h : k < l.length <;> simp [h]
  · rw [if_neg e, if_neg (fun h => e h.1.symm)]
theorem set_same (l : List Int) (k : Nat) (v : Int) (hv : v = l.getD k 0) (hk : k < l.length) : l.set k v = l := by
  refine List.ext_getElem? fun i => ?_
  rw [List.getElem?_set]
  by_cases e : k = i
  · subst e
    simp [hk]
    rw [hv]; simp [List.getD, List.getElem?_eq_getElem hk]
  · simp [e]
theorem SInv.next {f : Nat → Nat} {d : Nat} {lo hi : List Int} {t : Nat} {xl xh : List Int} (h : SInv f d lo hi t xl xh) (hd : 0 < d) (u v : Nat) (hu1 : u < 18446744073709551616) (hv1 : v < 18446744073709551616)
    (hu : u = max (regF f (t + 1) d (t % d) 0) (pl (lo.getD (t % d) 0))) (hv : v = min (regF f (t + 1) d (t % d) 1) (pl (hi.getD (t % d) 0))) (huv : u ≤ v) : SInv f d lo hi (t + 1) (xl.set (t % d) (toI u)) (xh.set (t % d) (toI v)) := by
  have hk := Nat.mod_lt t hd
  refine ⟨by rw [List.length_set]; exact h.ll, by rw [List.length_set]; exact h.hl, isI_set h.li (toI_bd _ hu1), isI_set h.hi' (toI_bd _ hv1), fun k hkd => ?_, fun k hkd => ?_, fun k hkd => ?_⟩
  · rw [getD_set]
    by_cases e : k = t % d
    · subst e; rw [if_pos ⟨rfl, by rw [h.ll]; exact hk⟩, pl_toI]; exact hu
    · rw [if_neg (fun h => e h.1), regF_other f t d k 0 hd hkd e]; exact h.lo k hkd
  · rw [getD_set]
    by_cases e : k = t % d
    · subst e; rw [if_pos ⟨rfl, by rw [h.hl]; exact hk⟩, pl_toI]; exact hv
    · rw [if_neg (fun h => e h.1), regF_other f t d k 1 hd hkd e]; exact h.hi k hkd
  · rw [getD_set, getD_set]
    by_cases e : k = t % d
    · subst e; rw [if_pos ⟨rfl, by rw [h.ll]; exact hk⟩, if_pos ⟨rfl, by rw [h.hl]; exact hk⟩, pl_toI, pl_toI]; exact huv
    · rw [if_neg (fun h => e h.1), if_neg (fun h => e h.1)]; exact h.le k hkd
theorem regF_zero (f : Nat → Nat) (d k x : Nat) (hx : x ≤ 1) : regF f 0 d k x = x * 18446744073709551615 := by
  have h := hornN_mix (fun _ => 0) 0 x hx 64
  rw [Nat.zero_add, hornN, Nat.zero_mul, Nat.zero_add, pow64] at h
  rw [← show x * (18446744073709551616 - 1) = x * 18446744073709551615 from rfl, ← h]
  exact hornN_congr _ _ _ fun b _ => by simp
theorem SInv.start {lo hi : List Int} {d : Nat} (hb : Bx lo hi d) (f : Nat → Nat) : SInv f d lo hi 0 lo hi :=
  ⟨hb.ll, hb.hl, hb.li, hb.hi', fun k hk => by rw [regF_zero f d k 0 (by omega)]; omega, fun k hk => by
    rw [regF_zero f d k 1 (by omega)]; have := (pl_bd _ (hb.hi' k)).1; omega, fun k hk => by
    have := hb.le k hk; unfold pl; omega⟩
theorem list_eq (a b : List Int) (d : Nat) (ha : a.length = d) (hb : b.length = d) (h : ∀ k, k < d → a.getD k 0 = b.getD k 0) : a = b := by
  refine List.ext_getElem? fun i => ?_
  by_cases hi : i < d
  · have := h i hi
    simp only [List.getD, List.getElem?_eq_getElem (show i < a.length by omega), List.getElem?_eq_getElem (show i < b.length by omega), Option.getD_some] at this
    rw [List.getElem?_eq_getElem (by omega), List.getElem?_eq_getElem (by omega), this]
  · rw [List.getElem?_eq_none (by omega), List.getElem?_eq_none (by omega)]
theorem regF_bend (f : Nat → Nat) (t b d k x : Nat) (hd : 0 < d) (hk : k < d) (hne : k ≠ t % d) : regF (bend f t b) (t + 1) d k x = regF f t d k x := by
  rw [regF_other _ _ _ _ _ hd hk hne]
  exact regF_congr _ _ _ _ _ _ fun i hi => if_pos hi
theorem bend_at (f : Nat → Nat) (t b : Nat) : bend f t b t = b := if_neg (by omega)
set_option maxHeartbeats 2000000 in
theorem skip_eq {lo hi : List Int} {d : Nat} (hb : Bx lo hi d) (c : List Nat) : ∀ (m t : Nat) (xl xh : List Int) (best : Option (List Nat)), t + m = 64 * d → SInv (bitAt c) d lo hi t xl xh → best = findS (bitAt c) lo hi d t →
    skipGo c d m t xl xh best = if cOk (rgn (bitAt c) (64 * d) d 0) (rgn (bitAt c) (64 * d) d 1) lo hi d = true then some c else findS (bitAt c) lo hi d (64 * d)
  | 0, t, xl, xh, best, ht, inv, hbest => by
    have : Meets (bitAt c) (64 * d) d lo hi := fun k hk => by
      have h1 := inv.lo k hk; have h2 := inv.hi k hk; have h3 := inv.le k hk
      rw [Nat.add_zero] at ht
      rw [ht] at h1 h2
      omega
    rw [if_pos ((cOk_iff hb _ _).2 this)]
    rfl
  | m + 1, t, xl, xh, best, ht, inv, hbest => by
    have hd : 0 < d := hb.d1
    have hk := Nat.mod_lt t hd
    have hf := fun i => bitAt_le c i
    have tl : t < 64 * d := by omega
    obtain ⟨M, q, hq, hM, r0, r1, s0, s1, hx⟩ := side_step (bitAt c) hf t d hd tl
    obtain ⟨M', q', hq', hM', r0', r1', s0', s1', hx'⟩ := side_step (bend (bitAt c) t 1) (bend_le hf (by omega)) t d hd tl
    have eb0 := regF_congr (bend (bitAt c) t 1) (bitAt c) t d (t % d) 0 (fun i hi => if_pos hi)
    have eb1 := regF_congr (bend (bitAt c) t 1) (bitAt c) t d (t % d) 1 (fun i hi => if_pos hi)
    rw [r0, r0'] at eb0
    rw [r1, r1'] at eb1
    subst eb0
    obtain rfl : q' = q := by omega
    rw [bend_at] at s0' s1'
    have i1 := inv.lo _ hk; have i2 := inv.hi _ hk; have i3 := inv.le _ hk
    rw [r0] at i1
    rw [r1] at i2
    have hL := pl_bd _ (inv.li (t % d)); have hH := pl_bd _ (inv.hi' (t % d))
    have bL := (hx (pl (xl.getD (t % d) 0)) (by omega) (by omega))
    have bH := (hx (pl (xh.getD (t % d) 0)) (by omega) (by omega))
    obtain ⟨x, hxd⟩ : ∃ x, x = pl (xl.getD (t % d) 0) := ⟨_, rfl⟩
    obtain ⟨y, hyd⟩ : ∃ x, x = pl (xh.getD (t % d) 0) := ⟨_, rfl⟩
    rw [← hxd] at i1 i3 bL hL
    rw [← hyd] at i2 i3 bH hH
    have hxset : ∀ v, v = xl.getD (t % d) 0 → xl.set (t % d) v = xl := fun v hv => set_same _ _ _ hv (by rw [inv.ll]; exact hk)
    have hyset : ∀ v, v = xh.getD (t % d) 0 → xh.set (t % d) v = xh := fun v hv => set_same _ _ _ hv (by rw [inv.hl]; exact hk)
    rw [skipGo, ← hxd, ← hyd, bL.1, bH.1, bL.2.2, bH.2.1]
    by_cases hz : bitAt c t = 0
    · rw [if_pos hz]
      rw [hz] at s0 s1
      by_cases hl : M' + q' ≤ x
      · rw [if_pos hl, if_pos rfl]
        have hne : ¬ Meets (bitAt c) (t + 1) d lo hi := fun h => by have := (h _ hk).2; omega
        have hall : ¬ cOk (rgn (bitAt c) (64 * d) d 0) (rgn (bitAt c) (64 * d) d 1) lo hi d = true := fun h => hne (((cOk_iff hb _ _).1 h).of_finer hf (by omega))
        rw [if_neg hall, show 64 * d = t + 1 + m by omega, findS_empty hb hf hne, findS, if_pos]
        · refine congrArg (fun z => some (code z)) (list_eq _ _ d inv.ll (cLo_len _ _ _) fun k hkd => ?_)
          rw [cLo_get hb.li _ _ _ hkd]
          have e1 := (pl_bd _ (inv.li k)).2
          rw [e1, inv.lo k hkd]
          by_cases e : k = t % d
          · subst e; rw [s0', r0]; congr 1; omega
          · rw [regF_bend _ _ _ _ _ _ hd hkd e]
        · refine ⟨hz, (cOk_iff hb _ _).2 fun k hkd => ?_⟩
          by_cases e : k = t % d
          · subst e; rw [s0', s1']; omega
          · rw [regF_bend _ _ _ _ _ _ hd hkd e, regF_bend _ _ _ _ _ _ hd hkd e]
            have h1 := inv.lo k hkd; have h2 := inv.hi k hkd; have h3 := inv.le k hkd
            omega
      · rw [if_neg hl, if_neg (by omega)]
        by_cases hh : M' + q' ≤ y
        · rw [if_pos hh, if_pos rfl]
          refine skip_eq hb c m (t + 1) _ _ _ (by omega) ?_ ?_
          · have := inv.next hd x (M' + q' - 1) (by omega) (by omega) (by omega) (by omega) (by omega)
            rw [hxset _ hL.2.symm] at this
            exact this
          · rw [findS, if_pos]
            · refine congrArg (fun z => some (code z)) (list_eq _ _ d (by rw [List.length_set]; exact inv.ll) (cLo_len _ _ _) fun k hkd => ?_)
              rw [cLo_get hb.li _ _ _ hkd, getD_set]
              by_cases e : k = t % d
              · subst e; rw [if_pos ⟨rfl, by rw [inv.ll]; exact hk⟩, s0']; congr 1; omega
              · rw [if_neg (fun h => e h.1), regF_bend _ _ _ _ _ _ hd hkd e, (pl_bd _ (inv.li k)).2, inv.lo k hkd]
            · refine ⟨hz, (cOk_iff hb _ _).2 fun k hkd => ?_⟩
              by_cases e : k = t % d
              · subst e; rw [s0', s1']; omega
              · rw [regF_bend _ _ _ _ _ _ hd hkd e, regF_bend _ _ _ _ _ _ hd hkd e]
                have h1 := inv.lo k hkd; have h2 := inv.hi k hkd; have h3 := inv.le k hkd
                omega
        · rw [if_neg hh, if_neg (by omega)]
          refine skip_eq hb c m (t + 1) _ _ _ (by omega) ?_ ?_
          · have := inv.next hd x y (by omega) (by omega) (by omega) (by omega) (by omega)
            rw [hxset _ hL.2.symm, hyset _ hH.2.symm] at this
            exact this
          · rw [findS, if_neg, hbest]
            intro h
            have := ((cOk_iff hb _ _).1 h.2 _ hk).1
            omega
    · have hz1 : bitAt c t = 1 := by have := hf t; omega
      rw [if_neg hz]
      rw [hz1] at s0 s1
      have hfs : findS (bitAt c) lo hi d (t + 1) = findS (bitAt c) lo hi d t := by rw [findS, if_neg (fun h => hz h.1)]
      by_cases hh : M' + q' ≤ y
      · rw [if_pos hh, if_neg (by omega)]
        by_cases hl : M' + q' ≤ x
        · rw [if_pos hl, if_neg (by omega)]
          refine skip_eq hb c m (t + 1) _ _ _ (by omega) ?_ (by rw [hfs]; exact hbest)
          have := inv.next hd x y (by omega) (by omega) (by omega) (by omega) (by omega)
          rw [hxset _ hL.2.symm, hyset _ hH.2.symm] at this
          exact this
        · rw [if_neg hl, if_pos rfl]
          refine skip_eq hb c m (t + 1) _ _ _ (by omega) ?_ (by rw [hfs]; exact hbest)
          have := inv.next hd (M' + q') y (by omega) (by omega) (by omega) (by omega) (by omega)
          rw [hyset _ hH.2.symm] at this
          exact this
      · rw [if_neg hh, if_pos rfl]
        have hne : ¬ Meets (bitAt c) (t + 1) d lo hi := fun h => by have := (h _ hk).1; omega
        have hall : ¬ cOk (rgn (bitAt c) (64 * d) d 0) (rgn (bitAt c) (64 * d) d 1) lo hi d = true := fun h => hne (((cOk_iff hb _ _).1 h).of_finer hf (by omega))
        rw [if_neg hall, show 64 * d = t + 1 + m by omega, findS_empty hb hf hne, hfs, hbest]
set_option maxHeartbeats 2000000 in
theorem back_eq {lo hi : List Int} {d : Nat} (hb : Bx lo hi d) (c : List Nat) : ∀ (m t : Nat) (xl xh : List Int) (best : Option (List Nat)), t + m = 64 * d → SInv (bitAt c) d lo hi t xl xh → best = findB (bitAt c) lo hi d t →
    backGo c d m t xl xh best = if cOk (rgn (bitAt c) (64 * d) d 0) (rgn (bitAt c) (64 * d) d 1) lo hi d = true then some c else findB (bitAt c) lo hi d (64 * d)
  | 0, t, xl, xh, best, ht, inv, hbest => by
    have : Meets (bitAt c) (64 * d) d lo hi := fun k hk => by
      have h1 := inv.lo k hk; have h2 := inv.hi k hk; have h3 := inv.le k hk
      rw [Nat.add_zero] at ht
      rw [ht] at h1 h2
      omega
    rw [if_pos ((cOk_iff hb _ _).2 this)]
    rfl
  | m + 1, t, xl, xh, best, ht, inv, hbest => by
    have hd : 0 < d := hb.d1
    have hk := Nat.mod_lt t hd
    have hf := fun i => bitAt_le c i
    have tl : t < 64 * d := by omega
    obtain ⟨M, q, hq, hM, r0, r1, s0, s1, hx⟩ := side_step (bitAt c) hf t d hd tl
    obtain ⟨M', q', hq', hM', r0', r1', s0', s1', hx'⟩ := side_step (bend (bitAt c) t 0) (bend_le hf (by omega)) t d hd tl
    have eb0 := regF_congr (bend (bitAt c) t 0) (bitAt c) t d (t % d) 0 (fun i hi => if_pos hi)
    have eb1 := regF_congr (bend (bitAt c) t 0) (bitAt c) t d (t % d) 1 (fun i hi => if_pos hi)
    rw [r0, r0'] at eb0
    rw [r1, r1'] at eb1
    subst eb0
    obtain rfl : q' = q := by omega
    rw [bend_at] at s0' s1'
    have i1 := inv.lo _ hk; have i2 := inv.hi _ hk; have i3 := inv.le _ hk
    rw [r0] at i1
    rw [r1] at i2
    have hL := pl_bd _ (inv.li (t % d)); have hH := pl_bd _ (inv.hi' (t % d))
    have bL := (hx (pl (xl.getD (t % d) 0)) (by omega) (by omega))
    have bH := (hx (pl (xh.getD (t % d) 0)) (by omega) (by omega))
    obtain ⟨x, hxd⟩ : ∃ x, x = pl (xl.getD (t % d) 0) := ⟨_, rfl⟩
    obtain ⟨y, hyd⟩ : ∃ x, x = pl (xh.getD (t % d) 0) := ⟨_, rfl⟩
    rw [← hxd] at i1 i3 bL hL
    rw [← hyd] at i2 i3 bH hH
    have hxset : ∀ v, v = xl.getD (t % d) 0 → xl.set (t % d) v = xl := fun v hv => set_same _ _ _ hv (by rw [inv.ll]; exact hk)
    have hyset : ∀ v, v = xh.getD (t % d) 0 → xh.set (t % d) v = xh := fun v hv => set_same _ _ _ hv (by rw [inv.hl]; exact hk)
    rw [backGo, ← hxd, ← hyd, bL.1, bH.1, bL.2.2, bH.2.1]
    by_cases hz : bitAt c t = 1
    · rw [if_pos hz]
      rw [hz] at s0 s1
      by_cases hh : M' + q' ≤ y
      · rw [if_pos hh, if_neg (by omega)]
        by_cases hl : M' + q' ≤ x
        · rw [if_pos hl, if_neg (by omega)]
          refine back_eq hb c m (t + 1) _ _ _ (by omega) ?_ ?_
          · have := inv.next hd x y (by omega) (by omega) (by omega) (by omega) (by omega)
            rw [hxset _ hL.2.symm, hyset _ hH.2.symm] at this
            exact this
          · rw [findB, if_neg, hbest]
            intro h
            have := ((cOk_iff hb _ _).1 h.2 _ hk).2
            omega
        · rw [if_neg hl, if_pos rfl]
          refine back_eq hb c m (t + 1) _ _ _ (by omega) ?_ ?_
          · have := inv.next hd (M' + q') y (by omega) (by omega) (by omega) (by omega) (by omega)
            rw [hyset _ hH.2.symm] at this
            exact this
          · rw [findB, if_pos]
            · refine congrArg (fun z => some (code z)) (list_eq _ _ d (by rw [List.length_set]; exact inv.hl) (cHi_len _ _ _) fun k hkd => ?_)
              rw [cHi_get hb.hi' _ _ _ hkd, getD_set]
              by_cases e : k = t % d
              · subst e; rw [if_pos ⟨rfl, by rw [inv.hl]; exact hk⟩, s1']; congr 1; omega
              · rw [if_neg (fun h => e h.1), regF_bend _ _ _ _ _ _ hd hkd e, (pl_bd _ (inv.hi' k)).2, inv.hi k hkd]
            · refine ⟨hz, (cOk_iff hb _ _).2 fun k hkd => ?_⟩
              by_cases e : k = t % d
              · subst e; rw [s0', s1']; omega
              · rw [regF_bend _ _ _ _ _ _ hd hkd e, regF_bend _ _ _ _ _ _ hd hkd e]
                have h1 := inv.lo k hkd; have h2 := inv.hi k hkd; have h3 := inv.le k hkd
                omega
      · rw [if_neg hh, if_pos rfl]
        have hne : ¬ Meets (bitAt c) (t + 1) d lo hi := fun h => by have := (h _ hk).1; omega
        have hall : ¬ cOk (rgn (bitAt c) (64 * d) d 0) (rgn (bitAt c) (64 * d) d 1) lo hi d = true := fun h => hne (((cOk_iff hb _ _).1 h).of_finer hf (by omega))
        rw [if_neg hall, show 64 * d = t + 1 + m by omega, findB_empty hb hf hne, findB, if_pos]
        · refine congrArg (fun z => some (code z)) (list_eq _ _ d inv.hl (cHi_len _ _ _) fun k hkd => ?_)
          rw [cHi_get hb.hi' _ _ _ hkd]
          have e1 := (pl_bd _ (inv.hi' k)).2
          rw [e1, inv.hi k hkd]
          by_cases e : k = t % d
          · subst e; rw [s1', r1]; congr 1; omega
          · rw [regF_bend _ _ _ _ _ _ hd hkd e]
        · refine ⟨hz, (cOk_iff hb _ _).2 fun k hkd => ?_⟩
          by_cases e : k = t % d
          · subst e; rw [s0', s1']; omega
          · rw [regF_bend _ _ _ _ _ _ hd hkd e, regF_bend _ _ _ _ _ _ hd hkd e]
            have h1 := inv.lo k hkd; have h2 := inv.hi k hkd; have h3 := inv.le k hkd
            omega
    · have hz1 : bitAt c t = 0 := by have := hf t; omega
      rw [if_neg hz]
      rw [hz1] at s0 s1
      have hfs : findB (bitAt c) lo hi d (t + 1) = findB (bitAt c) lo hi d t := by rw [findB, if_neg (fun h => hz h.1)]
      by_cases hl : M' + q' ≤ x
      · rw [if_pos hl, if_pos rfl]
        have hne : ¬ Meets (bitAt c) (t + 1) d lo hi := fun h => by have := (h _ hk).2; omega
        have hall : ¬ cOk (rgn (bitAt c) (64 * d) d 0) (rgn (bitAt c) (64 * d) d 1) lo hi d = true := fun h => hne (((cOk_iff hb _ _).1 h).of_finer hf (by omega))
        rw [if_neg hall, show 64 * d = t + 1 + m by omega, findB_empty hb hf hne, hfs, hbest]
      · rw [if_neg hl, if_neg (by omega)]
        by_cases hh : M' + q' ≤ y
        · rw [if_pos hh, if_pos rfl]
          refine back_eq hb c m (t + 1) _ _ _ (by omega) ?_ (by rw [hfs]; exact hbest)
          have := inv.next hd x (M' + q' - 1) (by omega) (by omega) (by omega) (by omega) (by omega)
          rw [hxset _ hL.2.symm] at this
          exact this
        · rw [if_neg hh, if_neg (by omega)]
          refine back_eq hb c m (t + 1) _ _ _ (by omega) ?_ (by rw [hfs]; exact hbest)
          have := inv.next hd x y (by omega) (by omega) (by omega) (by omega) (by omega)
          rw [hxset _ hL.2.symm, hyset _ hH.2.symm] at this
          exact this
end Go.Proofs.Ytjdbpeblbejllaa
