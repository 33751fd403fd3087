/- Plain laws of Morton codes: bits, bytes, words. Contract of codec.Writer's Num. -/
import Derived.Test.YtiicdnbhphgieaaK1
import Derived.Test.YtiicdnbhphgieaaK7
set_option linter.unusedVariables false
set_option linter.unusedSimpArgs false
namespace Go.Proofs.Ytiicdnbhphgieaa
open Go.RowKit
def pl (z : Int) : Nat := (z + 9223372036854775808).toNat
def rbit (p : List Int) (i : Nat) : Nat := pl (p.getD (i % p.length) 0) / 2 ^ (63 - i / p.length) % 2
def cutF (f : Nat → Nat) (n i : Nat) : Nat := if i < n then f i else 0
def byteOf (f : Nat → Nat) (j : Nat) : Nat := f (8*j) * 128 + f (8*j+1) * 64 + f (8*j+2) * 32 + f (8*j+3) * 16 + f (8*j+4) * 8 + f (8*j+5) * 4 + f (8*j+6) * 2 + f (8*j+7)
def bitAt (l : List Nat) (i : Nat) : Nat := l.getD (i / 8) 0 / 2 ^ (7 - i % 8) % 2
def code (p : List Int) : List Nat := (List.range (8 * p.length)).map (byteOf (rbit p))

theorem rbit_le (p : List Int) (i : Nat) : rbit p i ≤ 1 := by unfold rbit; omega
theorem cutF_le (f : Nat → Nat) (hf : ∀ i, f i ≤ 1) (n i : Nat) : cutF f n i ≤ 1 := by unfold cutF; split; exact hf i; omega
theorem byteOf_lt (f : Nat → Nat) (hf : ∀ i, f i ≤ 1) (j : Nat) : byteOf f j < 256 := by
  unfold byteOf
  have h0 := hf (8*j); have h1 := hf (8*j+1); have h2 := hf (8*j+2); have h3 := hf (8*j+3)
  have h4 := hf (8*j+4); have h5 := hf (8*j+5); have h6 := hf (8*j+6); have h7 := hf (8*j+7)
  omega
theorem byteOf_congr (f g : Nat → Nat) (j : Nat) (h : ∀ i, i < 8 → f (8*j+i) = g (8*j+i)) : byteOf f j = byteOf g j := by
  unfold byteOf
  have h0 := h 0 (by omega); have h1 := h 1 (by omega); have h2 := h 2 (by omega); have h3 := h 3 (by omega)
  have h4 := h 4 (by omega); have h5 := h 5 (by omega); have h6 := h 6 (by omega); have h7 := h 7 (by omega)
  simp only [Nat.add_zero] at h0
  rw [h0, h1, h2, h3, h4, h5, h6, h7]
theorem byteOf_cut0 (f : Nat → Nat) (j : Nat) : byteOf (cutF f 0) j = 0 := by simp [byteOf, cutF]
theorem byteOf_far (f : Nat → Nat) (t j : Nat) (h : j ≠ t / 8) : byteOf (cutF f (t + 1)) j = byteOf (cutF f t) j := by
  refine byteOf_congr _ _ _ fun i hi => ?_
  unfold cutF
  by_cases h1 : 8 * j + i < t
  · rw [if_pos (by omega), if_pos h1]
  · rw [if_neg (by omega), if_neg h1]
theorem byteOf_near (f : Nat → Nat) (q r : Nat) (hr : r < 8) (hf : ∀ i, f i ≤ 1) :
    byteOf (cutF f (8 * q + r)) q ||| (f (8 * q + r) * 2 ^ (7 - r)) = byteOf (cutF f (8 * q + r + 1)) q := by
  have e : ∀ i n, cutF f (8 * q + n) (8 * q + i) = if i < n then f (8 * q + i) else 0 := fun i n => by
    unfold cutF
    by_cases h : i < n
    · rw [if_pos h, if_pos (by omega)]
    · rw [if_neg h, if_neg (by omega)]
  have e0 : ∀ n, cutF f (8 * q + n) (8 * q) = if 0 < n then f (8 * q) else 0 := fun n => e 0 n
  have e1 : ∀ i n, cutF f (8 * q + n + 1) (8 * q + i) = if i < n + 1 then f (8 * q + i) else 0 := fun i n => e i (n + 1)
  have e2 : ∀ n, cutF f (8 * q + n + 1) (8 * q) = f (8 * q) := fun n => by
    have := e 0 (n + 1)
    simp only [Nat.add_zero, Nat.zero_lt_succ, if_true] at this
    exact this
  have b := hf (8 * q + r)
  have hj : byteOf (cutF f (8 * q + r)) q % 2 ^ (8 - r) = 0 := by
    unfold byteOf
    simp only [e, e0]
    rcases (by omega : r = 0 ∨ r = 1 ∨ r = 2 ∨ r = 3 ∨ r = 4 ∨ r = 5 ∨ r = 6 ∨ r = 7) with rfl|rfl|rfl|rfl|rfl|rfl|rfl|rfl <;> simp <;> omega
  have hy : f (8 * q + r) * 2 ^ (7 - r) < 2 ^ (8 - r) := by
    have h2 : 2 ^ (8 - r) = 2 * 2 ^ (7 - r) := by rw [show 8 - r = (7 - r) + 1 by omega, Nat.pow_succ]; omega
    rw [h2]
    have hp : 0 < 2 ^ (7 - r) := Nat.pow_pos (by omega)
    have := Nat.mul_le_mul_right (2 ^ (7 - r)) b
    omega
  rw [Go.nat_join _ _ _ hj hy]
  unfold byteOf
  simp only [e1, e2, e, e0]
  rcases (by omega : r = 0 ∨ r = 1 ∨ r = 2 ∨ r = 3 ∨ r = 4 ∨ r = 5 ∨ r = 6 ∨ r = 7) with rfl|rfl|rfl|rfl|rfl|rfl|rfl|rfl <;> simp <;> omega
theorem byteOf_step (f : Nat → Nat) (t : Nat) (hf : ∀ i, f i ≤ 1) : byteOf (cutF f t) (t / 8) ||| (f t * 2 ^ (7 - t % 8)) = byteOf (cutF f (t + 1)) (t / 8) := by
  have h := byteOf_near f (t / 8) (t % 8) (by omega) hf
  rwa [Nat.div_add_mod t 8] at h
theorem byteOf_all (f : Nat → Nat) (n j : Nat) (h : 8 * j + 7 < n) : byteOf (cutF f n) j = byteOf f j :=
  byteOf_congr _ _ _ fun i hi => by unfold cutF; rw [if_pos (by omega)]
theorem xor63 (x : Nat) (hx : x < 9223372036854775808) : x ^^^ 9223372036854775808 = x + 9223372036854775808 := by
  have e63 : (9223372036854775808 : Nat) = 2 ^ 63 := by decide
  rw [e63, Nat.add_comm, show 2 ^ 63 + x = 2 ^ 63 * 1 + x from by omega, Nat.two_pow_add_eq_or_of_lt (by omega)]
  refine Nat.eq_of_testBit_eq fun i => ?_
  rw [Nat.testBit_xor, Nat.testBit_or, Nat.mul_one, Nat.testBit_two_pow]
  by_cases hi : 63 = i
  · subst hi; rw [Nat.testBit_lt_two_pow (by omega)]; rfl
  · simp [hi]
theorem unxor63 (x : Nat) (hx : x < 18446744073709551616) : wrap64 (bits BinOp.xor IntKind.u64 (x : Int) 9223372036854775808) = (x : Int) - 9223372036854775808 := by
  rw [← IntWalk.i64_left]
  have h := u64_xor_nat x 9223372036854775808 hx (by omega)
  rw [show ((9223372036854775808 : Nat) : Int) = 9223372036854775808 from rfl] at h
  rw [h, IntKind.wrap_i64]
  by_cases h1 : x < 9223372036854775808
  · rw [xor63 x h1]; omega
  · obtain ⟨y, hy⟩ : ∃ y, y = x - 9223372036854775808 := ⟨_, rfl⟩
    have hyl : y < 9223372036854775808 := by omega
    have : x = y ^^^ 9223372036854775808 := by rw [xor63 y hyl]; omega
    rw [this, Nat.xor_assoc, Nat.xor_self, Nat.xor_zero, xor63 y hyl]; omega
theorem plain_eq (d : Int) (h1 : -9223372036854775808 ≤ d) (h2 : d ≤ 9223372036854775807) : bits BinOp.xor IntKind.u64 (IntKind.u64.wrap d) 9223372036854775808 = (pl d : Int) := by
  have hw : IntKind.u64.wrap d = ((d % 18446744073709551616).toNat : Nat) := by
    simp only [IntKind.wrap, IntKind.bits, IntKind.signed]; simp; omega
  have hx := u64_xor_nat (d % 18446744073709551616).toNat 9223372036854775808 (by omega) (by omega)
  rw [hw]
  refine hx.trans ?_
  unfold pl
  have e63 : (9223372036854775808 : Nat) = 2 ^ 63 := by decide
  have key : ∀ x : Nat, x < 9223372036854775808 → x ^^^ 9223372036854775808 = x + 9223372036854775808 := fun x hx => by
    rw [e63, Nat.add_comm, show 2 ^ 63 + x = 2 ^ 63 * 1 + x from by omega, Nat.two_pow_add_eq_or_of_lt (by omega)]
    refine Nat.eq_of_testBit_eq fun i => ?_
    rw [Nat.testBit_xor, Nat.testBit_or, Nat.mul_one, Nat.testBit_two_pow]
    by_cases hi : 63 = i
    · subst hi; rw [Nat.testBit_lt_two_pow (by omega)]; rfl
    · simp [hi]
  by_cases hd : 0 ≤ d
  · rw [key _ (by omega)]; omega
  · obtain ⟨x, hx⟩ : ∃ x : Nat, x = (d + 9223372036854775808).toNat := ⟨_, rfl⟩
    have hxl : x < 9223372036854775808 := by omega
    have : (d % 18446744073709551616).toNat = x ^^^ 9223372036854775808 := by rw [key x hxl]; omega
    rw [this, Nat.xor_assoc, Nat.xor_self, Nat.xor_zero, hx]
theorem uw_xor (u v : Int) (h1 : -9223372036854775808 ≤ u) (h2 : u ≤ 9223372036854775807) (h3 : -9223372036854775808 ≤ v) (h4 : v ≤ 9223372036854775807) :
    bits BinOp.xor IntKind.u64 (IntKind.u64.wrap u) (IntKind.u64.wrap v) = ((pl u ^^^ pl v : Nat) : Int) := by
  have hw : ∀ d, IntKind.u64.wrap d = ((d % 18446744073709551616).toNat : Nat) := fun d => by
    simp only [IntKind.wrap, IntKind.bits, IntKind.signed]; simp; omega
  have e1 := plain_eq u h1 h2
  have e2 := plain_eq v h3 h4
  rw [hw] at e1 e2
  rw [hw, hw]
  obtain ⟨a, ha⟩ : ∃ a, a = (u % 18446744073709551616).toNat := ⟨_, rfl⟩
  obtain ⟨b, hb⟩ : ∃ b, b = (v % 18446744073709551616).toNat := ⟨_, rfl⟩
  have hal : a < 18446744073709551616 := by omega
  have hbl : b < 18446744073709551616 := by omega
  rw [← ha] at e1 ⊢
  rw [← hb] at e2 ⊢
  have x1 := u64_xor_nat a 9223372036854775808 hal (by omega)
  have x2 := u64_xor_nat b 9223372036854775808 hbl (by omega)
  rw [show ((9223372036854775808 : Nat) : Int) = 9223372036854775808 from rfl] at x1 x2
  rw [x1] at e1
  rw [x2] at e2
  have f1 : pl u = a ^^^ 9223372036854775808 := by omega
  have f2 : pl v = b ^^^ 9223372036854775808 := by omega
  rw [u64_xor_nat a b hal hbl, f1, f2]
  congr 1
  rw [Nat.xor_comm b, Nat.xor_assoc, ← Nat.xor_assoc 9223372036854775808, Nat.xor_self, Nat.zero_xor]
theorem wrap_pl (z : Int) (h1 : -9223372036854775808 ≤ z) (h2 : z ≤ 9223372036854775807) : IntKind.u64.wrap (IntKind.u64.wrap z + 9223372036854775808) = (pl z : Nat) := by
  have hw : ∀ x, IntKind.u64.wrap x = x % 18446744073709551616 := fun x => by simp only [IntKind.wrap, IntKind.bits, IntKind.signed]; simp
  rw [hw, hw]; unfold pl; omega
theorem tmod_bit (x k : Nat) : ((x : Int) / 2 ^ k).tmod 2 = ((x / 2 ^ k % 2 : Nat) : Int) := by
  have h : ((x : Int) / 2 ^ k) = ((x / 2 ^ k : Nat) : Int) := by simp
  rw [h]; rfl
theorem tmod_bit8 (x k : Nat) : ((x : Int) / 2 ^ k).tmod 2 % 256 = ((x / 2 ^ k % 2 : Nat) : Int) := by
  rw [tmod_bit]; omega
theorem pl_lt (d : Int) (h2 : d ≤ 9223372036854775807) : pl d < 18446744073709551616 := by unfold pl; omega
/-- what one step of Code stores -/
theorem code_store (f : Nat → Nat) (t m x y : Nat) (hf : ∀ i, f i ≤ 1) (hy : y = byteOf (cutF f t) (t / 8)) (hm : m < 64) (hx : x < 18446744073709551616) (hb : f t = x / 2 ^ (63 - m) % 2) :
    bits BinOp.or IntKind.u8 (y : Int) (bits BinOp.and IntKind.u64 ((x : Int) / 2 ^ (63 - m)) 1 % 256 * 2 ^ (7 - t % 8) % 256) = (byteOf (cutF f (t + 1)) (t / 8) : Nat) := by
  have hxx : x / 2 ^ (63 - m) < 18446744073709551616 := Nat.lt_of_le_of_lt (Nat.div_le_self _ _) hx
  have h1 : bits BinOp.and IntKind.u64 ((x : Int) / 2 ^ (63 - m)) 1 = (f t : Nat) := by
    have h := u64_and_nat (x / 2 ^ (63 - m)) 1 hxx (by omega)
    rw [nat_mask1, ← hb] at h
    rw [← h]
    simp
  have hft := hf t
  have h2 : (f t : Int) % 256 * 2 ^ (7 - t % 8) % 256 = (f t * 2 ^ (7 - t % 8) : Nat) := by
    rcases (by omega : t % 8 = 0 ∨ t % 8 = 1 ∨ t % 8 = 2 ∨ t % 8 = 3 ∨ t % 8 = 4 ∨ t % 8 = 5 ∨ t % 8 = 6 ∨ t % 8 = 7) with h|h|h|h|h|h|h|h <;> rw [h] <;> simp <;> omega
  have h3 : f t * 2 ^ (7 - t % 8) < 256 := by
    rcases (by omega : t % 8 = 0 ∨ t % 8 = 1 ∨ t % 8 = 2 ∨ t % 8 = 3 ∨ t % 8 = 4 ∨ t % 8 = 5 ∨ t % 8 = 6 ∨ t % 8 = 7) with h|h|h|h|h|h|h|h <;> rw [h] <;> simp <;> omega
  rw [h1, h2, u8_or_nat _ _ (by rw [hy]; exact byteOf_lt _ (cutF_le f hf t) _) h3, hy, byteOf_step f t hf]
theorem rbit_at (p : List Int) (m k : Nat) (hk : k < p.length) : rbit p (m * p.length + k) = pl (p.getD k 0) / 2 ^ (63 - m) % 2 := by
  have h0 : 0 < p.length := by omega
  unfold rbit
  rw [show (m * p.length + k) % p.length = k from by rw [Nat.mul_comm, Nat.mul_add_mod, Nat.mod_eq_of_lt hk], show (m * p.length + k) / p.length = m from by rw [Nat.mul_comm, Nat.mul_add_div h0, Nat.div_eq_of_lt hk, Nat.add_zero]]
def codeCell (p : List Int) (n j : Nat) : Value := .int .u8 (byteOf (cutF (rbit p) n) j : Nat)
theorem code_len (p : List Int) : (code p).length = 8 * p.length := by simp [code]
theorem codeCell_all (p : List Int) (j : Nat) (h : j < 8 * p.length) : codeCell p (64 * p.length) j = u8s (code p) j := by
  unfold codeCell u8s
  rw [byteOf_all _ _ _ (by omega)]
  simp [code, List.getD, List.getElem?_map, List.getElem?_range h]
theorem code_lt (p : List Int) : IsB (code p) := fun i => by
  by_cases h : i < 8 * p.length
  · simp only [code, List.getD, List.getElem?_map, List.getElem?_range h]
    exact byteOf_lt _ (rbit_le p) i
  · rw [getD_out _ _ _ (by rw [code_len]; omega)]; omega
def hornN (f : Nat → Nat) : Nat → Nat
  | 0 => 0
  | k + 1 => 2 * hornN f k + f k
theorem hornN_lt (f : Nat → Nat) (hf : ∀ i, f i ≤ 1) : ∀ k, hornN f k < 2 ^ k
  | 0 => by simp [hornN]
  | k + 1 => by have := hornN_lt f hf k; have := hf k; rw [hornN, Nat.pow_succ]; omega
theorem hornN_8 (f : Nat → Nat) (j : Nat) : hornN (fun k => f (8 * j + k)) 8 = byteOf f j := by
  simp only [hornN, byteOf, Nat.add_zero]; omega
theorem hornN_lt64 (f : Nat → Nat) (hf : ∀ i, f i ≤ 1) (k : Nat) (hk : k ≤ 64) : hornN f k < 18446744073709551616 := by
  have h1 := hornN_lt f hf k
  have h2 : 2 ^ k ≤ 2 ^ 64 := Nat.pow_le_pow_right (by omega) hk
  omega
theorem bitAt_le (l : List Nat) (i : Nat) : bitAt l i ≤ 1 := by unfold bitAt; omega
/-- the point of a code: number k of d -/
def ptNum (c : List Nat) (d k : Nat) : Int := (hornN (fun b => bitAt c (b * d + k)) 64 : Int) - 9223372036854775808
def ptVals (c : List Nat) (d n : Nat) : List Value := (List.range n).map fun k => .int .i64 (ptNum c d k)
theorem ptVals_succ (c : List Nat) (d n : Nat) : ptVals c d (n + 1) = ptVals c d n ++ [.int .i64 (ptNum c d n)] := by simp [ptVals, List.range_succ]
theorem i64_of_u64 (u : Nat) (hu : u < 18446744073709551616) : wrap64 (IntKind.u64.wrap ((u : Int) - 9223372036854775808)) = (u : Int) - 9223372036854775808 := by
  rw [← IntWalk.i64_left]
  have hw : ∀ x, IntKind.u64.wrap x = x % 18446744073709551616 := fun x => by simp only [IntKind.wrap, IntKind.bits, IntKind.signed]; simp
  rw [hw, IntKind.wrap_i64]; omega

end Go.Proofs.Ytiicdnbhphgieaa
namespace Go.Proofs.Ytiicdnbhphgieaa
open Go.RowKit
theorem xor_upw (x : Int) (h1 : -9223372036854775808 ≤ x) (h2 : x ≤ 9223372036854775807) : bits BinOp.xor IntKind.u64 (IntKind.u64.wrap x) 9223372036854775808 = ((x + 9223372036854775808).toNat : Nat) := by
  obtain ⟨u, hu⟩ : ∃ u : Nat, IntKind.u64.wrap x = (u : Int) ∧ u < 18446744073709551616 ∧ (u : Int) = x % 18446744073709551616 := by
    refine ⟨(x % 18446744073709551616).toNat, ?_, by omega, by omega⟩
    rw [IntKind.wrap_u64]; omega
  rw [hu.1]
  have := bits_xor_u64_nat u 9223372036854775808 hu.2.1 (by decide)
  rw [show ((9223372036854775808 : Nat) : Int) = 9223372036854775808 from rfl] at this
  rw [this]
  by_cases h : u < 9223372036854775808
  · rw [xor63 u h]; omega
  · obtain ⟨y, hy⟩ : ∃ y, u = y + 9223372036854775808 := ⟨u - 9223372036854775808, by omega⟩
    have hyl : y < 9223372036854775808 := by omega
    rw [hy, ← xor63 y hyl, Nat.xor_assoc, Nat.xor_self, Nat.xor_zero]
    omega
/-- a number's bytes -/
def num8 (x : Int) : List Nat := be8 (x + 9223372036854775808).toNat
theorem num8_len (x : Int) : (num8 x).length = 8 := by simp [num8, be8]
set_option maxRecDepth 100000 in
set_option maxHeartbeats 1000000 in
theorem wnum_any (S : Nat → Prop) (g : Nat) (l : List Nat) (x : Int) (e : Int) (w : World) (hS : Wr w S g l e) (h1 : -9223372036854775808 ≤ x) (h2 : x ≤ 9223372036854775807) (hn : l.length ≤ 140737488353000) :
    Calls Try.prog 83 #[.pointer (some ⟨g, 0, none⟩), .int .i64 x] w fun e' w' => e' = .returned (.tuple #[]) ∧ WrP S w w' g (l ++ num8 x) e := by
  have t := xor_upw x h1 h2
  obtain ⟨n, hu⟩ : ∃ u, u = (x + 9223372036854775808).toNat := ⟨_, rfl⟩
  have hn64 : n < 18446744073709551616 := by omega
  have hE := hideP (show num8 x = be8 n by rw [hu]; rfl)
  rw [hE.out]
  rw [← hu] at t
  clear hu
  have HhS := hideP hS; clear hS
  go_enter Try.func83, Try.ntmps83
  go_wp2_with fail
  go_loopw [5] (fun v5 wr => ∃ (k : Nat), k ≤ 8 ∧ v5 = .int .i64 (56 - 8 * (k : Int)) ∧ Hid (WrP S w wr g (l ++ (be8 n).take k) e)) (fun v5 _ => (intOf v5 + 8).toNat)
  case atStart => exact ⟨0, by omega, rfl, S, Mv.refl _ _, by simpa using HhS.out⟩
  case round =>
    obtain ⟨k, hk, rfl, hV⟩ := hrel
    by_cases hlt : k < 8
    · have t' : decide ((0 : Int) ≤ 56 - 8 * (k : Int)) = true := by simp; omega
      have t2' : decide (8 * (k : Int) ≤ 56) = true := by simp; omega
      have i1 : (0 : Int) ≤ 56 - 8 * (k : Int) := by omega
      have i2 : 8 * (k : Int) ≤ 56 := by omega
      have e1 : ((56 : Int) - 8 * (k : Int)).toNat = 56 - 8 * k := by omega
      have m1 : IntKind.i64.wrap (56 - 8 * (k : Int) - 8) = 56 - 8 * ((k : Int) + 1) := by rw [show (56 : Int) - 8 * (k : Int) - 8 = 56 - 8 * ((k : Int) + 1) by omega]; exact IntWalk.i64_in _ (by omega)
      obtain ⟨y, hy⟩ : ∃ y, y = n / 2 ^ (56 - 8 * k) % 256 := ⟨_, rfl⟩
      have hy' : (n : Int) / 2 ^ (56 - 8 * k) % 256 = (y : Int) := by rw [hy]; simp
      have hE := hideP (show (be8 n).take k ++ [y] = (be8 n).take (k + 1) by rw [hy]; exact be8_succ n k hlt)
      have hl := hideP (show (l ++ (be8 n).take k).length ≤ 140737488354000 by rw [List.length_append, List.length_take]; omega)
      have hyb := hideP (show y < 256 by rw [hy]; omega)
      clear hy
      obtain ⟨S1, m1, v1⟩ := hV.out
      have M1 := hideP m1
      have V1 := hideP v1
      clear m1 v1
      go_wp2_with (go_at_call 118; refine (wbyte_any S1 g _ y e _ V1.out hyb.out hl.out).mono ?_; rintro e1 w1 ⟨rfl, s1⟩)
      rw [List.append_assoc, hE.out] at s1
      have ho := hideP (WrP.then M1.out s1)
      clear hV s1
      go_roundw
      case rel => exact ⟨k + 1, by omega, by rw [show ((k + 1 : Nat) : Int) = (k : Int) + 1 by omega], ho.out⟩
      case measure => simp [intOf]; omega
    · have t' : decide ((0 : Int) ≤ 56 - 8 * (k : Int)) = false := by simp; omega
      have t2' : decide (8 * (k : Int) ≤ 56) = false := by simp; omega
      have hk8 : k = 8 := by omega
      have ho := hideP hV.out
      rw [hk8, show (be8 n).take 8 = be8 n from List.take_of_length_le (by simp [be8])] at ho
      clear hV hlt hk
      go_wp2_with fail
      exact bodyPost_end (results_none rfl _ _ _) rfl ⟨rfl, ho.out⟩
end Go.Proofs.Ytiicdnbhphgieaa
