/- Plain: bytes of numbers, rows, kids, nodes, and what is read of bytes; what a node says of its tree. No program in sight. -/
import Derived.Test.YtedokpgkjcnoiaaGreatQ16
set_option linter.unusedVariables false
set_option linter.unusedSimpArgs false
namespace Go.Proofs.YtedokpgkjcnoiaaGreat.Pl
theorem getD_out {α : Type} (l : List α) (i : Nat) (d : α) (h : l.length ≤ i) : l.getD i d = d := by simp [List.getD, List.getElem?_eq_none h]
def leAll (lo hi : List Int) (n : Nat) : Bool := (List.range n).all fun i => decide (lo.getD i 0 ≤ hi.getD i 0)
def rightB (lo hi : List Int) (d : Int) : Bool := decide (1 ≤ d) && decide (d ≤ 8) && decide ((lo.length : Int) = d) && decide ((hi.length : Int) = d) && leAll lo hi lo.length
theorem rightB_len {lo hi : List Int} {d : Int} (h : rightB lo hi d = true) : 1 ≤ d ∧ d ≤ 8 ∧ (lo.length : Int) = d ∧ (hi.length : Int) = d ∧ leAll lo hi lo.length = true := by
 unfold rightB at h
 simpa [and_assoc] using h
def mx (a b : Int) : Int := if a < b then b else a
def mn (a b : Int) : Int := if b < a then b else a
def hullLo (lo lo' : List Int) : List Int := (List.range lo.length).map fun i => mn (lo.getD i 0) (lo'.getD i 0)
def hullHi (hi hi' : List Int) : List Int := (List.range hi.length).map fun i => mx (hi.getD i 0) (hi'.getD i 0)
abbrev BoxD := List Int × List Int
def boxOk (b : BoxD) (d : Nat) : Prop := (rightB b.1 b.2 d = true) ∨ (b.1 = [] ∧ b.2 = [])
theorem boxOk_len {b : BoxD} {d : Nat} (h : boxOk b d) : b.1.length ≤ 8 ∧ b.2.length ≤ 8 ∧ b.1.length = b.2.length := by
 rcases h with h | ⟨h1, h2⟩
 ·have := rightB_len h; omega
 ·rw [h1, h2]; simp
def hullB (a b : BoxD) : BoxD := if a.1 = [] then b else if b.1 = [] then a else (hullLo a.1 b.1, hullHi a.2 b.2)
theorem hullLo_len (lo lo' : List Int) : (hullLo lo lo').length = lo.length := by simp [hullLo]
theorem hullHi_len (hi hi' : List Int) : (hullHi hi hi').length = hi.length := by simp [hullHi]
theorem hullB_ok {a b : BoxD} {d : Nat} (ha : boxOk a d) (hb : boxOk b d) : boxOk (hullB a b) d := by
 unfold hullB
 by_cases ea : a.1 = []
 ·rw [if_pos ea]; exact hb
 ·rw [if_neg ea]
  by_cases eb : b.1 = []
  ·rw [if_pos eb]; exact ha
  ·rw [if_neg eb]
   rcases ha with h | ⟨h, _⟩
   case inr => exact absurd h ea
   rcases hb with h' | ⟨h', _⟩
   case inr => exact absurd h' eb
   refine .inl ?_
   have l1 := rightB_len h
   have l2 := rightB_len h'
   unfold rightB
   have hle : leAll (hullLo a.1 b.1) (hullHi a.2 b.2) (hullLo a.1 b.1).length = true := by
    have h1 := l1.2.2.2.2
    unfold leAll at h1 ⊢
    rw [List.all_eq_true] at h1 ⊢
    intro i hi
    rw [List.mem_range, hullLo_len] at hi
    have h2 := h1 i (List.mem_range.2 hi)
    simp only [decide_eq_true_eq] at h2 ⊢
    have e1 : (hullLo a.1 b.1).getD i 0 = mn (a.1.getD i 0) (b.1.getD i 0) := by simp [hullLo, List.getD, List.getElem?_map, List.getElem?_range hi]
    have e2 : (hullHi a.2 b.2).getD i 0 = mx (a.2.getD i 0) (b.2.getD i 0) := by simp [hullHi, List.getD, List.getElem?_map, List.getElem?_range (show i < a.2.length by omega)]
    rw [e1, e2]
    unfold mn mx
    split <;> split <;> omega
   rw [hle, hullLo_len, hullHi_len]
   simp only [Bool.and_true, Bool.and_eq_true, decide_eq_true_eq]
   omega
theorem hullB_isI {a b : BoxD} (a1 : IsI a.1) (a2 : IsI a.2) (b1 : IsI b.1) (b2 : IsI b.2) : IsI (hullB a b).1 ∧ IsI (hullB a b).2 := by
 unfold hullB
 split
 ·exact ⟨b1, b2⟩
 ·split
  ·exact ⟨a1, a2⟩
  ·refine ⟨fun i => ?_, fun i => ?_⟩
   ·by_cases hi : i < a.1.length
    ·have e1 : (hullLo a.1 b.1).getD i 0 = mn (a.1.getD i 0) (b.1.getD i 0) := by simp [hullLo, List.getD, List.getElem?_map, List.getElem?_range hi]
     dsimp only
     rw [e1]; unfold mn; split
     ·exact b1 i
     ·exact a1 i
    ·dsimp only; rw [getD_out _ _ _ (by rw [hullLo_len]; omega)]; omega
   ·by_cases hi : i < a.2.length
    ·have e1 : (hullHi a.2 b.2).getD i 0 = mx (a.2.getD i 0) (b.2.getD i 0) := by simp [hullHi, List.getD, List.getElem?_map, List.getElem?_range hi]
     dsimp only
     rw [e1]; unfold mx; split
     ·exact b2 i
     ·exact a2 i
    ·dsimp only; rw [getD_out _ _ _ (by rw [hullHi_len]; omega)]; omega
def shr (x : UInt32) (n : Nat) : UInt32 := UInt32.ofNat (x.toNat / 2 ^ n)
def shl (x : UInt32) (n : Nat) : UInt32 := UInt32.ofNat (x.toNat * 2 ^ n)
def rotr (x : UInt32) (n : Nat) : UInt32 := shr x n ||| shl x (32 - n)
def s0 (x : UInt32) : UInt32 := rotr x 7 ^^^ rotr x 18 ^^^ shr x 3
def s1 (x : UInt32) : UInt32 := rotr x 17 ^^^ rotr x 19 ^^^ shr x 10
def wd (b : List Nat) (i : Nat) : UInt32 := UInt32.ofNat (b.getD (4 * i) 0 * 16777216 + b.getD (4 * i + 1) 0 * 65536 + b.getD (4 * i + 2) 0 * 256 + b.getD (4 * i + 3) 0)
def wrd (b : List Nat) (i : Nat) : UInt32 := if h : i < 16 then wd b i else wrd b (i - 16) + s0 (wrd b (i - 15)) + wrd b (i - 7) + s1 (wrd b (i - 2))
termination_by i
decreasing_by all_goals omega
def kk : List UInt32 := [0x428a2f98, 0x71374491, 0xb5c0fbcf, 0xe9b5dba5, 0x3956c25b, 0x59f111f1, 0x923f82a4, 0xab1c5ed5, 0xd807aa98, 0x12835b01, 0x243185be, 0x550c7dc3, 0x72be5d74, 0x80deb1fe, 0x9bdc06a7, 0xc19bf174, 0xe49b69c1, 0xefbe4786, 0x0fc19dc6, 0x240ca1cc, 0x2de92c6f, 0x4a7484aa, 0x5cb0a9dc, 0x76f988da, 0x983e5152, 0xa831c66d, 0xb00327c8, 0xbf597fc7, 0xc6e00bf3, 0xd5a79147, 0x06ca6351, 0x14292967, 0x27b70a85, 0x2e1b2138, 0x4d2c6dfc, 0x53380d13, 0x650a7354, 0x766a0abb, 0x81c2c92e, 0x92722c85, 0xa2bfe8a1, 0xa81a664b, 0xc24b8b70, 0xc76c51a3, 0xd192e819, 0xd6990624, 0xf40e3585, 0x106aa070, 0x19a4c116, 0x1e376c08, 0x2748774c, 0x34b0bcb5, 0x391c0cb3, 0x4ed8aa4a, 0x5b9cca4f, 0x682e6ff3, 0x748f82ee, 0x78a5636f, 0x84c87814, 0x8cc70208, 0x90befffa, 0xa4506ceb, 0xbef9a3f7, 0xc67178f2]
def h0 : List UInt32 := [0x6a09e667, 0xbb67ae85, 0x3c6ef372, 0xa54ff53a, 0x510e527f, 0x9b05688c, 0x1f83d9ab, 0x5be0cd19]
def one (v : List UInt32) (k w : UInt32) : UInt32 :=
 v.getD 7 0 + (rotr (v.getD 4 0) 6 ^^^ rotr (v.getD 4 0) 11 ^^^ rotr (v.getD 4 0) 25) + (v.getD 4 0 &&& v.getD 5 0 ^^^ ~~~ (v.getD 4 0) &&& v.getD 6 0) + k + w
def two (v : List UInt32) : UInt32 :=
 (rotr (v.getD 0 0) 2 ^^^ rotr (v.getD 0 0) 13 ^^^ rotr (v.getD 0 0) 22) + (v.getD 0 0 &&& v.getD 1 0 ^^^ v.getD 0 0 &&& v.getD 2 0 ^^^ v.getD 1 0 &&& v.getD 2 0)
def rnd (v : List UInt32) (k w : UInt32) : List UInt32 := [one v k w + two v, v.getD 0 0, v.getD 1 0, v.getD 2 0, v.getD 3 0 + one v k w, v.getD 4 0, v.getD 5 0, v.getD 6 0]
def rnds (h : List UInt32) (b : List Nat) : Nat → List UInt32
 | 0 => h
 | i + 1 => rnd (rnds h b i) (kk.getD i 0) (wrd b i)
def turnS (h : List UInt32) (b : List Nat) : List UInt32 := (List.range 8).map fun i => (rnds h b 64).getD i 0 + h.getD i 0
def be8 (n : Nat) : List Nat := (List.range 8).map fun i => n / 2 ^ (56 - 8 * i) % 256
theorem isB_be8 (n : Nat) : IsB (be8 n) := fun i => by
 unfold be8
 rcases Nat.lt_or_ge i 8 with h | h
 ·simp [List.getD, List.getElem?_map, List.getElem?_range h]; omega
 ·rw [getD_out _ _ _ (by simp; exact h)]; omega
def zeros (n : Nat) : Nat := (119 - n % 64) % 64
def padl (b : List Nat) : List Nat := b ++ [128] ++ List.replicate (zeros b.length) 0 ++ be8 (8 * b.length)
def blk (l : List Nat) (i : Nat) : List Nat := (l.drop (64 * i)).take 64
def compN (h : List UInt32) (l : List Nat) : Nat → List UInt32
 | 0 => h
 | i + 1 => turnS (compN h l i) (blk l i)
def sumW (b : List Nat) : List UInt32 := compN h0 (padl b) ((padl b).length / 64)
def dig (h : List UInt32) : List Nat := (List.range 32).map fun i => (h.getD (i / 4) 0).toNat / 2 ^ (24 - 8 * (i % 4)) % 256
theorem isB_append {x y : List Nat} (hx : IsB x) (hy : IsB y) : IsB (x ++ y) := fun i => by
 unfold List.getD
 rw [List.getElem?_append]
 split
 ·exact hx i
 ·exact hy _
theorem isB_one {x : Nat} (hx : x < 256) : IsB [x] := fun i => by
 rcases i with _ | i
 ·simpa [List.getD] using hx
 ·simp [List.getD]
def be3 (n : Nat) : List Nat := [n / 65536 % 256, n / 256 % 256, n % 256]
theorem isB_be3 (n : Nat) : IsB (be3 n) := fun i => by
 rcases i with _ | _ | _ | i <;> simp [be3, List.getD] <;> omega
def num8 (x : Int) : List Nat := be8 (x + 9223372036854775808).toNat
theorem num8_len (x : Int) : (num8 x).length = 8 := by simp [num8, be8]
def rowB (r : List Int) : List Nat := [r.length] ++ (r.map num8).flatten
theorem rows_len (r : List Int) : ((r.map num8).flatten).length = 8 * r.length := by
 induction r with
 | nil => rfl
 | cons x r ih => simp only [List.map_cons, List.flatten_cons, List.length_append, num8_len, ih, List.length_cons]; omega
def prePart (tag : Nat) (ts : List (List Nat)) : Nat → List Nat
 | 0 => [tag]
 | i + 1 => prePart tag ts i ++ be8 (ts.getD i []).length ++ ts.getD i []
def preN (tag : Nat) (ts : List (List Nat)) : List Nat := prePart tag ts ts.length
theorem isB_drop {l : List Nat} (h : IsB l) (k : Nat) : IsB (l.drop k) := fun i => by
 have := h (k + i); unfold List.getD at this ⊢; rwa [List.getElem?_drop]
theorem isB_take {l : List Nat} (h : IsB l) (k : Nat) : IsB (l.take k) := fun i => by
 have := h i; unfold List.getD at this ⊢; rw [List.getElem?_take]; split
 ·exact this
 ·decide
def rTake (k : Nat) (l : List Nat) (e : Int) : Option (List Nat) × List Nat × Int :=
 if e ≠ 0 then (none, l, e) else if l.length < k then (none, l, 20) else (some (l.take k), l.drop k, 0)
def rByte (l : List Nat) (e : Int) : Nat := match (rTake 1 l e).1 with | none => 0 | some t => t.getD 0 0
def rEnd (l : List Nat) (e : Int) : Int := if 0 < l.length ∧ e = 0 then 22 else e
def rCount (most : Nat) (l : List Nat) (e : Int) : Nat × List Nat × Int :=
 match rTake 3 l e with
 | (none, l', e') => (0, l', e')
 | (some t, l', e') => if most < t.getD 0 0 * 65536 + t.getD 1 0 * 256 + t.getD 2 0 ∨ 1048576 < t.getD 0 0 * 65536 + t.getD 1 0 * 256 + t.getD 2 0 then (0, l', 10) else (t.getD 0 0 * 65536 + t.getD 1 0 * 256 + t.getD 2 0, l', 0)
theorem rTake_some {k : Nat} {l t l' : List Nat} {e e' : Int} (h : rTake k l e = (some t, l', e')) : e' = 0 := by
 unfold rTake at h
 split at h
 ·cases h
 ·split at h
  ·cases h
  ·cases h; rfl
theorem rCount_le (most : Nat) (l : List Nat) (e : Int) : (rCount most l e).1 ≤ 1048576 ∧ (rCount most l e).1 ≤ most := by
 unfold rCount
 split
 ·simp
 ·split
  ·simp
  ·simp only; omega
def beN (t : List Nat) : Nat := t.foldl (fun u x => u * 256 + x) 0
theorem beN_succ (t : List Nat) (k : Nat) (hk : k < t.length) : beN (t.take (k + 1)) = beN (t.take k) * 256 + t.getD k 0 := by
 unfold beN
 rw [List.take_add_one, List.foldl_append, List.getElem?_eq_getElem hk]
 simp [List.getD, List.getElem?_eq_getElem hk]
theorem beN_lt (t : List Nat) (hI : IsB t) : ∀ k, k ≤ t.length → beN (t.take k) < 256 ^ k
 | 0, _ => by simp [beN]
 | k + 1, h => by
  rw [beN_succ t k (by omega), Nat.pow_succ]
  have := beN_lt t hI k (by omega)
  have := hI k
  omega
def rNum (l : List Nat) (e : Int) : Int := match (rTake 8 l e).1 with | none => 0 | some t => (beN t : Int) - 9223372036854775808
def rDig (l : List Nat) (e : Int) : List Nat := (rTake 32 l e).1.getD (List.replicate 32 0)
def rNums : Nat → List Nat → Int → List Int × List Nat × Int
 | 0, l, e => ([], l, e)
 | k + 1, l, e =>
  let s := rNums k l e
  (if (rTake 8 s.2.1 s.2.2).2.2 = 0 then s.1 ++ [rNum s.2.1 s.2.2] else s.1, (rTake 8 s.2.1 s.2.2).2)
def rRowE (most : Nat) (l : List Nat) (e : Int) : Int := if most < rByte l e ∧ (rTake 1 l e).2.2 = 0 then 10 else (rTake 1 l e).2.2
def rRow (most : Nat) (l : List Nat) (e : Int) : List Int × List Nat × Int :=
 let s := rNums (rByte l e) (rTake 1 l e).2.1 (rRowE most l e)
 (if s.2.2 = 0 then s.1 else [], s.2)
theorem rNums_len (k : Nat) (l : List Nat) (e : Int) : (rNums k l e).1.length ≤ k := by
 induction k with
 | zero => simp [rNums]
 | succ k ih =>
  simp only [rNums]
  split
  ·simp; omega
  ·omega
theorem rByte_lt (l : List Nat) (e : Int) (hl : IsB l) : rByte l e < 256 := by
 unfold rByte rTake
 split
 ·decide
 ·rename_i t ht
  split at ht
  ·cases ht
  ·split at ht
   ·cases ht
   ·cases ht; exact isB_take hl 1 0
def nb (s : ByteArray) : List Nat := s.data.toList.map UInt8.toNat
theorem take_app (t l : List Nat) (k : Nat) (h : t.length = k) : rTake k (t ++ l) 0 = (some t, l, 0) := by
 subst h; simp [rTake]
theorem take_stuck (k : Nat) (l : List Nat) (e : Int) (h : e ≠ 0) : rTake k l e = (none, l, e) := by simp [rTake, h]
theorem take_inv {k : Nat} {l l' : List Nat} {e : Int} {o : Option (List Nat)} (h : rTake k l e = (o, l', 0)) : e = 0 ∧ ∃ t, o = some t ∧ l = t ++ l' ∧ t.length = k := by
 unfold rTake at h
 split at h
 ·simp only [Prod.mk.injEq] at h; rename_i he; exact absurd h.2.2 he
 ·rename_i he
  have he : e = 0 := Classical.not_not.1 he
  split at h
  ·simp at h
  ·simp only [Prod.mk.injEq] at h
   exact ⟨he, l.take k, h.1.symm, by rw [← h.2.1]; exact (List.take_append_drop k l).symm, by simp; omega⟩
theorem byte_app (x : Nat) (l : List Nat) : rByte (x :: l) 0 = x ∧ (rTake 1 (x :: l) 0).2 = (l, 0) := by
 have := take_app [x] l 1 rfl
 simp only [List.singleton_append] at this
 simp [rByte, this]
theorem byte_inv {l l' : List Nat} {e : Int} (h : (rTake 1 l e).2 = (l', 0)) : e = 0 ∧ l = rByte l e :: l' := by
 rcases hq : rTake 1 l e with ⟨o, x⟩
 rw [hq] at h; dsimp only at h; subst h
 obtain ⟨he, t, rfl, h2, h3⟩ := take_inv hq
 refine ⟨he, ?_⟩
 match t, h3 with
 | [y], _ =>
  have h4 : rByte l e = y := by unfold rByte; rw [hq]; rfl
  rw [h4]; exact h2
theorem isB_app {l m : List Nat} (h : IsB (l ++ m)) : IsB l ∧ IsB m := by
 refine ⟨fun i => ?_, fun i => ?_⟩
 ·rcases Nat.lt_or_ge i l.length with hi | hi
  ·have := h i; unfold List.getD at this ⊢; rwa [List.getElem?_append_left hi] at this
  ·rw [getD_out _ _ _ hi]; decide
 ·have := h (l.length + i); unfold List.getD at this ⊢; rwa [List.getElem?_append_right (by omega), Nat.add_sub_cancel_left] at this
theorem be3_of (a b c : Nat) (ha : a < 256) (hb : b < 256) (hc : c < 256) : be3 (a * 65536 + b * 256 + c) = [a, b, c] := by
 unfold be3
 rw [show (a * 65536 + b * 256 + c) / 65536 % 256 = a by omega, show (a * 65536 + b * 256 + c) / 256 % 256 = b by omega, show (a * 65536 + b * 256 + c) % 256 = c by omega]
theorem be3_val (n : Nat) (h : n ≤ 1048576) : n / 65536 % 256 * 65536 + n / 256 % 256 * 256 + n % 256 = n := by omega
theorem count_val (most : Nat) (t l : List Nat) (x : List Nat × Int) (h : rTake 3 l 0 = (some t, x.1, x.2)) (n : Nat) (hv : t.getD 0 0 * 65536 + t.getD 1 0 * 256 + t.getD 2 0 = n) (h1 : n ≤ most) (h2 : n ≤ 1048576) : rCount most l 0 = (n, x.1, 0) := by
 unfold rCount
 rw [h]
 dsimp only
 split
 ·exfalso; omega
 ·exact congrArg (fun m => (m, x.1, (0 : Int))) hv
theorem count_app (most n : Nat) (l : List Nat) (h : n ≤ most) (h2 : n ≤ 1048576) : rCount most (be3 n ++ l) 0 = (n, l, 0) :=
 count_val most (be3 n) (be3 n ++ l) (l, 0) (take_app (be3 n) l 3 rfl) n (be3_val n h2) h h2
theorem len3 (t : List Nat) (h : t.length = 3) : ∃ a b c, t = [a, b, c] := by
 match t, h with
 | [a, b, c], _ => exact ⟨a, b, c, rfl⟩
theorem count_inv {most n : Nat} {l l' : List Nat} {e : Int} (hl : IsB l) (h : rCount most l e = (n, l', 0)) : e = 0 ∧ l = be3 n ++ l' ∧ n ≤ most := by
 unfold rCount at h
 rcases hq : rTake 3 l e with ⟨_ | t, m, x⟩ <;> rw [hq] at h <;> simp only at h
 ·simp only [Prod.mk.injEq] at h
  obtain ⟨_, rfl, rfl⟩ := h
  obtain ⟨_, t, ht, _⟩ := take_inv hq
  cases ht
 ·split at h
  ·simp at h
  ·rename_i hm
   simp only [Prod.mk.injEq] at h
   obtain ⟨rfl, rfl, _⟩ := h
   have hx : x = 0 := rTake_some hq
   subst hx
   obtain ⟨he, t', ht, h2, h3⟩ := take_inv hq
   cases ht
   have hb := (isB_app (h2 ▸ hl)).1
   have hm1 : t.getD 0 0 * 65536 + t.getD 1 0 * 256 + t.getD 2 0 ≤ most := Nat.le_of_not_lt fun hc => hm (.inl hc)
   clear hm
   obtain ⟨a, b, c, rfl⟩ := len3 t h3
   have h0 : a < 256 := hb 0
   have h1 : b < 256 := hb 1
   have h4 : c < 256 := hb 2
   exact ⟨he, by show l = be3 (a * 65536 + b * 256 + c) ++ _; rw [be3_of a b c h0 h1 h4]; exact h2, hm1⟩
theorem beN_be8 (n : Nat) (h : n < 18446744073709551616) : beN (be8 n) = n := by
 unfold beN be8
 simp only [List.range_succ, List.range_zero, List.nil_append, List.map_append, List.map_cons, List.map_nil, List.cons_append, List.foldl_cons, List.foldl_nil]
 simp only [Nat.reducePow, Nat.reduceMul, Nat.reduceSub]
 omega
theorem be8_beN (t : List Nat) (hb : IsB t) (h : t.length = 8) : be8 (beN t) = t := by
 match t, h, hb with
 | [a, b, c, d, e, f, g, i], _, hb =>
  have h0 := hb 0; have h1 := hb 1; have h2 := hb 2; have h3 := hb 3; have h4 := hb 4; have h5 := hb 5; have h6 := hb 6; have h7 := hb 7
  simp only [List.getD_cons_zero, List.getD_cons_succ] at h0 h1 h2 h3 h4 h5 h6 h7
  unfold be8 beN
  simp only [List.range_succ, List.range_zero, List.nil_append, List.map_append, List.map_cons, List.map_nil, List.cons_append, List.foldl_cons, List.foldl_nil, Nat.reducePow, Nat.reduceMul, Nat.reduceSub]
  simp only [List.cons.injEq]
  refine ⟨?_, ?_, ?_, ?_, ?_, ?_, ?_, ?_, trivial⟩ <;> omega
theorem num_app (x : Int) (l : List Nat) (h1 : -9223372036854775808 ≤ x) (h2 : x ≤ 9223372036854775807) : rNum (num8 x ++ l) 0 = x ∧ rTake 8 (num8 x ++ l) 0 = (some (num8 x), l, 0) := by
 have := take_app (num8 x) l 8 (num8_len x)
 refine ⟨?_, this⟩
 unfold rNum
 rw [this]
 show (beN (num8 x) : Int) - 9223372036854775808 = x
 unfold num8
 rw [beN_be8 _ (by omega)]
 omega
theorem num_inv {l l' : List Nat} {e : Int} (hl : IsB l) (h : (rTake 8 l e).2 = (l', 0)) : e = 0 ∧ l = num8 (rNum l e) ++ l' ∧ -9223372036854775808 ≤ rNum l e ∧ rNum l e ≤ 9223372036854775807 := by
 rcases hq : rTake 8 l e with ⟨o, x⟩
 rw [hq] at h; dsimp only at h; subst h
 obtain ⟨he, t, rfl, h2, h3⟩ := take_inv hq
 have hb := (isB_app (h2 ▸ hl)).1
 have hlt := beN_lt t hb 8 (by omega)
 rw [List.take_of_length_le (by omega)] at hlt
 have e1 : rNum l e = (beN t : Int) - 9223372036854775808 := by simp [rNum, hq]
 refine ⟨he, ?_, ?_, ?_⟩
 ·rw [e1]; unfold num8
  rw [show ((beN t : Int) - 9223372036854775808 + 9223372036854775808).toNat = beN t by omega, be8_beN t hb h3]; exact h2
 ·rw [e1]; omega
 ·rw [e1]; have : (256 : Nat) ^ 8 = 18446744073709551616 := by decide
  omega
theorem nums_app (r : List Int) (hI : IsI r) : ∀ (k : Nat) (l : List Nat), k ≤ r.length → rNums k (((r.take k).map num8).flatten ++ l) 0 = (r.take k, l, 0)
 | 0, l, _ => by simp [rNums]
 | k + 1, l, hk => by
  have hx := hI k
  have ih := nums_app r hI k (num8 (r.getD k 0) ++ l) (by omega)
  have hn := num_app (r.getD k 0) l hx.1 hx.2
  have e1 : ((r.take (k + 1)).map num8).flatten ++ l = ((r.take k).map num8).flatten ++ (num8 (r.getD k 0) ++ l) := by
   rw [List.take_add_one, List.map_append, List.flatten_append, List.getElem?_eq_getElem (by omega)]
   simp [List.getD, List.getElem?_eq_getElem (show k < r.length by omega)]
  rw [e1]
  simp only [rNums, ih, hn.1, hn.2, if_true]
  rw [List.take_add_one, List.getElem?_eq_getElem (by omega)]
  simp [List.getD, List.getElem?_eq_getElem (show k < r.length by omega)]
theorem nums_inv : ∀ (k : Nat) {r : List Int} {l l' : List Nat} {e : Int}, IsB l → rNums k l e = (r, l', 0) → e = 0 ∧ r.length = k ∧ l = (r.map num8).flatten ++ l' ∧ IsI r
 | 0, r, l, l', e, hl, h => by
  simp only [rNums, Prod.mk.injEq] at h
  obtain ⟨rfl, rfl, rfl⟩ := h
  exact ⟨rfl, rfl, rfl, fun i => by simp⟩
 | k + 1, r, l, l', e, hl, h => by
  simp only [rNums] at h
  rcases hq : rNums k l e with ⟨r1, l1, e1⟩
  rw [hq] at h; dsimp only at h
  obtain ⟨h1, h2⟩ := Prod.mk.inj h
  have h3 : (rTake 8 l1 e1).2.2 = 0 := by rw [h2]
  rw [if_pos h3] at h1
  have he1 : e1 = 0 := by
   by_cases he : e1 = 0
   ·exact he
   ·rw [take_stuck _ _ _ he] at h3; exact h3
  subst he1
  obtain ⟨he, hlen, hl1, hI⟩ := nums_inv k hl hq
  have hb : IsB l1 := (isB_app (hl1 ▸ hl)).2
  obtain ⟨_, hn1, hn2, hn3⟩ := num_inv hb h2
  subst h1
  refine ⟨he, by simp [hlen], ?_, fun i => ?_⟩
  ·rw [List.map_append, List.flatten_append, hl1]
   simp only [List.map_cons, List.map_nil, List.flatten_cons, List.flatten_nil, List.append_nil, List.append_assoc]
   rw [← hn1]
  ·rcases Nat.lt_or_ge i r1.length with hi | hi
   ·have := hI i; unfold List.getD at this ⊢; rwa [List.getElem?_append_left hi]
   ·unfold List.getD
    rw [List.getElem?_append_right hi]
    rcases hj : i - r1.length with _ | j
    ·simpa using ⟨hn2, hn3⟩
    ·simp
theorem row_app (most : Nat) (r : List Int) (l : List Nat) (hI : IsI r) (h : r.length ≤ most) : rRow most (rowB r ++ l) 0 = (r, l, 0) := by
 have hb := byte_app r.length ((r.map num8).flatten ++ l)
 have hE : rRowE most (r.length :: ((r.map num8).flatten ++ l)) 0 = 0 := by
  unfold rRowE; rw [hb.1, hb.2]; exact if_neg (by omega)
 show rRow most (r.length :: ((r.map num8).flatten ++ l)) 0 = _
 unfold rRow
 have := nums_app r hI r.length l (Nat.le_refl _)
 rw [List.take_length] at this
 rw [hE, hb.1, hb.2, this]; simp
theorem row_inv {most : Nat} {r : List Int} {l l' : List Nat} {e : Int} (hl : IsB l) (h : rRow most l e = (r, l', 0)) : e = 0 ∧ l = rowB r ++ l' ∧ r.length ≤ most ∧ IsI r := by
 unfold rRow at h
 rcases hq : rNums (rByte l e) (rTake 1 l e).2.1 (rRowE most l e) with ⟨r1, l1, e1⟩
 rw [hq] at h; dsimp only at h
 obtain ⟨h1, h2⟩ := Prod.mk.inj h
 obtain ⟨rfl, rfl⟩ := Prod.mk.inj h2
 simp only [if_true] at h1
 subst h1
 rcases ht : rTake 1 l e with ⟨o, l2, e2⟩
 have hE : rRowE most l e = if most < rByte l e ∧ e2 = 0 then 10 else e2 := by unfold rRowE; rw [ht]
 have hl2 : IsB l2 := by
  have : l2 = l ∨ ∃ k, l2 = l.drop k := by
   unfold rTake at ht
   split at ht
   ·simp only [Prod.mk.injEq] at ht; exact .inl ht.2.1.symm
   ·split at ht <;> simp only [Prod.mk.injEq] at ht
    ·exact .inl ht.2.1.symm
    ·exact .inr ⟨1, ht.2.1.symm⟩
  rcases this with rfl | ⟨k, rfl⟩
  ·exact hl
  ·exact isB_drop hl k
 rw [ht] at hq; dsimp only at hq
 obtain ⟨h3, h4, h5, h6⟩ := nums_inv _ hl2 hq
 rw [hE] at h3
 split at h3
 ·cases h3
 ·rename_i hm
  subst h3
  obtain ⟨he, h7⟩ := byte_inv (l := l) (l' := l2) (e := e) (by rw [ht])
  refine ⟨he, ?_, by omega, h6⟩
  unfold rowB
  rw [h7, h5, h4]; rfl
theorem dig_app (t l : List Nat) (h : t.length = 32) : rDig (t ++ l) 0 = t ∧ (rTake 32 (t ++ l) 0).2 = (l, 0) := by
 simp [rDig, take_app t l 32 h]
theorem dig_inv {l l' : List Nat} {e : Int} (h : (rTake 32 l e).2 = (l', 0)) : e = 0 ∧ l = rDig l e ++ l' ∧ (rDig l e).length = 32 := by
 rcases hq : rTake 32 l e with ⟨o, x⟩
 rw [hq] at h; dsimp only at h; subst h
 obtain ⟨he, t, rfl, h2, h3⟩ := take_inv hq
 have h4 : rDig l e = t := by unfold rDig; rw [hq]; rfl
 rw [h4]; exact ⟨he, h2, h3⟩
def Suf (l' l : List Nat) : Prop := ∃ k, l' = l.drop k
theorem Suf.refl (l : List Nat) : Suf l l := ⟨0, rfl⟩
theorem Suf.trans {a b c : List Nat} (h : Suf a b) (g : Suf b c) : Suf a c := by
 obtain ⟨k, rfl⟩ := h; obtain ⟨j, rfl⟩ := g; exact ⟨j + k, by rw [List.drop_drop]⟩
theorem Suf.isB {a b : List Nat} (h : Suf a b) (hb : IsB b) : IsB a := by obtain ⟨k, rfl⟩ := h; exact isB_drop hb k
theorem take_suf (k : Nat) (l : List Nat) (e : Int) : Suf (rTake k l e).2.1 l := by
 unfold rTake
 split
 ·exact Suf.refl l
 ·split
  ·exact Suf.refl l
  ·exact ⟨k, rfl⟩
theorem count_suf (most : Nat) (l : List Nat) (e : Int) : Suf (rCount most l e).2.1 l := by
 have := take_suf 3 l e
 unfold rCount
 rcases hq : rTake 3 l e with ⟨_ | t, l', e'⟩ <;> rw [hq] at this
 ·exact this
 ·dsimp only; split <;> exact this
theorem nums_suf (k : Nat) (l : List Nat) (e : Int) : Suf (rNums k l e).2.1 l := by
 induction k with
 | zero => exact Suf.refl l
 | succ k ih => exact (take_suf 8 _ _).trans ih
theorem row_suf (most : Nat) (l : List Nat) (e : Int) : Suf (rRow most l e).2.1 l := (nums_suf _ _ _).trans (take_suf 1 l e)
theorem isB_flat : ∀ (L : List (List Nat)), (∀ x ∈ L, IsB x) → IsB L.flatten
 | [], _ => fun i => by simp
 | x :: L, h => by
  rw [List.flatten_cons]
  exact isB_append (h x (by simp)) (isB_flat L fun y hy => h y (by simp [hy]))
theorem isB_rowB (r : List Int) (h : r.length < 256) : IsB (rowB r) := by
 refine isB_append (isB_one h) (isB_flat _ fun x hx => ?_)
 obtain ⟨n, _, rfl⟩ := List.mem_map.1 hx
 exact isB_be8 _
structure HeadD where
 prev : List Nat
 num : Int
 ops : List Nat
 tabs : List Nat
structure HeadOk (h : HeadD) : Prop where
 p : h.prev.length = 32
 o : h.ops.length = 32
 t : h.tabs.length = 32
 pB : IsB h.prev
 oB : IsB h.ops
 tB : IsB h.tabs
 n1 : -9223372036854775808 ≤ h.num
 n2 : h.num ≤ 9223372036854775807
def headB (h : HeadD) : List Nat := h.prev ++ num8 h.num ++ h.ops ++ h.tabs
theorem HeadOk.len {h : HeadD} (k : HeadOk h) : (headB h).length = 104 := by simp [headB, k.p, k.o, k.t, num8_len]
theorem HeadOk.isB {h : HeadD} (k : HeadOk h) : IsB (headB h) := isB_append (isB_append (isB_append k.pB (isB_be8 _)) k.oB) k.tB
theorem rEnd_zero {l : List Nat} {e : Int} (h : rEnd l e = 0) : l = [] ∧ e = 0 := by
 unfold rEnd at h
 split at h
 ·exact absurd h (by decide)
 ·rename_i h2
  refine ⟨?_, h⟩
  rcases l with _ | ⟨x, l⟩
  ·rfl
  ·exact absurd ⟨by simp, h⟩ h2
theorem rDig_len (l : List Nat) (e : Int) : (rDig l e).length = 32 := by
 unfold rDig
 rcases hq : rTake 32 l e with ⟨_ | t, m⟩
 ·rfl
 ·unfold rTake at hq
  split at hq
  ·cases hq
  ·split at hq
   ·cases hq
   ·injection hq with hq _; injection hq with hq; subst hq; simp; omega
structure KidOk (k : KidD) : Prop where
 s : k.sum.length = 32
 sB : IsB k.sum
 lI : IsI k.lo
 hI : IsI k.hi
 kI : IsI k.key
 l1 : -9223372036854775808 ≤ k.live ∧ k.live ≤ 9223372036854775807
 z1 : -9223372036854775808 ≤ k.size ∧ k.size ≤ 9223372036854775807
 lo : k.lo.length ≤ 1000000
 hi : k.hi.length ≤ 1000000
 key : k.key.length ≤ 1000000
def kidZ : KidD := ⟨List.replicate 32 0, [], [], 0, 0, []⟩
def kidR (k : KidD) (d : Int) : Bool := decide (k = kidZ) || (decide (1 ≤ k.size) && (decide (k.size ≤ 1048576) && (decide (0 ≤ k.live) && (decide (k.live ≤ k.size) && (if k.live = 0 then decide (k.lo.length = 0) && decide (k.hi.length = 0) else rightB k.lo k.hi d)))))
structure NodeOk (n : NodeD) : Prop where
 kind : n.kind < 256
 row : ∀ i, i < n.rows.length → IsI (n.rows.getD i default).row ∧ (n.rows.getD i default).row.length ≤ 1000000
 kid : ∀ i, i < n.kids.length → KidOk (n.kids.getD i default)
 rows : n.rows.length ≤ 1000000
 kids : n.kids.length ≤ 1000000
def kindR (n : NodeD) (d : Int) : Bool :=
 if n.kind = 1 then decide (n.rows.length = 1) && (decide (n.kids.length = 2) && n.kids.all (fun k => decide (k.key.length = 0)))
 else if n.kind = 2 then decide (1 ≤ n.rows.length) && (decide (n.rows.length ≤ 4) && (decide (n.kids.length = 0) && n.rows.all (fun e => e.live)))
 else decide (n.kind = 3) && (decide (n.rows.length = 0) && (decide (2 ≤ n.kids.length) && (decide (n.kids.length ≤ 4) && n.kids.all (fun k => decide ((k.key.length : Int) = d) && !decide (k = kidZ)))))
def nodeR (n : NodeD) (d : Int) : Bool :=
 decide (1 ≤ d) && (decide (d ≤ 8) && (n.rows.all (fun e => decide ((e.row.length : Int) = d)) && (n.kids.all (fun k => kidR k d) && kindR n d)))
def entB (e : EntD) : List Nat := [if e.live then 1 else 0] ++ rowB e.row
def kidB (k : KidD) : List Nat := k.sum ++ be3 k.live.toNat ++ be3 k.size.toNat ++ rowB k.lo ++ rowB k.hi ++ rowB k.key
def nodeB (n : NodeD) : List Nat := [n.kind] ++ [n.rows.length] ++ (n.rows.map entB).flatten ++ [n.kids.length] ++ (n.kids.map kidB).flatten
theorem kidR_facts {k : KidD} {d : Int} (h : kidR k d = true) : (0 ≤ k.live ∧ k.live ≤ 1048576) ∧ (0 ≤ k.size ∧ k.size ≤ 1048576) ∧ k.lo.length ≤ 8 ∧ k.hi.length ≤ 8 := by
 unfold kidR at h
 simp only [Bool.or_eq_true, Bool.and_eq_true, decide_eq_true_eq] at h
 rcases h with rfl | ⟨h1, h2, h3, h4, h5⟩
 ·simp [kidZ]
 ·refine ⟨by omega, by omega, ?_⟩
  split at h5
  ·simp only [Bool.and_eq_true, decide_eq_true_eq] at h5
   omega
  ·have := rightB_len h5
   omega
structure NodeF (n : NodeD) (d : Int) : Prop where
 d : 1 ≤ d ∧ d ≤ 8
 kind : n.kind ≤ 3
 rows : n.rows.length ≤ 4
 kids : n.kids.length ≤ 4
 row : ∀ i, i < n.rows.length → (n.rows.getD i default).row.length ≤ 8
 kid : ∀ i, i < n.kids.length → ((0 ≤ (n.kids.getD i default).live ∧ (n.kids.getD i default).live ≤ 1048576) ∧ (0 ≤ (n.kids.getD i default).size ∧ (n.kids.getD i default).size ≤ 1048576) ∧ (n.kids.getD i default).lo.length ≤ 8 ∧ (n.kids.getD i default).hi.length ≤ 8) ∧ (n.kids.getD i default).key.length ≤ 8
theorem getD_mem' {α : Type} [Inhabited α] {l : List α} {i : Nat} (hi : i < l.length) : l.getD i default ∈ l := by
 simp only [List.getD, List.getElem?_eq_getElem hi, Option.getD_some]
 exact List.getElem_mem hi
theorem nodeR_facts {n : NodeD} {d : Int} (h : nodeR n d = true) : NodeF n d := by
 unfold nodeR at h
 simp only [Bool.and_eq_true, decide_eq_true_eq, List.all_eq_true] at h
 obtain ⟨h1, h2, h3, h4, h5⟩ := h
 have hrow : ∀ i, i < n.rows.length → (n.rows.getD i default).row.length ≤ 8 := fun i hi => by
  have := h3 _ (getD_mem' hi); omega
 have hk := fun i (hi : i < n.kids.length) => kidR_facts (h4 _ (getD_mem' hi))
 unfold kindR at h5
 split at h5
 ·rename_i e
  simp only [Bool.and_eq_true, decide_eq_true_eq, List.all_eq_true] at h5
  obtain ⟨a, b, c⟩ := h5
  exact ⟨⟨h1, h2⟩, by omega, by omega, by omega, hrow, fun i hi => ⟨hk i hi, by have := c _ (getD_mem' hi); omega⟩⟩
 ·split at h5
  ·rename_i e
   simp only [Bool.and_eq_true, decide_eq_true_eq] at h5
   obtain ⟨a, b, c, _⟩ := h5
   exact ⟨⟨h1, h2⟩, by omega, by omega, by omega, hrow, fun i hi => absurd hi (by omega)⟩
  ·simp only [Bool.and_eq_true, decide_eq_true_eq, List.all_eq_true] at h5
   obtain ⟨e, a, b, c, f⟩ := h5
   exact ⟨⟨h1, h2⟩, by omega, by omega, by omega, hrow, fun i hi => ⟨hk i hi, by have := (f _ (getD_mem' hi)).1; omega⟩⟩
theorem rowB_len (r : List Int) : (rowB r).length = 1 + 8 * r.length := by
 unfold rowB; rw [List.length_append, rows_len]; rfl
theorem flat_take_succ {α : Type} [Inhabited α] (f : α → List Nat) (l : List α) (i : Nat) (hi : i < l.length) : ((l.take (i + 1)).map f).flatten = ((l.take i).map f).flatten ++ f (l.getD i default) := by
 rw [List.take_add_one, List.map_append, List.flatten_append, List.getElem?_eq_getElem hi]
 simp [List.getD, List.getElem?_eq_getElem hi]
theorem flat_len_le {α : Type} [Inhabited α] (f : α → List Nat) (l : List α) (M : Nat) (h : ∀ i, i < l.length → (f (l.getD i default)).length ≤ M) : ∀ k, k ≤ l.length → (((l.take k).map f).flatten).length ≤ k * M
 | 0, _ => by simp
 | k + 1, hk => by
  rw [flat_take_succ f l k (by omega), List.length_append, Nat.succ_mul]
  have := h k (by omega)
  have := flat_len_le f l M h k (by omega)
  omega
theorem entB_len (e : EntD) (h : e.row.length ≤ 8) : (entB e).length ≤ 66 := by
 unfold entB; rw [List.length_append, rowB_len]; simp only [List.length_cons, List.length_nil]; omega
theorem kidB_len (k : KidD) (h0 : k.sum.length = 32) (h1 : k.lo.length ≤ 8) (h2 : k.hi.length ≤ 8) (h3 : k.key.length ≤ 8) : (kidB k).length ≤ 233 := by
 unfold kidB
 have : ∀ x, (be3 x).length = 3 := fun _ => rfl
 simp only [List.length_append, rowB_len, this, h0]
 omega
def rRowI (m : Int) (l : List Nat) (e : Int) : List Int × List Nat × Int :=
 let s := rNums (rByte l e) (rTake 1 l e).2.1 (if m < (rByte l e : Int) ∧ (rTake 1 l e).2.2 = 0 then 10 else (rTake 1 l e).2.2)
 (if s.2.2 = 0 then s.1 else [], s.2)
theorem rRowI_nat (k : Nat) (l : List Nat) (e : Int) : rRowI (k : Int) l e = rRow k l e := by
 unfold rRowI rRow rRowE
 simp only [Int.ofNat_lt]
def rTruthE (l : List Nat) (e : Int) : Int := if 1 < rByte l e ∧ (rTake 1 l e).2.2 = 0 then 21 else (rTake 1 l e).2.2
def rTruth (l : List Nat) (e : Int) : Bool × List Nat × Int := (decide (rByte l e = 1), (rTake 1 l e).2.1, rTruthE l e)
def rKid (d : Int) (l : List Nat) (e : Int) : KidD × List Nat × Int :=
 let s := (rTake 32 l e).2
 let c1 := rCount 1048576 s.1 s.2
 let c2 := rCount 1048576 c1.2.1 c1.2.2
 let r1 := rRowI d c2.2.1 c2.2.2
 let r2 := rRowI d r1.2.1 r1.2.2
 let r3 := rRowI d r2.2.1 r2.2.2
 (⟨rDig l e, r1.1, r2.1, (c1.1 : Int), (c2.1 : Int), r3.1⟩, r3.2)
def sum9 (t : List Nat) : List Nat := dig (sumW (preN 80 [t]))
theorem sum9_len (t : List Nat) : (sum9 t).length = 32 := by simp [sum9, dig]
theorem isB_dig (h : List UInt32) : IsB (dig h) := by
 intro i
 unfold dig
 by_cases hi : i < 32
 ·simp [List.getD, List.getElem?_map, List.getElem?_range hi]
  omega
 ·simp [List.getD, hi]
structure SayS where
 live : Int
 size : Int
 lo : List Int
 hi : List Int
deriving Inhabited
def sayE (s : SayS) (e : EntD) : SayS := if e.live then ⟨s.live + 1, s.size, (hullB (s.lo, s.hi) (e.row, e.row)).1, (hullB (s.lo, s.hi) (e.row, e.row)).2⟩ else s
def sayK (s : SayS) (k : KidD) : SayS := ⟨s.live + k.live, s.size + k.size, (hullB (s.lo, s.hi) (k.lo, k.hi)).1, (hullB (s.lo, s.hi) (k.lo, k.hi)).2⟩
def sayR (n : NodeD) (i : Nat) : SayS := (n.rows.take i).foldl sayE ⟨0, n.rows.length, [], []⟩
def sayA (n : NodeD) (j : Nat) : SayS := (n.kids.take j).foldl sayK (sayR n n.rows.length)
theorem fold_take_succ {α β : Type} [Inhabited α] (f : β → α → β) (s : β) (l : List α) (i : Nat) (hi : i < l.length) : (l.take (i + 1)).foldl f s = f ((l.take i).foldl f s) (l.getD i default) := by
 rw [List.take_add_one, List.foldl_append, List.getElem?_eq_getElem hi]
 simp [List.getD, List.getElem?_eq_getElem hi]
theorem sayR_one (n : NodeD) (i : Nat) (hi : i < n.rows.length) : sayR n (i + 1) = sayE (sayR n i) (n.rows.getD i default) := fold_take_succ _ _ _ i hi
theorem sayA_one (n : NodeD) (j : Nat) (hj : j < n.kids.length) : sayA n (j + 1) = sayK (sayA n j) (n.kids.getD j default) := fold_take_succ _ _ _ j hj
def keyN (n : NodeD) : List Int := if n.kind = 2 then (n.rows.getD 0 default).row else if n.kind = 3 then (n.kids.getD 0 default).key else []
def sayN (n : NodeD) : KidD := ⟨sum9 (nodeB n), (sayA n n.kids.length).lo, (sayA n n.kids.length).hi, (sayA n n.kids.length).live, (sayA n n.kids.length).size, keyN n⟩
structure SayI (d : Nat) (M : Int) (s : SayS) : Prop where
 l : 0 ≤ s.live ∧ s.live ≤ M
 z : 0 ≤ s.size ∧ s.size ≤ M
 b : boxOk (s.lo, s.hi) d
 e : s.live = 0 ↔ s.lo = []
 lI : IsI s.lo
 hI : IsI s.hi
theorem row_right {r : List Int} {d : Nat} (h1 : 1 ≤ d) (h8 : d ≤ 8) (hl : r.length = d) : rightB r r d = true := by
 unfold rightB leAll
 simp only [Bool.and_eq_true, decide_eq_true_eq, List.all_eq_true, List.mem_range]
 exact ⟨⟨⟨⟨by omega, by omega⟩, by omega⟩, by omega⟩, fun i hi' => Int.le_refl _⟩
theorem hull_nil {a b : BoxD} {d : Nat} (ha : boxOk a d) (hb : boxOk b d) : (hullB a b).1 = [] ↔ a.1 = [] ∧ b.1 = [] := by
 unfold hullB
 by_cases ea : a.1 = []
 ·simp [ea]
 ·rw [if_neg ea]
  by_cases eb : b.1 = []
  ·simp [ea, eb]
  ·rw [if_neg eb]
   simp only [ea, eb, and_self, iff_false]
   intro h
   have := congrArg List.length h
   rw [hullLo_len] at this
   exact ea (List.eq_nil_of_length_eq_zero this)
theorem SayI.ent {d : Nat} {M : Int} {s : SayS} {e : EntD} (h : SayI d M s) (h1 : 1 ≤ d) (h8 : d ≤ 8) (hl : e.row.length = d) (hI : IsI e.row) : SayI d (M + 1) (sayE s e) := by
 unfold sayE
 have hb : boxOk (e.row, e.row) d := .inl (row_right h1 h8 hl)
 have hn : e.row ≠ [] := fun q => by rw [q] at hl; simp at hl; omega
 split
 ·have hi := hullB_isI (a := (s.lo, s.hi)) (b := (e.row, e.row)) h.lI h.hI hI hI
  have hl := h.l
  have hz := h.z
  refine ⟨by dsimp only; omega, by dsimp only; omega, hullB_ok h.b hb, ?_, hi.1, hi.2⟩
  rw [hull_nil h.b hb]
  dsimp only
  constructor
  ·intro q; omega
  ·rintro ⟨_, q⟩; exact absurd q hn
 ·exact ⟨⟨h.l.1, by have := h.l.2; omega⟩, ⟨h.z.1, by have := h.z.2; omega⟩, h.b, h.e, h.lI, h.hI⟩
theorem kidR_box {k : KidD} {d : Nat} (h : kidR k d = true) : boxOk (k.lo, k.hi) d ∧ (k.live = 0 ↔ k.lo = []) ∧ (0 ≤ k.live ∧ k.live ≤ 1048576) ∧ (0 ≤ k.size ∧ k.size ≤ 1048576) := by
  have hf := kidR_facts h
  refine ⟨?_, ?_, hf.1, hf.2.1⟩ <;>
  · unfold kidR at h
    simp only [Bool.or_eq_true, Bool.and_eq_true, decide_eq_true_eq] at h
    rcases h with rfl | ⟨h1, h2, h3, h4, h5⟩
    · first
        | exact .inr ⟨rfl, rfl⟩
        | simp [kidZ]
    · split at h5
      · rename_i e
        simp only [Bool.and_eq_true, decide_eq_true_eq] at h5
        first
          | exact .inr ⟨List.eq_nil_of_length_eq_zero h5.1, List.eq_nil_of_length_eq_zero h5.2⟩
          | exact ⟨fun _ => List.eq_nil_of_length_eq_zero h5.1, fun _ => e⟩
      · rename_i e
        first
          | exact .inl h5
          | (have hl := rightB_len h5; exact ⟨fun q => absurd q e, fun q => by rw [q] at hl; simp at hl; omega⟩)
theorem SayI.kid {d : Nat} {M : Int} {s : SayS} {k : KidD} (h : SayI d M s) (hk : kidR k d = true) (l : IsI k.lo) (r : IsI k.hi) : SayI d (M + 1048576) (sayK s k) := by
 obtain ⟨hb, he, h1, h2⟩ := kidR_box hk
 have hi := hullB_isI (a := (s.lo, s.hi)) (b := (k.lo, k.hi)) h.lI h.hI l r
 have hl := h.l
 have hz := h.z
 have hse := h.e
 unfold sayK
 refine ⟨by dsimp only; omega, by dsimp only; omega, hullB_ok h.b hb, ?_, hi.1, hi.2⟩
 rw [hull_nil h.b hb]
 dsimp only
 rw [← hse, ← he]
 omega
structure NodeRt (n : NodeD) (d : Nat) : Prop where
 dd : 1 ≤ d ∧ d ≤ 8
 row : ∀ i, i < n.rows.length → (n.rows.getD i default).row.length = d
 kid : ∀ i, i < n.kids.length → kidR (n.kids.getD i default) d = true
 rows : n.rows.length ≤ 4
 kids : n.kids.length ≤ 4
 leaf : n.kind = 2 → 0 < n.rows.length
 inner : n.kind = 3 → 0 < n.kids.length
 kind : n.kind = 1 ∨ n.kind = 2 ∨ n.kind = 3
 key : ∀ i, i < n.kids.length → (n.kids.getD i default).key.length ≤ 8
theorem nodeR_rt {n : NodeD} {d : Int} (h : nodeR n d = true) : ∃ D : Nat, d = (D : Int) ∧ NodeRt n D := by
 have hf := nodeR_facts h
 obtain ⟨D, rfl⟩ := Int.eq_ofNat_of_zero_le (show 0 ≤ d by have := hf.d.1; omega)
 unfold nodeR at h
 simp only [Bool.and_eq_true, decide_eq_true_eq, List.all_eq_true] at h
 obtain ⟨h1, h2, h3, h4, h5⟩ := h
 refine ⟨D, rfl, ⟨by omega, by omega⟩, fun i hi => by have := h3 _ (getD_mem' hi); omega, fun i hi => h4 _ (getD_mem' hi), hf.rows, hf.kids, ?_, ?_, ?_, fun i hi => (hf.kid i hi).2⟩
 ·intro e; unfold kindR at h5; rw [if_neg (by omega), if_pos e] at h5; simp only [Bool.and_eq_true, decide_eq_true_eq] at h5; omega
 ·intro e; unfold kindR at h5; rw [if_neg (by omega), if_neg (by omega)] at h5; simp only [Bool.and_eq_true, decide_eq_true_eq] at h5; omega
 ·unfold kindR at h5
  split at h5
  ·exact .inl ‹_›
  ·split at h5
   ·exact .inr (.inl ‹_›)
   ·simp only [Bool.and_eq_true, decide_eq_true_eq] at h5; exact .inr (.inr h5.1)
theorem sayR_i {n : NodeD} {d : Nat} (h : NodeRt n d) (hn : NodeOk n) : ∀ i, i ≤ n.rows.length → SayI d (4 + i) (sayR n i)
 | 0, _ => by
  have := h.rows
  exact ⟨by simp [sayR], ⟨by simp [sayR], by simp [sayR]; omega⟩, .inr ⟨rfl, rfl⟩, by simp [sayR], fun i => by simp [sayR], fun i => by simp [sayR]⟩
 | i + 1, hi => by
  rw [sayR_one n i (by omega)]
  have := (sayR_i h hn i (by omega)).ent h.dd.1 h.dd.2 (h.row i (by omega)) (hn.row i (by omega)).1
  rwa [show (4 + (i : Int) + 1) = 4 + ((i + 1 : Nat) : Int) by omega] at this
theorem sayA_i {n : NodeD} {d : Nat} (h : NodeRt n d) (hn : NodeOk n) : ∀ j, j ≤ n.kids.length → SayI d (8 + 1048576 * j) (sayA n j)
 | 0, _ => by
  have := sayR_i h hn n.rows.length (Nat.le_refl _)
  have hr := h.rows
  exact ⟨⟨this.l.1, by have := this.l.2; show (sayR n n.rows.length).live ≤ _; omega⟩, ⟨this.z.1, by have := this.z.2; show (sayR n n.rows.length).size ≤ _; omega⟩, this.b, this.e, this.lI, this.hI⟩
 | j + 1, hj => by
  rw [sayA_one n j (by omega)]
  have := (sayA_i h hn j (by omega)).kid (h.kid j (by omega)) (hn.kid j (by omega)).lI (hn.kid j (by omega)).hI
  rwa [show (8 + 1048576 * (j : Int) + 1048576) = 8 + 1048576 * ((j + 1 : Nat) : Int) by omega] at this
theorem keyN_ok {n : NodeD} {d : Nat} (h : NodeRt n d) (hn : NodeOk n) : IsI (keyN n) ∧ (keyN n).length ≤ 8 := by
 unfold keyN
 split
 ·rename_i e
  have h0 := h.leaf e
  have := h.row 0 h0
  have := h.dd
  exact ⟨(hn.row 0 h0).1, by omega⟩
 ·split
  ·rename_i e
   have h0 := h.inner e
   exact ⟨(hn.kid 0 h0).kI, h.key 0 h0⟩
  ·exact ⟨fun i => by simp, by simp⟩
theorem sayN_ok {n : NodeD} {d : Nat} (h : NodeRt n d) (hn : NodeOk n) : KidOk (sayN n) := by
 have hs := sayA_i h hn n.kids.length (Nat.le_refl _)
 have hk := keyN_ok h hn
 have hb := boxOk_len hs.b
 have hq := h.kids
 have h1 := hs.l; have h2 := hs.z
 exact ⟨sum9_len _, isB_dig _, hs.lI, hs.hI, hk.1, by show _ ≤ (sayA n _).live ∧ (sayA n _).live ≤ _; omega, by show _ ≤ (sayA n _).size ∧ (sayA n _).size ≤ _; omega, by show (sayA n _).lo.length ≤ _; have := hb.1; dsimp only at this; omega, by show (sayA n _).hi.length ≤ _; have := hb.2.1; dsimp only at this; omega, by show (keyN n).length ≤ _; omega⟩
theorem mem_getDN {α : Type} [Inhabited α] {l : List α} {x : α} (h : x ∈ l) : ∃ i, i < l.length ∧ l.getD i default = x := by
 obtain ⟨i, hi, rfl⟩ := List.getElem_of_mem h
 exact ⟨i, hi, by simp [List.getD, List.getElem?_eq_getElem hi]⟩
theorem kid_len8 {n : NodeD} {d : Nat} (h : NodeRt n d) (i : Nat) (hi : i < n.kids.length) : (n.kids.getD i default).lo.length ≤ 8 ∧ (n.kids.getD i default).hi.length ≤ 8 := by
 have := boxOk_len (kidR_box (h.kid i hi)).1
 exact ⟨this.1, this.2.1⟩
theorem nodeB_isB {n : NodeD} {d : Nat} (h : NodeRt n d) (hn : NodeOk n) : IsB (nodeB n) := by
 have h1 := h.rows
 have h2 := h.kids
 have h3 := h.dd
 unfold nodeB
 refine isB_append (isB_append (isB_append (isB_append (isB_one hn.kind) (isB_one (by omega))) (isB_flat _ ?_)) (isB_one (by omega))) (isB_flat _ ?_)
 ·intro x hx
  obtain ⟨e, he, rfl⟩ := List.mem_map.1 hx
  obtain ⟨i, hi, rfl⟩ := mem_getDN he
  have := h.row i hi
  unfold entB
  exact isB_append (isB_one (by split <;> decide)) (isB_rowB _ (by omega))
 ·intro x hx
  obtain ⟨e, he, rfl⟩ := List.mem_map.1 hx
  obtain ⟨i, hi, rfl⟩ := mem_getDN he
  have hl := kid_len8 h i hi
  have hk := h.key i hi
  unfold kidB
  exact isB_append (isB_append (isB_append (isB_append (isB_append (hn.kid i hi).sB (isB_be3 _)) (isB_be3 _)) (isB_rowB _ (by omega))) (isB_rowB _ (by omega))) (isB_rowB _ (by omega))
theorem nodeB_len {n : NodeD} {d : Nat} (h : NodeRt n d) (hn : NodeOk n) : (nodeB n).length ≤ 100000 := by
 have h1 := h.rows
 have h2 := h.kids
 have h3 := h.dd
 have a := flat_len_le entB n.rows 66 (fun i hi => entB_len _ (by have := h.row i hi; omega)) n.rows.length (Nat.le_refl _)
 have b := flat_len_le kidB n.kids 233 (fun i hi => kidB_len _ (hn.kid i hi).s (kid_len8 h i hi).1 (kid_len8 h i hi).2 (h.key i hi)) n.kids.length (Nat.le_refl _)
 rw [List.take_length] at a b
 unfold nodeB
 simp only [List.length_append, List.length_cons, List.length_nil]
 omega
theorem hullLo_at (lo lo' : List Int) (j : Nat) (h : j < lo.length) : (hullLo lo lo').getD j 0 = mn (lo.getD j 0) (lo'.getD j 0) := by
 unfold hullLo
 rw [List.getD_eq_getElem?_getD, List.getElem?_map, List.getElem?_range h]; rfl
theorem hullHi_at (lo lo' : List Int) (j : Nat) (h : j < lo.length) : (hullHi lo lo').getD j 0 = mx (lo.getD j 0) (lo'.getD j 0) := by
 unfold hullHi
 rw [List.getD_eq_getElem?_getD, List.getElem?_map, List.getElem?_range h]; rfl
theorem mn_of3 (a b : Int) : mn a b ≤ a ∧ mn a b ≤ b ∧ (mn a b = a ∨ mn a b = b) := by unfold mn; split <;> omega
theorem mx_of3 (a b : Int) : a ≤ mx a b ∧ b ≤ mx a b ∧ (mx a b = a ∨ mx a b = b) := by unfold mx; split <;> omega
structure HullP (d : Nat) (ps : List BoxD) (b : BoxD) : Prop where
 nil : ps = [] → b = ([], [])
 box : ps ≠ [] → rightB b.1 b.2 d = true
 has : ∀ p ∈ ps, ∀ j, j < d → b.1.getD j 0 ≤ p.1.getD j 0 ∧ p.2.getD j 0 ≤ b.2.getD j 0
 lo : ps ≠ [] → ∀ j, j < d → ∃ p ∈ ps, p.1.getD j 0 = b.1.getD j 0
 hi : ps ≠ [] → ∀ j, j < d → ∃ p ∈ ps, p.2.getD j 0 = b.2.getD j 0
theorem HullP.zero (d : Nat) : HullP d [] ([], []) := by
 refine ⟨fun _ => rfl, fun h => absurd rfl h, fun p h => ?_, fun h => absurd rfl h, fun h => absurd rfl h⟩
 cases h
theorem HullP.ok {d : Nat} {ps : List BoxD} {b : BoxD} (h : HullP d ps b) : boxOk b d := by
 by_cases e : ps = []
 ·rw [h.nil e]; exact .inr ⟨rfl, rfl⟩
 ·exact .inl (h.box e)
theorem right_ne {b : BoxD} {d : Nat} (h : rightB b.1 b.2 d = true) : b.1.length = d ∧ b.2.length = d ∧ b.1 ≠ [] := by
 have := rightB_len h
 refine ⟨by omega, by omega, fun q => ?_⟩
 rw [q] at this; simp at this; omega
theorem HullP.add {d : Nat} {ps : List BoxD} {b p : BoxD} (h : HullP d ps b) (hp : rightB p.1 p.2 d = true) : HullP d (ps ++ [p]) (hullB b p) := by
 have hpn := right_ne hp
 by_cases e : ps = []
 ·have hb : hullB b p = p := by rw [h.nil e]; rfl
  rw [hb, e]
  refine ⟨fun q => by simp at q, fun _ => hp, fun q hq j hj => ?_, fun _ j hj => ⟨p, by simp, rfl⟩, fun _ j hj => ⟨p, by simp, rfl⟩⟩
  simp at hq; subst hq; exact ⟨Int.le_refl _, Int.le_refl _⟩
 ·have hbr := h.box e
  have hbn := right_ne hbr
  have hb : hullB b p = (hullLo b.1 p.1, hullHi b.2 p.2) := by unfold hullB; rw [if_neg hbn.2.2, if_neg hpn.2.2]
  have hne : (hullB b p).1 ≠ [] := by rw [hb]; intro q; have := congrArg List.length q; rw [hullLo_len] at this; exact hbn.2.2 (List.eq_nil_of_length_eq_zero this)
  refine ⟨fun q => by simp at q, fun _ => ?_, fun q hq j hj => ?_, fun _ j hj => ?_, fun _ j hj => ?_⟩
  ·rcases hullB_ok (.inl hbr) (.inl hp) with q | q
   ·exact q
   ·exact absurd q.1 hne
  ·rw [hb]
   dsimp only
   rw [hullLo_at _ _ _ (by omega), hullHi_at _ _ _ (by omega)]
   have m1 := mn_of3 (b.1.getD j 0) (p.1.getD j 0)
   have m2 := mx_of3 (b.2.getD j 0) (p.2.getD j 0)
   rcases List.mem_append.1 hq with hq | hq
   ·have := h.has q hq j hj; omega
   ·simp at hq; subst hq; omega
  ·rw [hb]
   dsimp only
   rw [hullLo_at _ _ _ (by omega)]
   rcases (mn_of3 (b.1.getD j 0) (p.1.getD j 0)).2.2 with q | q
   ·obtain ⟨x, hx, hx'⟩ := h.lo e j hj
    exact ⟨x, List.mem_append_left _ hx, by rw [q]; exact hx'⟩
   ·exact ⟨p, by simp, q.symm⟩
  ·rw [hb]
   dsimp only
   rw [hullHi_at _ _ _ (by omega)]
   rcases (mx_of3 (b.2.getD j 0) (p.2.getD j 0)).2.2 with q | q
   ·obtain ⟨x, hx, hx'⟩ := h.hi e j hj
    exact ⟨x, List.mem_append_left _ hx, by rw [q]; exact hx'⟩
   ·exact ⟨p, by simp, q.symm⟩
def rowPs (e : EntD) : List BoxD := if e.live then [(e.row, e.row)] else []
def kidPs (k : KidD) : List BoxD := if k.live = 0 then [] else [(k.lo, k.hi)]
def hpartsR (n : NodeD) (i : Nat) : List BoxD := (n.rows.take i).flatMap rowPs
def hpartsA (n : NodeD) (j : Nat) : List BoxD := hpartsR n n.rows.length ++ (n.kids.take j).flatMap kidPs
theorem flat_take_hull {α β : Type} [Inhabited α] (f : α → List β) (l : List α) (i : Nat) (hi : i < l.length) : (l.take (i + 1)).flatMap f = (l.take i).flatMap f ++ f (l.getD i default) := by
 rw [List.take_add_one, List.flatMap_append, List.getElem?_eq_getElem hi]
 simp [List.getD, List.getElem?_eq_getElem hi]
theorem sayR_hull {n : NodeD} {d : Nat} (h : NodeRt n d) : ∀ i, i ≤ n.rows.length → HullP d (hpartsR n i) ((sayR n i).lo, (sayR n i).hi)
 | 0, _ => by simpa [hpartsR, sayR] using HullP.zero d
 | i + 1, hi => by
  have ih := sayR_hull h i (by omega)
  rw [sayR_one n i (by omega), hpartsR, flat_take_hull _ _ _ (by omega), ← hpartsR]
  unfold sayE rowPs
  by_cases hl : (n.rows.getD i default).live = true
  ·rw [if_pos hl, if_pos hl]
   exact ih.add (row_right h.dd.1 h.dd.2 (h.row i (by omega)))
  ·rw [if_neg hl, if_neg hl, List.append_nil]
   exact ih
theorem kid_nil {k : KidD} {d : Nat} (h : kidR k d = true) (e : k.live = 0) : (k.lo, k.hi) = (([], []) : BoxD) := by
 obtain ⟨hb, he, _⟩ := kidR_box h
 have h1 := he.1 e
 rcases hb with q | q
 ·exact absurd h1 (right_ne q).2.2
 ·exact Prod.ext q.1 q.2
theorem kid_rightB {k : KidD} {d : Nat} (h : kidR k d = true) (e : k.live ≠ 0) : rightB k.lo k.hi d = true := by
 obtain ⟨hb, he, _⟩ := kidR_box h
 rcases hb with q | q
 ·exact q
 ·exact absurd (he.2 q.1) e
theorem sayA_hull {n : NodeD} {d : Nat} (h : NodeRt n d) : ∀ j, j ≤ n.kids.length → HullP d (hpartsA n j) ((sayA n j).lo, (sayA n j).hi)
 | 0, _ => by
  have := sayR_hull h n.rows.length (Nat.le_refl _)
  simpa [hpartsA, sayA] using this
 | j + 1, hj => by
  have ih := sayA_hull h j (by omega)
  rw [sayA_one n j (by omega), hpartsA, flat_take_hull _ _ _ (by omega), ← List.append_assoc, ← hpartsA]
  have hk := h.kid j (by omega)
  unfold sayK kidPs
  by_cases hl : (n.kids.getD j default).live = 0
  ·rw [if_pos hl, List.append_nil]
   dsimp only
   rw [kid_nil hk hl]
   have : hullB ((sayA n j).lo, (sayA n j).hi) ([], []) = ((sayA n j).lo, (sayA n j).hi) := by
    unfold hullB
    split
    ·rename_i e
     have hok := ih.ok
     rcases hok with q | q
     ·exact absurd e (right_ne q).2.2
     ·exact (Prod.ext q.1 q.2).symm
    ·rfl
   rw [this]
   exact ih
  ·rw [if_neg hl]
   dsimp only
   exact ih.add (kid_rightB hk hl)
theorem say_live {n : NodeD} {d : Nat} (h : NodeRt n d) (hn : NodeOk n) (hl : (sayN n).live ≠ 0) : hpartsA n n.kids.length ≠ [] := by
 intro q
 have hh := (sayA_hull h n.kids.length (Nat.le_refl _)).nil q
 have hi := (sayA_i h hn n.kids.length (Nat.le_refl _)).e
 exact hl (hi.2 (congrArg Prod.fst hh))
theorem say_none {n : NodeD} {d : Nat} (h : NodeRt n d) (hn : NodeOk n) (hl : (sayN n).live = 0) : (sayN n).lo = [] ∧ (sayN n).hi = [] := by
 have hi := (sayA_i h hn n.kids.length (Nat.le_refl _)).e
 have h1 := hi.1 hl
 rcases (sayA_hull h n.kids.length (Nat.le_refl _)).ok with q | q
 ·exact absurd h1 (right_ne q).2.2
 ·exact q
theorem say_box {n : NodeD} {d : Nat} (h : NodeRt n d) (hn : NodeOk n) (hl : (sayN n).live ≠ 0) : rightB (sayN n).lo (sayN n).hi d = true :=
 (sayA_hull h n.kids.length (Nat.le_refl _)).box (say_live h hn hl)
theorem right_le {lo hi : List Int} {d : Nat} (h : rightB lo hi d = true) (j : Nat) (hj : j < d) : lo.getD j 0 ≤ hi.getD j 0 := by
 have hl := rightB_len h
 have := hl.2.2.2.2
 unfold leAll at this
 simp only [List.all_eq_true, List.mem_range, decide_eq_true_eq] at this
 exact this j (by omega)
def rEnts (d : Int) : Nat → List Nat → Int → List EntD × List Nat × Int
 | 0, l, e => ([], l, e)
 | k + 1, l, e =>
  let s := rEnts d k l e
  let t := rTruth s.2.1 s.2.2
  let r := rRowI d t.2.1 t.2.2
  (s.1 ++ [⟨r.1, t.1⟩], r.2)
def rKids (d : Int) : Nat → List Nat → Int → List KidD × List Nat × Int
 | 0, l, e => ([], l, e)
 | k + 1, l, e =>
  let s := rKids d k l e
  let r := rKid d s.2.1 s.2.2
  (s.1 ++ [r.1], r.2)
def rNode (d : Int) (b : List Nat) : NodeD × List Nat × Int :=
 let s0 := (rTake 1 b 0).2
 let s1 := (rTake 1 s0.1 s0.2).2
 let E := rEnts d (rByte s0.1 s0.2) s1.1 s1.2
 let s2 := (rTake 1 E.2.1 E.2.2).2
 let K := rKids d (rByte E.2.1 E.2.2) s2.1 s2.2
 (⟨rByte b 0, E.1, K.1⟩, K.2)
def readN (d : Int) (b : List Nat) : Option NodeD := if rEnd (rNode d b).2.1 (rNode d b).2.2 = 0 ∧ nodeR (rNode d b).1 d = true then some (rNode d b).1 else none
theorem Suf.rfl' {l : List Nat} : Suf l l := ⟨0, by simp⟩
theorem rowI_suf (m : Int) (l : List Nat) (e : Int) : Suf (rRowI m l e).2.1 l := by
 unfold rRowI; exact (nums_suf _ _ _).trans (take_suf 1 l e)
theorem kid_suf (d : Int) (l : List Nat) (e : Int) : Suf (rKid d l e).2.1 l := by
 unfold rKid
 exact (rowI_suf _ _ _).trans ((rowI_suf _ _ _).trans ((rowI_suf _ _ _).trans ((count_suf _ _ _).trans ((count_suf _ _ _).trans (take_suf 32 l e)))))
theorem kids_suf (d : Int) (l : List Nat) (e : Int) : ∀ k, Suf (rKids d k l e).2.1 l
 | 0 => Suf.rfl'
 | k + 1 => (kid_suf d _ _).trans (kids_suf d l e k)
theorem ents_suf (d : Int) (l : List Nat) (e : Int) : ∀ k, Suf (rEnts d k l e).2.1 l
 | 0 => Suf.rfl'
 | k + 1 => (rowI_suf d _ _).trans ((take_suf 1 _ _).trans (ents_suf d l e k))
theorem take_getD {α : Type} [Inhabited α] (l : List α) (k : Nat) (hi : k < l.length) : l.take (k + 1) = l.take k ++ [l.getD k default] := by
 rw [List.take_add_one, List.getElem?_eq_getElem hi]; simp [List.getD, List.getElem?_eq_getElem hi]
theorem truth_app (x : Bool) (l : List Nat) : rTruth ([if x then 1 else 0] ++ l) 0 = (x, l, 0) := by
 obtain ⟨h1, h2⟩ := byte_app (if x then 1 else 0) l
 unfold rTruth rTruthE
 rw [List.singleton_append, h1, h2]
 cases x <;> simp
theorem truth_inv {l l' : List Nat} {e : Int} {x : Bool} (h : rTruth l e = (x, l', 0)) : e = 0 ∧ l = [if x then 1 else 0] ++ l' := by
 unfold rTruth rTruthE at h
 obtain ⟨h1, h2⟩ := Prod.mk.inj h
 obtain ⟨h3, h4⟩ := Prod.mk.inj h2
 have hz : (rTake 1 l e).2.2 = 0 := by
  split at h4
  ·exact absurd h4 (by decide)
  ·exact h4
 rw [hz] at h4
 have hb : ¬ 1 < rByte l e := fun hb => by rw [if_pos ⟨hb, rfl⟩] at h4; cases h4
 have h5 := byte_inv (l' := l') (show (rTake 1 l e).2 = (l', 0) by rw [← h3, ← hz])
 refine ⟨h5.1, ?_⟩
 have h6 := h5.2
 rw [h6, List.singleton_append]
 congr 1
 rw [← h1]
 by_cases hx : rByte l e = 1
 ·simp [hx]
 ·simp [hx]; omega
theorem rowI_app (k : Nat) (r : List Int) (l : List Nat) (hI : IsI r) (h : r.length ≤ k) : rRowI (k : Int) (rowB r ++ l) 0 = (r, l, 0) := by
 rw [rRowI_nat]; exact row_app k r l hI h
theorem rowI_inv {k : Nat} {r : List Int} {l l' : List Nat} {e : Int} (hl : IsB l) (h : rRowI (k : Int) l e = (r, l', 0)) : e = 0 ∧ l = rowB r ++ l' ∧ r.length ≤ k ∧ IsI r := by
 rw [rRowI_nat] at h; exact row_inv hl h
structure KidW (k : KidD) (d : Nat) : Prop where
 s : k.sum.length = 32
 a : 0 ≤ k.live ∧ k.live ≤ 1048576
 b : 0 ≤ k.size ∧ k.size ≤ 1048576
 lo : k.lo.length ≤ d ∧ IsI k.lo
 hi : k.hi.length ≤ d ∧ IsI k.hi
 key : k.key.length ≤ d ∧ IsI k.key
theorem kid_app (d : Nat) (k : KidD) (l : List Nat) (h : KidW k d) : rKid (d : Int) (kidB k ++ l) 0 = (k, l, 0) := by
 obtain ⟨a, ha⟩ := Int.eq_ofNat_of_zero_le h.a.1
 obtain ⟨b, hb⟩ := Int.eq_ofNat_of_zero_le h.b.1
 have ha1 := h.a.2
 have hb1 := h.b.2
 unfold rKid kidB
 simp only [List.append_assoc]
 obtain ⟨d1, d2⟩ := dig_app k.sum (be3 k.live.toNat ++ (be3 k.size.toNat ++ (rowB k.lo ++ (rowB k.hi ++ (rowB k.key ++ l))))) h.s
 rw [d1, d2]
 dsimp only
 rw [count_app 1048576 k.live.toNat _ (by omega) (by omega)]
 dsimp only
 rw [count_app 1048576 k.size.toNat _ (by omega) (by omega)]
 dsimp only
 rw [rowI_app d k.lo _ h.lo.2 h.lo.1]
 dsimp only
 rw [rowI_app d k.hi _ h.hi.2 h.hi.1]
 dsimp only
 rw [rowI_app d k.key _ h.key.2 h.key.1]
 dsimp only
 rw [Int.toNat_of_nonneg h.a.1, Int.toNat_of_nonneg h.b.1]
theorem kid_inv {d : Nat} {k : KidD} {l l' : List Nat} {e : Int} (hl : IsB l) (h : rKid (d : Int) l e = (k, l', 0)) : e = 0 ∧ l = kidB k ++ l' ∧ KidW k d ∧ IsB k.sum := by
 unfold rKid at h
 obtain ⟨h1, h2⟩ := Prod.mk.inj h
 rcases q1 : (rTake 32 l e).2 with ⟨l1, e1⟩
 rw [q1] at h1 h2
 dsimp only at h1 h2
 rcases q2 : rCount 1048576 l1 e1 with ⟨n2, l2, e2⟩
 rw [q2] at h1 h2
 dsimp only at h1 h2
 rcases q3 : rCount 1048576 l2 e2 with ⟨n3, l3, e3⟩
 rw [q3] at h1 h2
 dsimp only at h1 h2
 rcases q4 : rRowI (d : Int) l3 e3 with ⟨r4, l4, e4⟩
 rw [q4] at h1 h2
 dsimp only at h1 h2
 rcases q5 : rRowI (d : Int) l4 e4 with ⟨r5, l5, e5⟩
 rw [q5] at h1 h2
 dsimp only at h1 h2
 rcases q6 : rRowI (d : Int) l5 e5 with ⟨r6, l6, e6⟩
 rw [q6] at h1 h2
 dsimp only at h1 h2
 obtain ⟨rfl, rfl⟩ := Prod.mk.inj h2
 have b1 : IsB l1 := by have := (take_suf 32 l e).isB hl; rwa [q1] at this
 have b2 : IsB l2 := by have := (count_suf 1048576 l1 e1).isB b1; rwa [q2] at this
 have b3 : IsB l3 := by have := (count_suf 1048576 l2 e2).isB b2; rwa [q3] at this
 have b4 : IsB l4 := by have := (row_suf d l3 e3).isB b3; rw [← rRowI_nat, q4] at this; exact this
 have b5 : IsB l5 := by have := (row_suf d l4 e4).isB b4; rw [← rRowI_nat, q5] at this; exact this
 obtain ⟨rfl, g6, g7, g8⟩ := rowI_inv b5 q6
 obtain ⟨rfl, f6, f7, f8⟩ := rowI_inv b4 q5
 obtain ⟨rfl, k6, k7, k8⟩ := rowI_inv b3 q4
 obtain ⟨rfl, m6, m7⟩ := count_inv b2 q3
 obtain ⟨rfl, p6, p7⟩ := count_inv b1 q2
 obtain ⟨rfl, s6, s7⟩ := dig_inv q1
 rw [← h1]
 refine ⟨rfl, ?_, ⟨s7, ⟨by simp, by simp; omega⟩, ⟨by simp, by simp; omega⟩, ⟨k7, k8⟩, ⟨f7, f8⟩, ⟨g7, g8⟩⟩, ?_⟩
 ·unfold kidB
  dsimp only
  rw [Int.toNat_natCast, Int.toNat_natCast]
  simp only [List.append_assoc]
  rw [← g6, ← f6, ← k6, ← m6, ← p6, ← s6]
 ·rw [s6] at hl
  exact (isB_app hl).1
theorem kidsB_app (d : Nat) : ∀ (ks : List KidD) (k : Nat) (l : List Nat), k ≤ ks.length → (∀ x ∈ ks, KidW x d) → rKids (d : Int) k (((ks.take k).map kidB).flatten ++ l) 0 = (ks.take k, l, 0)
 | ks, 0, l, _, _ => by simp [rKids]
 | ks, k + 1, l, hk, h => by
  have hi : k < ks.length := by omega
  rw [rKids, flat_take_succ kidB ks k hi, List.append_assoc, kidsB_app d ks k _ (by omega) h]
  dsimp only
  rw [kid_app d _ l (h _ (getD_mem' hi)), take_getD ks k hi]
structure EntW (x : EntD) (d : Nat) : Prop where
 len : x.row.length ≤ d
 isI : IsI x.row
theorem entsB_app (d : Nat) : ∀ (es : List EntD) (k : Nat) (l : List Nat), k ≤ es.length → (∀ x ∈ es, EntW x d) → rEnts (d : Int) k (((es.take k).map entB).flatten ++ l) 0 = (es.take k, l, 0)
 | es, 0, l, _, _ => by simp [rEnts]
 | es, k + 1, l, hk, h => by
  have hi : k < es.length := by omega
  have hw := h _ (getD_mem' hi)
  rw [rEnts, flat_take_succ entB es k hi, List.append_assoc, entsB_app d es k _ (by omega) h]
  dsimp only
  unfold entB
  rw [List.append_assoc, truth_app]
  dsimp only
  rw [rowI_app d _ l hw.isI hw.len, take_getD es k hi]
theorem rKids_inv (d : Nat) : ∀ (k : Nat) {ks : List KidD} {l l' : List Nat} {e : Int}, IsB l → rKids (d : Int) k l e = (ks, l', 0) → e = 0 ∧ ks.length = k ∧ l = (ks.map kidB).flatten ++ l' ∧ ∀ x ∈ ks, KidW x d ∧ IsB x.sum
 | 0, ks, l, l', e, hl, h => by
  simp only [rKids, Prod.mk.injEq] at h
  obtain ⟨rfl, rfl, rfl⟩ := h
  simp
 | k + 1, ks, l, l', e, hl, h => by
  rw [rKids] at h
  (try dsimp only at h)
  rcases q1 : rKids (d : Int) k l e with ⟨ks1, l1, e1⟩
  rw [q1] at h
  (try dsimp only at h)
  rcases q2 : rKid (d : Int) l1 e1 with ⟨x, l2, e2⟩
  rw [q2] at h
  obtain ⟨rfl, h2⟩ := Prod.mk.inj h
  obtain ⟨rfl, rfl⟩ := Prod.mk.inj h2
  have b1 : IsB l1 := by have := (kids_suf (d : Int) l e k).isB hl; rwa [q1] at this
  obtain ⟨rfl, f1, f2, f3⟩ := kid_inv b1 q2
  obtain ⟨rfl, g1, g2, g3⟩ := rKids_inv d k hl q1
  refine ⟨rfl, by simp [g1], ?_, fun y hy => ?_⟩
  ·rw [g2, f1]; simp
  ·rcases List.mem_append.1 hy with hy | hy
   ·exact g3 y hy
   ·rw [List.mem_singleton.1 hy]; exact ⟨f2, f3⟩
theorem rEnts_inv (d : Nat) : ∀ (k : Nat) {es : List EntD} {l l' : List Nat} {e : Int}, IsB l → rEnts (d : Int) k l e = (es, l', 0) → e = 0 ∧ es.length = k ∧ l = (es.map entB).flatten ++ l' ∧ ∀ x ∈ es, EntW x d
 | 0, es, l, l', e, hl, h => by
  simp only [rEnts, Prod.mk.injEq] at h
  obtain ⟨rfl, rfl, rfl⟩ := h
  simp
 | k + 1, es, l, l', e, hl, h => by
  rw [rEnts] at h
  (try dsimp only at h)
  rcases q1 : rEnts (d : Int) k l e with ⟨es1, l1, e1⟩
  rw [q1] at h
  (try dsimp only at h)
  rcases q2 : rTruth l1 e1 with ⟨t, l2, e2⟩
  rw [q2] at h
  (try dsimp only at h)
  rcases q3 : rRowI (d : Int) l2 e2 with ⟨r, l3, e3⟩
  rw [q3] at h
  obtain ⟨rfl, h2⟩ := Prod.mk.inj h
  obtain ⟨rfl, rfl⟩ := Prod.mk.inj h2
  have b1 : IsB l1 := by have := (ents_suf (d : Int) l e k).isB hl; rwa [q1] at this
  have b2 : IsB l2 := by have := (take_suf 1 l1 e1).isB b1; have h5 := congrArg (fun x => x.2.1) q2; simp only [rTruth] at h5; rwa [h5] at this
  obtain ⟨rfl, f1, f2, f3⟩ := rowI_inv b2 q3
  obtain ⟨rfl, t1⟩ := truth_inv q2
  obtain ⟨rfl, g1, g2, g3⟩ := rEnts_inv d k hl q1
  refine ⟨rfl, by simp [g1], ?_, fun y hy => ?_⟩
  ·rw [g2, t1, f1]; simp [entB]
  ·rcases List.mem_append.1 hy with hy | hy
   ·exact g3 y hy
   ·rw [List.mem_singleton.1 hy]; exact ⟨f2, f3⟩
theorem kidR_len {k : KidD} {d : Nat} (h : kidR k (d : Int) = true) : k.lo.length ≤ d ∧ k.hi.length ≤ d := by
 unfold kidR at h
 simp only [Bool.or_eq_true, Bool.and_eq_true, decide_eq_true_eq] at h
 rcases h with rfl | ⟨h1, h2, h3, h4, h5⟩
 ·simp [kidZ]
 ·split at h5
  ·simp only [Bool.and_eq_true, decide_eq_true_eq] at h5
   omega
  ·have := rightB_len h5
   omega
theorem nodeR_parts {n : NodeD} {d : Int} (h : nodeR n d = true) : ∃ k : Nat, d = (k : Int) ∧ (∀ x ∈ n.rows, x.row.length ≤ k) ∧ ∀ x ∈ n.kids, kidR x (k : Int) = true ∧ x.key.length ≤ k := by
 unfold nodeR at h
 simp only [Bool.and_eq_true, decide_eq_true_eq, List.all_eq_true] at h
 obtain ⟨h1, h2, h3, h4, h5⟩ := h
 obtain ⟨k, rfl⟩ := Int.eq_ofNat_of_zero_le (show 0 ≤ d by omega)
 refine ⟨k, rfl, fun x hx => by have := h3 x hx; omega, fun x hx => ⟨h4 x hx, ?_⟩⟩
 unfold kindR at h5
 split at h5
 ·simp only [Bool.and_eq_true, decide_eq_true_eq, List.all_eq_true] at h5
  have := h5.2.2 x hx; omega
 ·split at h5
  ·simp only [Bool.and_eq_true, decide_eq_true_eq] at h5
   rw [List.eq_nil_of_length_eq_zero h5.2.2.1] at hx; cases hx
  ·simp only [Bool.and_eq_true, decide_eq_true_eq, List.all_eq_true] at h5
   have := (h5.2.2.2.2 x hx).1; omega
theorem mem_getD {α : Type} [Inhabited α] {l : List α} {x : α} (hx : x ∈ l) : ∃ i, i < l.length ∧ l.getD i default = x := by
 obtain ⟨i, hi, rfl⟩ := List.getElem_of_mem hx
 exact ⟨i, hi, by simp [List.getD, List.getElem?_eq_getElem hi]⟩
theorem rNode_app {n : NodeD} {d : Int} (hn : NodeOk n) (h : nodeR n d = true) : rNode d (nodeB n) = (n, [], 0) := by
 have hF := nodeR_facts h
 obtain ⟨k, rfl, hr, hk⟩ := nodeR_parts h
 have hE : ∀ x ∈ n.rows, EntW x k := fun x hx => by
  obtain ⟨i, hi, rfl⟩ := mem_getD hx
  exact ⟨hr _ hx, (hn.row i hi).1⟩
 have hK : ∀ x ∈ n.kids, KidW x k := fun x hx => by
  have h1 := hk x hx
  have h2 := kidR_facts h1.1
  have h3 := kidR_len h1.1
  obtain ⟨i, hi, rfl⟩ := mem_getD hx
  have h4 := hn.kid i hi
  exact ⟨h4.s, h2.1, h2.2.1, ⟨h3.1, h4.lI⟩, ⟨h3.2, h4.hI⟩, ⟨h1.2, h4.kI⟩⟩
 have a1 := entsB_app k n.rows n.rows.length ([n.kids.length] ++ ((n.kids.map kidB).flatten ++ [])) (Nat.le_refl _) hE
 have a2 := kidsB_app k n.kids n.kids.length [] (Nat.le_refl _) hK
 rw [List.take_length] at a1 a2
 have b1 := byte_app n.kind ([n.rows.length] ++ ((n.rows.map entB).flatten ++ ([n.kids.length] ++ ((n.kids.map kidB).flatten ++ []))))
 have b2 := byte_app n.rows.length ((n.rows.map entB).flatten ++ ([n.kids.length] ++ ((n.kids.map kidB).flatten ++ [])))
 have b3 := byte_app n.kids.length ((n.kids.map kidB).flatten ++ [])
 have e : nodeB n = n.kind :: ([n.rows.length] ++ ((n.rows.map entB).flatten ++ ([n.kids.length] ++ ((n.kids.map kidB).flatten ++ [])))) := by
  unfold nodeB; simp only [List.append_assoc, List.append_nil, List.singleton_append, List.cons_append, List.nil_append]
 unfold rNode
 rw [e, b1.1, b1.2]
 dsimp only
 rw [List.singleton_append, b2.1, b2.2]
 dsimp only
 rw [a1]
 dsimp only
 rw [List.singleton_append, b3.1, b3.2]
 dsimp only
 rw [a2]
theorem readN_app {n : NodeD} {d : Int} (hn : NodeOk n) (h : nodeR n d = true) : readN d (nodeB n) = some n := by
 unfold readN
 rw [rNode_app hn h]
 dsimp only
 rw [if_pos ⟨by decide, h⟩]
theorem readN_inv {d : Int} {b : List Nat} {n : NodeD} (hb : IsB b) (h : readN d b = some n) : b = nodeB n ∧ nodeR n d = true ∧ NodeOk n := by
 unfold readN at h
 split at h
 case isFalse => cases h
 rename_i hc
 obtain ⟨hE, hR⟩ := hc
 have hq := Option.some.inj h
 rw [hq] at hR
 have hF := nodeR_facts hR
 obtain ⟨k, rfl, hr, hk⟩ := nodeR_parts hR
 obtain ⟨z1, z2⟩ := rEnd_zero hE
 have hN : rNode (k : Int) b = (n, [], 0) := by
  rcases q : rNode (k : Int) b with ⟨x, y, z⟩
  rw [q] at hq z1 z2
  dsimp only at hq z1 z2
  rw [hq, z1, z2]
 clear hE hq z1 z2 h
 unfold rNode at hN
 dsimp only at hN
 rcases q1 : (rTake 1 b 0).2 with ⟨l1, e1⟩
 rw [q1] at hN
 dsimp only at hN
 rcases q2 : (rTake 1 l1 e1).2 with ⟨l2, e2⟩
 rw [q2] at hN
 dsimp only at hN
 rcases q3 : rEnts (k : Int) (rByte l1 e1) l2 e2 with ⟨es, l3, e3⟩
 rw [q3] at hN
 dsimp only at hN
 rcases q4 : (rTake 1 l3 e3).2 with ⟨l4, e4⟩
 rw [q4] at hN
 dsimp only at hN
 rcases q5 : rKids (k : Int) (rByte l3 e3) l4 e4 with ⟨ks, l5, e5⟩
 rw [q5] at hN
 dsimp only at hN
 obtain ⟨hn, h2⟩ := Prod.mk.inj hN
 obtain ⟨rfl, rfl⟩ := Prod.mk.inj h2
 have b1 : IsB l1 := by have := (take_suf 1 b 0).isB hb; rwa [q1] at this
 have b2 : IsB l2 := by have := (take_suf 1 l1 e1).isB b1; rwa [q2] at this
 have b3 : IsB l3 := by have := (ents_suf (k : Int) l2 e2 (rByte l1 e1)).isB b2; rwa [q3] at this
 have b4 : IsB l4 := by have := (take_suf 1 l3 e3).isB b3; rwa [q4] at this
 obtain ⟨rfl, f1, f2, f3⟩ := rKids_inv k _ b4 q5
 obtain ⟨rfl, g1⟩ := byte_inv q4
 obtain ⟨rfl, i1, i2, i3⟩ := rEnts_inv k _ b2 q3
 obtain ⟨rfl, j1⟩ := byte_inv q2
 obtain ⟨_, k1⟩ := byte_inv q1
 have hkb : rByte b 0 < 256 := rByte_lt b 0 hb
 subst hn
 refine ⟨?_, hR, ⟨hkb, fun i hi => ?_, fun i hi => ?_, ?_, ?_⟩⟩
 ·unfold nodeB
  dsimp only
  rw [i1, f1]
  conv => lhs; rw [k1, j1, i2, g1, f2]
  simp only [List.append_assoc, List.singleton_append, List.append_nil, List.cons_append, List.nil_append]
 ·have := i3 _ (getD_mem' hi)
  exact ⟨this.isI, by have := this.len; have := hF.d; dsimp only; omega⟩
 ·have h1 := f3 _ (getD_mem' hi)
  have h2 := h1.1
  exact ⟨h2.s, h1.2, h2.lo.2, h2.hi.2, h2.key.2, by have := h2.a; dsimp only; omega, by have := h2.b; dsimp only; omega, by have := h2.lo.1; have := hF.d; dsimp only; omega, by have := h2.hi.1; have := hF.d; dsimp only; omega, by have := h2.key.1; have := hF.d; dsimp only; omega⟩
 ·have := hF.rows; dsimp only at this ⊢; omega
 ·have := hF.kids; dsimp only at this ⊢; omega
theorem rowI_isI {m : Int} {l : List Nat} {e : Int} (hl : IsB l) : IsI (rRowI m l e).1 ∧ (rRowI m l e).1.length ≤ 255 := by
 have hk := rByte_lt l e hl
 have hs := (take_suf 1 l e).isB hl
 unfold rRowI
 dsimp only
 generalize (if m < (rByte l e : Int) ∧ (rTake 1 l e).2.2 = 0 then 10 else (rTake 1 l e).2.2) = f
 have := rNums_len (rByte l e) (rTake 1 l e).2.1 f
 rcases hq : rNums (rByte l e) (rTake 1 l e).2.1 f with ⟨r, l', g⟩
 rw [hq] at this
 dsimp only at this ⊢
 by_cases hg : g = 0
 ·subst hg
  rw [if_pos rfl]
  exact ⟨(nums_inv _ hs hq).2.2.2, by omega⟩
 ·rw [if_neg hg]
  exact ⟨fun i => by simp, by simp⟩
theorem rDig_isB {l : List Nat} {e : Int} (hl : IsB l) : IsB (rDig l e) := by
 unfold rDig rTake
 split
 ·intro i; simp only [Option.getD_none, List.getD, List.getElem?_replicate]; split <;> decide
 ·split
  ·intro i; simp only [Option.getD_none, List.getD, List.getElem?_replicate]; split <;> decide
  ·exact isB_take hl _
theorem rKid_ok (d : Int) {l : List Nat} {e : Int} (hl : IsB l) : KidOk (rKid d l e).1 := by
 unfold rKid
 dsimp only
 have b1 := (take_suf 32 l e).isB hl
 have b2 := (count_suf 1048576 (rTake 32 l e).2.1 (rTake 32 l e).2.2).isB b1
 generalize rTake 32 l e = s at *
 have n1 := (rCount_le 1048576 s.2.1 s.2.2).1
 generalize rCount 1048576 s.2.1 s.2.2 = c1 at *
 have n2 := (rCount_le 1048576 c1.2.1 c1.2.2).1
 have b3 := (count_suf 1048576 c1.2.1 c1.2.2).isB b2
 generalize rCount 1048576 c1.2.1 c1.2.2 = c2 at *
 have i1 := rowI_isI (m := d) (e := c2.2.2) b3
 have b4 := (rowI_suf d c2.2.1 c2.2.2).isB b3
 generalize rRowI d c2.2.1 c2.2.2 = r1 at *
 have i2 := rowI_isI (m := d) (e := r1.2.2) b4
 have b5 := (rowI_suf d r1.2.1 r1.2.2).isB b4
 generalize rRowI d r1.2.1 r1.2.2 = r2 at *
 have i3 := rowI_isI (m := d) (e := r2.2.2) b5
 generalize rRowI d r2.2.1 r2.2.2 = r3 at *
 have j1 := i1.2
 have j2 := i2.2
 have j3 := i3.2
 constructor
 all_goals (try dsimp only)
 all_goals first
  | exact rDig_len l e
  | exact rDig_isB hl
  | exact i1.1
  | exact i2.1
  | exact i3.1
  | (refine ⟨?_, ?_⟩ <;> omega)
  | omega
theorem rKids_ok (d : Int) {l : List Nat} {e : Int} (hl : IsB l) : ∀ k, (rKids d k l e).1.length = k ∧ ∀ x ∈ (rKids d k l e).1, KidOk x
 | 0 => by simp [rKids]
 | k + 1 => by
  obtain ⟨h1, h2⟩ := rKids_ok d (e := e) hl k
  rw [rKids]
  dsimp only
  refine ⟨by simp [h1], fun x hx => ?_⟩
  rcases List.mem_append.1 hx with hx | hx
  ·exact h2 x hx
  ·rw [List.mem_singleton.1 hx]; exact rKid_ok d ((kids_suf d l e k).isB hl)
theorem rEnts_ok (d : Int) {l : List Nat} {e : Int} (hl : IsB l) : ∀ k, (rEnts d k l e).1.length = k ∧ ∀ x ∈ (rEnts d k l e).1, IsI x.row ∧ x.row.length ≤ 255
 | 0 => by simp [rEnts]
 | k + 1 => by
  obtain ⟨h1, h2⟩ := rEnts_ok d (e := e) hl k
  rw [rEnts]
  dsimp only
  refine ⟨by simp [h1], fun x hx => ?_⟩
  rcases List.mem_append.1 hx with hx | hx
  ·exact h2 x hx
  ·rw [List.mem_singleton.1 hx]; exact rowI_isI ((take_suf 1 _ _).isB ((ents_suf d l e k).isB hl))
theorem rNode_ok (d : Int) {b : List Nat} (hb : IsB b) : NodeOk (rNode d b).1 := by
 unfold rNode
 dsimp only
 have b1 := (take_suf 1 b 0).isB hb
 have b2 := (take_suf 1 (rTake 1 b 0).2.1 (rTake 1 b 0).2.2).isB b1
 have hk := rByte_lt b 0 hb
 have hn := rByte_lt (rTake 1 b 0).2.1 (rTake 1 b 0).2.2 b1
 obtain ⟨e1, e2⟩ := rEnts_ok d (e := (rTake 1 (rTake 1 b 0).2.1 (rTake 1 b 0).2.2).2.2) b2 (rByte (rTake 1 b 0).2.1 (rTake 1 b 0).2.2)
 have b3 := (ents_suf d (rTake 1 (rTake 1 b 0).2.1 (rTake 1 b 0).2.2).2.1 (rTake 1 (rTake 1 b 0).2.1 (rTake 1 b 0).2.2).2.2 (rByte (rTake 1 b 0).2.1 (rTake 1 b 0).2.2)).isB b2
 generalize rEnts d (rByte (rTake 1 b 0).2.1 (rTake 1 b 0).2.2) (rTake 1 (rTake 1 b 0).2.1 (rTake 1 b 0).2.2).2.1 (rTake 1 (rTake 1 b 0).2.1 (rTake 1 b 0).2.2).2.2 = E at *
 have b4 := (take_suf 1 E.2.1 E.2.2).isB b3
 have hm := rByte_lt E.2.1 E.2.2 b3
 obtain ⟨k1, k2⟩ := rKids_ok d (e := (rTake 1 E.2.1 E.2.2).2.2) b4 (rByte E.2.1 E.2.2)
 generalize rKids d (rByte E.2.1 E.2.2) (rTake 1 E.2.1 E.2.2).2.1 (rTake 1 E.2.1 E.2.2).2.2 = K at *
 constructor
 all_goals (try dsimp only)
 ·exact hk
 ·intro i hi
  have := e2 _ (getD_mem' hi)
  exact ⟨this.1, by omega⟩
 ·intro i hi
  exact k2 _ (getD_mem' hi)
 ·omega
 ·omega
end Go.Proofs.YtedokpgkjcnoiaaGreat.Pl
