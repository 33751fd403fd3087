/- Plain: SHA-256 of what is written down, reckoned by the kernel. No program in sight. Plain: the page store as a list, and its first clash. No program in sight. Plain: sorting by a total order; the order of rows at a depth. No program in sight. Plain: nodes put into a store, and got from it. No program in sight. Plain: k-d trees, as the document tells them, and as kids in a store. No program in sight. -/
import Derived.Test.YtedokpgkjcnoiaaGreatV17
import Derived.Test.YtedokpgkjcnoiaaGreatV18
set_option linter.unusedVariables false
set_option linter.unusedSimpArgs false
namespace Go.Proofs.YtedokpgkjcnoiaaGreat.Hk
open Pl
/-- x first, then on -/
def sq {β : Type} (x : Nat) (k : Nat → β) : β := Nat.rec (k 0) (fun n _ => k (Nat.succ n)) x
theorem sq_eq {β : Type} (x : Nat) (k : Nat → β) : sq x k = k x := by cases x <;> rfl
def rotN (x n : Nat) : Nat := Nat.lor (x / 2 ^ n) (x * 2 ^ (32 - n) % 4294967296)
def s0N (x : Nat) : Nat := Nat.xor (Nat.xor (rotN x 7) (rotN x 18)) (x / 2 ^ 3)
def s1N (x : Nat) : Nat := Nat.xor (Nat.xor (rotN x 17) (rotN x 19)) (x / 2 ^ 10)
def oneN (e f g h k w : Nat) : Nat := (h + Nat.xor (Nat.xor (rotN e 6) (rotN e 11)) (rotN e 25) + Nat.xor (Nat.land e f) (Nat.land (4294967295 - e) g) + k + w) % 4294967296
def twoN (a b c : Nat) : Nat := (Nat.xor (Nat.xor (rotN a 2) (rotN a 13)) (rotN a 22) + Nat.xor (Nat.xor (Nat.land a b) (Nat.land a c)) (Nat.land b c)) % 4294967296
theorem shr_nat (x : UInt32) (n : Nat) : (shr x n).toNat = x.toNat / 2 ^ n := by
 unfold shr
 rw [UInt32.toNat_ofNat']
 exact Nat.mod_eq_of_lt (Nat.lt_of_le_of_lt (Nat.div_le_self _ _) x.toNat_lt)
theorem shl_nat (x : UInt32) (n : Nat) : (shl x n).toNat = x.toNat * 2 ^ n % 4294967296 := by
 unfold shl
 rw [UInt32.toNat_ofNat']
theorem rot_nat (x : UInt32) (n : Nat) : (rotr x n).toNat = rotN x.toNat n := by
 unfold rotr rotN
 rw [UInt32.toNat_or, shr_nat, shl_nat]; rfl
theorem s0_nat (x : UInt32) : (s0 x).toNat = s0N x.toNat := by
 unfold s0 s0N
 rw [UInt32.toNat_xor, UInt32.toNat_xor, rot_nat, rot_nat, shr_nat]; rfl
theorem s1_nat (x : UInt32) : (s1 x).toNat = s1N x.toNat := by
 unfold s1 s1N
 rw [UInt32.toNat_xor, UInt32.toNat_xor, rot_nat, rot_nat, shr_nat]; rfl
theorem one_nat (v : List UInt32) (k w : UInt32) : (one v k w).toNat = oneN (v.getD 4 0).toNat (v.getD 5 0).toNat (v.getD 6 0).toNat (v.getD 7 0).toNat k.toNat w.toNat := by
 unfold one oneN
 simp only [UInt32.toNat_add, UInt32.toNat_xor, UInt32.toNat_and, UInt32.toNat_not, rot_nat]
 show ((((_ + Nat.xor (Nat.xor _ _) _) % 4294967296 + Nat.xor (Nat.land _ _) (Nat.land (4294967296 - 1 - _) _)) % 4294967296 + _) % 4294967296 + _) % 4294967296 = _
 rw [show 4294967296 - 1 - (v.getD 4 0).toNat = 4294967295 - (v.getD 4 0).toNat by omega]
 generalize Nat.xor (Nat.xor _ _) _ = A
 generalize Nat.xor (Nat.land _ _) _ = B
 omega
theorem two_nat (v : List UInt32) : (two v).toNat = twoN (v.getD 0 0).toNat (v.getD 1 0).toNat (v.getD 2 0).toNat := by
 unfold two twoN
 simp only [UInt32.toNat_add, UInt32.toNat_xor, UInt32.toNat_and, rot_nat]
 rfl
theorem wrd_nat (b : List Nat) (i : Nat) : (wrd b (i + 16)).toNat = ((wrd b i).toNat + s0N (wrd b (i + 1)).toNat + (wrd b (i + 9)).toNat + s1N (wrd b (i + 14)).toNat) % 4294967296 := by
 rw [wrd, dif_neg (by omega), show i + 16 - 16 = i by omega, show i + 16 - 15 = i + 1 by omega, show i + 16 - 7 = i + 9 by omega, show i + 16 - 2 = i + 14 by omega]
 simp only [UInt32.toNat_add, s0_nat, s1_nat]
 generalize s0N _ = A
 generalize s1N _ = B
 show (((_ + A) % 4294967296 + _) % 4294967296 + B) % 4294967296 = _
 omega
def kkN : List Nat := [0x428a2f98, 0x71374491, 0xb5c0fbcf, 0xe9b5dba5, 0x3956c25b, 0x59f111f1, 0x923f82a4, 0xab1c5ed5, 0xd807aa98, 0x12835b01, 0x243185be, 0x550c7dc3, 0x72be5d74, 0x80deb1fe, 0x9bdc06a7, 0xc19bf174, 0xe49b69c1, 0xefbe4786, 0x0fc19dc6, 0x240ca1cc, 0x2de92c6f, 0x4a7484aa, 0x5cb0a9dc, 0x76f988da, 0x983e5152, 0xa831c66d, 0xb00327c8, 0xbf597fc7, 0xc6e00bf3, 0xd5a79147, 0x06ca6351, 0x14292967, 0x27b70a85, 0x2e1b2138, 0x4d2c6dfc, 0x53380d13, 0x650a7354, 0x766a0abb, 0x81c2c92e, 0x92722c85, 0xa2bfe8a1, 0xa81a664b, 0xc24b8b70, 0xc76c51a3, 0xd192e819, 0xd6990624, 0xf40e3585, 0x106aa070, 0x19a4c116, 0x1e376c08, 0x2748774c, 0x34b0bcb5, 0x391c0cb3, 0x4ed8aa4a, 0x5b9cca4f, 0x682e6ff3, 0x748f82ee, 0x78a5636f, 0x84c87814, 0x8cc70208, 0x90befffa, 0xa4506ceb, 0xbef9a3f7, 0xc67178f2]
theorem kk_nat : kkN = kk.map UInt32.toNat := by decide
/-- 64 rounds -/
def go {β : Type} : List Nat → Nat → Nat → Nat → Nat → Nat → Nat → Nat → Nat → Nat → Nat → Nat → Nat → Nat → Nat → Nat → Nat → Nat → Nat → Nat → Nat → Nat → Nat → Nat → Nat → (Nat → Nat → Nat → Nat → Nat → Nat → Nat → Nat → β) → β
 | [], a, b, c, d, e, f, g, h, _, _, _, _, _, _, _, _, _, _, _, _, _, _, _, _, r => r a b c d e f g h
 | k :: ks, a, b, c, d, e, f, g, h, w0, w1, w2, w3, w4, w5, w6, w7, w8, w9, w10, w11, w12, w13, w14, w15, r =>
  sq (oneN e f g h k w0) fun t => sq ((t + twoN a b c) % 4294967296) fun a' => sq ((d + t) % 4294967296) fun e' => sq ((w0 + s0N w1 + w9 + s1N w14) % 4294967296) fun w16 =>
   go ks a' a b c e' e f g w1 w2 w3 w4 w5 w6 w7 w8 w9 w10 w11 w12 w13 w14 w15 w16 r
def goV {β : Type} (ks : List Nat) (v : Nat → Nat) (w : Nat → Nat) (r : (Nat → Nat → Nat → Nat → Nat → Nat → Nat → Nat → β)) : β :=
 go ks (v 0) (v 1) (v 2) (v 3) (v 4) (v 5) (v 6) (v 7) (w 0) (w 1) (w 2) (w 3) (w 4) (w 5) (w 6) (w 7) (w 8) (w 9) (w 10) (w 11) (w 12) (w 13) (w 14) (w 15) r
theorem go_nil {β : Type} (a b c d e f g h w0 w1 w2 w3 w4 w5 w6 w7 w8 w9 w10 w11 w12 w13 w14 w15 : Nat) (r : Nat → Nat → Nat → Nat → Nat → Nat → Nat → Nat → β) : go [] a b c d e f g h w0 w1 w2 w3 w4 w5 w6 w7 w8 w9 w10 w11 w12 w13 w14 w15 r = r a b c d e f g h := rfl
theorem go_cons {β : Type} (k : Nat) (ks : List Nat) (a b c d e f g h w0 w1 w2 w3 w4 w5 w6 w7 w8 w9 w10 w11 w12 w13 w14 w15 : Nat) (r : Nat → Nat → Nat → Nat → Nat → Nat → Nat → Nat → β) : go (k :: ks) a b c d e f g h w0 w1 w2 w3 w4 w5 w6 w7 w8 w9 w10 w11 w12 w13 w14 w15 r = go ks ((oneN e f g h k w0 + twoN a b c) % 4294967296) a b c ((d + oneN e f g h k w0) % 4294967296) e f g w1 w2 w3 w4 w5 w6 w7 w8 w9 w10 w11 w12 w13 w14 w15 ((w0 + s0N w1 + w9 + s1N w14) % 4294967296) r := by
 rw [go, sq_eq, sq_eq, sq_eq, sq_eq]
theorem rnds_next (h : List UInt32) (b : List Nat) (i : Nat) : rnds h b (i + 1) = rnd (rnds h b i) (kk.getD i 0) (wrd b i) := rfl
theorem go_spec {β : Type} (h : List UInt32) (b : List Nat) (r : Nat → Nat → Nat → Nat → Nat → Nat → Nat → Nat → β) : ∀ n i, i + n = 64 → goV (kkN.drop i) (fun j => ((rnds h b i).getD j 0).toNat) (fun j => (wrd b (i + j)).toNat) r = goV [] (fun j => ((rnds h b 64).getD j 0).toNat) (fun _ => 0) r
 | 0, i, hi => by
  obtain rfl : i = 64 := by omega
  have e : kkN.drop 64 = [] := by decide
  rw [e]
  unfold goV
  rw [go_nil, go_nil]
 | n + 1, i, hi => by
  rw [← go_spec h b r n (i + 1) (by omega)]
  have hl : i < kkN.length := by show i < 64; omega
  rw [List.drop_eq_getElem_cons hl]
  have ek : kkN[i] = (kk.getD i 0).toNat := by
   have h2 : i < kk.length := by show i < 64; omega
   rw [List.getD_eq_getElem?_getD, List.getElem?_eq_getElem h2]
   simp only [kk_nat, List.getElem_map, Option.getD_some]
  rw [ek]
  have e1 := one_nat (rnds h b i) (kk.getD i 0) (wrd b i)
  have e2 := two_nat (rnds h b i)
  have a3 := wrd_nat b i
  unfold goV
  rw [go_cons]
  simp only [rnds_next, Nat.add_zero]
  generalize rnds h b i = v at e1 e2 ⊢
  generalize kk.getD i 0 = kx at e1 ⊢
  simp only [Nat.add_assoc i 1]
  simp only [Nat.reduceAdd]
  rw [← a3, ← e1, ← e2]
  have r0 : (rnd v kx (wrd b i)).getD 0 0 = one v kx (wrd b i) + two v := rfl
  have r1 : (rnd v kx (wrd b i)).getD 1 0 = v.getD 0 0 := rfl
  have r2 : (rnd v kx (wrd b i)).getD 2 0 = v.getD 1 0 := rfl
  have r3 : (rnd v kx (wrd b i)).getD 3 0 = v.getD 2 0 := rfl
  have r4 : (rnd v kx (wrd b i)).getD 4 0 = v.getD 3 0 + one v kx (wrd b i) := rfl
  have r5 : (rnd v kx (wrd b i)).getD 5 0 = v.getD 4 0 := rfl
  have r6 : (rnd v kx (wrd b i)).getD 6 0 = v.getD 5 0 := rfl
  have r7 : (rnd v kx (wrd b i)).getD 7 0 = v.getD 6 0 := rfl
  rw [r0, r1, r2, r3, r4, r5, r6, r7, UInt32.toNat_add, UInt32.toNat_add]
/-- whole lists first, then on -/
noncomputable def fl {β : Type} (l : List Nat) (k : List Nat → β) : β := List.rec (motive := fun _ => (List Nat → β) → β) (fun k => k []) (fun x _ ih k => sq x fun y => ih fun m => k (y :: m)) l k
theorem fl_eq {β : Type} (l : List Nat) : ∀ k : List Nat → β, fl l k = k l := by
 induction l with
 | nil => intro k; rfl
 | cons x l ih =>
  intro k
  show sq x (fun y => fl l fun m => k (y :: m)) = _
  rw [sq_eq, ih]
def wN (l : List Nat) (i : Nat) : Nat := (l.getD (4 * i) 0 * 16777216 + l.getD (4 * i + 1) 0 * 65536 + l.getD (4 * i + 2) 0 * 256 + l.getD (4 * i + 3) 0) % 4294967296
theorem wN_eq (l : List Nat) (i j : Nat) (hj : j < 16) : wN (l.drop (64 * i)) j = (wrd (blk l i) j).toNat := by
 rw [wrd, dif_pos hj]
 unfold wd blk wN
 rw [UInt32.toNat_ofNat']
 have e : ∀ x, x < 64 → ((l.drop (64 * i)).take 64).getD x 0 = (l.drop (64 * i)).getD x 0 := fun x hx => by
  rw [List.getD_eq_getElem?_getD, List.getElem?_take, if_pos hx, List.getD_eq_getElem?_getD]
 rw [e _ (by omega), e _ (by omega), e _ (by omega), e _ (by omega)]
/-- blocks, one by one -/
def feed {β : Type} : Nat → List Nat → Nat → Nat → Nat → Nat → Nat → Nat → Nat → Nat → (Nat → Nat → Nat → Nat → Nat → Nat → Nat → Nat → β) → β
 | 0, _, x0, x1, x2, x3, x4, x5, x6, x7, r => r x0 x1 x2 x3 x4 x5 x6 x7
 | n + 1, l, x0, x1, x2, x3, x4, x5, x6, x7, r => sq (wN l 0) fun w0 => sq (wN l 1) fun w1 => sq (wN l 2) fun w2 => sq (wN l 3) fun w3 => sq (wN l 4) fun w4 => sq (wN l 5) fun w5 => sq (wN l 6) fun w6 => sq (wN l 7) fun w7 => sq (wN l 8) fun w8 => sq (wN l 9) fun w9 => sq (wN l 10) fun w10 => sq (wN l 11) fun w11 => sq (wN l 12) fun w12 => sq (wN l 13) fun w13 => sq (wN l 14) fun w14 => sq (wN l 15) fun w15 => go kkN x0 x1 x2 x3 x4 x5 x6 x7 w0 w1 w2 w3 w4 w5 w6 w7 w8 w9 w10 w11 w12 w13 w14 w15 fun a b c d e f g h => sq ((a + x0) % 4294967296) fun y0 => sq ((b + x1) % 4294967296) fun y1 => sq ((c + x2) % 4294967296) fun y2 => sq ((d + x3) % 4294967296) fun y3 => sq ((e + x4) % 4294967296) fun y4 => sq ((f + x5) % 4294967296) fun y5 => sq ((g + x6) % 4294967296) fun y6 => sq ((h + x7) % 4294967296) fun y7 => feed n (l.drop 64) y0 y1 y2 y3 y4 y5 y6 y7 r
theorem feed_next {β : Type} (n : Nat) (l : List Nat) (x0 x1 x2 x3 x4 x5 x6 x7 : Nat) (r : Nat → Nat → Nat → Nat → Nat → Nat → Nat → Nat → β) : feed (n + 1) l x0 x1 x2 x3 x4 x5 x6 x7 r = go kkN x0 x1 x2 x3 x4 x5 x6 x7 (wN l 0) (wN l 1) (wN l 2) (wN l 3) (wN l 4) (wN l 5) (wN l 6) (wN l 7) (wN l 8) (wN l 9) (wN l 10) (wN l 11) (wN l 12) (wN l 13) (wN l 14) (wN l 15) fun a b c d e f g h => feed n (l.drop 64) ((a + x0) % 4294967296) ((b + x1) % 4294967296) ((c + x2) % 4294967296) ((d + x3) % 4294967296) ((e + x4) % 4294967296) ((f + x5) % 4294967296) ((g + x6) % 4294967296) ((h + x7) % 4294967296) r := by
 rw [feed]
 simp only [sq_eq]
def v8 {β : Type} (h : List UInt32) (r : Nat → Nat → Nat → Nat → Nat → Nat → Nat → Nat → β) : β := r (h.getD 0 0).toNat (h.getD 1 0).toNat (h.getD 2 0).toNat (h.getD 3 0).toNat (h.getD 4 0).toNat (h.getD 5 0).toNat (h.getD 6 0).toNat (h.getD 7 0).toNat
theorem turn_get (h : List UInt32) (b : List Nat) (j : Nat) (hj : j < 8) : (turnS h b).getD j 0 = (rnds h b 64).getD j 0 + h.getD j 0 := by
 unfold turnS
 rw [List.getD_eq_getElem?_getD, List.getElem?_map, List.getElem?_range hj]; rfl
theorem feed_spec {β : Type} (h : List UInt32) (l : List Nat) (r : Nat → Nat → Nat → Nat → Nat → Nat → Nat → Nat → β) : ∀ n i, v8 (compN h l i) (fun x0 x1 x2 x3 x4 x5 x6 x7 => feed n (l.drop (64 * i)) x0 x1 x2 x3 x4 x5 x6 x7 r) = v8 (compN h l (i + n)) r
 | 0, i => rfl
 | n + 1, i => by
  rw [show i + (n + 1) = i + 1 + n by omega, ← feed_spec h l r n (i + 1)]
  have ec : compN h l (i + 1) = turnS (compN h l i) (blk l i) := rfl
  rw [ec]
  generalize compN h l i = m
  unfold v8
  dsimp only
  rw [feed_next]
  have q := go_spec m (blk l i) (fun a b c d e f g h => feed n ((l.drop (64 * i)).drop 64) ((a + (m.getD 0 0).toNat) % 4294967296) ((b + (m.getD 1 0).toNat) % 4294967296) ((c + (m.getD 2 0).toNat) % 4294967296) ((d + (m.getD 3 0).toNat) % 4294967296) ((e + (m.getD 4 0).toNat) % 4294967296) ((f + (m.getD 5 0).toNat) % 4294967296) ((g + (m.getD 6 0).toNat) % 4294967296) ((h + (m.getD 7 0).toNat) % 4294967296) r) 64 0 rfl
  unfold goV at q
  rw [go_nil] at q
  have e0 : rnds m (blk l i) 0 = m := rfl
  simp only [e0, Nat.zero_add, List.drop_zero] at q
  simp only [wN_eq _ _ _ (show 0 < 16 by decide), wN_eq _ _ _ (show 1 < 16 by decide), wN_eq _ _ _ (show 2 < 16 by decide), wN_eq _ _ _ (show 3 < 16 by decide), wN_eq _ _ _ (show 4 < 16 by decide), wN_eq _ _ _ (show 5 < 16 by decide), wN_eq _ _ _ (show 6 < 16 by decide), wN_eq _ _ _ (show 7 < 16 by decide), wN_eq _ _ _ (show 8 < 16 by decide), wN_eq _ _ _ (show 9 < 16 by decide), wN_eq _ _ _ (show 10 < 16 by decide), wN_eq _ _ _ (show 11 < 16 by decide), wN_eq _ _ _ (show 12 < 16 by decide), wN_eq _ _ _ (show 13 < 16 by decide), wN_eq _ _ _ (show 14 < 16 by decide), wN_eq _ _ _ (show 15 < 16 by decide)]
  refine q.trans ?_
  rw [turn_get _ _ 0 (by decide), turn_get _ _ 1 (by decide), turn_get _ _ 2 (by decide), turn_get _ _ 3 (by decide), turn_get _ _ 4 (by decide), turn_get _ _ 5 (by decide), turn_get _ _ 6 (by decide), turn_get _ _ 7 (by decide)]
  simp only [UInt32.toNat_add, List.drop_drop, show 64 * i + 64 = 64 * (i + 1) by omega]
def digN (x0 x1 x2 x3 x4 x5 x6 x7 : Nat) : List Nat := (List.range 32).map fun i => [x0, x1, x2, x3, x4, x5, x6, x7].getD (i / 4) 0 / 2 ^ (24 - 8 * (i % 4)) % 256
noncomputable def chk (t D : List Nat) : Bool := fl (padl (preN 80 [t])) fun l => feed (l.length / 64) l 0x6a09e667 0xbb67ae85 0x3c6ef372 0xa54ff53a 0x510e527f 0x9b05688c 0x1f83d9ab 0x5be0cd19 fun x0 x1 x2 x3 x4 x5 x6 x7 => (digN x0 x1 x2 x3 x4 x5 x6 x7 == D)
theorem chk_ok {t D : List Nat} (h : chk t D = true) : sum9 t = D := by
 unfold chk at h
 rw [fl_eq] at h
 have q := feed_spec h0 (padl (preN 80 [t])) (fun x0 x1 x2 x3 x4 x5 x6 x7 => (digN x0 x1 x2 x3 x4 x5 x6 x7 == D)) ((padl (preN 80 [t])).length / 64) 0
 have q2 : v8 (compN h0 (padl (preN 80 [t])) (0 + (padl (preN 80 [t])).length / 64)) (fun x0 x1 x2 x3 x4 x5 x6 x7 => (digN x0 x1 x2 x3 x4 x5 x6 x7 == D)) = true := q.symm.trans h
 rw [Nat.zero_add] at q2
 unfold sum9 sumW
 generalize compN h0 _ _ = m at q2 ⊢
 unfold v8 at q2
 dsimp only at q2
 have q3 := eq_of_beq q2
 rw [← q3]
 unfold dig digN
 refine List.map_congr_left fun i hi => ?_
 have hi := List.mem_range.1 hi
 have : i / 4 < 8 := by omega
 congr 2
 generalize i / 4 = z at this
 rcases z with _ | _ | _ | _ | _ | _ | _ | _ | z
 all_goals first | rfl | omega
end Go.Proofs.YtedokpgkjcnoiaaGreat.Hk
namespace Go.Proofs.YtedokpgkjcnoiaaGreat
structure Sto where
 L : List (List Nat)
 c : Option (List Nat × List Nat)
deriving Inhabited
def Sto.new : Sto := ⟨[], none⟩
structure StoOk (s : Sto) : Prop where
 b : ∀ t ∈ s.L, Pl.IsB t ∧ t.length ≤ 1000000
 c : ∀ p, s.c = some p → p.1.length ≤ 1000000 ∧ p.2.length ≤ 1000000
def Sto.get (s : Sto) (d : List Nat) : Option (List Nat) := s.L.find? fun t => decide (Pl.sum9 t = d)
def Sto.put (s : Sto) (t : List Nat) : Sto := match s.get (Pl.sum9 t) with
 | none => ⟨s.L ++ [t], s.c⟩
 | some u => if s.c.isSome = true ∨ u = t then s else ⟨s.L, some (u, t)⟩
theorem Sto.get_some {s : Sto} {d t : List Nat} (h : s.get d = some t) : t ∈ s.L ∧ Pl.sum9 t = d := by
 have h1 := List.mem_of_find?_eq_some h
 have h2 := List.find?_some h
 exact ⟨h1, by simpa using h2⟩
theorem Sto.get_none {s : Sto} {d : List Nat} (h : s.get d = none) : ∀ t ∈ s.L, Pl.sum9 t ≠ d := fun t ht => by
 have := List.find?_eq_none.1 h t ht
 simpa using this
theorem StoOk.new : StoOk Sto.new := ⟨fun t h => (by cases h), fun p h => (by cases h)⟩
theorem StoOk.put {s : Sto} (h : StoOk s) {t : List Nat} (hB : Pl.IsB t) (hl : t.length ≤ 1000000) : StoOk (s.put t) := by
 unfold Sto.put
 split
 ·refine ⟨fun u hu => ?_, h.c⟩
  rcases List.mem_append.1 hu with hu | hu
  ·exact h.b u hu
  ·rw [List.mem_singleton.1 hu]; exact ⟨hB, hl⟩
 ·rename_i u hg
  split
  ·exact h
  ·exact ⟨h.b, fun p hp => by cases hp; exact ⟨(h.b _ (Sto.get_some hg).1).2, hl⟩⟩
end Go.Proofs.YtedokpgkjcnoiaaGreat
namespace Go.Proofs.YtedokpgkjcnoiaaGreat.Kd
/-- of unlike ones one is ahead -/
structure Tot {α : Type} (lt : α → α → Bool) (P : α → Prop) : Prop where
 tr : ∀ x y z, P x → P y → P z → lt x y = true → lt y z = true → lt x z = true
 ir : ∀ x, lt x x = false
 tot : ∀ x y, P x → P y → lt x y = false → lt y x = false → x = y
section
variable {α : Type} {lt : α → α → Bool} {P : α → Prop}
def ins1 (lt : α → α → Bool) (x : α) : List α → List α
 | [] => [x]
 | y :: r => if lt y x = true then y :: ins1 lt x r else x :: y :: r
def isort (lt : α → α → Bool) (l : List α) : List α := l.foldl (fun a x => ins1 lt x a) []
theorem ins1_perm (x : α) : ∀ l : List α, (ins1 lt x l).Perm (x :: l)
 | [] => .refl _
 | y :: r => by
  unfold ins1
  split
  ·exact ((ins1_perm x r).cons y).trans (.swap ..)
  ·exact .refl _
theorem fold_perm : ∀ (l a : List α), (l.foldl (fun a x => ins1 lt x a) a).Perm (a ++ l)
 | [], a => by simp
 | x :: l, a => by
  rw [List.foldl_cons]
  refine (fold_perm l _).trans ?_
  refine ((ins1_perm x a).append_right l).trans ?_
  exact List.perm_middle.symm
theorem isort_perm (l : List α) : (isort lt l).Perm l := by unfold isort; simpa using fold_perm (lt := lt) l []
theorem isort_len (l : List α) : (isort lt l).length = l.length := (isort_perm l).length_eq
theorem isort_mem {l : List α} {x : α} : x ∈ isort lt l ↔ x ∈ l := (isort_perm l).mem_iff
def Sd (lt : α → α → Bool) (l : List α) : Prop := l.Pairwise fun a b => lt b a = false
theorem ins1_sd (H : Tot lt P) (x : α) (hx : P x) : ∀ l : List α, (∀ y ∈ l, P y) → Sd lt l → Sd lt (ins1 lt x l)
 | [], _, _ => by unfold ins1 Sd; simp
 | y :: r, hP, h => by
  have hy := hP y (List.mem_cons_self ..)
  have hr : ∀ z ∈ r, P z := fun z hz => hP z (List.mem_cons_of_mem _ hz)
  obtain ⟨h1, h2⟩ := List.pairwise_cons.1 h
  unfold ins1
  split
  ·rename_i e
   refine List.pairwise_cons.2 ⟨fun z hz => ?_, ins1_sd H x hx r hr h2⟩
   rcases List.mem_cons.1 ((ins1_perm x r).mem_iff.1 hz) with rfl | hz
   ·cases q : lt z y with
    | false => rfl
    | true => have := H.tr _ _ _ hy hx hy e q; rw [H.ir] at this; cases this
   ·exact h1 z hz
  ·rename_i e
   have e : lt y x = false := by simpa using e
   refine List.pairwise_cons.2 ⟨fun z hz => ?_, h⟩
   rcases List.mem_cons.1 hz with rfl | hz
   ·exact e
   ·cases q : lt z x with
    | false => rfl
    | true =>
     have h3 := h1 z hz
     cases w : lt x y with
     | true => have := H.tr _ _ _ (hr z hz) hx hy q w; rw [h3] at this; cases this
     | false => have := H.tot x y hx hy w e; subst this; rw [q] at h3; cases h3
theorem fold_sd (H : Tot lt P) : ∀ (l a : List α), (∀ y ∈ a, P y) → (∀ y ∈ l, P y) → Sd lt a → Sd lt (l.foldl (fun a x => ins1 lt x a) a)
 | [], a, _, _, h => h
 | x :: l, a, ha, hl, h => by
  rw [List.foldl_cons]
  have hx := hl x (List.mem_cons_self ..)
  refine fold_sd H l _ (fun y hy => ?_) (fun y hy => hl y (List.mem_cons_of_mem _ hy)) (ins1_sd H x hx a ha h)
  rcases List.mem_cons.1 ((ins1_perm x a).mem_iff.1 hy) with rfl | hy
  ·exact hx
  ·exact ha y hy
theorem isort_sd (H : Tot lt P) {l : List α} (hl : ∀ y ∈ l, P y) : Sd lt (isort lt l) := fold_sd H l [] (fun y h => by cases h) hl (by unfold Sd; simp)
/-- what is sorted is one -/
theorem sd_one (H : Tot lt P) : ∀ (M N : List α), (∀ y ∈ M, P y) → Sd lt M → Sd lt N → M.Perm N → M = N
 | [], N, _, _, _, h => (List.nil_perm.1 h).symm
 | a :: M, [], _, _, _, h => absurd h.length_eq (by simp)
 | a :: M, b :: N, hP, h1, h2, h => by
  obtain ⟨p1, p2⟩ := List.pairwise_cons.1 h1
  obtain ⟨q1, q2⟩ := List.pairwise_cons.1 h2
  have e : a = b := by
   rcases List.mem_cons.1 (h.mem_iff.1 (List.mem_cons_self ..)) with e | e
   ·exact e
   ·rcases List.mem_cons.1 (h.mem_iff.2 (List.mem_cons_self ..)) with e2 | e2
    ·exact e2.symm
    ·exact H.tot a b (hP a (List.mem_cons_self ..)) (hP b (List.mem_cons_of_mem _ e2)) (q1 a e) (p1 b e2)
  subst e
  rw [sd_one H M N (fun y hy => hP y (List.mem_cons_of_mem _ hy)) p2 q2 (h.cons_inv)]
theorem isort_one (H : Tot lt P) {l M : List α} (hl : ∀ y ∈ l, P y) (h : Sd lt M) (hp : M.Perm l) : M = isort lt l :=
 sd_one H M _ (fun y hy => hl y (hp.mem_iff.1 hy)) h (isort_sd H hl) (hp.trans (isort_perm l).symm)
end
/-! ### Rows -/
def lexLt : List Int → List Int → Bool
 | [], [] => false
 | [], _ :: _ => true
 | _ :: _, [] => false
 | x :: p, y :: q => decide (x < y) || (decide (x = y) && lexLt p q)
theorem lexLt_ir : ∀ p, lexLt p p = false
 | [] => rfl
 | x :: p => by simp [lexLt, lexLt_ir p]
theorem lexLt_tr : ∀ p q r : List Int, lexLt p q = true → lexLt q r = true → lexLt p r = true
 | [], q, [], h, k => by cases q <;> simp [lexLt] at h k
 | [], _, _ :: _, _, _ => rfl
 | _ :: _, [], _, h, _ => by simp [lexLt] at h
 | _ :: _, _ :: _, [], _, k => by simp [lexLt] at k
 | x :: p, y :: q, z :: r, h, k => by
  simp only [lexLt, Bool.or_eq_true, Bool.and_eq_true, decide_eq_true_eq] at h k ⊢
  rcases h with h | ⟨rfl, h⟩
  ·rcases k with k | ⟨rfl, k⟩
   ·exact .inl (by omega)
   ·exact .inl h
  ·rcases k with k | ⟨rfl, k⟩
   ·exact .inl k
   ·exact .inr ⟨rfl, lexLt_tr p q r h k⟩
theorem lexLt_tot : ∀ p q : List Int, lexLt p q = false → lexLt q p = false → p = q
 | [], [], _, _ => rfl
 | [], _ :: _, h, _ => by simp [lexLt] at h
 | _ :: _, [], _, k => by simp [lexLt] at k
 | x :: p, y :: q, h, k => by
  simp only [lexLt, Bool.or_eq_false_iff, Bool.and_eq_false_iff, decide_eq_false_iff_not] at h k
  obtain rfl : x = y := by omega
  rw [lexLt_tot p q (by rcases h.2 with h | h; exact absurd rfl h; exact h) (by rcases k.2 with k | k; exact absurd rfl k; exact k)]
theorem lexLt_totl : Tot lexLt (fun _ => True) := ⟨fun x y z _ _ _ => lexLt_tr x y z, lexLt_ir, fun x y _ _ => lexLt_tot x y⟩
def ltAt (at_ : Nat) (p q : List Int) : Bool := decide (p.getD at_ 0 < q.getD at_ 0) || (decide (p.getD at_ 0 = q.getD at_ 0) && lexLt p q)
theorem ltAt_tot (a : Nat) : Tot (ltAt a) (fun _ => True) := by
 refine ⟨fun x y z _ _ _ h k => ?_, fun x => ?_, fun x y _ _ h k => ?_⟩
 ·simp only [ltAt, Bool.or_eq_true, Bool.and_eq_true, decide_eq_true_eq] at h k ⊢
  rcases h with h | ⟨e, h⟩
  ·rcases k with k | ⟨e2, k⟩
   ·exact .inl (by omega)
   ·exact .inl (by omega)
  ·rcases k with k | ⟨e2, k⟩
   ·exact .inl (by omega)
   ·exact .inr ⟨by omega, lexLt_tr x y z h k⟩
 ·simp [ltAt, lexLt_ir]
 ·simp only [ltAt, Bool.or_eq_false_iff, Bool.and_eq_false_iff, decide_eq_false_iff_not] at h k
  refine lexLt_tot x y ?_ ?_
  ·rcases h.2 with q | q
   ·omega
   ·exact q
  ·rcases k.2 with q | q
   ·omega
   ·exact q
/-- as Go's comparing tells it -/
def cmpL (lt : List Int → List Int → Bool) (p q : List Int) : Int := if lt p q = true then -1 else if lt q p = true then 1 else 0
theorem cmpL_neg {lt : List Int → List Int → Bool} {p q : List Int} : cmpL lt p q < 0 ↔ lt p q = true := by
 unfold cmpL; split
 ·simp [*]
 ·split <;> simp [*]
end Go.Proofs.YtedokpgkjcnoiaaGreat.Kd
namespace Go.Proofs.YtedokpgkjcnoiaaGreat.Kd
open Pl
/-! ### Stores -/
structure Le (s s' : Sto) : Prop where
 c : s'.c = none → s.c = none
 g : ∀ d t, s.get d = some t → s'.get d = some t
theorem Le.refl (s : Sto) : Le s s := ⟨id, fun _ _ => id⟩
theorem Le.trans {a b c : Sto} (h : Le a b) (k : Le b c) : Le a c := ⟨fun e => h.c (k.c e), fun d t q => k.g d t (h.g d t q)⟩
theorem get_app {s : Sto} {t d : List Nat} {x : List Nat} {c : Option (List Nat × List Nat)} (h : s.get d = some x) : Sto.get ⟨s.L ++ [t], c⟩ d = some x := by
 unfold Sto.get at h ⊢
 rw [List.find?_append, h]; rfl
theorem get_new {s : Sto} {t d : List Nat} {c : Option (List Nat × List Nat)} (h : s.get d = none) (e : sum9 t = d) : Sto.get ⟨s.L ++ [t], c⟩ d = some t := by
 unfold Sto.get at h ⊢
 rw [List.find?_append, h]
 simp [e]
theorem Le.put (s : Sto) (t : List Nat) : Le s (s.put t) := by
 unfold Sto.put
 split
 ·exact ⟨id, fun d x q => get_app q⟩
 ·split
  ·exact Le.refl s
  ·exact ⟨fun e => (by cases e), fun d x q => q⟩
theorem put_get {s : Sto} {t : List Nat} (h : (s.put t).c = none) : (s.put t).get (sum9 t) = some t := by
 unfold Sto.put at h ⊢
 split
 ·exact get_new ‹_› rfl
 ·rename_i u hu
  rw [hu] at h
  dsimp only at h
  split
  ·rename_i q
   rw [if_pos q] at h
   rcases q with q | q
   ·rw [h] at q; cases q
   ·rw [← q]; subst q; exact hu
  ·rename_i q
   rw [if_neg q] at h
   cases h
/-! ### Nodes -/
def nPut (s : Sto) (n : NodeD) (d : Int) : Sto × KidD × Int := if nodeR n d = true ∧ (sayN n).size ≤ 1048576 then (s.put (nodeB n), sayN n, 0) else (s, kidZ, 1)
def nGet (s : Sto) (k : KidD) (d : Int) : Option NodeD := match s.get k.sum with
 | none => none
 | some b => match readN d b with
  | none => none
  | some n => if (sayN n).size ≤ 1048576 ∧ sayN n = k then some n else none
theorem Le.nPut (s : Sto) (n : NodeD) (d : Int) : Le s (nPut s n d).1 := by
 unfold Kd.nPut
 split
 ·exact Le.put _ _
 ·exact Le.refl _
theorem nGet_of {s : Sto} {n : NodeD} {d : Int} (hn : NodeOk n) (hr : nodeR n d = true) (hz : (sayN n).size ≤ 1048576) (h : s.get (sum9 (nodeB n)) = some (nodeB n)) : nGet s (sayN n) d = some n := by
 unfold nGet
 rw [show (sayN n).sum = sum9 (nodeB n) from rfl, h]
 dsimp only
 rw [readN_app hn hr]
 dsimp only
 rw [if_pos ⟨hz, rfl⟩]
theorem nGet_facts {s : Sto} (hs : StoOk s) {k : KidD} {d : Int} {n : NodeD} (q : nGet s k d = some n) : nodeR n d = true ∧ NodeOk n ∧ sayN n = k ∧ (sayN n).size ≤ 1048576 ∧ s.get k.sum = some (nodeB n) := by
 unfold nGet at q
 cases e : s.get k.sum with
 | none => rw [e] at q; cases q
 | some b =>
  rw [e] at q
  dsimp only at q
  cases r : readN d b with
  | none => rw [r] at q; cases q
  | some m =>
   rw [r] at q
   dsimp only at q
   split at q
   ·rename_i h
    cases q
    have hb := (hs.b _ (Sto.get_some e).1).1
    obtain ⟨z1, z2, z3⟩ := readN_inv hb r
    exact ⟨z2, z3, h.2, h.1, by rw [z1]⟩
   ·cases q
theorem StoOk.nPut {s : Sto} (hs : StoOk s) {n : NodeD} {d : Int} (hn : NodeOk n) : StoOk (nPut s n d).1 := by
 unfold Kd.nPut
 split
 ·rename_i h
  obtain ⟨D, _, hrt⟩ := nodeR_rt h.1
  exact hs.put (nodeB_isB hrt hn) (by have := nodeB_len hrt hn; omega)
 ·exact hs
/-! ### What a node says -/
theorem sayR_le (n : NodeD) : ∀ i, i ≤ n.rows.length → 0 ≤ (sayR n i).live ∧ (sayR n i).live ≤ i ∧ (sayR n i).size = n.rows.length
 | 0, _ => by simp [sayR]
 | i + 1, hi => by
  have ih := sayR_le n i (by omega)
  rw [sayR_one n i (by omega)]
  unfold sayE
  split
  ·dsimp only; omega
  ·omega
theorem sayA_le {n : NodeD} {d : Nat} (h : NodeRt n d) : ∀ j, j ≤ n.kids.length → 0 ≤ (sayA n j).live ∧ (sayA n j).live ≤ (sayA n j).size ∧ (n.rows.length : Int) ≤ (sayA n j).size ∧ ∀ i, i < j → (n.kids.getD i default).size + n.rows.length ≤ (sayA n j).size
 | 0, _ => by
  have := sayR_le n n.rows.length (Nat.le_refl _)
  refine ⟨this.1, ?_, ?_, fun i hi => by omega⟩
  ·show (sayR n _).live ≤ (sayR n _).size; omega
  ·show _ ≤ (sayR n _).size; omega
 | j + 1, hj => by
  have ih := sayA_le h j (by omega)
  rw [sayA_one n j (by omega)]
  have hk := kidR_box (h.kid j (by omega))
  have hl : (n.kids.getD j default).live ≤ (n.kids.getD j default).size := by
   have q := h.kid j (by omega)
   unfold kidR at q
   simp only [Bool.or_eq_true, Bool.and_eq_true, decide_eq_true_eq] at q
   rcases q with q | q
   ·rw [q]; simp [kidZ]
   ·exact q.2.2.2.1
  unfold sayK
  dsimp only
  refine ⟨by omega, by omega, by omega, fun i hi => ?_⟩
  rcases Nat.lt_or_ge i j with q | q
  ·have := ih.2.2.2 i q; omega
  ·obtain rfl : i = j := by omega
   omega
theorem kid_size {k : KidD} {d : Int} (h : kidR k d = true) (e : k ≠ kidZ) : 1 ≤ k.size := by
 unfold kidR at h
 simp only [Bool.or_eq_true, Bool.and_eq_true, decide_eq_true_eq] at h
 rcases h with h | h
 ·exact absurd h e
 ·exact h.1
/-- a right node has something -/
theorem say_size {n : NodeD} {d : Int} (h : nodeR n d = true) : 1 ≤ (sayN n).size := by
 obtain ⟨D, rfl, hrt⟩ := nodeR_rt h
 have hA := sayA_le hrt n.kids.length (Nat.le_refl _)
 show 1 ≤ (sayA n n.kids.length).size
 unfold nodeR at h
 simp only [Bool.and_eq_true, decide_eq_true_eq, List.all_eq_true] at h
 obtain ⟨_, _, _, hk, h5⟩ := h
 unfold kindR at h5
 split at h5
 ·simp only [Bool.and_eq_true, decide_eq_true_eq] at h5; omega
 ·split at h5
  ·simp only [Bool.and_eq_true, decide_eq_true_eq] at h5; omega
  ·simp only [Bool.and_eq_true, decide_eq_true_eq, List.all_eq_true, Bool.not_eq_true', decide_eq_false_iff_not] at h5
   have h0 : 0 < n.kids.length := by omega
   have h1 := kid_size (hk _ (getD_mem' h0)) (h5.2.2.2.2 _ (getD_mem' h0)).2
   have := hA.2.2.2 0 h0
   omega
theorem say_kidR {n : NodeD} {d : Int} (h : nodeR n d = true) (hn : NodeOk n) (hz : (sayN n).size ≤ 1048576) : kidR (sayN n) d = true ∧ sayN n ≠ kidZ ∧ 1 ≤ (sayN n).size := by
 have h1 := say_size h
 obtain ⟨D, rfl, hrt⟩ := nodeR_rt h
 have hA := sayA_le hrt n.kids.length (Nat.le_refl _)
 refine ⟨?_, fun e => ?_, h1⟩
 ·unfold kidR
  simp only [Bool.or_eq_true, Bool.and_eq_true, decide_eq_true_eq]
  refine .inr ⟨h1, hz, hA.1, hA.2.1, ?_⟩
  split
  ·rename_i e
   have := say_none hrt hn e
   simp [this.1, this.2]
  ·rename_i e
   exact say_box hrt hn e
 ·rw [e] at h1; simp [kidZ] at h1
end Go.Proofs.YtedokpgkjcnoiaaGreat.Kd
namespace Go.Proofs.YtedokpgkjcnoiaaGreat.Kd
open Pl
abbrev Rw := List Int
inductive TreeD where
 | nil
 | node (row : Rw) (live : Bool) (l r : TreeD)
deriving Inhabited
def TreeD.size : TreeD → Nat
 | .nil => 0
 | .node _ _ l r => 1 + l.size + r.size
def TreeD.all : TreeD → List Rw
 | .nil => []
 | .node p v l r => l.all ++ r.all ++ (if v = true then [p] else [])
/-- all rows, dead ones too -/
def TreeD.rows : TreeD → List Rw
 | .nil => []
 | .node p _ l r => l.rows ++ r.rows ++ [p]
def TreeD.height : TreeD → Nat
 | .nil => 0
 | .node _ _ l r => 1 + max l.height r.height
theorem size_node {p : Rw} {v : Bool} {l r : TreeD} : (TreeD.node p v l r).size = 1 + l.size + r.size := rfl
def RwOk (d : Nat) (p : Rw) : Prop := p.length = d ∧ IsI p
def okT (d : Nat) (t : TreeD) : Prop := ∀ p ∈ t.rows, RwOk d p
theorem okT_node {d : Nat} {p : Rw} {v : Bool} {l r : TreeD} : okT d (.node p v l r) ↔ RwOk d p ∧ okT d l ∧ okT d r := by
 unfold okT
 simp only [TreeD.rows, List.mem_append, List.mem_singleton]
 constructor
 ·intro h; exact ⟨h p (.inr rfl), fun q hq => h q (.inl (.inl hq)), fun q hq => h q (.inl (.inr hq))⟩
 ·rintro ⟨h1, h2, h3⟩ q ((hq | hq) | rfl)
  ·exact h2 q hq
  ·exact h3 q hq
  ·exact h1
theorem okT_nil (d : Nat) : okT d .nil := fun p h => by cases h
/-- rows laid at a depth -/
def layT (d : Nat) : Nat → List Rw → Nat → TreeD
 | 0, _, _ => .nil
 | f + 1, l, dep => if l = [] then .nil else
  .node ((isort (ltAt (dep % d)) l).getD (l.length / 2) []) true (layT d f ((isort (ltAt (dep % d)) l).take (l.length / 2)) (dep + 1)) (layT d f ((isort (ltAt (dep % d)) l).drop (l.length / 2 + 1)) (dep + 1))
def lightT (d : Nat) (t : TreeD) (dep : Nat) : TreeD := match t with
 | .nil => .nil
 | .node p v l r => if max l.size r.size > 2 * (TreeD.node p v l r).size / 3 + 1 then layT d (TreeD.node p v l r).all.length (TreeD.node p v l r).all dep else .node p v l r
def insT (d : Nat) : TreeD → Rw → Nat → TreeD × Bool
 | .nil, p, _ => (.node p true .nil .nil, true)
 | .node q v l r, p, dep => if q = p then (lightT d (.node q true l r) dep, !v)
  else if ltAt (dep % d) p q = true then (lightT d (.node q v (insT d l p (dep + 1)).1 r) dep, (insT d l p (dep + 1)).2)
  else (lightT d (.node q v l (insT d r p (dep + 1)).1) dep, (insT d r p (dep + 1)).2)
def remT (d : Nat) : TreeD → Rw → Nat → TreeD × Bool
 | .nil, _, _ => (.nil, false)
 | .node q v l r, p, dep => if q = p then (.node q false l r, v)
  else if ltAt (dep % d) p q = true then (.node q v (remT d l p (dep + 1)).1 r, (remT d l p (dep + 1)).2)
  else (.node q v l (remT d r p (dep + 1)).1, (remT d r p (dep + 1)).2)
def delT (d : Nat) (t : TreeD) (p : Rw) : TreeD × Bool :=
 if (remT d t p 0).2 = true ∧ 2 * (remT d t p 0).1.all.length < (remT d t p 0).1.size then (layT d (remT d t p 0).1.all.length (remT d t p 0).1.all 0, (remT d t p 0).2) else remT d t p 0
def hasT (d : Nat) : TreeD → Rw → Nat → Bool
 | .nil, _, _ => false
 | .node q v l r, p, dep => if q = p then v else if ltAt (dep % d) p q = true then hasT d l p (dep + 1) else hasT d r p (dep + 1)
/-! ### Laid trees -/
end Go.Proofs.YtedokpgkjcnoiaaGreat.Kd
