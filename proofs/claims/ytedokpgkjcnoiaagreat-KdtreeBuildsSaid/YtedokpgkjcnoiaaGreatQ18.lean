/- Plain: SHA-256 of what is written down, reckoned by the kernel. No program in sight. -/
import Derived.Test.YtedokpgkjcnoiaaGreatQ17
set_option linter.unusedVariables false
set_option linter.unusedSimpArgs false
namespace Go.Proofs.YtedokpgkjcnoiaaGreat.Hk
open Pl
/-- x first, then on -/
def sq {β : Type} (x : Nat) (k : Nat → β) : β := Nat.rec (k 0) (fun n _ => k (Nat.succ n)) x
theorem sq_eq {β : Type} (x : Nat) (k : Nat → β) : sq x k = k x := by cases x <;> rfl
def rotN (x n : Nat) : Nat := Nat.lor (x / 2 ^ n) (x * 2 ^ (32 - n) % 4294967296)
def s0N (x : Nat) : Nat := Nat.xor (Nat.xor (rotN x 7) (rotN x 18)) (x / 2 ^ 3)
def s1N (x : Nat) : Nat := Nat.xor (Nat.xor (rotN x 17) (rotN x 19)) (x / 2 ^ 10)
def oneN (e f g h k w : Nat) : Nat := (h + Nat.xor (Nat.xor (rotN e 6) (rotN e 11)) (rotN e 25) + Nat.xor (Nat.land e f) (Nat.land (4294967295 - e) g) + k + w) % 4294967296
def twoN (a b c : Nat) : Nat := (Nat.xor (Nat.xor (rotN a 2) (rotN a 13)) (rotN a 22) + Nat.xor (Nat.xor (Nat.land a b) (Nat.land a c)) (Nat.land b c)) % 4294967296
theorem shr_nat (x : UInt32) (n : Nat) : (shr x n).toNat = x.toNat / 2 ^ n := by
 unfold shr
 rw [UInt32.toNat_ofNat']
 exact Nat.mod_eq_of_lt (Nat.lt_of_le_of_lt (Nat.div_le_self _ _) x.toNat_lt)
theorem shl_nat (x : UInt32) (n : Nat) : (shl x n).toNat = x.toNat * 2 ^ n % 4294967296 := by
 unfold shl
 rw [UInt32.toNat_ofNat']
theorem rot_nat (x : UInt32) (n : Nat) : (rotr x n).toNat = rotN x.toNat n := by
 unfold rotr rotN
 rw [UInt32.toNat_or, shr_nat, shl_nat]; rfl
theorem s0_nat (x : UInt32) : (s0 x).toNat = s0N x.toNat := by
 unfold s0 s0N
 rw [UInt32.toNat_xor, UInt32.toNat_xor, rot_nat, rot_nat, shr_nat]; rfl
theorem s1_nat (x : UInt32) : (s1 x).toNat = s1N x.toNat := by
 unfold s1 s1N
 rw [UInt32.toNat_xor, UInt32.toNat_xor, rot_nat, rot_nat, shr_nat]; rfl
theorem one_nat (v : List UInt32) (k w : UInt32) : (one v k w).toNat = oneN (v.getD 4 0).toNat (v.getD 5 0).toNat (v.getD 6 0).toNat (v.getD 7 0).toNat k.toNat w.toNat := by
 unfold one oneN
 simp only [UInt32.toNat_add, UInt32.toNat_xor, UInt32.toNat_and, UInt32.toNat_not, rot_nat]
 show ((((_ + Nat.xor (Nat.xor _ _) _) % 4294967296 + Nat.xor (Nat.land _ _) (Nat.land (4294967296 - 1 - _) _)) % 4294967296 + _) % 4294967296 + _) % 4294967296 = _
 rw [show 4294967296 - 1 - (v.getD 4 0).toNat = 4294967295 - (v.getD 4 0).toNat by omega]
 generalize Nat.xor (Nat.xor _ _) _ = A
 generalize Nat.xor (Nat.land _ _) _ = B
 omega
theorem two_nat (v : List UInt32) : (two v).toNat = twoN (v.getD 0 0).toNat (v.getD 1 0).toNat (v.getD 2 0).toNat := by
 unfold two twoN
 simp only [UInt32.toNat_add, UInt32.toNat_xor, UInt32.toNat_and, rot_nat]
 rfl
theorem wrd_nat (b : List Nat) (i : Nat) : (wrd b (i + 16)).toNat = ((wrd b i).toNat + s0N (wrd b (i + 1)).toNat + (wrd b (i + 9)).toNat + s1N (wrd b (i + 14)).toNat) % 4294967296 := by
 rw [wrd, dif_neg (by omega), show i + 16 - 16 = i by omega, show i + 16 - 15 = i + 1 by omega, show i + 16 - 7 = i + 9 by omega, show i + 16 - 2 = i + 14 by omega]
 simp only [UInt32.toNat_add, s0_nat, s1_nat]
 generalize s0N _ = A
 generalize s1N _ = B
 show (((_ + A) % 4294967296 + _) % 4294967296 + B) % 4294967296 = _
 omega
def kkN : List Nat := [0x428a2f98, 0x71374491, 0xb5c0fbcf, 0xe9b5dba5, 0x3956c25b, 0x59f111f1, 0x923f82a4, 0xab1c5ed5, 0xd807aa98, 0x12835b01, 0x243185be, 0x550c7dc3, 0x72be5d74, 0x80deb1fe, 0x9bdc06a7, 0xc19bf174, 0xe49b69c1, 0xefbe4786, 0x0fc19dc6, 0x240ca1cc, 0x2de92c6f, 0x4a7484aa, 0x5cb0a9dc, 0x76f988da, 0x983e5152, 0xa831c66d, 0xb00327c8, 0xbf597fc7, 0xc6e00bf3, 0xd5a79147, 0x06ca6351, 0x14292967, 0x27b70a85, 0x2e1b2138, 0x4d2c6dfc, 0x53380d13, 0x650a7354, 0x766a0abb, 0x81c2c92e, 0x92722c85, 0xa2bfe8a1, 0xa81a664b, 0xc24b8b70, 0xc76c51a3, 0xd192e819, 0xd6990624, 0xf40e3585, 0x106aa070, 0x19a4c116, 0x1e376c08, 0x2748774c, 0x34b0bcb5, 0x391c0cb3, 0x4ed8aa4a, 0x5b9cca4f, 0x682e6ff3, 0x748f82ee, 0x78a5636f, 0x84c87814, 0x8cc70208, 0x90befffa, 0xa4506ceb, 0xbef9a3f7, 0xc67178f2]
theorem kk_nat : kkN = kk.map UInt32.toNat := by decide
/-- 64 rounds -/
def go {β : Type} : List Nat → Nat → Nat → Nat → Nat → Nat → Nat → Nat → Nat → Nat → Nat → Nat → Nat → Nat → Nat → Nat → Nat → Nat → Nat → Nat → Nat → Nat → Nat → Nat → Nat → (Nat → Nat → Nat → Nat → Nat → Nat → Nat → Nat → β) → β
 | [], a, b, c, d, e, f, g, h, _, _, _, _, _, _, _, _, _, _, _, _, _, _, _, _, r => r a b c d e f g h
 | k :: ks, a, b, c, d, e, f, g, h, w0, w1, w2, w3, w4, w5, w6, w7, w8, w9, w10, w11, w12, w13, w14, w15, r =>
  sq (oneN e f g h k w0) fun t => sq ((t + twoN a b c) % 4294967296) fun a' => sq ((d + t) % 4294967296) fun e' => sq ((w0 + s0N w1 + w9 + s1N w14) % 4294967296) fun w16 =>
   go ks a' a b c e' e f g w1 w2 w3 w4 w5 w6 w7 w8 w9 w10 w11 w12 w13 w14 w15 w16 r
def goV {β : Type} (ks : List Nat) (v : Nat → Nat) (w : Nat → Nat) (r : (Nat → Nat → Nat → Nat → Nat → Nat → Nat → Nat → β)) : β :=
 go ks (v 0) (v 1) (v 2) (v 3) (v 4) (v 5) (v 6) (v 7) (w 0) (w 1) (w 2) (w 3) (w 4) (w 5) (w 6) (w 7) (w 8) (w 9) (w 10) (w 11) (w 12) (w 13) (w 14) (w 15) r
theorem go_nil {β : Type} (a b c d e f g h w0 w1 w2 w3 w4 w5 w6 w7 w8 w9 w10 w11 w12 w13 w14 w15 : Nat) (r : Nat → Nat → Nat → Nat → Nat → Nat → Nat → Nat → β) : go [] a b c d e f g h w0 w1 w2 w3 w4 w5 w6 w7 w8 w9 w10 w11 w12 w13 w14 w15 r = r a b c d e f g h := rfl
theorem go_cons {β : Type} (k : Nat) (ks : List Nat) (a b c d e f g h w0 w1 w2 w3 w4 w5 w6 w7 w8 w9 w10 w11 w12 w13 w14 w15 : Nat) (r : Nat → Nat → Nat → Nat → Nat → Nat → Nat → Nat → β) : go (k :: ks) a b c d e f g h w0 w1 w2 w3 w4 w5 w6 w7 w8 w9 w10 w11 w12 w13 w14 w15 r = go ks ((oneN e f g h k w0 + twoN a b c) % 4294967296) a b c ((d + oneN e f g h k w0) % 4294967296) e f g w1 w2 w3 w4 w5 w6 w7 w8 w9 w10 w11 w12 w13 w14 w15 ((w0 + s0N w1 + w9 + s1N w14) % 4294967296) r := by
 rw [go, sq_eq, sq_eq, sq_eq, sq_eq]
theorem rnds_next (h : List UInt32) (b : List Nat) (i : Nat) : rnds h b (i + 1) = rnd (rnds h b i) (kk.getD i 0) (wrd b i) := rfl
theorem go_spec {β : Type} (h : List UInt32) (b : List Nat) (r : Nat → Nat → Nat → Nat → Nat → Nat → Nat → Nat → β) : ∀ n i, i + n = 64 → goV (kkN.drop i) (fun j => ((rnds h b i).getD j 0).toNat) (fun j => (wrd b (i + j)).toNat) r = goV [] (fun j => ((rnds h b 64).getD j 0).toNat) (fun _ => 0) r
 | 0, i, hi => by
  obtain rfl : i = 64 := by omega
  have e : kkN.drop 64 = [] := by decide
  rw [e]
  unfold goV
  rw [go_nil, go_nil]
 | n + 1, i, hi => by
  rw [← go_spec h b r n (i + 1) (by omega)]
  have hl : i < kkN.length := by show i < 64; omega
  rw [List.drop_eq_getElem_cons hl]
  have ek : kkN[i] = (kk.getD i 0).toNat := by
   have h2 : i < kk.length := by show i < 64; omega
   rw [List.getD_eq_getElem?_getD, List.getElem?_eq_getElem h2]
   simp only [kk_nat, List.getElem_map, Option.getD_some]
  rw [ek]
  have e1 := one_nat (rnds h b i) (kk.getD i 0) (wrd b i)
  have e2 := two_nat (rnds h b i)
  have a3 := wrd_nat b i
  unfold goV
  rw [go_cons]
  simp only [rnds_next, Nat.add_zero]
  generalize rnds h b i = v at e1 e2 ⊢
  generalize kk.getD i 0 = kx at e1 ⊢
  simp only [Nat.add_assoc i 1]
  simp only [Nat.reduceAdd]
  rw [← a3, ← e1, ← e2]
  have r0 : (rnd v kx (wrd b i)).getD 0 0 = one v kx (wrd b i) + two v := rfl
  have r1 : (rnd v kx (wrd b i)).getD 1 0 = v.getD 0 0 := rfl
  have r2 : (rnd v kx (wrd b i)).getD 2 0 = v.getD 1 0 := rfl
  have r3 : (rnd v kx (wrd b i)).getD 3 0 = v.getD 2 0 := rfl
  have r4 : (rnd v kx (wrd b i)).getD 4 0 = v.getD 3 0 + one v kx (wrd b i) := rfl
  have r5 : (rnd v kx (wrd b i)).getD 5 0 = v.getD 4 0 := rfl
  have r6 : (rnd v kx (wrd b i)).getD 6 0 = v.getD 5 0 := rfl
  have r7 : (rnd v kx (wrd b i)).getD 7 0 = v.getD 6 0 := rfl
  rw [r0, r1, r2, r3, r4, r5, r6, r7, UInt32.toNat_add, UInt32.toNat_add]
/-- whole lists first, then on -/
noncomputable def fl {β : Type} (l : List Nat) (k : List Nat → β) : β := List.rec (motive := fun _ => (List Nat → β) → β) (fun k => k []) (fun x _ ih k => sq x fun y => ih fun m => k (y :: m)) l k
theorem fl_eq {β : Type} (l : List Nat) : ∀ k : List Nat → β, fl l k = k l := by
 induction l with
 | nil => intro k; rfl
 | cons x l ih =>
  intro k
  show sq x (fun y => fl l fun m => k (y :: m)) = _
  rw [sq_eq, ih]
def wN (l : List Nat) (i : Nat) : Nat := (l.getD (4 * i) 0 * 16777216 + l.getD (4 * i + 1) 0 * 65536 + l.getD (4 * i + 2) 0 * 256 + l.getD (4 * i + 3) 0) % 4294967296
theorem wN_eq (l : List Nat) (i j : Nat) (hj : j < 16) : wN (l.drop (64 * i)) j = (wrd (blk l i) j).toNat := by
 rw [wrd, dif_pos hj]
 unfold wd blk wN
 rw [UInt32.toNat_ofNat']
 have e : ∀ x, x < 64 → ((l.drop (64 * i)).take 64).getD x 0 = (l.drop (64 * i)).getD x 0 := fun x hx => by
  rw [List.getD_eq_getElem?_getD, List.getElem?_take, if_pos hx, List.getD_eq_getElem?_getD]
 rw [e _ (by omega), e _ (by omega), e _ (by omega), e _ (by omega)]
/-- blocks, one by one -/
def feed {β : Type} : Nat → List Nat → Nat → Nat → Nat → Nat → Nat → Nat → Nat → Nat → (Nat → Nat → Nat → Nat → Nat → Nat → Nat → Nat → β) → β
 | 0, _, x0, x1, x2, x3, x4, x5, x6, x7, r => r x0 x1 x2 x3 x4 x5 x6 x7
 | n + 1, l, x0, x1, x2, x3, x4, x5, x6, x7, r => sq (wN l 0) fun w0 => sq (wN l 1) fun w1 => sq (wN l 2) fun w2 => sq (wN l 3) fun w3 => sq (wN l 4) fun w4 => sq (wN l 5) fun w5 => sq (wN l 6) fun w6 => sq (wN l 7) fun w7 => sq (wN l 8) fun w8 => sq (wN l 9) fun w9 => sq (wN l 10) fun w10 => sq (wN l 11) fun w11 => sq (wN l 12) fun w12 => sq (wN l 13) fun w13 => sq (wN l 14) fun w14 => sq (wN l 15) fun w15 => go kkN x0 x1 x2 x3 x4 x5 x6 x7 w0 w1 w2 w3 w4 w5 w6 w7 w8 w9 w10 w11 w12 w13 w14 w15 fun a b c d e f g h => sq ((a + x0) % 4294967296) fun y0 => sq ((b + x1) % 4294967296) fun y1 => sq ((c + x2) % 4294967296) fun y2 => sq ((d + x3) % 4294967296) fun y3 => sq ((e + x4) % 4294967296) fun y4 => sq ((f + x5) % 4294967296) fun y5 => sq ((g + x6) % 4294967296) fun y6 => sq ((h + x7) % 4294967296) fun y7 => feed n (l.drop 64) y0 y1 y2 y3 y4 y5 y6 y7 r
theorem feed_next {β : Type} (n : Nat) (l : List Nat) (x0 x1 x2 x3 x4 x5 x6 x7 : Nat) (r : Nat → Nat → Nat → Nat → Nat → Nat → Nat → Nat → β) : feed (n + 1) l x0 x1 x2 x3 x4 x5 x6 x7 r = go kkN x0 x1 x2 x3 x4 x5 x6 x7 (wN l 0) (wN l 1) (wN l 2) (wN l 3) (wN l 4) (wN l 5) (wN l 6) (wN l 7) (wN l 8) (wN l 9) (wN l 10) (wN l 11) (wN l 12) (wN l 13) (wN l 14) (wN l 15) fun a b c d e f g h => feed n (l.drop 64) ((a + x0) % 4294967296) ((b + x1) % 4294967296) ((c + x2) % 4294967296) ((d + x3) % 4294967296) ((e + x4) % 4294967296) ((f + x5) % 4294967296) ((g + x6) % 4294967296) ((h + x7) % 4294967296) r := by
 rw [feed]
 simp only [sq_eq]
def v8 {β : Type} (h : List UInt32) (r : Nat → Nat → Nat → Nat → Nat → Nat → Nat → Nat → β) : β := r (h.getD 0 0).toNat (h.getD 1 0).toNat (h.getD 2 0).toNat (h.getD 3 0).toNat (h.getD 4 0).toNat (h.getD 5 0).toNat (h.getD 6 0).toNat (h.getD 7 0).toNat
theorem turn_get (h : List UInt32) (b : List Nat) (j : Nat) (hj : j < 8) : (turnS h b).getD j 0 = (rnds h b 64).getD j 0 + h.getD j 0 := by
 unfold turnS
 rw [List.getD_eq_getElem?_getD, List.getElem?_map, List.getElem?_range hj]; rfl
theorem feed_spec {β : Type} (h : List UInt32) (l : List Nat) (r : Nat → Nat → Nat → Nat → Nat → Nat → Nat → Nat → β) : ∀ n i, v8 (compN h l i) (fun x0 x1 x2 x3 x4 x5 x6 x7 => feed n (l.drop (64 * i)) x0 x1 x2 x3 x4 x5 x6 x7 r) = v8 (compN h l (i + n)) r
 | 0, i => rfl
 | n + 1, i => by
  rw [show i + (n + 1) = i + 1 + n by omega, ← feed_spec h l r n (i + 1)]
  have ec : compN h l (i + 1) = turnS (compN h l i) (blk l i) := rfl
  rw [ec]
  generalize compN h l i = m
  unfold v8
  dsimp only
  rw [feed_next]
  have q := go_spec m (blk l i) (fun a b c d e f g h => feed n ((l.drop (64 * i)).drop 64) ((a + (m.getD 0 0).toNat) % 4294967296) ((b + (m.getD 1 0).toNat) % 4294967296) ((c + (m.getD 2 0).toNat) % 4294967296) ((d + (m.getD 3 0).toNat) % 4294967296) ((e + (m.getD 4 0).toNat) % 4294967296) ((f + (m.getD 5 0).toNat) % 4294967296) ((g + (m.getD 6 0).toNat) % 4294967296) ((h + (m.getD 7 0).toNat) % 4294967296) r) 64 0 rfl
  unfold goV at q
  rw [go_nil] at q
  have e0 : rnds m (blk l i) 0 = m := rfl
  simp only [e0, Nat.zero_add, List.drop_zero] at q
  simp only [wN_eq _ _ _ (show 0 < 16 by decide), wN_eq _ _ _ (show 1 < 16 by decide), wN_eq _ _ _ (show 2 < 16 by decide), wN_eq _ _ _ (show 3 < 16 by decide), wN_eq _ _ _ (show 4 < 16 by decide), wN_eq _ _ _ (show 5 < 16 by decide), wN_eq _ _ _ (show 6 < 16 by decide), wN_eq _ _ _ (show 7 < 16 by decide), wN_eq _ _ _ (show 8 < 16 by decide), wN_eq _ _ _ (show 9 < 16 by decide), wN_eq _ _ _ (show 10 < 16 by decide), wN_eq _ _ _ (show 11 < 16 by decide), wN_eq _ _ _ (show 12 < 16 by decide), wN_eq _ _ _ (show 13 < 16 by decide), wN_eq _ _ _ (show 14 < 16 by decide), wN_eq _ _ _ (show 15 < 16 by decide)]
  refine q.trans ?_
  rw [turn_get _ _ 0 (by decide), turn_get _ _ 1 (by decide), turn_get _ _ 2 (by decide), turn_get _ _ 3 (by decide), turn_get _ _ 4 (by decide), turn_get _ _ 5 (by decide), turn_get _ _ 6 (by decide), turn_get _ _ 7 (by decide)]
  simp only [UInt32.toNat_add, List.drop_drop, show 64 * i + 64 = 64 * (i + 1) by omega]
def digN (x0 x1 x2 x3 x4 x5 x6 x7 : Nat) : List Nat := (List.range 32).map fun i => [x0, x1, x2, x3, x4, x5, x6, x7].getD (i / 4) 0 / 2 ^ (24 - 8 * (i % 4)) % 256
noncomputable def chk (t D : List Nat) : Bool := fl (padl (preN 80 [t])) fun l => feed (l.length / 64) l 0x6a09e667 0xbb67ae85 0x3c6ef372 0xa54ff53a 0x510e527f 0x9b05688c 0x1f83d9ab 0x5be0cd19 fun x0 x1 x2 x3 x4 x5 x6 x7 => (digN x0 x1 x2 x3 x4 x5 x6 x7 == D)
theorem chk_ok {t D : List Nat} (h : chk t D = true) : sum9 t = D := by
 unfold chk at h
 rw [fl_eq] at h
 have q := feed_spec h0 (padl (preN 80 [t])) (fun x0 x1 x2 x3 x4 x5 x6 x7 => (digN x0 x1 x2 x3 x4 x5 x6 x7 == D)) ((padl (preN 80 [t])).length / 64) 0
 have q2 : v8 (compN h0 (padl (preN 80 [t])) (0 + (padl (preN 80 [t])).length / 64)) (fun x0 x1 x2 x3 x4 x5 x6 x7 => (digN x0 x1 x2 x3 x4 x5 x6 x7 == D)) = true := q.symm.trans h
 rw [Nat.zero_add] at q2
 unfold sum9 sumW
 generalize compN h0 _ _ = m at q2 ⊢
 unfold v8 at q2
 dsimp only at q2
 have q3 := eq_of_beq q2
 rw [← q3]
 unfold dig digN
 refine List.map_congr_left fun i hi => ?_
 have hi := List.mem_range.1 hi
 have : i / 4 < 8 := by omega
 congr 2
 generalize i / 4 = z at this
 rcases z with _ | _ | _ | _ | _ | _ | _ | _ | z
 all_goals first | rfl | omega
end Go.Proofs.YtedokpgkjcnoiaaGreat.Hk
