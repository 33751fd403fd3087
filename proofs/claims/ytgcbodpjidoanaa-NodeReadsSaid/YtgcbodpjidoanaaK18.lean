/- Contract of codec.Reader's Row. Names, changes, their bytes, and how they are read: plain. -/
import Derived.Test.YtgcbodpjidoanaaK17
set_option linter.unusedVariables false
set_option linter.unusedSimpArgs false
namespace Go.Proofs.Ytgcbodpjidoanaa
open Go.RowKit
theorem OwnI.but {S : Nat → Prop} {w w' : World} {base : Nat} {A : Option Addr} {c : Nat} {l : List Int} (h : OwnI w base A c l) (b : But S w w') (hS : ∀ k, base ≤ k → ¬ S k) : OwnI w' base A c l := by
  refine ⟨h.1, h.2.imp id ?_⟩
  rintro ⟨g, cap, cur, hv, hg, hh, r⟩
  exact ⟨g, cap, cur, hv, hg, (b.block g (Array.getElem?_eq_some_iff.1 hh).1 (hS g hg)).trans hh, r⟩
theorem rByte_lt (l : List Nat) (e : Int) (hl : IsB l) : rByte l e < 256 := by
  unfold rByte rTake
  split
  · decide
  · rename_i t ht
    split at ht
    · cases ht
    · split at ht
      · cases ht
      · cases ht; exact isB_take hl 1 0
set_option maxRecDepth 100000 in
set_option maxHeartbeats 1000000 in
theorem rrow_any (g : Nat) (l : List Nat) (most : Nat) (e : Int) (w : World) (hS : Rd w g l e) :
    Calls Try.prog 88 #[.pointer (some ⟨g, 0, none⟩), .int .i64 (most : Nat)] w fun e' w' => ∃ R d, e' = .returned (.slice R (rRow most l e).1.length d) ∧ OwnI w' w.heap.size R d (rRow most l e).1 ∧ But (fun b => b = g) w w' ∧ Rd w' g (rRow most l e).2.1 (rRow most l e).2.2 := by
  have hT := rbyte_any g l e w hS
  have hnb := rByte_lt l e hS.isB
  have hg := hS.lt
  have hX := hideP (fun k (h : w.heap.size ≤ k) => (by omega : ¬ (k = g)))
  obtain ⟨n, hn⟩ : ∃ n, n = rByte l e := ⟨_, rfl⟩
  obtain ⟨E, hE⟩ : ∃ E, E = rRowE most l e := ⟨_, rfl⟩
  obtain ⟨L, hL⟩ : ∃ L, L = (rTake 1 l e).2.1 := ⟨_, rfl⟩
  obtain ⟨f, hf⟩ : ∃ f, f = (rTake 1 l e).2.2 := ⟨_, rfl⟩
  have hE' : E = if most < n ∧ f = 0 then 10 else f := by rw [hE, hn, hf]; rfl
  have hR : rRow most l e = (if (rNums n L E).2.2 = 0 then (rNums n L E).1 else [], (rNums n L E).2) := by unfold rRow; rw [← hn, ← hL, ← hE]
  obtain ⟨RS, hRS⟩ : ∃ RS, RS = rRow most l e := ⟨_, rfl⟩
  rw [← hRS]
  have HRS := hideP (hRS.trans hR)
  rw [← hn, ← hL, ← hf] at hT
  rw [← hn] at hnb
  clear hn hE hL hf hRS hR
  have HhT := hideP hT; have HhS := hideP hS; have HhE' := hideP hE'; clear hT hS hE'
  have i0 : (n : Int) < 256 := by omega
  go_enter Try.func88, Try.ntmps88
  go_upto_region 2 with (go_at_call 86; refine HhT.out.mono ?_; rintro e2 w1 ⟨rfl, b1, s1⟩; have S1 := hideP s1; have B1 := hideP b1; clear s1 b1)
  by_cases hm : most < n
  · have i1 : (most : Int) < (n : Int) := by omega
    have HE := hideP (show E = if f = 0 then 10 else f by rw [HhE'.out]; simp [hm])
    go_upto_region 4 with (go_at_call 161; refine (fail_any g L 10 f _ S1.out).mono ?_; rintro e2 w2 ⟨rfl, b2, s2⟩; rw [← HE.out] at s2; have SE := hideP s2; have BE := hideP (B1.out.trans b2); clear s2 b2)
    obtain ⟨W, hW⟩ : ∃ W, W = w2 := ⟨_, rfl⟩
    rw [← hW] at SE BE ⊢
    clear hW
    go_wp2_with fail
    go_loopw [6, 7, 17] (fun v6 _ v17 wr => ∃ (k m : Nat) (A : Option Addr) (c : Nat), k ≤ n ∧ v17 = .int .i64 (k : Nat) ∧ v6 = .slice A m c ∧ m ≤ k ∧ Hid (m = (rNums k L E).1.length ∧ OwnI wr w.heap.size A c (rNums k L E).1 ∧ But (fun b => b = g) w wr ∧ Rd wr g (rNums k L E).2.1 (rNums k L E).2.2)) (fun _ _ v17 _ => n - (intOf v17).toNat)
    case atStart => exact ⟨0, 0, none, 0, by omega, rfl, rfl, by omega, rfl, OwnI.nil _ _, BE.out, SE.out⟩
    case round =>
      obtain ⟨k, m, A, c, hk, rfl, rfl, hmk, hV⟩ := hrel
      by_cases hlt : k < n
      · have i2 : (k : Int) < (n : Int) := by omega
        have m2 : IntKind.i64.wrap ((k : Int) + 1) = (k : Int) + 1 := IntWalk.i64_in _ (by omega)
        have hst := hideP (show rNums (k + 1) L E = (if (rTake 8 (rNums k L E).2.1 (rNums k L E).2.2).2.2 = 0 then (rNums k L E).1 ++ [rNum (rNums k L E).2.1 (rNums k L E).2.2] else (rNums k L E).1, (rTake 8 (rNums k L E).2.1 (rNums k L E).2.2).2) from rfl)
        obtain ⟨⟨rs, l1, e1⟩, hq⟩ : ∃ q, q = rNums k L E := ⟨_, rfl⟩
        rw [← hq] at hV hst
        clear hq
        dsimp only at hV hst
        have hN := rnum_any g l1 e1 wr hV.out.2.2.2
        obtain ⟨x, hx⟩ : ∃ x, x = rNum l1 e1 := ⟨_, rfl⟩
        obtain ⟨⟨o, l2, e2⟩, ho⟩ : ∃ q, q = rTake 8 l1 e1 := ⟨_, rfl⟩
        rw [← hx, ← ho] at hst hN
        clear hx ho
        dsimp only at hst hN
        have HN := hideP hN
        clear hN
        by_cases hz : e2 = 0
        · subst hz
          rw [if_pos rfl] at hst
          go_wp2_with (first
            | (go_at_call 162; refine HN.out.mono ?_; rintro e3 w3 ⟨rfl, b3, s3⟩; have S3 := hideP s3; have B3 := hideP (hV.out.2.2.1.trans b3); have O3 := hideP (hV.out.2.1.but b3 hX.out); clear b3; obtain ⟨A1, d1, hT1, _⟩ := s3; have c1 := hT1.c1; clear hT1)
            | (at_builtin; refine wpList_appI rfl (.tmp 26) (.tmp 28) rfl w.heap.size A c m rs hV.out.1 rfl O3.out x rfl (by omega) B3.out.size ?_; intro A4 c4 w4 o4 b4; have O4 := hideP o4; have B4 := hideP b4; clear o4 b4))
          go_roundw
          case rel => exact ⟨k + 1, m + 1, A4, c4, by omega, by rw [show ((k + 1 : Nat) : Int) = (k : Int) + 1 by omega], rfl, by omega, by rw [hst.out, List.length_append, ← hV.out.1]; rfl, by rw [hst.out]; exact O4.out, B3.out.then_below B4.out, by rw [hst.out]; exact S3.out.below B4.out hg⟩
          case measure => simp [intOf]; omega
        · rw [if_neg hz] at hst
          go_wp2_with (go_at_call 162; refine HN.out.mono ?_; rintro e3 w3 ⟨rfl, b3, s3⟩; have S3 := hideP s3; have B3 := hideP (hV.out.2.2.1.trans b3); have O3 := hideP (hV.out.2.1.but b3 hX.out); clear b3; obtain ⟨A1, d1, hT1, _⟩ := s3; have c1 := hT1.c1; clear hT1)
          go_roundw
          case rel => exact ⟨k + 1, m, A, c, by omega, by rw [show ((k + 1 : Nat) : Int) = (k : Int) + 1 by omega], rfl, by omega, by rw [hst.out]; exact hV.out.1, by rw [hst.out]; exact O3.out, B3.out, by rw [hst.out]; exact S3.out⟩
          case measure => simp [intOf]; omega
      · have hkn : k = n := by omega
        subst hkn
        obtain ⟨⟨rs, l1, e1⟩, hq⟩ : ∃ q, q = rNums k L E := ⟨_, rfl⟩
        rw [← hq] at hV
        have HQ := hideP hq
        clear hq
        dsimp only at hV
        obtain ⟨A1, d1, hT1, _⟩ := hV.out.2.2.2
        have c1 := hT1.c1
        clear hT1
        by_cases hz : e1 = 0
        · subst hz
          go_wp2_with fail
          go_ret
          rw [HRS.out, ← HQ.out]
          exact ⟨A, c, by rw [hV.out.1]; rfl, hV.out.2.1, hV.out.2.2.1, hV.out.2.2.2⟩
        · go_wp2_with fail
          go_ret
          rw [HRS.out, ← HQ.out]
          rw [show ((if (rs, l1, e1).2.2 = 0 then (rs, l1, e1).1 else [], (rs, l1, e1).2) : List Int × List Nat × Int) = ([], l1, e1) from by dsimp only; rw [if_neg hz]]
          exact ⟨none, 0, rfl, OwnI.nil _ _, hV.out.2.2.1, hV.out.2.2.2⟩
  · have i1 : (n : Int) ≤ (most : Int) := by omega
    have HE := hideP (show E = f by rw [HhE'.out]; simp [hm])
    go_upto_region 4 with fail
    have SE := hideP (show Rd w1 g L E by rw [HE.out]; exact S1.out)
    have BE := hideP B1.out
    obtain ⟨W, hW⟩ : ∃ W, W = w1 := ⟨_, rfl⟩
    rw [← hW] at SE BE ⊢
    clear hW
    go_wp2_with fail
    go_loopw [6, 7, 17] (fun v6 _ v17 wr => ∃ (k m : Nat) (A : Option Addr) (c : Nat), k ≤ n ∧ v17 = .int .i64 (k : Nat) ∧ v6 = .slice A m c ∧ m ≤ k ∧ Hid (m = (rNums k L E).1.length ∧ OwnI wr w.heap.size A c (rNums k L E).1 ∧ But (fun b => b = g) w wr ∧ Rd wr g (rNums k L E).2.1 (rNums k L E).2.2)) (fun _ _ v17 _ => n - (intOf v17).toNat)
    case atStart => exact ⟨0, 0, none, 0, by omega, rfl, rfl, by omega, rfl, OwnI.nil _ _, BE.out, SE.out⟩
    case round =>
      obtain ⟨k, m, A, c, hk, rfl, rfl, hmk, hV⟩ := hrel
      by_cases hlt : k < n
      · have i2 : (k : Int) < (n : Int) := by omega
        have m2 : IntKind.i64.wrap ((k : Int) + 1) = (k : Int) + 1 := IntWalk.i64_in _ (by omega)
        have hst := hideP (show rNums (k + 1) L E = (if (rTake 8 (rNums k L E).2.1 (rNums k L E).2.2).2.2 = 0 then (rNums k L E).1 ++ [rNum (rNums k L E).2.1 (rNums k L E).2.2] else (rNums k L E).1, (rTake 8 (rNums k L E).2.1 (rNums k L E).2.2).2) from rfl)
        obtain ⟨⟨rs, l1, e1⟩, hq⟩ : ∃ q, q = rNums k L E := ⟨_, rfl⟩
        rw [← hq] at hV hst
        clear hq
        dsimp only at hV hst
        have hN := rnum_any g l1 e1 wr hV.out.2.2.2
        obtain ⟨x, hx⟩ : ∃ x, x = rNum l1 e1 := ⟨_, rfl⟩
        obtain ⟨⟨o, l2, e2⟩, ho⟩ : ∃ q, q = rTake 8 l1 e1 := ⟨_, rfl⟩
        rw [← hx, ← ho] at hst hN
        clear hx ho
        dsimp only at hst hN
        have HN := hideP hN
        clear hN
        by_cases hz : e2 = 0
        · subst hz
          rw [if_pos rfl] at hst
          go_wp2_with (first
            | (go_at_call 162; refine HN.out.mono ?_; rintro e3 w3 ⟨rfl, b3, s3⟩; have S3 := hideP s3; have B3 := hideP (hV.out.2.2.1.trans b3); have O3 := hideP (hV.out.2.1.but b3 hX.out); clear b3; obtain ⟨A1, d1, hT1, _⟩ := s3; have c1 := hT1.c1; clear hT1)
            | (at_builtin; refine wpList_appI rfl (.tmp 26) (.tmp 28) rfl w.heap.size A c m rs hV.out.1 rfl O3.out x rfl (by omega) B3.out.size ?_; intro A4 c4 w4 o4 b4; have O4 := hideP o4; have B4 := hideP b4; clear o4 b4))
          go_roundw
          case rel => exact ⟨k + 1, m + 1, A4, c4, by omega, by rw [show ((k + 1 : Nat) : Int) = (k : Int) + 1 by omega], rfl, by omega, by rw [hst.out, List.length_append, ← hV.out.1]; rfl, by rw [hst.out]; exact O4.out, B3.out.then_below B4.out, by rw [hst.out]; exact S3.out.below B4.out hg⟩
          case measure => simp [intOf]; omega
        · rw [if_neg hz] at hst
          go_wp2_with (go_at_call 162; refine HN.out.mono ?_; rintro e3 w3 ⟨rfl, b3, s3⟩; have S3 := hideP s3; have B3 := hideP (hV.out.2.2.1.trans b3); have O3 := hideP (hV.out.2.1.but b3 hX.out); clear b3; obtain ⟨A1, d1, hT1, _⟩ := s3; have c1 := hT1.c1; clear hT1)
          go_roundw
          case rel => exact ⟨k + 1, m, A, c, by omega, by rw [show ((k + 1 : Nat) : Int) = (k : Int) + 1 by omega], rfl, by omega, by rw [hst.out]; exact hV.out.1, by rw [hst.out]; exact O3.out, B3.out, by rw [hst.out]; exact S3.out⟩
          case measure => simp [intOf]; omega
      · have hkn : k = n := by omega
        subst hkn
        obtain ⟨⟨rs, l1, e1⟩, hq⟩ : ∃ q, q = rNums k L E := ⟨_, rfl⟩
        rw [← hq] at hV
        have HQ := hideP hq
        clear hq
        dsimp only at hV
        obtain ⟨A1, d1, hT1, _⟩ := hV.out.2.2.2
        have c1 := hT1.c1
        clear hT1
        by_cases hz : e1 = 0
        · subst hz
          go_wp2_with fail
          go_ret
          rw [HRS.out, ← HQ.out]
          exact ⟨A, c, by rw [hV.out.1]; rfl, hV.out.2.1, hV.out.2.2.1, hV.out.2.2.2⟩
        · go_wp2_with fail
          go_ret
          rw [HRS.out, ← HQ.out]
          rw [show ((if (rs, l1, e1).2.2 = 0 then (rs, l1, e1).1 else [], (rs, l1, e1).2) : List Int × List Nat × Int) = ([], l1, e1) from by dsimp only; rw [if_neg hz]]
          exact ⟨none, 0, rfl, OwnI.nil _ _, hV.out.2.2.1, hV.out.2.2.2⟩
end Go.Proofs.Ytgcbodpjidoanaa
namespace Go.Proofs.Ytgcbodpjidoanaa
open Go.RowKit
/-- a string's bytes -/
def nb (s : ByteArray) : List Nat := s.data.toList.map UInt8.toNat
theorem nb_len (s : ByteArray) : (nb s).length = s.size := by
  unfold nb
  rw [List.length_map, Array.length_toList]
  rfl
theorem isB_nb (s : ByteArray) : IsB (nb s) := fun i => by
  unfold nb List.getD
  rw [List.getElem?_map]
  cases s.data.toList[i]? with
  | none => decide
  | some c => simpa using c.toNat_lt
theorem bstr_nb (s : ByteArray) : bstr (nb s) = s := by
  unfold bstr nb
  rw [List.map_map, show (UInt8.ofNat ∘ UInt8.toNat) = id from funext fun c => by simp]
  simp
theorem nb_bstr (l : List Nat) (h : IsB l) : nb (bstr l) = l := by
  apply bstr_inj (isB_nb _) h
  rw [bstr_nb]
theorem nb_inj {s t : ByteArray} (h : nb s = nb t) : s = t := by rw [← bstr_nb s, h, bstr_nb]
theorem nb_getD (s : ByteArray) (k : Nat) (hk : k < s.size) : (nb s).getD k 0 = s[k].toNat := by
  unfold nb List.getD
  rw [List.getElem?_map, List.getElem?_eq_getElem (by simpa using hk)]
  rfl
/-! ### what is read: bytes in hand -/
theorem take_app (t l : List Nat) (k : Nat) (h : t.length = k) : rTake k (t ++ l) 0 = (some t, l, 0) := by
  subst h; simp [rTake]
theorem take_stuck (k : Nat) (l : List Nat) (e : Int) (h : e ≠ 0) : rTake k l e = (none, l, e) := by simp [rTake, h]
theorem take_inv {k : Nat} {l l' : List Nat} {e : Int} {o : Option (List Nat)} (h : rTake k l e = (o, l', 0)) : e = 0 ∧ ∃ t, o = some t ∧ l = t ++ l' ∧ t.length = k := by
  unfold rTake at h
  split at h
  · simp only [Prod.mk.injEq] at h; rename_i he; exact absurd h.2.2 he
  · rename_i he
    have he : e = 0 := Classical.not_not.1 he
    split at h
    · simp at h
    · simp only [Prod.mk.injEq] at h
      exact ⟨he, l.take k, h.1.symm, by rw [← h.2.1]; exact (List.take_append_drop k l).symm, by simp; omega⟩
theorem byte_app (x : Nat) (l : List Nat) : rByte (x :: l) 0 = x ∧ (rTake 1 (x :: l) 0).2 = (l, 0) := by
  have := take_app [x] l 1 rfl
  simp only [List.singleton_append] at this
  simp [rByte, this]
theorem byte_inv {l l' : List Nat} {e : Int} (h : (rTake 1 l e).2 = (l', 0)) : e = 0 ∧ l = rByte l e :: l' := by
  rcases hq : rTake 1 l e with ⟨o, x⟩
  rw [hq] at h; dsimp only at h; subst h
  obtain ⟨he, t, rfl, h2, h3⟩ := take_inv hq
  refine ⟨he, ?_⟩
  match t, h3 with
  | [y], _ =>
    have h4 : rByte l e = y := by unfold rByte; rw [hq]; rfl
    rw [h4]; exact h2
theorem isB_app {l m : List Nat} (h : IsB (l ++ m)) : IsB l ∧ IsB m := by
  refine ⟨fun i => ?_, fun i => ?_⟩
  · rcases Nat.lt_or_ge i l.length with hi | hi
    · have := h i; unfold List.getD at this ⊢; rwa [List.getElem?_append_left hi] at this
    · rw [getD_out _ _ _ hi]; decide
  · have := h (l.length + i); unfold List.getD at this ⊢; rwa [List.getElem?_append_right (by omega), Nat.add_sub_cancel_left] at this
theorem be3_of (a b c : Nat) (ha : a < 256) (hb : b < 256) (hc : c < 256) : be3 (a * 65536 + b * 256 + c) = [a, b, c] := by
  unfold be3
  rw [show (a * 65536 + b * 256 + c) / 65536 % 256 = a by omega, show (a * 65536 + b * 256 + c) / 256 % 256 = b by omega, show (a * 65536 + b * 256 + c) % 256 = c by omega]
theorem be3_val (n : Nat) (h : n ≤ 1048576) : n / 65536 % 256 * 65536 + n / 256 % 256 * 256 + n % 256 = n := by omega
theorem count_val (most : Nat) (t l : List Nat) (x : List Nat × Int) (h : rTake 3 l 0 = (some t, x.1, x.2)) (n : Nat) (hv : t.getD 0 0 * 65536 + t.getD 1 0 * 256 + t.getD 2 0 = n) (h1 : n ≤ most) (h2 : n ≤ 1048576) : rCount most l 0 = (n, x.1, 0) := by
  unfold rCount
  rw [h]
  dsimp only
  split
  · exfalso; omega
  · exact congrArg (fun m => (m, x.1, (0 : Int))) hv
theorem count_app (most n : Nat) (l : List Nat) (h : n ≤ most) (h2 : n ≤ 1048576) : rCount most (be3 n ++ l) 0 = (n, l, 0) :=
  count_val most (be3 n) (be3 n ++ l) (l, 0) (take_app (be3 n) l 3 rfl) n (be3_val n h2) h h2
theorem count_stuck (most : Nat) (l : List Nat) (e : Int) (h : e ≠ 0) : rCount most l e = (0, l, e) := by simp [rCount, take_stuck _ _ _ h]
theorem len3 (t : List Nat) (h : t.length = 3) : ∃ a b c, t = [a, b, c] := by
  match t, h with
  | [a, b, c], _ => exact ⟨a, b, c, rfl⟩
theorem count_inv {most n : Nat} {l l' : List Nat} {e : Int} (hl : IsB l) (h : rCount most l e = (n, l', 0)) : e = 0 ∧ l = be3 n ++ l' ∧ n ≤ most := by
  unfold rCount at h
  rcases hq : rTake 3 l e with ⟨_ | t, m, x⟩ <;> rw [hq] at h <;> simp only at h
  · simp only [Prod.mk.injEq] at h
    obtain ⟨_, rfl, rfl⟩ := h
    obtain ⟨_, t, ht, _⟩ := take_inv hq
    cases ht
  · split at h
    · simp at h
    · rename_i hm
      simp only [Prod.mk.injEq] at h
      obtain ⟨rfl, rfl, _⟩ := h
      have hx : x = 0 := rTake_some hq
      subst hx
      obtain ⟨he, t', ht, h2, h3⟩ := take_inv hq
      cases ht
      have hb := (isB_app (h2 ▸ hl)).1
      have hm1 : t.getD 0 0 * 65536 + t.getD 1 0 * 256 + t.getD 2 0 ≤ most := Nat.le_of_not_lt fun hc => hm (.inl hc)
      clear hm
      obtain ⟨a, b, c, rfl⟩ := len3 t h3
      have h0 : a < 256 := hb 0
      have h1 : b < 256 := hb 1
      have h4 : c < 256 := hb 2
      exact ⟨he, by show l = be3 (a * 65536 + b * 256 + c) ++ _; rw [be3_of a b c h0 h1 h4]; exact h2, hm1⟩
/-- a text's bytes -/
def textB (t : List Nat) : List Nat := be3 t.length ++ t
theorem text_app (most : Nat) (t l : List Nat) (h : t.length ≤ most) (h2 : t.length ≤ 1048576) : rText most (textB t ++ l) 0 = (t, l, 0) := by
  unfold rText textB
  rw [List.append_assoc, count_app most t.length (t ++ l) h h2]
  dsimp only
  rw [take_app t l t.length rfl]; rfl
theorem text_stuck (most : Nat) (l : List Nat) (e : Int) (h : e ≠ 0) : rText most l e = ([], l, e) := by
  unfold rText; rw [count_stuck _ _ _ h]; dsimp only; rw [take_stuck _ _ _ h]; rfl
theorem text_inv {most : Nat} {t l l' : List Nat} {e : Int} (hl : IsB l) (h : rText most l e = (t, l', 0)) : e = 0 ∧ l = textB t ++ l' ∧ t.length ≤ most := by
  unfold rText at h
  rcases hq : rCount most l e with ⟨n, m, x⟩
  rw [hq] at h; dsimp only at h
  rcases hr : rTake n m x with ⟨o, y⟩
  rw [hr] at h; dsimp only at h
  obtain ⟨h1, rfl⟩ := Prod.mk.inj h
  obtain ⟨rfl, t', rfl, h3, h4⟩ := take_inv hr
  obtain ⟨he, h5, h6⟩ := count_inv hl hq
  cases h1
  refine ⟨he, ?_, ?_⟩
  · unfold textB; rw [h5, h3, List.append_assoc]; simp [h4]
  · simp; omega
theorem beN_app (l m : List Nat) : beN (l ++ m) = m.foldl (fun u x => u * 256 + x) (beN l) := by simp [beN, List.foldl_append]
theorem beN_be8 (n : Nat) (h : n < 18446744073709551616) : beN (be8 n) = n := by
  unfold beN be8
  simp only [List.range_succ, List.range_zero, List.nil_append, List.map_append, List.map_cons, List.map_nil, List.cons_append, List.foldl_cons, List.foldl_nil]
  simp only [Nat.reducePow, Nat.reduceMul, Nat.reduceSub]
  omega
theorem be8_beN (t : List Nat) (hb : IsB t) (h : t.length = 8) : be8 (beN t) = t := by
  match t, h, hb with
  | [a, b, c, d, e, f, g, i], _, hb =>
    have h0 := hb 0; have h1 := hb 1; have h2 := hb 2; have h3 := hb 3; have h4 := hb 4; have h5 := hb 5; have h6 := hb 6; have h7 := hb 7
    simp only [List.getD_cons_zero, List.getD_cons_succ] at h0 h1 h2 h3 h4 h5 h6 h7
    unfold be8 beN
    simp only [List.range_succ, List.range_zero, List.nil_append, List.map_append, List.map_cons, List.map_nil, List.cons_append, List.foldl_cons, List.foldl_nil, Nat.reducePow, Nat.reduceMul, Nat.reduceSub]
    simp only [List.cons.injEq]
    refine ⟨?_, ?_, ?_, ?_, ?_, ?_, ?_, ?_, trivial⟩ <;> omega
theorem num_app (x : Int) (l : List Nat) (h1 : -9223372036854775808 ≤ x) (h2 : x ≤ 9223372036854775807) : rNum (num8 x ++ l) 0 = x ∧ rTake 8 (num8 x ++ l) 0 = (some (num8 x), l, 0) := by
  have := take_app (num8 x) l 8 (num8_len x)
  refine ⟨?_, this⟩
  unfold rNum
  rw [this]
  show (beN (num8 x) : Int) - 9223372036854775808 = x
  unfold num8
  rw [beN_be8 _ (by omega)]
  omega
theorem num_inv {l l' : List Nat} {e : Int} (hl : IsB l) (h : (rTake 8 l e).2 = (l', 0)) : e = 0 ∧ l = num8 (rNum l e) ++ l' ∧ -9223372036854775808 ≤ rNum l e ∧ rNum l e ≤ 9223372036854775807 := by
  rcases hq : rTake 8 l e with ⟨o, x⟩
  rw [hq] at h; dsimp only at h; subst h
  obtain ⟨he, t, rfl, h2, h3⟩ := take_inv hq
  have hb := (isB_app (h2 ▸ hl)).1
  have hlt := beN_lt t hb 8 (by omega)
  rw [List.take_of_length_le (by omega)] at hlt
  have e1 : rNum l e = (beN t : Int) - 9223372036854775808 := by simp [rNum, hq]
  refine ⟨he, ?_, ?_, ?_⟩
  · rw [e1]; unfold num8
    rw [show ((beN t : Int) - 9223372036854775808 + 9223372036854775808).toNat = beN t by omega, be8_beN t hb h3]; exact h2
  · rw [e1]; omega
  · rw [e1]; have : (256 : Nat) ^ 8 = 18446744073709551616 := by decide
    omega
theorem nums_stuck (k : Nat) (l : List Nat) (e : Int) (h : e ≠ 0) : rNums k l e = ([], l, e) := by
  induction k with
  | zero => rfl
  | succ k ih => simp [rNums, ih, take_stuck _ _ _ h, h]
theorem nums_app (r : List Int) (hI : IsI r) : ∀ (k : Nat) (l : List Nat), k ≤ r.length → rNums k (((r.take k).map num8).flatten ++ l) 0 = (r.take k, l, 0)
  | 0, l, _ => by simp [rNums]
  | k + 1, l, hk => by
    have hx := hI k
    have ih := nums_app r hI k (num8 (r.getD k 0) ++ l) (by omega)
    have hn := num_app (r.getD k 0) l hx.1 hx.2
    have e1 : ((r.take (k + 1)).map num8).flatten ++ l = ((r.take k).map num8).flatten ++ (num8 (r.getD k 0) ++ l) := by
      rw [List.take_add_one, List.map_append, List.flatten_append, List.getElem?_eq_getElem (by omega)]
      simp [List.getD, List.getElem?_eq_getElem (show k < r.length by omega)]
    rw [e1]
    simp only [rNums, ih, hn.1, hn.2, if_true]
    rw [List.take_add_one, List.getElem?_eq_getElem (by omega)]
    simp [List.getD, List.getElem?_eq_getElem (show k < r.length by omega)]
theorem nums_inv : ∀ (k : Nat) {r : List Int} {l l' : List Nat} {e : Int}, IsB l → rNums k l e = (r, l', 0) → e = 0 ∧ r.length = k ∧ l = (r.map num8).flatten ++ l' ∧ IsI r
  | 0, r, l, l', e, hl, h => by
    simp only [rNums, Prod.mk.injEq] at h
    obtain ⟨rfl, rfl, rfl⟩ := h
    exact ⟨rfl, rfl, rfl, fun i => by simp⟩
  | k + 1, r, l, l', e, hl, h => by
    simp only [rNums] at h
    rcases hq : rNums k l e with ⟨r1, l1, e1⟩
    rw [hq] at h; dsimp only at h
    obtain ⟨h1, h2⟩ := Prod.mk.inj h
    have h3 : (rTake 8 l1 e1).2.2 = 0 := by rw [h2]
    rw [if_pos h3] at h1
    have he1 : e1 = 0 := by
      by_cases he : e1 = 0
      · exact he
      · rw [take_stuck _ _ _ he] at h3; exact h3
    subst he1
    obtain ⟨he, hlen, hl1, hI⟩ := nums_inv k hl hq
    have hb : IsB l1 := (isB_app (hl1 ▸ hl)).2
    obtain ⟨_, hn1, hn2, hn3⟩ := num_inv hb h2
    subst h1
    refine ⟨he, by simp [hlen], ?_, fun i => ?_⟩
    · rw [List.map_append, List.flatten_append, hl1]
      simp only [List.map_cons, List.map_nil, List.flatten_cons, List.flatten_nil, List.append_nil, List.append_assoc]
      rw [← hn1]
    · rcases Nat.lt_or_ge i r1.length with hi | hi
      · have := hI i; unfold List.getD at this ⊢; rwa [List.getElem?_append_left hi]
      · unfold List.getD
        rw [List.getElem?_append_right hi]
        rcases hj : i - r1.length with _ | j
        · simpa using ⟨hn2, hn3⟩
        · simp
theorem row_app (most : Nat) (r : List Int) (l : List Nat) (hI : IsI r) (h : r.length ≤ most) : rRow most (rowB r ++ l) 0 = (r, l, 0) := by
  have hb := byte_app r.length ((r.map num8).flatten ++ l)
  have hE : rRowE most (r.length :: ((r.map num8).flatten ++ l)) 0 = 0 := by
    unfold rRowE; rw [hb.1, hb.2]; exact if_neg (by omega)
  show rRow most (r.length :: ((r.map num8).flatten ++ l)) 0 = _
  unfold rRow
  have := nums_app r hI r.length l (Nat.le_refl _)
  rw [List.take_length] at this
  rw [hE, hb.1, hb.2, this]; simp
theorem row_stuck (most : Nat) (l : List Nat) (e : Int) (h : e ≠ 0) : rRow most l e = ([], l, e) := by
  have hE : rRowE most l e = e := by
    unfold rRowE; rw [take_stuck _ _ _ h]; exact if_neg (fun h2 => h h2.2)
  unfold rRow
  rw [hE, take_stuck _ _ _ h, nums_stuck _ _ _ h]; simp [h]
theorem row_inv {most : Nat} {r : List Int} {l l' : List Nat} {e : Int} (hl : IsB l) (h : rRow most l e = (r, l', 0)) : e = 0 ∧ l = rowB r ++ l' ∧ r.length ≤ most ∧ IsI r := by
  unfold rRow at h
  rcases hq : rNums (rByte l e) (rTake 1 l e).2.1 (rRowE most l e) with ⟨r1, l1, e1⟩
  rw [hq] at h; dsimp only at h
  obtain ⟨h1, h2⟩ := Prod.mk.inj h
  obtain ⟨rfl, rfl⟩ := Prod.mk.inj h2
  simp only [if_true] at h1
  subst h1
  rcases ht : rTake 1 l e with ⟨o, l2, e2⟩
  have hE : rRowE most l e = if most < rByte l e ∧ e2 = 0 then 10 else e2 := by unfold rRowE; rw [ht]
  have hl2 : IsB l2 := by
    have : l2 = l ∨ ∃ k, l2 = l.drop k := by
      unfold rTake at ht
      split at ht
      · simp only [Prod.mk.injEq] at ht; exact .inl ht.2.1.symm
      · split at ht <;> simp only [Prod.mk.injEq] at ht
        · exact .inl ht.2.1.symm
        · exact .inr ⟨1, ht.2.1.symm⟩
    rcases this with rfl | ⟨k, rfl⟩
    · exact hl
    · exact isB_drop hl k
  rw [ht] at hq; dsimp only at hq
  obtain ⟨h3, h4, h5, h6⟩ := nums_inv _ hl2 hq
  rw [hE] at h3
  split at h3
  · cases h3
  · rename_i hm
    subst h3
    obtain ⟨he, h7⟩ := byte_inv (l := l) (l' := l2) (e := e) (by rw [ht])
    refine ⟨he, ?_, by omega, h6⟩
    unfold rowB
    rw [h7, h5, h4]; rfl
theorem dig_app (t l : List Nat) (h : t.length = 32) : rDig (t ++ l) 0 = t ∧ (rTake 32 (t ++ l) 0).2 = (l, 0) := by
  simp [rDig, take_app t l 32 h]
theorem dig_inv {l l' : List Nat} {e : Int} (h : (rTake 32 l e).2 = (l', 0)) : e = 0 ∧ l = rDig l e ++ l' ∧ (rDig l e).length = 32 := by
  rcases hq : rTake 32 l e with ⟨o, x⟩
  rw [hq] at h; dsimp only at h; subst h
  obtain ⟨he, t, rfl, h2, h3⟩ := take_inv hq
  have h4 : rDig l e = t := by unfold rDig; rw [hq]; rfl
  rw [h4]; exact ⟨he, h2, h3⟩
end Go.Proofs.Ytgcbodpjidoanaa
