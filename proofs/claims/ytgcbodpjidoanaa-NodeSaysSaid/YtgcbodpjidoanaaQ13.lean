/- Contracts of the document's Words, Sum and Preimage (chapter 1), of package sha's Preimage, of the document's page Sum (chapter 9). -/
import Derived.Test.YtgcbodpjidoanaaQ12
set_option linter.unusedVariables false
set_option linter.unusedSimpArgs false
namespace Go.Proofs.Ytgcbodpjidoanaa
open Go.RowKit

theorem be8_len (n : Nat) : (be8 n).length = 8 := by simp [be8]
def prePart (tag : Nat) (ts : List (List Nat)) : Nat → List Nat
  | 0 => [tag]
  | i + 1 => prePart tag ts i ++ be8 (ts.getD i []).length ++ ts.getD i []
def preN (tag : Nat) (ts : List (List Nat)) : List Nat := prePart tag ts ts.length
theorem prePart_le (tag : Nat) (ts : List (List Nat)) : ∀ i j, i ≤ j → (prePart tag ts i).length ≤ (prePart tag ts j).length := by
  intro i j h
  induction h with
  | refl => omega
  | step _ ih => refine Nat.le_trans ih ?_; simp [prePart]
theorem isB_prePart {tag : Nat} {ts : List (List Nat)} (ht : tag < 256) (h : ∀ i, IsB (ts.getD i [])) : ∀ i, IsB (prePart tag ts i)
  | 0 => fun i => by cases i with
    | zero => simpa [prePart] using ht
    | succ i => rw [getD_out _ _ _ (by simp [prePart])]; omega
  | i + 1 => isB_append (isB_append (isB_prePart ht h i) (isB_be8 _)) (h i)
set_option maxRecDepth 100000 in
set_option maxHeartbeats 1000000 in
theorem words_any (w : World) : Calls Try.prog 195 #[] w fun e w' => e = .returned (.slice (some ⟨w.heap.size, 0, none⟩) 64 64) ∧ Below w.heap.size w w' ∧ Pre32 w' w.heap.size 283 kk := by
  go_enter Try.func195, Try.ntmps195
  go_wp2_with fail
  go_ret
  exact ⟨rfl, below_new _ _, Pre32.of_row (l := kk) (Row.new w 283 (kk.map v32))⟩
set_option maxRecDepth 100000 in
set_option maxHeartbeats 1000000 in
theorem rsum_any (A : Option Addr) (t : List Nat) (c : Nat) (w : World) (hA : Arr w w.heap.size A t.length (u8s t)) (ht : IsB t) (hn : t.length ≤ 1000000000) :
    Calls Try.prog 126 #[.slice A t.length c] w fun e w' => e = .returned (.agg ((dig (sumW t)).map b8).toArray) ∧ Below w.heap.size w w' := by
  have HhA := hideP hA; have Hht := hideP ht; have Hhn := hideP hn; clear hA ht hn
  obtain ⟨DD, hDD⟩ : ∃ D, D = (dig (sumW t)).map b8 := ⟨_, rfl⟩
  have hDl := hideP (show DD.length = 32 by rw [hDD]; simp [dig])
  have hDa := hideP (show DD.toArray.all (·.oneCell') = true by rw [hDD]; exact all_b8 _)
  rw [← hDD]
  have HhDD := hideP hDD; clear hDD
  go_enter Try.func126, Try.ntmps126
  go_upto_region 1 with fail
  obtain ⟨w1, hw1⟩ : ∃ w1, w1 = w.alloc (Obj.cells #[.int .u8 0, .int .u8 0, .int .u8 0, .int .u8 0, .int .u8 0, .int .u8 0, .int .u8 0, .int .u8 0, .int .u8 0, .int .u8 0, .int .u8 0, .int .u8 0, .int .u8 0, .int .u8 0, .int .u8 0, .int .u8 0, .int .u8 0, .int .u8 0, .int .u8 0, .int .u8 0, .int .u8 0, .int .u8 0, .int .u8 0, .int .u8 0, .int .u8 0, .int .u8 0, .int .u8 0, .int .u8 0, .int .u8 0, .int .u8 0, .int .u8 0, .int .u8 0] 37) := ⟨_, rfl⟩
  have c1 := hideP (show Row w1 w.heap.size 37 z32 by rw [hw1]; exact Row.new w _ z32)
  have cb := hideP (show Below w.heap.size w w1 by rw [hw1]; exact below_new _ _)
  rw [← hw1]
  clear hw1
  have hds := hideP (show (Try.prog.info? 37).map (·.size) = some DD.toArray.size by rw [size_dig]; simp [hDl.out])
  have hdo := hideP (show z32.toArray.size = DD.toArray.size by simp [hDl.out, z32])
  go_wp2_with (first
    | (go_at_call 195; refine (words_any _).mono ?_; rintro e w2 ⟨rfl, hb2, hp2⟩; have hb3 := cb.out.trans (hb2.mono cb.out.size); have hc2 := hideP (Row.after c1.out hb2); have hA2 := hideP (HhA.out.after hb3); have hK2 := hideP (hp2.arr 64 (by decide)))
    | (go_at_call 194; refine (with_any _ _ t _ _ _ hA2.out Hht.out Hhn.out hK2.out).mono ?_; rintro e w3 ⟨rfl, hb4⟩; rw [← HhDD.out]; have c3 := hideP (Row.after hc2.out hb4); have cb3 := hideP (hb3.trans (hb4.mono hb3.size)))
    | (refine wpList_store_row rfl 37 (.tmp 2) (.tmp 5) rfl w.heap.size DD.toArray rfl rfl 37 z32.toArray c3.out hds.out hdo.out hDa.out ?_))
  refine ret_row rfl rfl (Row.setRow c3.out DD) Try.underlying37 (by rw [size_dig, hDl.out]) rfl ⟨rfl, ?_⟩
  exact below_setRow' cb3.out (Nat.le_refl _) _
set_option maxRecDepth 100000 in
set_option maxHeartbeats 2000000 in
theorem rpre_any (tag : Nat) (AT : Option Addr) (cT : Nat) (ts : List (List Nat)) (Af : Nat → Option Addr) (cf : Nat → Nat) (w : World) (hT : Arr w w.heap.size AT ts.length (fun i => .slice (Af i) (ts.getD i []).length (cf i)))
    (hA : ∀ i, i < ts.length → Arr w w.heap.size (Af i) (ts.getD i []).length (u8s (ts.getD i []))) (hn : (preN tag ts).length ≤ 1000000000000) (hK : ts.length ≤ 1000000000000) :
    Calls Try.prog 128 #[.int .u8 tag, .slice AT ts.length cT] w fun e w' => ∃ A c, e = .returned (.slice A (preN tag ts).length c) ∧ Below w.heap.size w w' ∧ OwnB w' w.heap.size A c (preN tag ts) := by
  obtain ⟨K, hKK⟩ : ∃ K, K = ts.length := ⟨_, rfl⟩
  rw [← hKK] at hT hA hK ⊢
  have HhT := hideP hT; have HhA := hideP hA; have Hhn := hideP hn; have HhKK := hideP hKK; clear hT hA hn hKK
  go_enter Try.func128, Try.ntmps128
  go_wp2_with fail
  obtain ⟨w1, hw1⟩ : ∃ w1, w1 = w.alloc (Obj.cells #[.int .u8 tag] 5) := ⟨_, rfl⟩
  have o1 := hideP (show OwnB w1 w.heap.size (some ⟨w.heap.size, 0, none⟩) 1 [tag] by rw [hw1]; exact OwnB.lit1 w tag)
  have cb := hideP (show Below w.heap.size w w1 by rw [hw1]; exact below_new _ _)
  rw [← hw1]
  clear hw1
  go_loopw [5, 6] (fun v5 v6 wr => ∃ (i L : Nat) (A : Option Addr) (c : Nat), i ≤ K ∧ v5 = .slice A L c ∧ v6 = .int .i64 i ∧ Hid (L = (prePart tag ts i).length ∧ OwnB wr w.heap.size A c (prePart tag ts i) ∧ Below w.heap.size w wr)) (fun _ v6 _ => K - (intOf v6).toNat)
  case atStart => exact ⟨0, 1, some ⟨w.heap.size, 0, none⟩, 1, by omega, rfl, rfl, rfl, o1.out, cb.out⟩
  case round =>
    clear o1 cb
    obtain ⟨i, L, A, c, hi, rfl, rfl, hV⟩ := hrel
    by_cases hlt : i < K
    · have t' : decide ((i : Int) < (K : Int)) = true := by simp; omega
      obtain ⟨gT, oT, rfl, hgT, hcT⟩ := (HhT.out.below hV.out.2.2) (by omega)
      have k0 := hcT i hlt
      obtain ⟨m, hm⟩ : ∃ m, m = (ts.getD i []).length := ⟨_, rfl⟩
      have hAi := hideP ((HhA.out i hlt).after hV.out.2.2)
      rw [← hm] at hAi
      simp only [← hm] at k0
      have hpl := hideP (show (prePart tag ts i).length + 8 + m = (prePart tag ts (i + 1)).length by rw [show prePart tag ts (i + 1) = prePart tag ts i ++ be8 (ts.getD i []).length ++ ts.getD i [] from rfl, List.length_append, List.length_append, ← hm, be8_len])
      have hple := prePart_le tag ts (i + 1) K (by omega)
      have hpn := Hhn.out
      unfold preN at hpn
      rw [← HhKK.out] at hpn
      have hLm : L + 8 + m ≤ 1000000000000 := by rw [hV.out.1, hpl.out]; omega
      have i0 : (0 : Int) ≤ (i : Int) := by omega
      have i1 : (i : Int) < (K : Int) := by omega
      have eT : IntKind.u64.wrap (m : Int) = (m : Int) := by rw [IntKind.wrap_u64]; omega
      have hm64 : m < 18446744073709551616 := by omega
      obtain ⟨pre, hp⟩ : ∃ pre, pre = prePart tag ts i := ⟨_, rfl⟩
      rw [← hp] at hV hpl
      have hE := hideP (show pre ++ be8 m ++ ts.getD i [] = prePart tag ts (i + 1) by rw [hp, hm]; rfl)
      have Hhm := hideP hm; clear hm
      have o1 := hideP hV.out.2.1
      have hL := hideP hV.out.1
      have cb := hideP hV.out.2.2
      clear hV hcT hple hpn hp
      go_wp2_with fail
      go_loopw [5, 8] (fun v5 v8 wr => ∃ (k : Nat) (A : Option Addr) (c : Nat), k ≤ 8 ∧ v5 = .slice A (L + k) c ∧ v8 = .int .i64 k ∧ Hid (OwnB wr w.heap.size A c (pre ++ (be8 m).take k) ∧ Below w.heap.size w wr)) (fun _ v8 _ => 8 - (intOf v8).toNat)
      case atStart => exact ⟨0, A, c, by omega, rfl, rfl, by simpa using o1.out, cb.out⟩
      case round =>
        clear o1 cb eT k0 hAi
        obtain ⟨k, A4, c4, hk, rfl, rfl, hV⟩ := hrel
        by_cases hlt2 : k < 8
        · have t2' : decide ((k : Int) < 8) = true := by simp; omega
          have i2 : (0 : Int) ≤ 56 - 8 * (k : Int) := by omega
          have i3 : 8 * (k : Int) ≤ 56 := by omega
          have i4 : (0 : Int) ≤ 8 * (k : Int) := by omega
          have e1 : ((56 : Int) - 8 * (k : Int)).toNat = 56 - 8 * k := by omega
          have m1 : IntKind.u64.wrap (56 - 8 * (k : Int)) = 56 - 8 * (k : Int) := by rw [IntKind.wrap_u64]; omega
          obtain ⟨y, hy⟩ : ∃ y, y = m / 2 ^ (56 - 8 * k) % 256 := ⟨_, rfl⟩
          have hy' : ((m : Int) / 2 ^ (56 - 8 * k)).tmod 256 % 256 = (y : Int) := by
            obtain ⟨q, hq⟩ : ∃ q, q = m / 2 ^ (56 - 8 * k) := ⟨_, rfl⟩
            have hq2 : (m : Int) / 2 ^ (56 - 8 * k) = (q : Int) := by rw [hq]; simp
            rw [← hq] at hy
            rw [hq2, Int.tmod_eq_emod_of_nonneg (by omega), hy]; omega
          have hE2 := hideP (show (be8 m).take k ++ [y] = (be8 m).take (k + 1) by rw [hy]; exact be8_succ m k hlt2)
          have hl := hideP (show L + k = (pre ++ (be8 m).take k).length by rw [List.length_append, ← hL.out]; simp [be8]; omega)
          have hs := hideP hV.out.2.size
          have Hhy := hideP hy; clear hy
          go_wp2_with (at_builtin; refine wpList_app1 rfl (.tmp 27) (.tmp 36) rfl w.heap.size A4 c4 (L + k) (pre ++ (be8 m).take k) hl.out rfl hV.out.1 y rfl (by omega) hs.out ?_; intro A5 c5 w5 o5 b5)
          have o6 := hideP (show OwnB w5 w.heap.size A5 c5 (pre ++ (be8 m).take (k + 1)) by rw [← hE2.out, ← List.append_assoc]; exact o5)
          have cb := hideP (hV.out.2.trans b5)
          clear hV o5 b5 hy' m1
          go_roundw
          case rel => exact ⟨k + 1, A5, c5, by omega, rfl, by go_num, o6.out, cb.out⟩
          case measure => simp [intOf]; omega
        · have t2' : decide ((k : Int) < 8) = false := by simp; omega
          have hk8 : k = 8 := by omega
          have o4 := hideP (show OwnB wr w.heap.size A4 c4 (pre ++ be8 m) by have := hV.out.1; rwa [hk8, show (be8 m).take 8 = be8 m from List.take_of_length_le (by simp [be8])] at this)
          have cb := hideP hV.out.2
          have hs := hideP hV.out.2.size
          have hl := hideP (show L + k = (pre ++ be8 m).length by rw [List.length_append, ← hL.out, hk8]; rfl)
          have hk9 : L + k + m ≤ 1000000000000 := by omega
          obtain ⟨M, hM⟩ : ∃ M, M = L + k := ⟨_, rfl⟩
          rw [← hM] at hl hk9 ⊢
          have hMm := hideP (show M + m = (prePart tag ts (i + 1)).length by rw [← hpl.out, hM, hL.out]; omega)
          clear hV hk8 hlt2 hk hM
          obtain ⟨gT, oT, hTe, hgT, hcT⟩ := (HhT.out.below cb.out) (by omega)
          injection hTe with hTe
          injection hTe with hTe1 hTe2
          subst hTe1 hTe2
          have k0 := hcT i hlt
          simp only [← Hhm.out] at k0
          have hAi := hideP ((HhA.out i hlt).after cb.out)
          rw [← Hhm.out] at hAi
          clear hcT
          go_wp2_with (at_builtin; refine wpList_appn rfl (.tmp 38) (.tmp 42) rfl w.heap.size A4 c4 M (pre ++ be8 m) hl.out rfl o4.out _ (Af i) m (cf i) (ts.getD i []) Hhm.out rfl hAi.out (by omega) hs.out ?_; intro A5 c5 w5 o5 b5)
          have o6 := hideP (show OwnB w5 w.heap.size A5 c5 (prePart tag ts (i + 1)) by rw [← hE.out]; exact o5)
          have cb2 := hideP (cb.out.trans b5)
          clear o5 b5 k0 hAi o4 cb hs
          go_roundw
          case rel => exact ⟨i + 1, M + m, A5, c5, by omega, rfl, by go_num, hMm.out, o6.out, cb2.out⟩
          case measure => simp [intOf]; omega
    · have t' : decide ((i : Int) < (K : Int)) = false := by simp; omega
      have hiK : i = K := by omega
      have hp : prePart tag ts i = preN tag ts := by rw [hiK, HhKK.out]; rfl
      have o4 := hideP (hp ▸ hV.out.2.1)
      have hL := hideP (hp ▸ hV.out.1)
      have cb := hideP hV.out.2.2
      clear hV hp hiK hi
      go_wp2_with fail
      go_ret
      exact ⟨A, c, by rw [← hL.out]; rfl, cb.out, o4.out⟩
set_option maxRecDepth 100000 in
set_option maxHeartbeats 2000000 in
theorem pre_any (tag : Nat) (AT : Option Addr) (cT : Nat) (ts : List (List Nat)) (Af : Nat → Option Addr) (cf : Nat → Nat) (w : World) (hT : Arr w w.heap.size AT ts.length (fun i => .slice (Af i) (ts.getD i []).length (cf i)))
    (hA : ∀ i, i < ts.length → Arr w w.heap.size (Af i) (ts.getD i []).length (u8s (ts.getD i []))) (hn : (preN tag ts).length ≤ 1000000000000) (hK : ts.length ≤ 1000000000000) :
    Calls Try.prog 127 #[.int .u8 tag, .slice AT ts.length cT] w fun e w' => ∃ A c, e = .returned (.slice A (preN tag ts).length c) ∧ Below w.heap.size w w' ∧ OwnB w' w.heap.size A c (preN tag ts) := by
  obtain ⟨K, hKK⟩ : ∃ K, K = ts.length := ⟨_, rfl⟩
  rw [← hKK] at hT hA hK ⊢
  have HhT := hideP hT; have HhA := hideP hA; have Hhn := hideP hn; have HhKK := hideP hKK; clear hT hA hn hKK
  go_enter Try.func127, Try.ntmps127
  go_wp2_with fail
  obtain ⟨w1, hw1⟩ : ∃ w1, w1 = w.alloc (Obj.cells #[.int .u8 tag] 5) := ⟨_, rfl⟩
  have o1 := hideP (show OwnB w1 w.heap.size (some ⟨w.heap.size, 0, none⟩) 1 [tag] by rw [hw1]; exact OwnB.lit1 w tag)
  have cb := hideP (show Below w.heap.size w w1 by rw [hw1]; exact below_new _ _)
  rw [← hw1]
  clear hw1
  go_loopw [5, 12] (fun v5 v12 wr => ∃ (i L : Nat) (A : Option Addr) (c : Nat), i ≤ K ∧ v5 = .slice A L c ∧ v12 = .int .i64 i ∧ Hid (L = (prePart tag ts i).length ∧ OwnB wr w.heap.size A c (prePart tag ts i) ∧ Below w.heap.size w wr)) (fun _ v12 _ => K - (intOf v12).toNat)
  case atStart => exact ⟨0, 1, some ⟨w.heap.size, 0, none⟩, 1, by omega, rfl, rfl, rfl, o1.out, cb.out⟩
  case round =>
    clear o1 cb
    obtain ⟨i, L, A, c, hi, rfl, rfl, hV⟩ := hrel
    by_cases hlt : i < K
    · have t' : decide ((i : Int) < (K : Int)) = true := by simp; omega
      obtain ⟨gT, oT, rfl, hgT, hcT⟩ := (HhT.out.below hV.out.2.2) (by omega)
      have k0 := hcT i hlt
      obtain ⟨m, hm⟩ : ∃ m, m = (ts.getD i []).length := ⟨_, rfl⟩
      have hAi := hideP ((HhA.out i hlt).after hV.out.2.2)
      rw [← hm] at hAi
      simp only [← hm] at k0
      have hpl := hideP (show (prePart tag ts i).length + 8 + m = (prePart tag ts (i + 1)).length by rw [show prePart tag ts (i + 1) = prePart tag ts i ++ be8 (ts.getD i []).length ++ ts.getD i [] from rfl, List.length_append, List.length_append, ← hm, be8_len])
      have hple := prePart_le tag ts (i + 1) K (by omega)
      have hpn := Hhn.out
      unfold preN at hpn
      rw [← HhKK.out] at hpn
      have hLm : L + 8 + m ≤ 1000000000000 := by rw [hV.out.1, hpl.out]; omega
      have i0 : (0 : Int) ≤ (i : Int) := by omega
      have i1 : (i : Int) < (K : Int) := by omega
      have eT : IntKind.u64.wrap (m : Int) = (m : Int) := by rw [IntKind.wrap_u64]; omega
      have hm64 : m < 18446744073709551616 := by omega
      obtain ⟨pre, hp⟩ : ∃ pre, pre = prePart tag ts i := ⟨_, rfl⟩
      rw [← hp] at hV hpl
      have hE := hideP (show pre ++ be8 m ++ ts.getD i [] = prePart tag ts (i + 1) by rw [hp, hm]; rfl)
      have Hhm := hideP hm; clear hm
      have o1 := hideP hV.out.2.1
      have hL := hideP hV.out.1
      have cb := hideP hV.out.2.2
      have hs := hideP cb.out.size
      clear hV hcT hple hpn hp
      go_wp2_with (first
        | (go_at_call 196; refine (eight_any m hm64 _).mono ?_; rintro e w2 ⟨A2, c2, rfl, hb2, h2⟩; have hs2 := Nat.le_trans hs.out hb2.size; have o2 := hideP (o1.out.after hb2); have ha2 := hideP (h2.arr); have cb2 := hideP (cb.out.trans (hb2.mono cb.out.size)); have hAi2 := hideP (hAi.out.after hb2))
        | (at_builtin; refine wpList_appn rfl (.tmp 16) (.tmp 20) rfl w.heap.size A c L pre hL.out rfl o2.out _ A2 8 c2 (be8 m) (be8_len m).symm rfl ha2.out (by omega) hs2 ?_; intro A5 c5 w5 o5 b5; have hs5 := Nat.le_trans hs2 b5.size; have hl5 := hideP (show L + 8 = (pre ++ be8 m).length by rw [List.length_append, ← hL.out, be8_len]); have hAi5 := hideP ((HhA.out i hlt).after (cb2.out.trans b5)); rw [← Hhm.out] at hAi5)
        | (at_builtin; refine wpList_appn rfl (.tmp 21) (.tmp 22) rfl w.heap.size A5 c5 (L + 8) (pre ++ be8 m) hl5.out rfl o5 _ (Af i) m (cf i) (ts.getD i []) Hhm.out rfl hAi5.out (by omega) hs5 ?_; intro A6 c6 w6 o6 b6))
      have o7 := hideP (show OwnB w6 w.heap.size A6 c6 (prePart tag ts (i + 1)) by rw [← hE.out]; exact o6)
      have cb3 := hideP ((cb2.out.trans b5).trans b6)
      have hl7 := hideP (show L + 8 + m = (prePart tag ts (i + 1)).length by rw [← hpl.out, hL.out])
      clear o6 b6 o5 b5 hAi5 hAi2 o2 ha2 hs5 hs2 k0 eT
      go_roundw
      case rel => exact ⟨i + 1, L + 8 + m, A6, c6, by omega, rfl, by go_num, hl7.out, o7.out, cb3.out⟩
      case measure => simp [intOf]; omega
    · have t' : decide ((i : Int) < (K : Int)) = false := by simp; omega
      have hiK : i = K := by omega
      have hp : prePart tag ts i = preN tag ts := by rw [hiK, HhKK.out]; rfl
      have o4 := hideP (hp ▸ hV.out.2.1)
      have hL := hideP (hp ▸ hV.out.1)
      have cb := hideP hV.out.2.2
      clear hV hp hiK hi
      go_wp2_with fail
      go_ret
      exact ⟨A, c, by rw [← hL.out]; rfl, cb.out, o4.out⟩
end Go.Proofs.Ytgcbodpjidoanaa
