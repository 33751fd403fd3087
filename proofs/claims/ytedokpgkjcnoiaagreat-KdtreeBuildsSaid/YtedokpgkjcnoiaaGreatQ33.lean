/- Contracts of the document's Words, Sum and Preimage (chapter 1), of package sha's Preimage, of the document's page Sum (chapter 9). Contracts of package sha: begin, rounds, schedule. -/
import Derived.IntWalk
import Derived.Test.YtedokpgkjcnoiaaGreatQ30
import Derived.Test.YtedokpgkjcnoiaaGreatQ32
set_option linter.unusedVariables false
set_option linter.unusedSimpArgs false
namespace Go.Proofs.YtedokpgkjcnoiaaGreat
open Go.RowKit

theorem be8_len (n : Nat) : (be8 n).length = 8 := by simp [be8]
def prePart (tag : Nat) (ts : List (List Nat)) : Nat → List Nat
 | 0 => [tag]
 | i + 1 => prePart tag ts i ++ be8 (ts.getD i []).length ++ ts.getD i []
def preN (tag : Nat) (ts : List (List Nat)) : List Nat := prePart tag ts ts.length
theorem prePart_le (tag : Nat) (ts : List (List Nat)) : ∀ i j, i ≤ j → (prePart tag ts i).length ≤ (prePart tag ts j).length := by
 intro i j h
 induction h with
 | refl => omega
 | step _ ih => refine Nat.le_trans ih ?_; simp [prePart]
theorem isB_prePart {tag : Nat} {ts : List (List Nat)} (ht : tag < 256) (h : ∀ i, IsB (ts.getD i [])) : ∀ i, IsB (prePart tag ts i)
 | 0 => fun i => by cases i with
  | zero => simpa [prePart] using ht
  | succ i => rw [getD_out _ _ _ (by simp [prePart])]; omega
 | i + 1 => isB_append (isB_append (isB_prePart ht h i) (isB_be8 _)) (h i)
set_option maxRecDepth 100000 in
set_option maxHeartbeats 1000000 in
theorem words_any (w : World) : Calls Tryz.prog 135 #[] w fun e w' => e = .returned (.slice (some ⟨w.heap.size, 0, none⟩) 64 64) ∧ Below w.heap.size w w' ∧ Pre32 w' w.heap.size 141 kk := by
 go_enter Tryz.func135, Tryz.ntmps135
 go_wp2_with fail
 go_ret
 exact ⟨rfl, below_new _ _, Pre32.of_row (l := kk) (Row.new w 141 (kk.map v32))⟩
set_option maxRecDepth 100000 in
set_option maxHeartbeats 1000000 in
theorem rsum_any (A : Option Addr) (t : List Nat) (c : Nat) (w : World) (hA : Arr w w.heap.size A t.length (u8s t)) (ht : IsB t) (hn : t.length ≤ 1000000000) :
    Calls Tryz.prog 97 #[.slice A t.length c] w fun e w' => e = .returned (.agg ((dig (sumW t)).map b8).toArray) ∧ Below w.heap.size w w' := by
  have HhA := hideP hA; have Hht := hideP ht; have Hhn := hideP hn; clear hA ht hn
  obtain ⟨DD, hDD⟩ : ∃ D, D = (dig (sumW t)).map b8 := ⟨_, rfl⟩
  have hDl := hideP (show DD.length = 32 by rw [hDD]; simp [dig])
  have hDa := hideP (show DD.toArray.all (·.oneCell') = true by rw [hDD]; exact all_b8 _)
  rw [← hDD]
  have HhDD := hideP hDD; clear hDD
  go_enter Tryz.func97, Tryz.ntmps97
  go_upto_region 1 with fail
  obtain ⟨w1, hw1⟩ : ∃ w1, w1 = w.alloc (Obj.cells #[.int .u8 0, .int .u8 0, .int .u8 0, .int .u8 0, .int .u8 0, .int .u8 0, .int .u8 0, .int .u8 0, .int .u8 0, .int .u8 0, .int .u8 0, .int .u8 0, .int .u8 0, .int .u8 0, .int .u8 0, .int .u8 0, .int .u8 0, .int .u8 0, .int .u8 0, .int .u8 0, .int .u8 0, .int .u8 0, .int .u8 0, .int .u8 0, .int .u8 0, .int .u8 0, .int .u8 0, .int .u8 0, .int .u8 0, .int .u8 0, .int .u8 0, .int .u8 0] 32) := ⟨_, rfl⟩
  have c1 := hideP (show Row w1 w.heap.size 32 z32 by rw [hw1]; exact Row.new w _ z32)
  have cb := hideP (show Below w.heap.size w w1 by rw [hw1]; exact below_new _ _)
  rw [← hw1]
  clear hw1
  have hds := hideP (show (Tryz.prog.info? 32).map (·.size) = some DD.toArray.size by rw [size_dig]; simp [hDl.out])
  have hdo := hideP (show z32.toArray.size = DD.toArray.size by simp [hDl.out, z32])
  go_wp2_with (first
    | (go_at_call 135; refine (words_any _).mono ?_; rintro e w2 ⟨rfl, hb2, hp2⟩; have hb3 := cb.out.trans (hb2.mono cb.out.size); have hc2 := hideP (Row.after c1.out hb2); have hA2 := hideP (HhA.out.after hb3); have hK2 := hideP (hp2.arr 64 (by decide)))
    | (go_at_call 134; refine (with_any _ _ t _ _ _ hA2.out Hht.out Hhn.out hK2.out).mono ?_; rintro e w3 ⟨rfl, hb4⟩; rw [← HhDD.out]; have c3 := hideP (Row.after hc2.out hb4); have cb3 := hideP (hb3.trans (hb4.mono hb3.size)))
    | (refine wpList_store_row rfl 32 (.tmp 2) (.tmp 5) rfl w.heap.size DD.toArray rfl rfl 32 z32.toArray c3.out hds.out hdo.out hDa.out ?_))
  refine ret_row rfl rfl (Row.setRow c3.out DD) Tryz.underlying32 (by rw [size_dig, hDl.out]) rfl ⟨rfl, ?_⟩
  exact below_setRow' cb3.out (Nat.le_refl _) _
set_option maxRecDepth 100000 in
set_option maxHeartbeats 2000000 in
theorem rpre_any (tag : Nat) (AT : Option Addr) (cT : Nat) (ts : List (List Nat)) (Af : Nat → Option Addr) (cf : Nat → Nat) (w : World) (hT : Arr w w.heap.size AT ts.length (fun i => .slice (Af i) (ts.getD i []).length (cf i)))
    (hA : ∀ i, i < ts.length → Arr w w.heap.size (Af i) (ts.getD i []).length (u8s (ts.getD i []))) (hn : (preN tag ts).length ≤ 1000000000000) (hK : ts.length ≤ 1000000000000) :
    Calls Tryz.prog 98 #[.int .u8 tag, .slice AT ts.length cT] w fun e w' => ∃ A c, e = .returned (.slice A (preN tag ts).length c) ∧ Below w.heap.size w w' ∧ OwnB w' w.heap.size A c (preN tag ts) := by
  obtain ⟨K, hKK⟩ : ∃ K, K = ts.length := ⟨_, rfl⟩
  rw [← hKK] at hT hA hK ⊢
  have HhT := hideP hT; have HhA := hideP hA; have Hhn := hideP hn; have HhKK := hideP hKK; clear hT hA hn hKK
  go_enter Tryz.func98, Tryz.ntmps98
  go_wp2_with fail
  obtain ⟨w1, hw1⟩ : ∃ w1, w1 = w.alloc (Obj.cells #[.int .u8 tag] 5) := ⟨_, rfl⟩
  have o1 := hideP (show OwnB w1 w.heap.size (some ⟨w.heap.size, 0, none⟩) 1 [tag] by rw [hw1]; exact OwnB.lit1 w tag)
  have cb := hideP (show Below w.heap.size w w1 by rw [hw1]; exact below_new _ _)
  rw [← hw1]
  clear hw1
  go_loopw [5, 6] (fun v5 v6 wr => ∃ (i L : Nat) (A : Option Addr) (c : Nat), i ≤ K ∧ v5 = .slice A L c ∧ v6 = .int .i64 i ∧ Hid (L = (prePart tag ts i).length ∧ OwnB wr w.heap.size A c (prePart tag ts i) ∧ Below w.heap.size w wr)) (fun _ v6 _ => K - (intOf v6).toNat)
  case atStart => exact ⟨0, 1, some ⟨w.heap.size, 0, none⟩, 1, by omega, rfl, rfl, rfl, o1.out, cb.out⟩
  case round =>
    clear o1 cb
    obtain ⟨i, L, A, c, hi, rfl, rfl, hV⟩ := hrel
    by_cases hlt : i < K
    · have t' : decide ((i : Int) < (K : Int)) = true := by simp; omega
      obtain ⟨gT, oT, rfl, hgT, hcT⟩ := (HhT.out.below hV.out.2.2) (by omega)
      have k0 := hcT i hlt
      obtain ⟨m, hm⟩ : ∃ m, m = (ts.getD i []).length := ⟨_, rfl⟩
      have hAi := hideP ((HhA.out i hlt).after hV.out.2.2)
      rw [← hm] at hAi
      simp only [← hm] at k0
      have hpl := hideP (show (prePart tag ts i).length + 8 + m = (prePart tag ts (i + 1)).length by rw [show prePart tag ts (i + 1) = prePart tag ts i ++ be8 (ts.getD i []).length ++ ts.getD i [] from rfl, List.length_append, List.length_append, ← hm, be8_len])
      have hple := prePart_le tag ts (i + 1) K (by omega)
      have hpn := Hhn.out
      unfold preN at hpn
      rw [← HhKK.out] at hpn
      have hLm : L + 8 + m ≤ 1000000000000 := by rw [hV.out.1, hpl.out]; omega
      have i0 : (0 : Int) ≤ (i : Int) := by omega
      have i1 : (i : Int) < (K : Int) := by omega
      have eT : IntKind.u64.wrap (m : Int) = (m : Int) := by rw [IntKind.wrap_u64]; omega
      have hm64 : m < 18446744073709551616 := by omega
      obtain ⟨pre, hp⟩ : ∃ pre, pre = prePart tag ts i := ⟨_, rfl⟩
      rw [← hp] at hV hpl
      have hE := hideP (show pre ++ be8 m ++ ts.getD i [] = prePart tag ts (i + 1) by rw [hp, hm]; rfl)
      have Hhm := hideP hm; clear hm
      have o1 := hideP hV.out.2.1
      have hL := hideP hV.out.1
      have cb := hideP hV.out.2.2
      clear hV hcT hple hpn hp
      go_wp2_with fail
      go_loopw [5, 8] (fun v5 v8 wr => ∃ (k : Nat) (A : Option Addr) (c : Nat), k ≤ 8 ∧ v5 = .slice A (L + k) c ∧ v8 = .int .i64 k ∧ Hid (OwnB wr w.heap.size A c (pre ++ (be8 m).take k) ∧ Below w.heap.size w wr)) (fun _ v8 _ => 8 - (intOf v8).toNat)
      case atStart => exact ⟨0, A, c, by omega, rfl, rfl, by simpa using o1.out, cb.out⟩
      case round =>
        clear o1 cb eT k0 hAi
        obtain ⟨k, A4, c4, hk, rfl, rfl, hV⟩ := hrel
        by_cases hlt2 : k < 8
        · have t2' : decide ((k : Int) < 8) = true := by simp; omega
          have i2 : (0 : Int) ≤ 56 - 8 * (k : Int) := by omega
          have i3 : 8 * (k : Int) ≤ 56 := by omega
          have i4 : (0 : Int) ≤ 8 * (k : Int) := by omega
          have e1 : ((56 : Int) - 8 * (k : Int)).toNat = 56 - 8 * k := by omega
          have m1 : IntKind.u64.wrap (56 - 8 * (k : Int)) = 56 - 8 * (k : Int) := by rw [IntKind.wrap_u64]; omega
          obtain ⟨y, hy⟩ : ∃ y, y = m / 2 ^ (56 - 8 * k) % 256 := ⟨_, rfl⟩
          have hy' : ((m : Int) / 2 ^ (56 - 8 * k)).tmod 256 % 256 = (y : Int) := by
            obtain ⟨q, hq⟩ : ∃ q, q = m / 2 ^ (56 - 8 * k) := ⟨_, rfl⟩
            have hq2 : (m : Int) / 2 ^ (56 - 8 * k) = (q : Int) := by rw [hq]; simp
            rw [← hq] at hy
            rw [hq2, Int.tmod_eq_emod_of_nonneg (by omega), hy]; omega
          have hE2 := hideP (show (be8 m).take k ++ [y] = (be8 m).take (k + 1) by rw [hy]; exact be8_succ m k hlt2)
          have hl := hideP (show L + k = (pre ++ (be8 m).take k).length by rw [List.length_append, ← hL.out]; simp [be8]; omega)
          have hs := hideP hV.out.2.size
          have Hhy := hideP hy; clear hy
          go_wp2_with (at_builtin; refine wpList_app1 rfl (.tmp 27) (.tmp 36) rfl w.heap.size A4 c4 (L + k) (pre ++ (be8 m).take k) hl.out rfl hV.out.1 y rfl (by omega) hs.out ?_; intro A5 c5 w5 o5 b5)
          have o6 := hideP (show OwnB w5 w.heap.size A5 c5 (pre ++ (be8 m).take (k + 1)) by rw [← hE2.out, ← List.append_assoc]; exact o5)
          have cb := hideP (hV.out.2.trans b5)
          clear hV o5 b5 hy' m1
          go_roundw
          case rel => exact ⟨k + 1, A5, c5, by omega, rfl, by go_num, o6.out, cb.out⟩
          case measure => simp [intOf]; omega
        · have t2' : decide ((k : Int) < 8) = false := by simp; omega
          have hk8 : k = 8 := by omega
          have o4 := hideP (show OwnB wr w.heap.size A4 c4 (pre ++ be8 m) by have := hV.out.1; rwa [hk8, show (be8 m).take 8 = be8 m from List.take_of_length_le (by simp [be8])] at this)
          have cb := hideP hV.out.2
          have hs := hideP hV.out.2.size
          have hl := hideP (show L + k = (pre ++ be8 m).length by rw [List.length_append, ← hL.out, hk8]; rfl)
          have hk9 : L + k + m ≤ 1000000000000 := by omega
          obtain ⟨M, hM⟩ : ∃ M, M = L + k := ⟨_, rfl⟩
          rw [← hM] at hl hk9 ⊢
          have hMm := hideP (show M + m = (prePart tag ts (i + 1)).length by rw [← hpl.out, hM, hL.out]; omega)
          clear hV hk8 hlt2 hk hM
          obtain ⟨gT, oT, hTe, hgT, hcT⟩ := (HhT.out.below cb.out) (by omega)
          injection hTe with hTe
          injection hTe with hTe1 hTe2
          subst hTe1 hTe2
          have k0 := hcT i hlt
          simp only [← Hhm.out] at k0
          have hAi := hideP ((HhA.out i hlt).after cb.out)
          rw [← Hhm.out] at hAi
          clear hcT
          go_wp2_with (at_builtin; refine wpList_appn rfl (.tmp 38) (.tmp 42) rfl w.heap.size A4 c4 M (pre ++ be8 m) hl.out rfl o4.out _ (Af i) m (cf i) (ts.getD i []) Hhm.out rfl hAi.out (by omega) hs.out ?_; intro A5 c5 w5 o5 b5)
          have o6 := hideP (show OwnB w5 w.heap.size A5 c5 (prePart tag ts (i + 1)) by rw [← hE.out]; exact o5)
          have cb2 := hideP (cb.out.trans b5)
          clear o5 b5 k0 hAi o4 cb hs
          go_roundw
          case rel => exact ⟨i + 1, M + m, A5, c5, by omega, rfl, by go_num, hMm.out, o6.out, cb2.out⟩
          case measure => simp [intOf]; omega
    · have t' : decide ((i : Int) < (K : Int)) = false := by simp; omega
      have hiK : i = K := by omega
      have hp : prePart tag ts i = preN tag ts := by rw [hiK, HhKK.out]; rfl
      have o4 := hideP (hp ▸ hV.out.2.1)
      have hL := hideP (hp ▸ hV.out.1)
      have cb := hideP hV.out.2.2
      clear hV hp hiK hi
      go_wp2_with fail
      go_ret
      exact ⟨A, c, by rw [← hL.out]; rfl, cb.out, o4.out⟩
set_option maxRecDepth 100000 in
set_option maxHeartbeats 2000000 in
theorem pre_any (tag : Nat) (AT : Option Addr) (cT : Nat) (ts : List (List Nat)) (Af : Nat → Option Addr) (cf : Nat → Nat) (w : World) (hT : Arr w w.heap.size AT ts.length (fun i => .slice (Af i) (ts.getD i []).length (cf i)))
    (hA : ∀ i, i < ts.length → Arr w w.heap.size (Af i) (ts.getD i []).length (u8s (ts.getD i []))) (hn : (preN tag ts).length ≤ 1000000000000) (hK : ts.length ≤ 1000000000000) :
    Calls Tryz.prog 146 #[.int .u8 tag, .slice AT ts.length cT] w fun e w' => ∃ A c, e = .returned (.slice A (preN tag ts).length c) ∧ Below w.heap.size w w' ∧ OwnB w' w.heap.size A c (preN tag ts) := by
  obtain ⟨K, hKK⟩ : ∃ K, K = ts.length := ⟨_, rfl⟩
  rw [← hKK] at hT hA hK ⊢
  have HhT := hideP hT; have HhA := hideP hA; have Hhn := hideP hn; have HhKK := hideP hKK; clear hT hA hn hKK
  go_enter Tryz.func146, Tryz.ntmps146
  go_wp2_with fail
  obtain ⟨w1, hw1⟩ : ∃ w1, w1 = w.alloc (Obj.cells #[.int .u8 tag] 5) := ⟨_, rfl⟩
  have o1 := hideP (show OwnB w1 w.heap.size (some ⟨w.heap.size, 0, none⟩) 1 [tag] by rw [hw1]; exact OwnB.lit1 w tag)
  have cb := hideP (show Below w.heap.size w w1 by rw [hw1]; exact below_new _ _)
  rw [← hw1]
  clear hw1
  go_loopw [5, 12] (fun v5 v12 wr => ∃ (i L : Nat) (A : Option Addr) (c : Nat), i ≤ K ∧ v5 = .slice A L c ∧ v12 = .int .i64 i ∧ Hid (L = (prePart tag ts i).length ∧ OwnB wr w.heap.size A c (prePart tag ts i) ∧ Below w.heap.size w wr)) (fun _ v12 _ => K - (intOf v12).toNat)
  case atStart => exact ⟨0, 1, some ⟨w.heap.size, 0, none⟩, 1, by omega, rfl, rfl, rfl, o1.out, cb.out⟩
  case round =>
    clear o1 cb
    obtain ⟨i, L, A, c, hi, rfl, rfl, hV⟩ := hrel
    by_cases hlt : i < K
    · have t' : decide ((i : Int) < (K : Int)) = true := by simp; omega
      obtain ⟨gT, oT, rfl, hgT, hcT⟩ := (HhT.out.below hV.out.2.2) (by omega)
      have k0 := hcT i hlt
      obtain ⟨m, hm⟩ : ∃ m, m = (ts.getD i []).length := ⟨_, rfl⟩
      have hAi := hideP ((HhA.out i hlt).after hV.out.2.2)
      rw [← hm] at hAi
      simp only [← hm] at k0
      have hpl := hideP (show (prePart tag ts i).length + 8 + m = (prePart tag ts (i + 1)).length by rw [show prePart tag ts (i + 1) = prePart tag ts i ++ be8 (ts.getD i []).length ++ ts.getD i [] from rfl, List.length_append, List.length_append, ← hm, be8_len])
      have hple := prePart_le tag ts (i + 1) K (by omega)
      have hpn := Hhn.out
      unfold preN at hpn
      rw [← HhKK.out] at hpn
      have hLm : L + 8 + m ≤ 1000000000000 := by rw [hV.out.1, hpl.out]; omega
      have i0 : (0 : Int) ≤ (i : Int) := by omega
      have i1 : (i : Int) < (K : Int) := by omega
      have eT : IntKind.u64.wrap (m : Int) = (m : Int) := by rw [IntKind.wrap_u64]; omega
      have hm64 : m < 18446744073709551616 := by omega
      obtain ⟨pre, hp⟩ : ∃ pre, pre = prePart tag ts i := ⟨_, rfl⟩
      rw [← hp] at hV hpl
      have hE := hideP (show pre ++ be8 m ++ ts.getD i [] = prePart tag ts (i + 1) by rw [hp, hm]; rfl)
      have Hhm := hideP hm; clear hm
      have o1 := hideP hV.out.2.1
      have hL := hideP hV.out.1
      have cb := hideP hV.out.2.2
      have hs := hideP cb.out.size
      clear hV hcT hple hpn hp
      go_wp2_with (first
        | (go_at_call 156; refine (eight_any m hm64 _).mono ?_; rintro e w2 ⟨A2, c2, rfl, hb2, h2⟩; have hs2 := Nat.le_trans hs.out hb2.size; have o2 := hideP (o1.out.after hb2); have ha2 := hideP (h2.arr); have cb2 := hideP (cb.out.trans (hb2.mono cb.out.size)); have hAi2 := hideP (hAi.out.after hb2))
        | (at_builtin; refine wpList_appn rfl (.tmp 16) (.tmp 20) rfl w.heap.size A c L pre hL.out rfl o2.out _ A2 8 c2 (be8 m) (be8_len m).symm rfl ha2.out (by omega) hs2 ?_; intro A5 c5 w5 o5 b5; have hs5 := Nat.le_trans hs2 b5.size; have hl5 := hideP (show L + 8 = (pre ++ be8 m).length by rw [List.length_append, ← hL.out, be8_len]); have hAi5 := hideP ((HhA.out i hlt).after (cb2.out.trans b5)); rw [← Hhm.out] at hAi5)
        | (at_builtin; refine wpList_appn rfl (.tmp 21) (.tmp 22) rfl w.heap.size A5 c5 (L + 8) (pre ++ be8 m) hl5.out rfl o5 _ (Af i) m (cf i) (ts.getD i []) Hhm.out rfl hAi5.out (by omega) hs5 ?_; intro A6 c6 w6 o6 b6))
      have o7 := hideP (show OwnB w6 w.heap.size A6 c6 (prePart tag ts (i + 1)) by rw [← hE.out]; exact o6)
      have cb3 := hideP ((cb2.out.trans b5).trans b6)
      have hl7 := hideP (show L + 8 + m = (prePart tag ts (i + 1)).length by rw [← hpl.out, hL.out])
      clear o6 b6 o5 b5 hAi5 hAi2 o2 ha2 hs5 hs2 k0 eT
      go_roundw
      case rel => exact ⟨i + 1, L + 8 + m, A6, c6, by omega, rfl, by go_num, hl7.out, o7.out, cb3.out⟩
      case measure => simp [intOf]; omega
    · have t' : decide ((i : Int) < (K : Int)) = false := by simp; omega
      have hiK : i = K := by omega
      have hp : prePart tag ts i = preN tag ts := by rw [hiK, HhKK.out]; rfl
      have o4 := hideP (hp ▸ hV.out.2.1)
      have hL := hideP (hp ▸ hV.out.1)
      have cb := hideP hV.out.2.2
      clear hV hp hiK hi
      go_wp2_with fail
      go_ret
      exact ⟨A, c, by rw [← hL.out]; rfl, cb.out, o4.out⟩
end Go.Proofs.YtedokpgkjcnoiaaGreat
namespace Go.Proofs.YtedokpgkjcnoiaaGreat
open Go.RowKit
theorem join8 (y x : Nat) (hx : x < 256) : y * 256 ||| x = y * 256 + x := nat_join 8 (y * 256) x (by omega) (by omega)
theorem join16 (y x : Nat) (hx : x < 65536) : y * 65536 ||| x = y * 65536 + x := nat_join 16 (y * 65536) x (by omega) (by omega)
theorem join24 (y x : Nat) (hx : x < 16777216) : y * 16777216 ||| x = y * 16777216 + x := nat_join 24 (y * 16777216) x (by omega) (by omega)
theorem or4 (x0 x1 x2 x3 : Nat) (h0 : x0 < 256) (h1 : x1 < 256) (h2 : x2 < 256) (h3 : x3 < 256) :
    bits .or .u32 (bits .or .u32 (bits .or .u32 (IntKind.u32.wrap (IntKind.u32.wrap (x0 : Int) * 16777216)) (IntKind.u32.wrap (IntKind.u32.wrap (x1 : Int) * 65536))) (IntKind.u32.wrap (IntKind.u32.wrap (x2 : Int) * 256))) (IntKind.u32.wrap (x3 : Int)) =
      n32 (UInt32.ofNat (x0 * 16777216 + x1 * 65536 + x2 * 256 + x3)) := by
  rw [n32_ofNat]
  simp only [IntKind.wrap_u32']
  rw [show ((x0 : Int) % 4294967296 * 16777216 % 4294967296) = ((x0 * 16777216 : Nat) : Int) by omega, show ((x1 : Int) % 4294967296 * 65536 % 4294967296) = ((x1 * 65536 : Nat) : Int) by omega, show ((x2 : Int) % 4294967296 * 256 % 4294967296) = ((x2 * 256 : Nat) : Int) by omega, show ((x3 : Int) % 4294967296) = ((x3 : Nat) : Int) by omega]
  rw [u32_or_nat _ _ (by omega) (by omega), join24 x0 (x1 * 65536) (by omega)]
  rw [u32_or_nat _ _ (by omega) (by omega), show x0 * 16777216 + x1 * 65536 = (x0 * 256 + x1) * 65536 by omega, join16 (x0 * 256 + x1) (x2 * 256) (by omega)]
  rw [u32_or_nat _ _ (by omega) (by omega), show (x0 * 256 + x1) * 65536 + x2 * 256 = (x0 * 65536 + x1 * 256 + x2) * 256 by omega, join8 _ x3 h3]
  omega
theorem size_w64 : (Tryz.prog.info? 201).map (·.size) = some 64 := by kernel_rfl
theorem size_w8 : (Tryz.prog.info? 194).map (·.size) = some 8 := by kernel_rfl
set_option maxRecDepth 100000 in
set_option maxHeartbeats 4000000 in
theorem schedule_any (A : Option Addr) (b : List Nat) (c : Nat) (w : World) (hA : Arr w w.heap.size A 64 (u8s b)) (hb : IsB b) :
    Calls Tryz.prog 158 #[.slice A 64 c] w fun e w' => e = .returned (.agg (((List.range 64).map fun i => v32 (wrd b i)).toArray)) ∧ Below w.heap.size w w' := by
  have HhA := hideP hA; have Hhb := hideP hb; clear hA hb
  go_enter Tryz.func158, Tryz.ntmps158
  go_wp2_with fail
  obtain ⟨w1, hw1⟩ : ∃ w1, w1 = (w.alloc (Obj.cells #[.int .u32 0, .int .u32 0, .int .u32 0, .int .u32 0, .int .u32 0, .int .u32 0, .int .u32 0, .int .u32 0, .int .u32 0, .int .u32 0, .int .u32 0, .int .u32 0, .int .u32 0, .int .u32 0, .int .u32 0, .int .u32 0, .int .u32 0, .int .u32 0, .int .u32 0, .int .u32 0, .int .u32 0, .int .u32 0, .int .u32 0, .int .u32 0, .int .u32 0, .int .u32 0, .int .u32 0, .int .u32 0, .int .u32 0, .int .u32 0, .int .u32 0, .int .u32 0, .int .u32 0, .int .u32 0, .int .u32 0, .int .u32 0, .int .u32 0, .int .u32 0, .int .u32 0, .int .u32 0, .int .u32 0, .int .u32 0, .int .u32 0, .int .u32 0, .int .u32 0, .int .u32 0, .int .u32 0, .int .u32 0, .int .u32 0, .int .u32 0, .int .u32 0, .int .u32 0, .int .u32 0, .int .u32 0, .int .u32 0, .int .u32 0, .int .u32 0, .int .u32 0, .int .u32 0, .int .u32 0, .int .u32 0, .int .u32 0, .int .u32 0, .int .u32 0] 201)).alloc (Obj.cells #[.int .u32 0, .int .u32 0, .int .u32 0, .int .u32 0, .int .u32 0, .int .u32 0, .int .u32 0, .int .u32 0, .int .u32 0, .int .u32 0, .int .u32 0, .int .u32 0, .int .u32 0, .int .u32 0, .int .u32 0, .int .u32 0, .int .u32 0, .int .u32 0, .int .u32 0, .int .u32 0, .int .u32 0, .int .u32 0, .int .u32 0, .int .u32 0, .int .u32 0, .int .u32 0, .int .u32 0, .int .u32 0, .int .u32 0, .int .u32 0, .int .u32 0, .int .u32 0, .int .u32 0, .int .u32 0, .int .u32 0, .int .u32 0, .int .u32 0, .int .u32 0, .int .u32 0, .int .u32 0, .int .u32 0, .int .u32 0, .int .u32 0, .int .u32 0, .int .u32 0, .int .u32 0, .int .u32 0, .int .u32 0, .int .u32 0, .int .u32 0, .int .u32 0, .int .u32 0, .int .u32 0, .int .u32 0, .int .u32 0, .int .u32 0, .int .u32 0, .int .u32 0, .int .u32 0, .int .u32 0, .int .u32 0, .int .u32 0, .int .u32 0, .int .u32 0] 201) := ⟨_, rfl⟩
  have c1 := hideP (show Row32 w1 w.heap.size 201 z64 by rw [hw1]; exact Row.alloc (Row.new w 201 (z64.map v32)) _)
  have c2 := hideP (show Row32 w1 (w.heap.size + 1) 201 z64 by rw [hw1]; exact Row.new' _ 201 (z64.map v32) _ (by simp))
  have cb := hideP (show Below w.heap.size w w1 by rw [hw1]; exact (below_new _ _).alloc (by simp) _)
  rw [← hw1]
  clear hw1
  go_loopw [10] (fun v10 wr => ∃ (k : Nat) (l : List UInt32), k ≤ 16 ∧ v10 = .int .i64 k ∧ Hid (l.length = 64 ∧ (∀ j, j < k → l.getD j 0 = wrd b j) ∧ Row32 wr (w.heap.size + 1) 201 l ∧ Row32 wr w.heap.size 201 z64 ∧ Below w.heap.size w wr)) (fun v10 _ => 16 - (intOf v10).toNat)
  case atStart => exact ⟨0, z64, by omega, rfl, rfl, fun j hj => by omega, c2.out, c1.out, cb.out⟩
  case round =>
    obtain ⟨k, l, hk, rfl, hV⟩ := hrel
    clear c1 c2 cb
    by_cases hlt : k < 16
    · have t' : decide ((k : Int) < 16) = true := by simp; omega
      obtain ⟨g, off, rfl, hg, hc⟩ := (HhA.out.below hV.out.2.2.2.2) (by omega)
      have k0 := hc (4 * k) (by omega)
      have k1 := hc (4 * k + 1) (by omega)
      have k2 := hc (4 * k + 2) (by omega)
      have k3 := hc (4 * k + 3) (by omega)
      unfold u8s at k0 k1 k2 k3
      have b0 := Hhb.out (4 * k)
      have b1 := Hhb.out (4 * k + 1)
      have b2 := Hhb.out (4 * k + 2)
      have b3 := Hhb.out (4 * k + 3)
      obtain ⟨x0, e0⟩ : ∃ x, x = b.getD (4 * k) 0 := ⟨_, rfl⟩
      obtain ⟨x1, e1⟩ : ∃ x, x = b.getD (4 * k + 1) 0 := ⟨_, rfl⟩
      obtain ⟨x2, e2⟩ : ∃ x, x = b.getD (4 * k + 2) 0 := ⟨_, rfl⟩
      obtain ⟨x3, e3⟩ : ∃ x, x = b.getD (4 * k + 3) 0 := ⟨_, rfl⟩
      rw [← e0] at k0 b0
      rw [← e1] at k1 b1
      rw [← e2] at k2 b2
      rw [← e3] at k3 b3
      have i0 : (0 : Int) ≤ 4 * (k : Int) := by omega
      have i1 : 4 * (k : Int) < 64 := by omega
      have i2 : (0 : Int) ≤ 4 * (k : Int) + 1 := by omega
      have i3 : 4 * (k : Int) + 1 < 64 := by omega
      have i4 : (0 : Int) ≤ 4 * (k : Int) + 2 := by omega
      have i5 : 4 * (k : Int) + 2 < 64 := by omega
      have i6 : (0 : Int) ≤ 4 * (k : Int) + 3 := by omega
      have i7 : 4 * (k : Int) + 3 < 64 := by omega
      have i8 : (0 : Int) ≤ (k : Int) := by omega
      have i9 : (k : Int) < 64 := by omega
      have B0 : (x0 : Int) < 256 := by omega
      have B1 : (x1 : Int) < 256 := by omega
      have B2 : (x2 : Int) < 256 := by omega
      have B3 : (x3 : Int) < 256 := by omega
      have n0 : (4 * (k : Int)).toNat = 4 * k := by omega
      have n1 : (4 * (k : Int) + 1).toNat = 4 * k + 1 := by omega
      have n2 : (4 * (k : Int) + 2).toNat = 4 * k + 2 := by omega
      have n3 : (4 * (k : Int) + 3).toNat = 4 * k + 3 := by omega
      have m0 : IntKind.i64.wrap (4 * (k : Int)) = 4 * (k : Int) := IntWalk.i64_in _ (by omega)
      have m1 : IntKind.i64.wrap (4 * (k : Int) + 1) = 4 * (k : Int) + 1 := IntWalk.i64_in _ (by omega)
      have m2 : IntKind.i64.wrap (4 * (k : Int) + 2) = 4 * (k : Int) + 2 := IntWalk.i64_in _ (by omega)
      have m3 : IntKind.i64.wrap (4 * (k : Int) + 3) = 4 * (k : Int) + 3 := IntWalk.i64_in _ (by omega)
      have tw := or4 x0 x1 x2 x3 b0 b1 b2 b3
      obtain ⟨y, hy⟩ : ∃ y, y = UInt32.ofNat (x0 * 16777216 + x1 * 65536 + x2 * 256 + x3) := ⟨_, rfl⟩
      rw [← hy] at tw
      have hyw := hideP (show y = wrd b k by rw [wrd_lo hlt, hy, e0, e1, e2, e3]; rfl)
      clear hc e0 e1 e2 e3 hy
      have Hhg := hideP hg; clear hg
      go_wp2
      refine wp_region_eager 35 [(true, 0), (true, 1), (true, 2), (true, 3), (true, 4), (true, 5), (true, 6), (true, 7), (true, 8), (true, 9), (true, 10), (true, 11), (true, 12), (true, 13), (true, 14), (true, 15), (true, 16), (true, 17), (true, 18), (true, 19), (true, 20), (true, 21), (true, 22), (true, 23), (true, 24), (true, 25), (true, 26), (true, 27), (true, 28), (true, 29), (true, 30), (true, 31), (true, 32), (true, 33), (true, 34)] (by kernel_rfl) (by kernel_rfl) ?_
      simp only [pick, List.map_cons, List.map_nil, nthO_zero, nthO_succ]
      repeat (first
        | (refine wpPlan_skipK (by rfl) (fun K hK => ?_); go_simp; refine hK _ ?_; clear hK K)
        | (refine wpPlan_valK (by rfl) (fun K hK => ?_); apply Exists.intro; refine ⟨fun W hW => ?_, ?_⟩; (focus (have hs0 := hW.cell k0; have hs1 := hW.cell k1; have hs2 := hW.cell k2; have hs3 := hW.cell k3; go_simp; (try rfl); done)); go_simp; refine hK _ ?_; clear hK K))
      refine wpPlan_nil (fun W1 hW0 => ?_)
      simp only [List.drop_succ_cons, List.drop_zero, List.drop_nil]
      have c2 := hV.out.2.2.1.ext hW0.drew_left
      have hs1 := Row32.cell c2 k (by rw [hV.out.1]; omega)
      have hs2 := Row.fz c2 k
      have C2 := hideP (Row32.set c2 k y)
      have C1 := hideP (Row.setOther (hV.out.2.2.2.1.ext hW0.drew_left) (a := ⟨w.heap.size + 1, k, none⟩) (by simp) (v32 y))
      have cb := hideP ((below_ext hV.out.2.2.2.2 hW0.drew_left).setCell (p := ⟨w.heap.size + 1, k, none⟩) (by simp) (v32 y))
      have hl := hideP hV.out.1
      have hall := hideP hV.out.2.1
      clear c2 hW0 hV k0 k1 k2 k3 i0 i1 i2 i3 i4 i5 i6 i7 B0 B1 B2 B3 n0 n1 n2 n3 m0 m1 m2 m3 tw b0 b1 b2 b3
      go_wp2
      clear hs1 hs2
      go_roundw
      case rel =>
        refine ⟨k + 1, l.set k y, by omega, by go_num, by rw [List.length_set]; exact hl.out, fun j hj => ?_, C2.out, C1.out, cb.out⟩
        unfold List.getD
        rw [List.getElem?_set]
        by_cases e : k = j
        · subst e; rw [if_pos rfl, if_pos (by rw [hl.out]; omega)]; exact hyw.out
        · rw [if_neg e]; exact hall.out j (by omega)
      case measure => simp [intOf]; omega
    · have t' : decide ((k : Int) < 16) = false := by simp; omega
      obtain ⟨K, hK⟩ : ∃ K, K = k := ⟨_, rfl⟩
      have hkk : k = 16 := by omega
      rw [hkk] at hV
      rw [← hK] at t' ⊢
      clear hK hkk hk hlt k
      go_wp2_with fail
      go_loopw [5] (fun v5 wr => ∃ (k : Nat) (l : List UInt32), 16 ≤ k ∧ k ≤ 64 ∧ v5 = .int .i64 k ∧ Hid (l.length = 64 ∧ (∀ j, j < k → l.getD j 0 = wrd b j) ∧ Row32 wr (w.heap.size + 1) 201 l ∧ Row32 wr w.heap.size 201 z64 ∧ Below w.heap.size w wr)) (fun v5 _ => 64 - (intOf v5).toNat)
      case atStart => exact ⟨16, l, by omega, by omega, rfl, hV.out⟩
      case round =>
        clear hV t' l
        obtain ⟨k, l, hk0, hk, rfl, hV⟩ := hrel
        by_cases hlt : k < 64
        · have t' : decide ((k : Int) < 64) = true := by simp; omega
          have hl := hV.out.1
          have k15 := Row32.cell hV.out.2.2.1 (k - 15) (by omega)
          have k2 := Row32.cell hV.out.2.2.1 (k - 2) (by omega)
          have k16 := Row32.cell hV.out.2.2.1 (k - 16) (by omega)
          have k7 := Row32.cell hV.out.2.2.1 (k - 7) (by omega)
          rw [hV.out.2.1 (k - 15) (by omega)] at k15
          rw [hV.out.2.1 (k - 2) (by omega)] at k2
          rw [hV.out.2.1 (k - 16) (by omega)] at k16
          rw [hV.out.2.1 (k - 7) (by omega)] at k7
          unfold v32 at k15 k2 k16 k7
          have hy := hideP (wrd_hi (b := b) hk0)
          unfold s0 s1 at hy
          obtain ⟨x15, e15⟩ : ∃ x, x = wrd b (k - 15) := ⟨_, rfl⟩
          obtain ⟨x2, e2⟩ : ∃ x, x = wrd b (k - 2) := ⟨_, rfl⟩
          obtain ⟨x16, e16⟩ : ∃ x, x = wrd b (k - 16) := ⟨_, rfl⟩
          obtain ⟨x7, e7⟩ : ∃ x, x = wrd b (k - 7) := ⟨_, rfl⟩
          rw [← e15, ← e2, ← e16, ← e7] at hy
          rw [← e15] at k15
          rw [← e2] at k2
          rw [← e16] at k16
          rw [← e7] at k7
          have i0 : (15 : Int) ≤ (k : Int) := by omega
          have i1 : (k : Int) - 15 < 64 := by omega
          have i2 : (2 : Int) ≤ (k : Int) := by omega
          have i3 : (k : Int) - 2 < 64 := by omega
          have i4 : (16 : Int) ≤ (k : Int) := by omega
          have i5 : (k : Int) - 16 < 64 := by omega
          have i6 : (7 : Int) ≤ (k : Int) := by omega
          have i7 : (k : Int) - 7 < 64 := by omega
          have i8 : (0 : Int) ≤ (k : Int) := by omega
          have i9 : (k : Int) < 64 := by omega
          have j0 : (0 : Int) ≤ (k : Int) - 15 := by omega
          have j1 : (0 : Int) ≤ (k : Int) - 2 := by omega
          have j2 : (0 : Int) ≤ (k : Int) - 16 := by omega
          have j3 : (0 : Int) ≤ (k : Int) - 7 := by omega
          have n0 : ((k : Int) - 15).toNat = k - 15 := by omega
          have n1 : ((k : Int) - 2).toNat = k - 2 := by omega
          have n2 : ((k : Int) - 16).toNat = k - 16 := by omega
          have n3 : ((k : Int) - 7).toNat = k - 7 := by omega
          have m0 : IntKind.i64.wrap ((k : Int) - 15) = (k : Int) - 15 := IntWalk.i64_in _ (by omega)
          have m1 : IntKind.i64.wrap ((k : Int) - 2) = (k : Int) - 2 := IntWalk.i64_in _ (by omega)
          have m2 : IntKind.i64.wrap ((k : Int) - 16) = (k : Int) - 16 := IntWalk.i64_in _ (by omega)
          have m3 : IntKind.i64.wrap ((k : Int) - 7) = (k : Int) - 7 := IntWalk.i64_in _ (by omega)
          have r7 := hideP (fun x => rot_any x (-7) 7 (by omega) (by kernel_rfl))
          have r18 := hideP (fun x => rot_any x (-18) 18 (by omega) (by kernel_rfl))
          have r17 := hideP (fun x => rot_any x (-17) 17 (by omega) (by kernel_rfl))
          have r19 := hideP (fun x => rot_any x (-19) 19 (by omega) (by kernel_rfl))
          have rx := n32_xor
          have ra := n32_add
          have rs3 : ∀ x, n32 x / 8 = n32 (shr x 3) := fun x => n32_shr x 3
          have rs10 : ∀ x, n32 x / 1024 = n32 (shr x 10) := fun x => n32_shr x 10
          clear e15 e2 e16 e7
          have Hhl := hideP hl; clear hl
          go_wp2_with fail
          refine wp_region_eager 10 [(true, 0), (true, 1), (true, 2), (true, 3), (true, 4), (true, 5), (true, 6), (true, 7), (true, 8), (true, 9)] (by kernel_rfl) (by kernel_rfl) ?_
          simp only [pick, List.map_cons, List.map_nil, nthO_zero, nthO_succ]
          repeat (first
            | (refine wpPlan_skipK (by rfl) (fun K hK => ?_); go_simp; refine hK _ ?_; clear hK K)
            | (refine wpPlan_valK (by rfl) (fun K hK => ?_); apply Exists.intro; refine ⟨fun W hW => ?_, ?_⟩; (focus (have hs0 := hW.cell k15; have hs1 := hW.cell k2; go_simp; (try rfl); done)); go_simp; refine hK _ ?_; clear hK K))
          refine wpPlan_nil (fun W1 hW0 => ?_)
          simp only [List.drop_succ_cons, List.drop_zero, List.drop_nil]
          go_wp2_with fail
          refine (r7.out x15 W1).mono ?_
          rintro e w2 ⟨rfl, rfl⟩
          go_wp2_with fail
          refine (r18.out x15 W1).mono ?_
          rintro e w2 ⟨rfl, rfl⟩
          go_wp2_with fail
          refine (r17.out x2 W1).mono ?_
          rintro e w2 ⟨rfl, rfl⟩
          go_wp2_with fail
          refine (r19.out x2 W1).mono ?_
          rintro e w2 ⟨rfl, rfl⟩
          replace k16 := hW0.drew_left.cell k16
          replace k7 := hW0.drew_left.cell k7
          have C2 := hideP (Row.ext hV.out.2.2.1 hW0.drew_left)
          have C1 := hideP (Row.ext hV.out.2.2.2.1 hW0.drew_left)
          have cb := hideP (below_ext hV.out.2.2.2.2 hW0.drew_left)
          have hall := hideP hV.out.2.1
          clear hV hW0 k15 k2
          go_wp2_with fail
          refine wp_region_eager 15 [(true, 0), (true, 1), (true, 2), (true, 3), (true, 4), (true, 5), (true, 6), (true, 7), (true, 8), (true, 9), (true, 10), (true, 11), (true, 12), (true, 13), (true, 14)] (by kernel_rfl) (by kernel_rfl) ?_
          simp only [pick, List.map_cons, List.map_nil, nthO_zero, nthO_succ]
          repeat (first
            | (refine wpPlan_skipK (by rfl) (fun K hK => ?_); go_simp; refine hK _ ?_; clear hK K)
            | (refine wpPlan_valK (by rfl) (fun K hK => ?_); apply Exists.intro; refine ⟨fun W hW => ?_, ?_⟩; (focus (have hs0 := hW.cell k16; have hs1 := hW.cell k7; go_simp; (try rfl); done)); go_simp; refine hK _ ?_; clear hK K))
          refine wpPlan_nil (fun W2 hW0 => ?_)
          simp only [List.drop_succ_cons, List.drop_zero, List.drop_nil]
          obtain ⟨y, hyy⟩ : ∃ y, y = x16 + (rotr x15 7 ^^^ rotr x15 18 ^^^ shr x15 3) + x7 + (rotr x2 17 ^^^ rotr x2 19 ^^^ shr x2 10) := ⟨_, rfl⟩
          have hyw := hideP (show y = wrd b k by rw [hy.out, hyy])
          rw [← hyy]
          clear hyy
          have c2 := C2.out.ext hW0.drew_left
          have hs1 := Row32.cell c2 k (by rw [Hhl.out]; omega)
          have hs2 := Row.fz c2 k
          replace C1 := hideP (Row.setOther (C1.out.ext hW0.drew_left) (a := ⟨w.heap.size + 1, k, none⟩) (by simp) (v32 y))
          replace C2 := hideP (Row32.set c2 k y)
          replace cb := hideP ((below_ext cb.out hW0.drew_left).setCell (p := ⟨w.heap.size + 1, k, none⟩) (by simp) (v32 y))
          clear c2 hW0 k16 k7 rx ra rs3 rs10 r7 r18 r17 r19 m0 m1 m2 m3 n0 n1 n2 n3 i1 i3 i5 i7 j0 j1 j2 j3
          go_wp2_with fail
          clear hs1 hs2
          go_roundw
          case rel =>
            refine ⟨k + 1, l.set k y, by omega, by omega, by go_num, by rw [List.length_set]; exact Hhl.out, fun j hj => ?_, C2.out, C1.out, cb.out⟩
            unfold List.getD
            rw [List.getElem?_set]
            by_cases e : k = j
            · subst e; rw [if_pos rfl, if_pos (by rw [Hhl.out]; omega)]; exact hyw.out
            · rw [if_neg e]; exact hall.out j (by omega)
          case measure => simp [intOf]; omega
        · have t' : decide ((k : Int) < 64) = false := by simp; omega
          obtain rfl : k = 64 := by omega
          have hl : l = (List.range 64).map (wrd b) := by
            refine List.ext_getElem? fun i => ?_
            rcases Nat.lt_or_ge i 64 with hi | hi
            · have := hV.out.2.1 i hi
              unfold List.getD at this
              rw [List.getElem?_eq_getElem (by rw [hV.out.1]; exact hi)] at this ⊢
              simp [hi]; simpa using this
            · rw [List.getElem?_eq_none (by rw [hV.out.1]; exact hi)]; simp [hi]
          have hres := hideP (show (l.map v32) = (List.range 64).map fun i => v32 (wrd b i) by rw [hl, List.map_map]; rfl)
          have C2 := hideP hV.out.2.2.1
          have C1 := hideP hV.out.2.2.2.1
          have cb := hideP hV.out.2.2.2.2
          have hlen := hideP (show (l.map v32).length = 64 by rw [List.length_map]; exact hV.out.1)
          clear hV hl hlt hk hk0
          obtain ⟨Z, hZ⟩ : ∃ Z, Z = l.map v32 := ⟨_, rfl⟩
          have C2' : Row wr (w.heap.size + 1) 201 Z := by rw [hZ]; exact C2.out
          have hall := hideP (show Z.toArray.all (·.oneCell') = true by rw [hZ]; exact all_v32 l)
          rw [← hZ] at hres hlen
          replace C2 := hideP C2'
          clear hZ C2'
          have hsz := hideP (show (Tryz.prog.info? 201).map (·.size) = some Z.toArray.size by rw [size_w64]; simp [hlen.out])
          go_wp2_with (first
            | (refine wpList_load_row rfl 201 (.tmp 3) rfl (w.heap.size + 1) rfl 201 Z.toArray (0, 0) _ C2.out Tryz.underlying201 rfl hsz.out ?_)
            | (refine wpList_store_row rfl 201 (.tmp 2) (.tmp 92) rfl w.heap.size Z.toArray rfl rfl 201 (z64.map v32).toArray C1.out hsz.out (by rw [show (z64.map v32).toArray.size = 64 from rfl]; simp [hlen.out]) hall.out ?_))
          refine ret_row rfl rfl (Row.setRow C1.out Z) Tryz.underlying201 (by rw [size_w64, hlen.out]) rfl ⟨by rw [hres.out], ?_⟩
          exact below_setRow' cb.out (Nat.le_refl _) _
end Go.Proofs.YtedokpgkjcnoiaaGreat
