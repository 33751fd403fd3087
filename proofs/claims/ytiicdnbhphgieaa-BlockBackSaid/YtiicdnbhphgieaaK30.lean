/- Contracts of slices.Equal at bytes and of block.OpsSum. Contracts of sha.Hash, block.OpsSum and the document's OpsSum. -/
import Derived.Test.YtiicdnbhphgieaaK25
import Derived.Test.YtiicdnbhphgieaaK29
set_option linter.unusedVariables false
set_option linter.unusedSimpArgs false
namespace Go.Proofs.Ytiicdnbhphgieaa
open Go.RowKit
theorem take_next {l m : List Nat} {k : Nat} (hl : k < l.length) (hm : k < m.length) (h : l.take k = m.take k) (e : l.getD k 0 = m.getD k 0) : l.take (k + 1) = m.take (k + 1) := by
  rw [List.take_add_one, List.take_add_one, h, List.getElem?_eq_getElem hl, List.getElem?_eq_getElem hm]
  simp only [List.getD, List.getElem?_eq_getElem hl, List.getElem?_eq_getElem hm, Option.getD_some] at e
  rw [e]
set_option maxRecDepth 100000 in
set_option maxHeartbeats 1000000 in
theorem bsequal_any (A B : Option Addr) (l m : List Nat) (n k c d : Nat) (w : World) (hn : n = l.length) (hk : k = m.length) (hA : Arr w w.heap.size A n (u8s l)) (hB : Arr w w.heap.size B k (u8s m)) (h1 : n ≤ 140737488351232) :
    Calls Try.prog 69 #[.slice A n c, .slice B k d] w fun e w' => e = .returned (.bool (decide (l = m))) ∧ Below w.heap.size w w' := by
  obtain ⟨RS, hRS⟩ : ∃ RS, RS = decide (l = m) := ⟨_, rfl⟩
  rw [← hRS]
  by_cases hnk : n = k
  · have hnk' : ((n : Int) != (k : Int)) = false := by simp; omega
    subst hnk
    have HhRS := hideP hRS; have HhA := hideP hA; have HhB := hideP hB; have Hhn := hideP hn; have Hhk := hideP hk; clear hRS hA hB hn hk
    clear hnk'
    go_enter Try.func69, Try.ntmps69
    go_wp2_with fail
    go_loopw [13] (fun v13 wr => ∃ i : Nat, i ≤ n ∧ v13 = .int .i64 (i : Nat) ∧ Hid (l.take i = m.take i ∧ Below w.heap.size w wr)) (fun v13 _ => n - (intOf v13).toNat)
    case atStart => exact ⟨0, Nat.zero_le _, rfl, rfl, Below.refl _ _⟩
    case round =>
      obtain ⟨i, hi, rfl, hV⟩ := hrel
      by_cases hlt : i < n
      · have i1 : (i : Int) < (n : Int) := by omega
        obtain ⟨b0, off, hA, hB0, hc⟩ := HhA.out (by omega)
        obtain ⟨b1, of1, hB, hB1, hd⟩ := HhB.out (by omega)
        subst hA hB
        have c0 := (hV.out.2.cell (p := ⟨b0, off + i, none⟩) hB0).trans (hc i hlt)
        have c1 := (hV.out.2.cell (p := ⟨b1, of1 + i, none⟩) hB1).trans (hd i hlt)
        unfold u8s at c0 c1
        have hst := hideP (take_next (l := l) (m := m) (k := i) (by have := Hhn.out; omega) (by have := Hhk.out; omega) hV.out.1)
        have hne : l.getD i 0 ≠ m.getD i 0 → RS = false := fun h => by
          rw [HhRS.out]; simp; intro e; exact h (by rw [e])
        have Hne := hideP hne
        obtain ⟨x, hx⟩ : ∃ x, x = l.getD i 0 := ⟨_, rfl⟩
        obtain ⟨y, hy⟩ : ∃ x, x = m.getD i 0 := ⟨_, rfl⟩
        rw [← hx] at c0 hst Hne
        rw [← hy] at c1 hst Hne
        clear hx hy hc hd hne
        by_cases hxy : x = y
        · have hok := hideP (hst.out hxy)
          subst hxy
          go_wp2_with fail
          go_quiet (fail)
          go_wp2_with fail
          go_roundw
          case rel => exact ⟨i + 1, by omega, by go_num, hok.out, below_drewN hV.out.2 _⟩
          case measure => simp [intOf]; omega
        · have hf := hideP (Hne.out hxy)
          have e1 : ((x : Int) != (y : Int)) = true := by simp; omega
          clear hxy
          go_wp2_with fail
          go_quiet (fail)
          go_wp2_with fail
          go_ret
          exact ⟨ret_bool hf.out.symm, below_drewN hV.out.2 _⟩
      · obtain rfl : n = i := by omega
        have i1 : ¬ ((n : Int) < (n : Int)) := by omega
        have hf := hideP (show RS = true by
          rw [HhRS.out]; have := hV.out.1; rw [List.take_of_length_le (by have := Hhn.out; omega), List.take_of_length_le (by have := Hhk.out; omega)] at this; simpa using this)
        go_wp2_with fail
        go_ret
        exact ⟨ret_bool hf.out.symm, hV.out.2⟩
  · have hnk' : ((n : Int) != (k : Int)) = true := by simp; omega
    have hf := hideP (show RS = false by rw [hRS]; simp; intro e; exact hnk (by rw [hn, hk, e]))
    clear hRS hA hB hn hk hnk
    go_enter Try.func69, Try.ntmps69
    go_wp2_with fail
    go_ret
    exact ⟨ret_bool hf.out.symm, Below.refl _ _⟩
end Go.Proofs.Ytiicdnbhphgieaa
namespace Go.Proofs.Ytiicdnbhphgieaa
open Go.RowKit
set_option maxRecDepth 100000 in
set_option maxHeartbeats 1000000 in
theorem hash_any (tag : Nat) (AT : Option Addr) (cT K : Nat) (ts : List (List Nat)) (Af : Nat → Option Addr) (cf : Nat → Nat) (w : World) (hK : K = ts.length) (hT : Arr w w.heap.size AT ts.length (fun i => .slice (Af i) (ts.getD i []).length (cf i)))
    (hA : ∀ i, i < ts.length → Arr w w.heap.size (Af i) (ts.getD i []).length (u8s (ts.getD i []))) (ht : tag < 256) (hI : ∀ i, IsB (ts.getD i [])) (hn : (preN tag ts).length ≤ 1000000000) (hk : ts.length ≤ 1000000000) :
    Calls Try.prog 74 #[.int .u8 tag, .slice AT K cT] w fun e w' => e = .returned (.agg ((dig (sumW (preN tag ts))).map b8).toArray) ∧ Below w.heap.size w w' := by
  have hPB := hideP (show IsB (preN tag ts) from isB_prePart ht hI _)
  have hP := hideP (fun W (hW : Below w.heap.size w W) => pre_any tag AT cT ts Af cf W (hT.after hW) (fun i hi => (hA i hi).after hW) (by omega) (by omega))
  obtain ⟨P, hPP⟩ : ∃ P, P = preN tag ts := ⟨_, rfl⟩
  rw [← hK] at hP
  rw [← hPP] at hP hPB hn ⊢
  clear hPP hT hA hI hK hk
  obtain ⟨DD, hDD⟩ : ∃ D, D = (dig (sumW P)).map b8 := ⟨_, rfl⟩
  have hDl := hideP (show DD.length = 32 by rw [hDD]; simp [dig])
  have hDa := hideP (show DD.toArray.all (·.oneCell') = true by rw [hDD]; exact all_b8 _)
  have hDe := hideP (show (dig (sumW P)).map b8 = DD from hDD.symm)
  rw [← hDD]
  clear hDD
  have hds := hideP (show (Try.prog.info? 41).map (·.size) = some DD.toArray.size by rw [size_dig]; simp [hDl.out])
  have hdo := hideP (show z32.toArray.size = DD.toArray.size by simp [hDl.out, z32])
  have hn' := hideP hn
  clear hn
  go_enter Try.func74, Try.ntmps74
  go_upto_region 1 with fail
  obtain ⟨w1, hw1⟩ : ∃ w1, w1 = w.alloc (Obj.cells #[.int .u8 0, .int .u8 0, .int .u8 0, .int .u8 0, .int .u8 0, .int .u8 0, .int .u8 0, .int .u8 0, .int .u8 0, .int .u8 0, .int .u8 0, .int .u8 0, .int .u8 0, .int .u8 0, .int .u8 0, .int .u8 0, .int .u8 0, .int .u8 0, .int .u8 0, .int .u8 0, .int .u8 0, .int .u8 0, .int .u8 0, .int .u8 0, .int .u8 0, .int .u8 0, .int .u8 0, .int .u8 0, .int .u8 0, .int .u8 0, .int .u8 0, .int .u8 0] 41) := ⟨_, rfl⟩
  have c1 := hideP (show Row w1 w.heap.size 41 z32 by rw [hw1]; exact Row.new w _ z32)
  have cb := hideP (show Below w.heap.size w w1 by rw [hw1]; exact below_new _ _)
  rw [← hw1]
  clear hw1
  go_wp2_with (first
    | (go_at_call 84; refine (hP.out _ cb.out).mono ?_; rintro e w2 ⟨A2, c2, rfl, hb2, h2⟩; have x2 := hideP (h2.arr); have d2 := hideP (Row.after c1.out hb2); have cb2 := hideP (cb.out.trans (hb2.mono cb.out.size)))
    | (go_at_call 33; refine (ssum_any A2 P c2 _ x2.out hPB.out hn'.out).mono ?_; rintro e w4 ⟨rfl, hb4⟩; rw [hDe.out]; have c4 := hideP (Row.after d2.out hb4); have cb4 := hideP (cb2.out.trans (hb4.mono cb2.out.size)))
    | (refine wpList_store_row rfl 41 (.tmp 4) (.tmp 8) rfl w.heap.size DD.toArray rfl rfl 41 z32.toArray c4.out hds.out hdo.out hDa.out ?_))
  refine ret_row rfl rfl (Row.setRow c4.out DD) Try.underlying41 (by rw [size_dig, hDl.out]) rfl ⟨rfl, ?_⟩
  exact below_setRow' cb4.out (Nat.le_refl _) _
/-- the sum of one text behind a tag -/
def tagD (tag : Nat) (t : List Nat) : List Nat := dig (sumW (preN tag [t]))
theorem pre1_len (tag : Nat) (t : List Nat) (hn : t.length ≤ 100000000) : (preN tag [t]).length ≤ 1000000000 := by unfold preN; simp [prePart, be8_len]; omega
theorem isB_one1 {t : List Nat} (ht : IsB t) : ∀ i, IsB (([t] : List (List Nat)).getD i []) := fun i => by
  cases i with
  | zero => exact ht
  | succ i => intro j; simp
/-- a row that holds one text -/
theorem row1 (w : World) (A : Option Addr) (t : List Nat) (c : Nat) (hA : Arr w w.heap.size A t.length (u8s t)) :
    Arr (w.alloc (.cells #[.slice A t.length c] 31)) (w.alloc (.cells #[.slice A t.length c] 31)).heap.size (some ⟨w.heap.size, 0, none⟩) [t].length (fun i => .slice A ([t].getD i []).length c) ∧
    ∀ i, i < [t].length → Arr (w.alloc (.cells #[.slice A t.length c] 31)) (w.alloc (.cells #[.slice A t.length c] 31)).heap.size A ([t].getD i []).length (u8s ([t].getD i [])) :=
  ⟨(arr_one w (.slice A t.length c) 31).congr (g := fun i => .slice A ([t].getD i []).length c) (fun i (hi : i < 1) => by cases (show i = 0 by omega); rfl), fun i hi => by
    obtain rfl : i = 0 := by simpa using hi
    exact hA.after (below_new _ _)⟩
set_option maxRecDepth 100000 in
set_option maxHeartbeats 1000000 in
theorem bopssum_any (A : Option Addr) (t : List Nat) (n c : Nat) (w : World) (hnn : n = t.length) (hA : Arr w w.heap.size A n (u8s t)) (ht : IsB t) (hn : n ≤ 100000000) :
    Calls Try.prog 23 #[.slice A n c] w fun e w' => e = .returned (.agg ((tagD 79 t).map b8).toArray) ∧ Below w.heap.size w w' := by
  subst hnn
  have hP := hideP (fun W (hW : Below w.heap.size w W) => hash_any 79 (some ⟨W.heap.size, 0, none⟩) 1 1 [t] (fun _ => A) (fun _ => c) (W.alloc (.cells #[.slice A t.length c] 31)) rfl (row1 W A t c (hA.after hW)).1 (row1 W A t c (hA.after hW)).2 (by decide) (isB_one1 ht) (pre1_len 79 t hn) (by simp))
  rw [show dig (sumW (preN 79 [t])) = tagD 79 t from rfl] at hP
  have hTL := hideP (show (tagD 79 t).length = 32 by simp [tagD, dig])
  obtain ⟨P, hPP⟩ : ∃ P, P = tagD 79 t := ⟨_, rfl⟩
  rw [← hPP] at hP hTL ⊢
  clear hPP hA ht hn
  obtain ⟨DD, hDD⟩ : ∃ D, D = P.map b8 := ⟨_, rfl⟩
  have hDl := hideP (show DD.length = 32 by rw [hDD]; simpa using hTL.out)
  have hDa := hideP (show DD.toArray.all (·.oneCell') = true by rw [hDD]; exact all_b8 _)
  rw [← hDD] at hP ⊢
  clear hDD
  have hds := hideP (show (Try.prog.info? 41).map (·.size) = some DD.toArray.size by rw [size_dig]; simp [hDl.out])
  have hdo := hideP (show z32.toArray.size = DD.toArray.size by simp [hDl.out, z32])
  go_enter Try.func23, Try.ntmps23
  go_upto_region 1 with fail
  obtain ⟨w1, hw1⟩ : ∃ w1, w1 = w.alloc (Obj.cells #[.int .u8 0, .int .u8 0, .int .u8 0, .int .u8 0, .int .u8 0, .int .u8 0, .int .u8 0, .int .u8 0, .int .u8 0, .int .u8 0, .int .u8 0, .int .u8 0, .int .u8 0, .int .u8 0, .int .u8 0, .int .u8 0, .int .u8 0, .int .u8 0, .int .u8 0, .int .u8 0, .int .u8 0, .int .u8 0, .int .u8 0, .int .u8 0, .int .u8 0, .int .u8 0, .int .u8 0, .int .u8 0, .int .u8 0, .int .u8 0, .int .u8 0, .int .u8 0] 41) := ⟨_, rfl⟩
  have c1 := hideP (show Row w1 w.heap.size 41 z32 by rw [hw1]; exact Row.new w _ z32)
  have cb := hideP (show Below w.heap.size w w1 by rw [hw1]; exact below_new _ _)
  rw [← hw1]
  clear hw1
  have cb1 := hideP (cb.out.alloc cb.out.size (Obj.cells #[.slice A t.length c] 31))
  have d1 := hideP (Row.after c1.out (below_new w1 (Obj.cells #[.slice A t.length c] 31)))
  go_wp2_with (first
    | (go_at_call 74; refine (hP.out _ cb.out).mono ?_; rintro e w4 ⟨rfl, hb4⟩; have c4 := hideP (Row.after d1.out hb4); have cb4 := hideP (cb1.out.trans (hb4.mono cb1.out.size)))
    | (refine wpList_store_row rfl 41 (.tmp 2) (.tmp 5) rfl w.heap.size DD.toArray rfl rfl 41 z32.toArray c4.out hds.out hdo.out hDa.out ?_))
  refine ret_row rfl rfl (Row.setRow c4.out DD) Try.underlying41 (by rw [size_dig, hDl.out]) rfl ⟨rfl, ?_⟩
  exact below_setRow' cb4.out (Nat.le_refl _) _
set_option maxRecDepth 100000 in
set_option maxHeartbeats 1000000 in
theorem ropssum_any (A : Option Addr) (t : List Nat) (n c : Nat) (w : World) (hnn : n = t.length) (hA : Arr w w.heap.size A n (u8s t)) (ht : IsB t) (hn : n ≤ 100000000) :
    Calls Try.prog 24 #[.slice A n c] w fun e w' => e = .returned (.agg ((tagD 79 t).map b8).toArray) ∧ Below w.heap.size w w' := by
  subst hnn
  have hP := hideP (fun W (hW : Below w.heap.size w W) => rpre_any 79 (some ⟨W.heap.size, 0, none⟩) 1 [t] (fun _ => A) (fun _ => c) (W.alloc (.cells #[.slice A t.length c] 31)) (row1 W A t c (hA.after hW)).1 (row1 W A t c (hA.after hW)).2 (Nat.le_trans (pre1_len 79 t hn) (by decide)) (by simp))
  have hPB := hideP (show IsB (preN 79 [t]) from isB_prePart (by decide) (isB_one1 ht) _)
  have hPn := hideP (pre1_len 79 t hn)
  unfold tagD
  obtain ⟨P, hPP⟩ : ∃ P, P = preN 79 [t] := ⟨_, rfl⟩
  rw [← hPP] at hP hPB hPn ⊢
  clear hPP hA ht hn
  obtain ⟨DD, hDD⟩ : ∃ D, D = (dig (sumW P)).map b8 := ⟨_, rfl⟩
  have hDl := hideP (show DD.length = 32 by rw [hDD]; simp [dig])
  have hDa := hideP (show DD.toArray.all (·.oneCell') = true by rw [hDD]; exact all_b8 _)
  have hDe := hideP (show (dig (sumW P)).map b8 = DD from hDD.symm)
  rw [← hDD]
  clear hDD
  have hds := hideP (show (Try.prog.info? 41).map (·.size) = some DD.toArray.size by rw [size_dig]; simp [hDl.out])
  have hdo := hideP (show z32.toArray.size = DD.toArray.size by simp [hDl.out, z32])
  go_enter Try.func24, Try.ntmps24
  go_upto_region 1 with fail
  obtain ⟨w1, hw1⟩ : ∃ w1, w1 = w.alloc (Obj.cells #[.int .u8 0, .int .u8 0, .int .u8 0, .int .u8 0, .int .u8 0, .int .u8 0, .int .u8 0, .int .u8 0, .int .u8 0, .int .u8 0, .int .u8 0, .int .u8 0, .int .u8 0, .int .u8 0, .int .u8 0, .int .u8 0, .int .u8 0, .int .u8 0, .int .u8 0, .int .u8 0, .int .u8 0, .int .u8 0, .int .u8 0, .int .u8 0, .int .u8 0, .int .u8 0, .int .u8 0, .int .u8 0, .int .u8 0, .int .u8 0, .int .u8 0, .int .u8 0] 41) := ⟨_, rfl⟩
  have c1 := hideP (show Row w1 w.heap.size 41 z32 by rw [hw1]; exact Row.new w _ z32)
  have cb := hideP (show Below w.heap.size w w1 by rw [hw1]; exact below_new _ _)
  rw [← hw1]
  clear hw1
  have cb1 := hideP (cb.out.alloc cb.out.size (Obj.cells #[.slice A t.length c] 31))
  have d1 := hideP (Row.after c1.out (below_new w1 (Obj.cells #[.slice A t.length c] 31)))
  go_wp2_with (first
    | (go_at_call 76; refine (hP.out _ cb.out).mono ?_; rintro e w2 ⟨A2, c2, rfl, hb2, h2⟩; have x2 := hideP (h2.arr); have d2 := hideP (Row.after d1.out hb2); have cb2 := hideP (cb1.out.trans (hb2.mono cb1.out.size)))
    | (go_at_call 75; refine (rsum_any A2 P c2 _ x2.out hPB.out hPn.out).mono ?_; rintro e w4 ⟨rfl, hb4⟩; rw [hDe.out]; have c4 := hideP (Row.after d2.out hb4); have cb4 := hideP (cb2.out.trans (hb4.mono cb2.out.size)))
    | (refine wpList_store_row rfl 41 (.tmp 2) (.tmp 6) rfl w.heap.size DD.toArray rfl rfl 41 z32.toArray c4.out hds.out hdo.out hDa.out ?_))
  refine ret_row rfl rfl (Row.setRow c4.out DD) Try.underlying41 (by rw [size_dig, hDl.out]) rfl ⟨rfl, ?_⟩
  exact below_setRow' cb4.out (Nat.le_refl _) _
end Go.Proofs.Ytiicdnbhphgieaa
