/-
  The zero head is one.
  Contract of the reference's Block.
  The walk of BlockSpoilt.
-/
import Derived.Test.YtiicdnbhphgieaaK34
import Derived.Test.YtiicdnbhphgieaaK54
import Derived.Test.YtiicdnbhphgieaaK40
import Derived.Test.YtiicdnbhphgieaaK51
import Derived.Deep.DeepCutAuto
set_option linter.unusedVariables false
set_option linter.unusedSimpArgs false
namespace Go.Proofs.Ytiicdnbhphgieaa
open Go.RowKit
theorem headZ_okz : HeadOk headZ := ⟨rfl, rfl, rfl, fun i => by unfold headZ; simp only [List.getD, List.getElem?_replicate]; split <;> decide, fun i => by unfold headZ; simp only [List.getD, List.getElem?_replicate]; split <;> decide, fun i => by unfold headZ; simp only [List.getD, List.getElem?_replicate]; split <;> decide, by decide, by decide⟩
end Go.Proofs.Ytiicdnbhphgieaa
namespace Go.Proofs.Ytiicdnbhphgieaa
open Go.RowKit
set_option maxRecDepth 100000 in
set_option maxHeartbeats 1000000 in
theorem rwblock_any (h : HeadD) (hk : HeadOk h) (A : Option Addr) (l : List OpD) (ps : Nat → OpP) (n c : Nat) (w : World) (hn : n = l.length) (hA : OpsL w w.heap.size A l ps) (hl : n ≤ 400) (hw : ∀ i, i < n → (l.getD i default).cols.length ≤ 255 ∧ (l.getD i default).row.length ≤ 255) :
    Calls Try.prog 29 #[.agg (headC h).toArray, .slice A n c] w fun e w' => ∃ R d, e = .returned (.slice R (textB (headB h) ++ textB (opsR l)).length d) ∧ OwnB w' w.heap.size R d (textB (headB h) ++ textB (opsR l)) ∧ Below w.heap.size w w' := by
  have r0 := hideP (Row.new w 48 (headC h))
  have hb := hideP (below_new w (.cells (headC h).toArray 48))
  have hH := hideP (fun W => rhead_any h hk W)
  have hs := hideP (size_h97 hk.cells)
  have hO := hideP (fun W (hW : Below w.heap.size w W) => rwops_any A l ps n c W hn (hA.after hW) (by omega) hw)
  have hHl := hideP hk.len
  have hOl := hideP (show (opsR l).length ≤ 900000000000 by
    have := opsR_len (fun i hi => (hA.2 i hi).2) l.length (Nat.le_refl _)
    rw [List.take_length] at this
    unfold opsR
    rw [List.length_append]
    have h3 : (be3 l.length).length = 3 := rfl
    omega)
  obtain ⟨C, hC⟩ : ∃ C, C = headC h := ⟨_, rfl⟩
  obtain ⟨X, hX⟩ : ∃ X, X = headB h := ⟨_, rfl⟩
  obtain ⟨Y, hY⟩ : ∃ X, X = opsR l := ⟨_, rfl⟩
  rw [← hC] at hb r0 hs hH ⊢
  rw [← hX] at hH hHl ⊢
  rw [← hY] at hO hOl ⊢
  have hT1 := hideP (fun W A c hA => rwtext_any A X 104 c W hHl.out.symm hA (by decide))
  have hT2 := hideP (fun W A c hA => rwtext_any A Y Y.length c W rfl hA (by have := hOl.out; omega))
  obtain ⟨TX, hTX⟩ : ∃ t, t = textB X := ⟨_, rfl⟩
  obtain ⟨TY, hTY⟩ : ∃ t, t = textB Y := ⟨_, rfl⟩
  have hTl := hideP (show TX.length + TY.length ≤ 100000000000000 by rw [hTX, hTY]; unfold textB; simp only [List.length_append]; have := hHl.out; have := hOl.out; simp only [be3, List.length_cons, List.length_nil]; omega)
  rw [← hTX] at hT1 ⊢
  rw [← hTY] at hT2 ⊢
  clear hC hk hX hY hA hn hl hw hTX hTY
  go_enter Try.func29, Try.ntmps29
  go_wp2_with (first
    | (refine wpList_load_row rfl 48 (.tmp 2) rfl w.heap.size rfl 48 C.toArray (0, 0) _ r0.out Try.underlying48 rfl hs.out ?_)
    | (go_at_call 38; refine (hH.out _).mono ?_; rintro e1 w2 ⟨R2, d2, rfl, o_, b_⟩; have O2 := hideP o_; have B2 := hideP (bstep hb.out b_); clear b_ o_)
    | (go_at_call 71; refine (hT1.out w2 R2 d2 (by have := O2.out.arr; rwa [hHl.out] at this)).mono ?_; rintro e1 w3 ⟨R3, d3, rfl, o_, b_⟩; have O3 := hideP (OwnB.monoR o_ B2.out.size); have B3 := hideP (bstep B2.out b_); clear b_ o_)
    | (go_at_call 21; refine (hO.out w3 B3.out).mono ?_; rintro e1 w4 ⟨R4, d4, rfl, o_, b_⟩; have O4 := hideP o_.arr; have Q3 := hideP (O3.out.after b_); have B4 := hideP (bstep B3.out b_); clear b_ o_)
    | (go_at_call 71; refine (hT2.out w4 R4 d4 O4.out).mono ?_; rintro e1 w5 ⟨R5, d5, rfl, o_, b_⟩; have O5 := hideP o_.arr; have P3 := hideP (Q3.out.after b_); have B5 := hideP (bstep B4.out b_); clear b_ o_)
    | (at_builtin; refine wpList_appn rfl (.tmp 7) (.tmp 10) rfl w.heap.size R3 d3 TX.length TX rfl rfl P3.out w5.heap.size R5 TY.length d5 TY rfl rfl O5.out (by have := hTl.out; omega) B5.out.size ?_; intro A6 c6 w6 o_ b_; have O6 := hideP o_; have B6 := hideP (B5.out.trans b_); clear o_ b_))
  go_ret
  exact ⟨A6, c6, by rw [List.length_append]; rfl, O6.out, B6.out⟩
end Go.Proofs.Ytiicdnbhphgieaa
namespace Go.Proofs.Ytiicdnbhphgieaa
open Go.RowKit
theorem u8s_set (Z : List Nat) (i v : Nat) (hi : i < Z.length) (j : Nat) : (if j = i then Value.int .u8 (v : Nat) else u8s Z j) = u8s (Z.set i v) j := by
  unfold u8s
  simp only [List.getD, List.getElem?_set]
  by_cases h : j = i
  · subst h; simp [hi]
  · rw [if_neg h, if_neg (fun e => h e.symm)]
theorem isB_set {Z : List Nat} (h : IsB Z) (i v : Nat) (hv : v < 256) : IsB (Z.set i v) := fun j => by
  simp only [List.getD, List.getElem?_set]
  by_cases e : i = j
  · subst e
    by_cases hi : i < Z.length
    · simp [hi, hv]
    · simp [hi]
  · rw [if_neg e]; exact h j
theorem isB_takeB {Z : List Nat} (h : IsB Z) (k : Nat) : IsB (Z.take k) := fun j => by
  have := h j
  simp only [List.getD, List.getElem?_take] at *
  split
  · exact this
  · decide
theorem u8s_take (Z : List Nat) (k j : Nat) (hj : j < k) : u8s Z j = u8s (Z.take k) j := by
  unfold u8s
  simp only [List.getD, List.getElem?_take, if_pos hj]
set_option maxRecDepth 100000 in
set_option maxHeartbeats 4000000 in
theorem blockspoilt_any (h : HeadD) (A : Option Addr) (l : List OpD) (ps : Nat → OpP) (n c : Nat) (x : Int) (y : Nat) (x2 : Int) (w : World) (hk : HeadOk h) (hn : n = l.length) (hA0 : OpsM w w.heap.size A l ps) (hy : y < 256) :
    Calls Try.prog 6 #[.agg (headC h).toArray, .slice A n c, .int .i64 x, .int .u8 (y : Nat), .int .i64 x2] w fun e w' => e = .returned (.bool true) ∧ Below w.heap.size w w' := by
  have hG := hideP (fun W (hW : Below w.heap.size w W) => great19_any A l ps n c W hn (hA0.after hW))
  have hsm := hideP (small_ops hA0)
  have hn' := hideP hn
  have hHR := hideP (fun W => rhr_any h hk W)
  have hs := hideP (size_h97 hk.cells)
  obtain ⟨G, hGG⟩ : ∃ G, G = greatB l := ⟨_, rfl⟩
  rw [← hGG] at hG hsm
  obtain ⟨C, hC⟩ : ∃ C, C = headC h := ⟨_, rfl⟩
  rw [← hC] at hHR hs ⊢
  have HC := hideP hC
  have Hk := hideP hk
  have Hy := hideP hy
  clear hy
  clear hn hGG hA0 hC hk
  obtain ⟨v, hv⟩ : ∃ v, v = w.alloc (.cells C.toArray 48) := ⟨_, rfl⟩
  obtain ⟨z, hz⟩ : ∃ z, z = w.heap.size := ⟨_, rfl⟩
  have X1 := hideP (show Row v z 48 C by rw [hv, hz]; exact Row.new w 48 C)
  have B1 := hideP (show Below w.heap.size w v by rw [hv]; exact below_new _ _)
  have hwz := hideP (show w.heap.size ≤ z by omega)
  rcases Bool.eq_false_or_eq_true G with hg | hg
  · subst hg
    go_enter Try.func6, Try.ntmps6
    go_upto_region 1 with fail
    rw [← hv, ← hz]
    clear hv hz
    go_wp2_with (first
      | (go_at_call 12; refine (alive19_any v).mono ?_; rintro e w1 ⟨rfl, b_⟩; have B3 := hideP (bstep B1.out b_); clear b_)
      | (go_at_call 13; refine (hG.out w1 B3.out).mono ?_; rintro e w2 ⟨rfl, rfl⟩))
    go_ret
    exact ⟨rfl, B3.out⟩
  · subst hg
    obtain ⟨hl, hL, hww⟩ := hsm.out rfl
    have hIm := hideP (opsL_isI hL)
    rw [← hn'.out] at hl
    have HL := hideP (fun W (hW : Below w.heap.size w W) => hL.after hW)
    have Hw := hideP hww
    have hAll := hideP (fun W (hW : Below w.heap.size w W) => all19_any A l ps n c W hn'.out (hL.after hW) (by omega))
    clear hsm hww hL
    rcases Bool.eq_false_or_eq_true (allB l) with hall | hall
    · rw [hall] at hAll
      have Hall := hideP hall
      clear hall
      rcases Bool.eq_false_or_eq_true (headR h) with hr | hr
      · rw [hr] at hHR
        have Hr := hideP hr
        clear hr
        go_enter Try.func6, Try.ntmps6
        go_upto_region 1 with fail
        rw [← hv, ← hz]
        clear hv hz
        go_wp2_with (first
          | (go_at_call 12; refine (alive19_any v).mono ?_; rintro e w1 ⟨rfl, b_⟩; have B3 := hideP (bstep B1.out b_); have X3 := hideP (Row.after X1.out b_); clear b_)
          | (go_at_call 13; refine (hG.out w1 B3.out).mono ?_; rintro e w2 ⟨rfl, rfl⟩)
          | (go_at_call 19; refine (hAll.out w1 B3.out).mono ?_; rintro e w3 ⟨rfl, b_⟩; have B4 := hideP (bstep B3.out b_); have X4 := hideP (Row.after X3.out b_); clear b_))
        refine wp_load_row 48 (.tmp 5) ?_ z ?_ 48 C.toArray (0, 0) _ X4.out Try.underlying48 ?_ hs.out ?_
        iterate 3 (focus (rfl))
        go_upto_region 5 with (go_at_call 27; refine (hHR.out w3).mono ?_; rintro e w4 ⟨rfl, b_⟩; have B5 := hideP (bstep B4.out b_); have X5 := hideP (Row.after X4.out b_); clear b_)
        have hOp := fun W (hW : Below w.heap.size w W) => rwops_any A l ps n c W hn'.out (HL.out W hW) (by omega) (fun i hi => Hw.out i (by have := hn'.out; omega))
        rw [opsR_eq Hall.out] at hOp
        have hPB := isB_opsB Hall.out
        have hPn := opsB_small Hall.out
        have hOS := fun W R d (hX : Arr W W.heap.size R (opsB l).length (u8s (opsB l))) => ropssum_any R (opsB l) (opsB l).length d W rfl hX hPB (by omega)
        obtain ⟨O, hO⟩ : ∃ O, O = tagD 79 (opsB l) := ⟨_, rfl⟩
        obtain ⟨h', hh⟩ : ∃ h', h' = (⟨h.prev, h.num, O, h.tabs⟩ : HeadD) := ⟨_, rfl⟩
        have hOl : O.length = 32 := by rw [hO]; simp [tagD, dig]
        have hk' : HeadOk h' := by rw [hh]; exact ⟨Hk.out.p, hOl, Hk.out.t, Hk.out.pB, by rw [hO]; exact isB_tagD _ _, Hk.out.tB, Hk.out.n1, Hk.out.n2⟩
        have hbr : blockR h' l = true := by
          unfold blockR
          rw [Hall.out, show headR h' = true by rw [hh]; exact Hr.out, show h'.ops = tagD 79 (opsB l) by rw [hh]; exact hO, decide_eq_true rfl]; rfl
        have hRB := fun W (hW : Below w.heap.size w W) => rwblock_any h' hk' A l ps n c W hn'.out (HL.out W hW) (by omega) (fun i hi => Hw.out i (by have := hn'.out; omega))
        rw [opsR_eq Hall.out, show textB (headB h') ++ textB (opsB l) = blockB h' l from rfl] at hRB
        rw [← hO] at hOS
        obtain ⟨P, hP⟩ : ∃ P, P = opsB l := ⟨_, rfl⟩
        rw [← hP] at hOp hOS
        have hOp := hideP hOp; have hOS := hideP hOS; have Hk' := hideP hk'; have Hbr := hideP hbr; have HRB := hideP hRB; have HO := hideP hO; have Hh := hideP hh; have HOl := hideP hOl
        clear hPB hPn hk' hbr hRB hO hh hOl hP
        go_upto_region 6 with (first
          | (go_at_call 21; refine (hOp.out w4 B5.out).mono ?_; rintro e w5 ⟨R5, d5, rfl, o_, b_⟩; have B6 := hideP (bstep B5.out b_); have X6 := hideP (Row.after X5.out b_); have O6 := hideP o_; clear b_ o_)
          | (go_at_call 24; refine (hOS.out w5 R5 d5 O6.out.arr).mono ?_; rintro e w6 ⟨rfl, b_⟩; have B7 := hideP (bstep B6.out b_); have X7 := hideP (show Row w6 z 48 (headC ⟨h.prev, h.num, h.ops, h.tabs⟩) by have := Row.after X6.out b_; rw [HC.out] at this; exact this); clear b_)
          | (refine wpList_store_mid rfl 41 (.tmp 32) (.tmp 31) rfl z 33 (O.map b8).toArray rfl rfl (there_row X7.out 33 _ (by simp [headC, Hk.out.p, Hk.out.o, HOl.out]; have := Hk.out.t; omega)) (by rw [size_dig]; simp [HOl.out]) (all_b8 O) ?_))
        obtain ⟨v7, hv7⟩ : ∃ v, v = w6.setCells z 33 (O.map b8) := ⟨_, rfl⟩
        rw [← hv7]
        have hb7 : Below z w6 v7 := by rw [hv7]; exact below_setCells (Nat.le_refl _) _ _ (Below.refl _ _)
        have Y7 := hideP (show Row v7 z 48 (headC h') by rw [hv7, Hh.out]; exact row_setOps X7.out O Hk.out.p (by rw [HOl.out]; exact Hk.out.o))
        have C7 := hideP (B7.out.trans (hb7.mono hwz.out))
        have hs2 := hideP (size_h97 Hk'.out.cells)
        clear hv7 hb7 X1 X3 X4 X5 X6 X7 B1 B3 B4 B5 B6 B7
        obtain ⟨D, hD⟩ : ∃ C, C = headC h' := ⟨_, rfl⟩
        rw [← hD] at Y7 hs2 HRB
        obtain ⟨Z, hZ⟩ : ∃ Z, Z = blockB h' l := ⟨_, rfl⟩
        rw [← hZ] at HRB
        have HD := hideP hD
        have HZ := hideP hZ
        clear hD hZ
        go_upto_region 7 with (first
          | (refine wpList_load_row rfl 48 (.tmp 5) rfl z rfl 48 D.toArray (0, 0) _ Y7.out Try.underlying48 rfl hs2.out ?_)
          | (go_at_call 29; refine (HRB.out v7 C7.out).mono ?_; rintro e w8 ⟨R8, d8, rfl, o_, b_⟩; have B8 := hideP (bstep C7.out b_); have O8 := hideP o_; clear b_ o_))
        have hm := hideP (show Z.length ≤ 1100000 by rw [HZ.out]; unfold blockB textB; have h1 := opsB_small Hall.out; have h2 := Hk'.out.len; have h3 : ∀ k, (be3 k).length = 3 := fun _ => rfl; simp only [List.length_append, h3, h2]; omega)
        have hZB := hideP (show IsB Z by rw [HZ.out]; exact isB_append (isB_textB _ Hk'.out.isB) (isB_textB _ (isB_opsB Hall.out)))
        obtain ⟨m, hmm⟩ : ∃ m, m = Z.length := ⟨_, rfl⟩
        rw [← hmm] at hm ⊢
        have Hm := hideP hmm
        clear hmm Y7
        have hmb := hm.out
        go_cut [43] (fun s43 wx => ∃ q : Bool, s43 = .bool q ∧ Hid ((q = true → 0 ≤ x ∧ x < (m : Int)) ∧ wx = w8))
        case first =>
          by_cases h1 : 0 ≤ x
          · by_cases h2 : x < (m : Int)
            · go_wp2_with fail
              go_meet
              exact ⟨true, rfl, fun _ => ⟨h1, h2⟩, rfl⟩
            · go_wp2_with fail
              go_meet
              exact ⟨false, rfl, (fun h => nomatch h), rfl⟩
          · go_wp2_with fail
            go_meet
            exact ⟨false, rfl, (fun h => nomatch h), rfl⟩
        case rest =>
          obtain ⟨q, rfl, hq⟩ := hcut
          obtain ⟨hq1, rfl⟩ := hq.out
          have Hq := hideP hq1
          clear hq hq1
          have hoc := hideP (show m ≤ d8 by rw [Hm.out]; exact O8.out.cap)
          go_upto_if 43 with fail
          go_cut [43] (fun s43 wx => (True ∨ s43 = s43) ∧ Hid (∃ X, Arr wx wx.heap.size R8 m (u8s X) ∧ IsB X ∧ m = X.length ∧ Below w.heap.size w wx))
          case first =>
            cases q
            · go_wp2_with fail
              go_meet
              exact ⟨.inl trivial, Z, by rw [Hm.out]; exact O8.out.arr, hZB.out, Hm.out, B8.out⟩
            · obtain ⟨i, rfl⟩ := Int.eq_ofNat_of_zero_le (Hq.out rfl).1
              have hi : i < m := by have := (Hq.out rfl).2; omega
              have i1 : (i : Int) < (m : Int) := by omega
              obtain ⟨g, rfl, hg, hblk⟩ := Blk.of_own (n := m) (f := u8s Z) (show World.ownsRow _ _ 5 1 (.slice R8 m d8) m (Z.map b8) by rw [Hm.out]; exact O8.out) (by omega) (fun j hj => by have := Hm.out; simp only [List.getElem?_map, List.getElem?_eq_getElem (show j < Z.length by omega), Option.map_some, u8s, List.getD, Option.getD_some]; rfl)
              have HB := hideP hblk
              have hc := hblk.cell hi
              have hf := hblk.frozen i
              obtain ⟨zi, hzi⟩ : ∃ z, z = Z.getD i 0 := ⟨_, rfl⟩
              unfold u8s at hc
              rw [← hzi] at hc
              have hzl : zi < 256 := by rw [hzi]; exact hZB.out i
              have hx := u8_xor_nat zi y hzl Hy.out
              obtain ⟨X, hX⟩ : ∃ X, X = zi ^^^ y := ⟨_, rfl⟩
              rw [← hX] at hx
              have hXl := hideP (show X < 256 by rw [hX]; exact Nat.xor_lt_two_pow (n := 8) hzl Hy.out)
              have Hi := hideP hi
              have Hg := hideP hg
              clear hzi hzl hX hblk hg
              go_wp2_with fail
              go_meet
              refine ⟨.inl trivial, Z.set i X, ?_, isB_set hZB.out i X hXl.out, by rw [List.length_set]; exact Hm.out, B8.out.setCell (Nat.le_trans C7.out.size Hg.out) _⟩
              exact (Arr.of_blk ((HB.out.set i _).congr fun j hj => u8s_set Z i X (by have := Hm.out; have := Hi.out; omega) j))
          case rest =>
            obtain ⟨-, hV⟩ := hcut
            obtain ⟨X, aX_, iX_, lX_, bX_⟩ := hV.out
            have aX := hideP aX_; have iX := hideP iX_; have HmX := hideP lX_; have bX := hideP bX_
            clear hV aX_ iX_ lX_ bX_
            clear O8 B8 C7 hZB Hm Hq HZ HD HRB hs2
            obtain ⟨v9, rfl⟩ : ∃ W, W = wc := ⟨_, rfl⟩
            go_upto_region 9 with fail
            go_cut [60] (fun s60 wx => ∃ q : Bool, s60 = .bool q ∧ Hid ((q = true → 0 ≤ x2 ∧ x2 < (m : Int)) ∧ wx = v9))
            case first =>
              by_cases h1 : 0 ≤ x2
              · by_cases h2 : x2 < (m : Int)
                · go_wp2_with fail
                  go_meet
                  exact ⟨true, rfl, fun _ => ⟨h1, h2⟩, rfl⟩
                · go_wp2_with fail
                  go_meet
                  exact ⟨false, rfl, (fun h => nomatch h), rfl⟩
              · go_wp2_with fail
                go_meet
                exact ⟨false, rfl, (fun h => nomatch h), rfl⟩
            case rest =>
              obtain ⟨q, rfl, hq⟩ := hcut
              obtain ⟨hq1, rfl⟩ := hq.out
              have Hq := hideP hq1
              clear hq hq1
              go_upto_if 60 with fail
              go_cut [11, 60] (fun s11 s60 wx => (True ∨ s60 = s60) ∧ ∃ R k d, s11 = .slice R k d ∧ Hid (∃ X, Arr wx wx.heap.size R k (u8s X) ∧ IsB X ∧ k = X.length ∧ k ≤ 1100000 ∧ Below w.heap.size w wx))
              case first =>
                cases q
                · go_wp2_with fail
                  go_meet
                  exact ⟨.inl trivial, R8, m, d8, rfl, X, aX.out, iX.out, HmX.out, hm.out, bX.out⟩
                · obtain ⟨i, rfl⟩ := Int.eq_ofNat_of_zero_le (Hq.out rfl).1
                  have hi : i < m := by have := (Hq.out rfl).2; omega
                  have i1 : (i : Int) ≤ (d8 : Int) := by have := hoc.out; omega
                  have Hi := hideP hi
                  go_wp2_with fail
                  go_meet
                  exact ⟨.inl trivial, R8, i, d8, rfl, X.take i, ((aX.out.front (Nat.le_of_lt Hi.out)).congr fun j hj => u8s_take X i j hj), isB_takeB iX.out i, by rw [List.length_take]; have := Hi.out; have := HmX.out; omega, by have := Hi.out; have := hm.out; omega, bX.out⟩
              case rest =>
                obtain ⟨-, R, k, d, rfl, hV⟩ := hcut
                obtain ⟨X2, aX_, iX_, lX_, kX_, bX_⟩ := hV.out
                clear aX iX HmX bX Hq hoc hm
                obtain ⟨X, rfl⟩ : ∃ X, X = X2 := ⟨_, rfl⟩
                have aX := hideP aX_; have iX := hideP iX_; have lX := hideP lX_; have HlX := hideP lX_; have bX := hideP bX_
                have hRd0 := breadblock_any R X k d wc lX_ aX_ iX_ (by omega)
                clear hV aX_ iX_ lX_ kX_ bX_
                rcases hN : rBlock X with _ | ⟨h2, l2⟩
                · skip
                  rw [hN] at hRd0
                  have hRd := hideP (show Calls Try.prog 28 #[.slice R k d] wc (fun e w' => e = .returned (.tuple #[.agg (headC headZ).toArray, .slice none 0 0, .int .i64 21]) ∧ Below wc.heap.size wc w') by
                    refine hRd0.mono ?_
                    rintro e w' ⟨b_, (⟨_, rfl⟩ | ⟨_, _, _, _, _, _, h, _⟩)⟩
                    · exact ⟨rfl, b_⟩
                    · exact absurd h (by simp))
                  have hs0 := hideP (size_h97 headZ_okz.cells)
                  have hC1 := hideP (headC_one headZ)
                  have heq := fun W => show (binOp .eql 48 (.agg (headC headZ).toArray) (.agg Try.zeroCells48)).run Try.prog W = .ok (.bool true) W by
                    have := run_eql_head headZ headZ headZ_okz headZ_okz W
                    rw [eqH_refl] at this
                    exact this
                  obtain ⟨C0, hC0⟩ : ∃ C, C = headC headZ := ⟨_, rfl⟩
                  have hso0 := hideP (show (headC headZ).toArray.size = C0.toArray.size by rw [hC0])
                  rw [← hC0] at hRd hs0 hC1 heq
                  have HEQ := hideP heq
                  clear hRd0 hN heq hC0 aX iX lX
                  go_upto_region 13 with (first
                    | (go_at_call 28; refine (hRd.out).mono ?_; rintro e w11 ⟨rfl, b_⟩; have B11 := hideP (bstep bX.out b_); clear b_)
                    | (refine wpList_store_row rfl 48 (.tmp 12) (.tmp 67) rfl w11.heap.size C0.toArray rfl rfl 48 (headC headZ).toArray (Row.new w11 48 (headC headZ)) hs0.out hso0.out hC1.out ?_))
                  obtain ⟨q, hq⟩ : ∃ u, u = w11.heap.size := ⟨_, rfl⟩
                  obtain ⟨v12, hv12⟩ : ∃ v, v = (w11.alloc (.cells Try.zeroCells48 48)).setRow q C0.toArray := ⟨_, rfl⟩
                  rw [← hq, ← hv12]
                  have hb12 : Below w11.heap.size w11 v12 := by rw [hv12, hq]; exact below_setRow' (below_new w11 _) (Nat.le_refl _) _
                  have Y12 := hideP (show Row v12 q 48 C0 by rw [hv12, hq]; exact Row.setRow (Row.new w11 48 (headC headZ)) C0)
                  have B12 := hideP (bstep B11.out hb12)
                  clear hv12 hb12 hq
                  have heq := HEQ.out
                  go_wp2_with fail
                  refine wp_load_row 48 (.tmp 12) ?_ q ?_ 48 C0.toArray (0, 0) _ Y12.out Try.underlying48 ?_ hs0.out ?_
                  iterate 3 (focus (rfl))
                  go_wp2_with fail
                  go_ret
                  exact ⟨rfl, B12.out⟩
                · skip
                  rw [hN] at hRd0
                  obtain ⟨hXB, hk2, hbr2, hI2⟩ := rBlock_inv iX.out hN
                  obtain ⟨_, hall2, hO2⟩ := blockR_facts hbr2
                  obtain ⟨hll, hlw⟩ := allB_short hall2
                  have hRe : opsR l2 = opsB l2 := opsR_eq hall2
                  have hRd := hideP (show Calls Try.prog 28 #[.slice R k d] wc (fun e w' => (∃ R2 d2 ps2, e = .returned (.tuple #[.agg (headC h2).toArray, .slice R2 l2.length d2, .int .i64 0]) ∧ OpsH w' wc.heap.size R2 l2 ps2) ∧ Below wc.heap.size wc w') by
                    refine hRd0.mono ?_
                    rintro e w' ⟨b_, (⟨h, _⟩ | ⟨h3, l3, R3, d3, ps3, n3, h, hn3, rfl, ho⟩)⟩
                    · exact absurd h (by simp)
                    · obtain ⟨rfl, rfl⟩ := Prod.mk.inj (Option.some.inj h)
                      subst hn3
                      exact ⟨⟨R3, d3, ps3, rfl, ho⟩, b_⟩)
                  have hRB2 := fun W A ps c hA => rwblock_any h2 hk2 A l2 ps l2.length c W rfl hA (by omega) hlw
                  rw [hRe, show textB (headB h2) ++ textB (opsB l2) = blockB h2 l2 from rfl, ← hXB] at hRB2
                  have hOp2 := fun W A ps c hA => rwops_any A l2 ps l2.length c W rfl hA (by omega) hlw
                  rw [hRe] at hOp2
                  have hOl2 := opsB_small hall2
                  have hOS2 := fun W R d (hX : Arr W W.heap.size R (opsB l2).length (u8s (opsB l2))) => ropssum_any R (opsB l2) (opsB l2).length d W rfl hX (isB_opsB hall2) (by omega)
                  rw [← hO2] at hOS2
                  have hDS := fun W => by have := run_eql_dge h2.ops h2.ops hk2.o hk2.o hk2.oB hk2.oB W; rwa [decide_eq_true rfl] at this
                  have hsD := hideP (size_h97 hk2.cells)
                  have hC1D := hideP (headC_one h2)
                  have hsoD := hideP (show (headC headZ).toArray.size = (headC h2).toArray.size by rw [List.size_toArray, List.size_toArray, hk2.cells]; rfl)
                  have hpD := hideP (fun W g (r : Row W g 48 (headC h2)) => head_ops hk2 r)
                  have ls := hideP (size_d32 hk2.o)
                  obtain ⟨P2, hP2⟩ : ∃ P, P = opsB l2 := ⟨_, rfl⟩
                  rw [← hP2] at hOp2 hOS2
                  obtain ⟨O2, hO3⟩ : ∃ P, P = h2.ops := ⟨_, rfl⟩
                  rw [← hO3] at hOS2 hDS hpD ls
                  obtain ⟨D, hD⟩ : ∃ C, C = headC h2 := ⟨_, rfl⟩
                  rw [← hD] at hRd hRB2 hsD hC1D hsoD hpD
                  obtain ⟨nl, hnl⟩ : ∃ n, n = l2.length := ⟨_, rfl⟩
                  rw [← hnl] at hRd hRB2 hOp2
                  have cvR := fun W A d (h : Arr W W.heap.size A X.length (u8s X)) => run_str (P := Try.prog) W 31 5 Try.underlying31 Try.underlying5 (c := d) h rfl 9 Try.underlying9
                  have hSS : ((bstr X).toList == (bstr X).toList) = true := by rw [bstr_beq iX.out iX.out]; exact decide_eq_true rfl
                  obtain ⟨SX, hSX⟩ : ∃ S, S = bstr X := ⟨_, rfl⟩
                  rw [← hSX] at cvR hSS
                  rw [← lX.out] at cvR hRB2
                  have cvA := hideP (fun W (hW : Below wc.heap.size wc W) => cvR W R d (aX.out.after hW))
                  have cvR := hideP cvR; have HSS := hideP hSS; have HDS := hideP hDS; have HRB2 := hideP hRB2; have HOp2 := hideP hOp2; have HOS2 := hideP hOS2
                  clear hRd0 hN hXB hbr2 hI2 hall2 hO2 hll hlw hRe hRB2 hOp2 hOl2 hOS2 hDS hP2 hO3 hD hnl hSS hSX hk2 aX iX lX
                  go_upto_region 14 with (first
                    | (go_at_call 28; refine (hRd.out).mono ?_; rintro e w21 ⟨⟨R2, d2, ps2, rfl, o_⟩, b_⟩; have B21 := hideP (bstep bX.out b_); have b21 := hideP b_; have L21 := hideP o_; clear b_ o_)
                    | (refine wpList_store_row rfl 48 (.tmp 12) (.tmp 67) rfl w21.heap.size D.toArray rfl rfl 48 (headC headZ).toArray (Row.new w21 48 (headC headZ)) hsD.out hsoD.out hC1D.out ?_))
                  obtain ⟨q, hq⟩ : ∃ u, u = w21.heap.size := ⟨_, rfl⟩
                  obtain ⟨v22, hv22⟩ : ∃ v, v = (w21.alloc (.cells Try.zeroCells48 48)).setRow q D.toArray := ⟨_, rfl⟩
                  rw [← hq, ← hv22]
                  have hb22 : Below w21.heap.size w21 v22 := by rw [hv22, hq]; exact below_setRow' (below_new w21 _) (Nat.le_refl _) _
                  have Y22 := hideP (show Row v22 q 48 D by rw [hv22, hq]; exact Row.setRow (Row.new w21 48 (headC headZ)) D)
                  have L22 := hideP (L21.out.after hb22)
                  have B22 := hideP (bstep B21.out hb22)
                  have b22 := hideP (bstep b21.out hb22)
                  have p22 := hideP (hpD.out v22 q Y22.out)
                  clear hv22 hb22 hq L21 B21 b21
                  have hss := HSS.out
                  have hds := HDS.out
                  refine wp_region_mut (S := fun _ => False) 15 (.q 0 (.q 1 (.q 4 (.q 5 (.l 2 (.q 3 (.q 6 (.q 7 (.q 8 (.q 9 (.q 10 (.l 11 (.l 12 (.q 13 (.q 14 .nil))))))))))))))) (by kernel_rfl) (by kernel_rfl) ?_
                  simp only [pickT, nthO_zero, nthO_succ]
                  have hdrew := (Ext.refl v22.drew).drew_left
                  have E22 := hideP hdrew
                  clear hdrew
                  have cv22 := hideP (fun W (hW : Ext v22 W) => cvA.out W (below_ext b22.out hW))
                  iterate 4 (first
                    | (refine wpM_valK ?_ (fun K hK => ?_); (focus (rfl)); refine ⟨.agg D.toArray, fun W hW => exec_load_mid 48 (.tmp 12) ?_ q 0 ?_ D _ (Row.range (Row.ext Y22.out (E22.out.trans (but_ext hW)))) Try.underlying48 rfl hsD.out, ?_⟩; (focus (rfl)); (focus (rfl)); go_simp; refine hK _ ?_; clear hK K)
                    | (refine wpM_valK ?_ (fun K hK => ?_); (focus (rfl)); refine ⟨.agg (O2.map b8).toArray, fun W hW => exec_load_mid 41 (.tmp 92) ?_ q 33 ?_ (O2.map b8) _ (fun j v hv => (E22.out.trans (but_ext hW)).cell (p22.out j v hv)) Try.underlying41 rfl ls.out, ?_⟩; (focus (rfl)); (focus (rfl)); go_simp; refine hK _ ?_; clear hK K)
                    | (refine wpM_valK ?_ (fun K hK => ?_); (focus (rfl)); apply Exists.intro; refine ⟨fun W hW => ?_, ?_⟩; (focus (have hs0 := cv22.out W (E22.out.trans (but_ext hW)); go_simp; (try rfl); done)); go_simp; refine hK _ ?_; clear hK K))
                  refine wpM_loudS 29 #[.agg D.toArray, .slice R2 nl d2] (by rfl) (fun W => by go_simp) (fun W hW => (HRB2.out W R2 ps2 d2 (L22.out.after (E22.out.trans hW).below).opsL).mono ?_)
                  rintro e_ w23 ⟨R23, d23, rfl, o_, b_⟩
                  refine ⟨_, rfl, But.of_below b_, fun K hK => ?_⟩
                  go_simp
                  refine hK _ ?_
                  clear hK K
                  have E23 := hideP (E22.out.trans (hW.trans (Ext.of_below b_)))
                  have cv23 := hideP (fun W (hW : Ext w23 W) => cvR.out W R23 d23 (by have := (o_.ext hW).arr; rwa [← HlX.out] at this))
                  clear o_ b_ hW
                  iterate 6 (first
                    | (refine wpM_valK ?_ (fun K hK => ?_); (focus (rfl)); refine ⟨.agg D.toArray, fun W hW => exec_load_mid 48 (.tmp 12) ?_ q 0 ?_ D _ (Row.range (Row.ext Y22.out (E23.out.trans (but_ext hW)))) Try.underlying48 rfl hsD.out, ?_⟩; (focus (rfl)); (focus (rfl)); go_simp; refine hK _ ?_; clear hK K)
                    | (refine wpM_valK ?_ (fun K hK => ?_); (focus (rfl)); refine ⟨.agg (O2.map b8).toArray, fun W hW => exec_load_mid 41 (.tmp 92) ?_ q 33 ?_ (O2.map b8) _ (fun j v hv => (E23.out.trans (but_ext hW)).cell (p22.out j v hv)) Try.underlying41 rfl ls.out, ?_⟩; (focus (rfl)); (focus (rfl)); go_simp; refine hK _ ?_; clear hK K)
                    | (refine wpM_valK ?_ (fun K hK => ?_); (focus (rfl)); apply Exists.intro; refine ⟨fun W hW => ?_, ?_⟩; (focus (have hs0 := cv23.out W (but_ext hW); go_simp; (try rfl); done)); go_simp; refine hK _ ?_; clear hK K))
                  refine wpM_loudS 21 #[.slice R2 nl d2] (by rfl) (fun W => by go_simp) (fun W hW => (HOp2.out W R2 ps2 d2 (L22.out.after (E23.out.trans hW).below).opsL).mono ?_)
                  rintro e_ w24 ⟨R24, d24, rfl, o_, b_⟩
                  refine ⟨_, rfl, But.of_below b_, fun K hK => ?_⟩
                  go_simp
                  refine hK _ ?_
                  clear hK K
                  have E24 := hideP (E23.out.trans (hW.trans (Ext.of_below b_)))
                  have O24 := hideP (fun W (hW : Ext w24 W) => (o_.ext hW).arr)
                  clear o_ b_ hW
                  refine wpM_loudS 24 #[.slice R24 P2.length d24] (by rfl) (fun W => by go_simp) (fun W hW => (HOS2.out W R24 d24 (O24.out W hW)).mono ?_)
                  rintro e_ w25 ⟨rfl, b_⟩
                  refine ⟨_, rfl, But.of_below b_, fun K hK => ?_⟩
                  go_simp
                  refine hK _ ?_
                  clear hK K
                  have E25 := hideP (E24.out.trans (hW.trans (Ext.of_below b_)))
                  clear b_ hW
                  iterate 2 (first
                    | (refine wpM_valK ?_ (fun K hK => ?_); (focus (rfl)); refine ⟨.agg D.toArray, fun W hW => exec_load_mid 48 (.tmp 12) ?_ q 0 ?_ D _ (Row.range (Row.ext Y22.out (E25.out.trans (but_ext hW)))) Try.underlying48 rfl hsD.out, ?_⟩; (focus (rfl)); (focus (rfl)); go_simp; refine hK _ ?_; clear hK K)
                    | (refine wpM_valK ?_ (fun K hK => ?_); (focus (rfl)); refine ⟨.agg (O2.map b8).toArray, fun W hW => exec_load_mid 41 (.tmp 92) ?_ q 33 ?_ (O2.map b8) _ (fun j v hv => (E25.out.trans (but_ext hW)).cell (p22.out j v hv)) Try.underlying41 rfl ls.out, ?_⟩; (focus (rfl)); (focus (rfl)); go_simp; refine hK _ ?_; clear hK K)
                    | (refine wpM_valK ?_ (fun K hK => ?_); (focus (rfl)); apply Exists.intro; refine ⟨fun W hW => ?_, ?_⟩; (focus (have hs0 := True.intro; go_simp; (try rfl); done)); go_simp; refine hK _ ?_; clear hK K))
                  refine wpM_nil (fun W26 hW26 => ?_)
                  simp only [List.drop_succ_cons, List.drop_zero, List.drop_nil]
                  have B26 := hideP (below_ext B22.out (E25.out.trans hW26))
                  clear hW26
                  go_wp2_with fail
                  go_ret
                  exact ⟨rfl, B26.out⟩
      · rw [hr] at hHR
        clear hr
        go_enter Try.func6, Try.ntmps6
        go_upto_region 1 with fail
        rw [← hv, ← hz]
        clear hv hz
        go_wp2_with (first
          | (go_at_call 12; refine (alive19_any v).mono ?_; rintro e w1 ⟨rfl, b_⟩; have B3 := hideP (bstep B1.out b_); have X3 := hideP (Row.after X1.out b_); clear b_)
          | (go_at_call 13; refine (hG.out w1 B3.out).mono ?_; rintro e w2 ⟨rfl, rfl⟩)
          | (go_at_call 19; refine (hAll.out w1 B3.out).mono ?_; rintro e w3 ⟨rfl, b_⟩; have B4 := hideP (bstep B3.out b_); have X4 := hideP (Row.after X3.out b_); clear b_))
        refine wp_load_row 48 (.tmp 5) ?_ z ?_ 48 C.toArray (0, 0) _ X4.out Try.underlying48 ?_ hs.out ?_
        iterate 3 (focus (rfl))
        go_wp2_with (go_at_call 27; refine (hHR.out w3).mono ?_; rintro e w4 ⟨rfl, b_⟩; have B5 := hideP (bstep B4.out b_); clear b_)
        go_ret
        exact ⟨rfl, B5.out⟩
    · rw [hall] at hAll
      clear hall
      go_enter Try.func6, Try.ntmps6
      go_upto_region 1 with fail
      rw [← hv, ← hz]
      clear hv hz
      go_wp2_with (first
        | (go_at_call 12; refine (alive19_any v).mono ?_; rintro e w1 ⟨rfl, b_⟩; have B3 := hideP (bstep B1.out b_); clear b_)
        | (go_at_call 13; refine (hG.out w1 B3.out).mono ?_; rintro e w2 ⟨rfl, rfl⟩)
        | (go_at_call 19; refine (hAll.out w1 B3.out).mono ?_; rintro e w3 ⟨rfl, b_⟩; have B4 := hideP (bstep B3.out b_); clear b_))
      go_ret
      exact ⟨rfl, B4.out⟩
theorem walk_BlockSpoilt (h : HeadD) (A : Option Addr) (l : List OpD) (ps : Nat → OpP) (c : Nat) (x : Int) (y : Int) (x2 : Int) (w : World) (hk : HeadOk h) (hA0 : OpsM w w.heap.size A l ps) (b2 : -9223372036854775808 ≤ x ∧ x ≤ 9223372036854775807) (b3 : 0 ≤ y ∧ y ≤ 255) (b4 : -9223372036854775808 ≤ x2 ∧ x2 ≤ 9223372036854775807) :
    Calls Try.prog 6 #[.agg (headC h).toArray, .slice A l.length c, .int .i64 x, .int .u8 y, .int .i64 x2] w fun e w' => e = .returned (.bool true) ∧ Below w.heap.size w w' := by
  obtain ⟨u, rfl⟩ := Int.eq_ofNat_of_zero_le b3.1
  exact blockspoilt_any h A l ps l.length c x u x2 w hk rfl hA0 (by omega)
end Go.Proofs.Ytiicdnbhphgieaa
