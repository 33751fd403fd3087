/- Contract of the reference's ReadOps. -/
import Derived.Test.YtiicdnbhphgieaaK32
import Derived.Test.YtiicdnbhphgieaaK47
set_option linter.unusedVariables false
set_option linter.unusedSimpArgs false
namespace Go.Proofs.Ytiicdnbhphgieaa
open Go.RowKit
theorem rOp_okW (lim : Nat) (hlim : lim ≤ 1000) (l : List Nat) (hl : IsB l) : OpOk (rOp lim l 0).1 := by
  have hI := (op_suf lim l 0).2 hl
  have hk := rByte_lt l 0 hl
  have hb := (take_suf 1 l 0).isB hl
  have ht := (text_suf 16 (rTake 1 l 0).2.1 (rTake 1 l 0).2.2).isB hb
  have hs := rText_len 16 (rTake 1 l 0).2.1 (rTake 1 l 0).2.2
  unfold rOp at hI ⊢
  dsimp only at hI ⊢
  split
  · refine ⟨hk, by simpa [bstr_size] using hs, fun i => rTexts_size _ _ _ _, by rw [rTexts_len]; omega, by simp, fun i => by simp⟩
  · split
    · rename_i h1 h2
      rw [if_neg h1, if_pos h2] at hI
      refine ⟨hk, by simpa [bstr_size] using hs, fun i => by simp only [List.getD_nil]; decide, by simp, ?_, hI⟩
      exact Nat.le_trans (rRow_len _ _ _) (by have := rByte_lt _ (rText 16 (rTake 1 l 0).2.1 (rTake 1 l 0).2.2).2.2 ht; omega)
    · exact ⟨hk, by simpa [bstr_size] using hs, fun i => by simp only [List.getD_nil]; decide, by simp, by simp, fun i => by simp⟩
theorem But.setBoth {S : Nat → Prop} {w W : World} (b : But S w W) {p : Addr} (hp : w.heap.size ≤ p.block) (v : Value) : But S w (W.setCell p v) := b.setNew hp v
theorem Qd.setNew {w : World} {g : Nat} {l : List Nat} {e : Int} (h : Qd w g l e) {p : Addr} (hp : g < p.block) (v : Value) : Qd (w.setCell p v) g l e := by
  have : Below (g + 1) w (w.setCell p v) := (Below.refl _ _).setCell (p := p) (by omega) v
  exact h.below this (by omega)
/-- what ReadOps answers -/
def QReadsGot (w : World) (RS : Option (List OpD)) (e : Ending) (w' : World) : Prop :=
  Below w.heap.size w w' ∧ ((RS = none ∧ ∃ R n d, e = .returned (.tuple #[.slice R n d, .bool false])) ∨
    ∃ m R d ps n, RS = some m ∧ n = m.length ∧ e = .returned (.tuple #[.slice R n d, .bool true]) ∧ OpsH w' w.heap.size R m ps)
/-- behind i changes -/
def QReadsTo (w : World) (B0 g : Nat) (n : Nat) (e0 : Int) (R0 : Option (List OpD × List Nat)) (wr : World) (A : Option Addr) (c i : Nat) : Prop :=
  ∃ (qs : List OpQ) (l : List Nat), qs.length = i ∧ OpsOwn wr B0 g A c qs ∧ Qd wr g l e0 ∧ Below w.heap.size w wr ∧ B0 ≤ wr.heap.size ∧ R0 = rOps 256 oprB (n - i) l (qs.map Prod.fst) ∧ ∀ q ∈ qs, OpOk q.1
theorem rOps_oneR (n : Nat) (l : List Nat) (acc : List OpD) (o : OpD) (l' : List Nat) (e : Int) (h : rOp 256 l 0 = (o, l', e)) : rOps 256 oprB (n + 1) l acc = if e = 0 ∧ oprB o = true then rOps 256 oprB n l' (acc ++ [o]) else none := by
  simp [rOps, h]
/-- behind j columns of a change -/
def QColsTo (g h : Nat) (wo v2 : World) (l3 : List Nat) (e3 : Int) (T : ByteArray) (wr : World) (j : Nat) : Prop :=
  ∃ A c, Row wr h 30 (opV 1 T A j c none 0 0) ∧ OwnS wr v2.heap.size A c (rTexts j l3 e3).1 ∧ Qd wr g (rTexts j l3 e3).2.1 (rTexts j l3 e3).2.2 ∧ But (fun b => b = g) wo wr ∧ v2.heap.size ≤ wr.heap.size
set_option maxRecDepth 100000 in
set_option maxHeartbeats 4000000 in
theorem qreadops_any (A : Option Addr) (b : List Nat) (n c : Nat) (w : World) (hnn : n = b.length) (hA : Arr w w.heap.size A n (u8s b)) (hI : IsB b) (hc : n ≤ c) (hn : n ≤ 100000000) :
    Calls Try.prog 25 #[.slice A n c] w (QReadsGot w (readR b)) := by
  obtain ⟨RS, hRS⟩ : ∃ RS, RS = readR b := ⟨_, rfl⟩
  rw [← hRS]
  obtain ⟨v, hv⟩ : ∃ v, v = w.alloc (.cells #[.slice A n c, .int .i64 0] 119) := ⟨_, rfl⟩
  obtain ⟨g, hg⟩ : ∃ g, g = w.heap.size := ⟨_, rfl⟩
  have S1 := hideP (show Qd v g b 0 by
    rw [hv, hg]
    exact ⟨A, c, by rw [← hnn]; exact Two.new w _ _ _, by rw [← hnn]; exact hA.below (below_new w _), hI, by rw [← hnn]; exact hc⟩)
  have B1 := hideP (show Below w.heap.size w v by rw [hv]; exact below_new _ _)
  have Hv := hideP hv
  have Hg := hideP hg
  have hbad := hideP (rCount_bad (most := 256) (l := b) (e := 0))
  have hle := rCount_le' 256 b 0
  have hC := fun W (h : Qd W g b 0) => qcount_any g b 256 0 W h
  unfold readR at hRS
  obtain ⟨⟨m, l0, e0⟩, hq⟩ : ∃ q, q = rCount 256 b 0 := ⟨_, rfl⟩
  rw [← hq] at hC hRS hle hbad
  dsimp only at hC hRS hle hbad
  have HC := hideP (hC v S1.out)
  have HRS := hideP hRS
  clear hq hC hRS hA hnn hI hv hg
  go_enter Try.func25, Try.ntmps25
  go_upto_region 2 with fail
  rw [← Hg.out, ← Hv.out]
  go_wp2_with (go_at_call 77; refine HC.out.mono ?_; rintro e1 w2 ⟨rfl, b2_, s2_⟩; have B2 := hideP (B1.out.trans (S1.out.butBelow b2_ (Nat.le_of_eq Hg.out.symm))); have S2 := hideP s2_; clear b2_ s2_)
  clear S1 B1 HC
  obtain ⟨R0, hR0⟩ : ∃ R0, R0 = rOps 256 oprB m l0 [] := ⟨_, rfl⟩
  have hRE := HRS.out
  rw [← hR0] at hRE
  obtain ⟨B0, hB0⟩ : ∃ B0, B0 = w2.heap.size := ⟨_, rfl⟩
  have hgB := hideP (show g < B0 by rw [hB0]; exact S2.out.lt)
  have HRE := hideP hRE
  have hST := hideP (show QReadsTo w B0 g m e0 R0 w2 none 0 0 from ⟨[], l0, rfl, OpsOwn.nil _ hgB.out, S2.out, B2.out, Nat.le_of_eq hB0, by rw [hR0]; rfl, by simp⟩)
  have hwB := hideP (show w.heap.size ≤ B0 by rw [hB0]; exact B2.out.size)
  have hgw := hideP (show w.heap.size ≤ g from Nat.le_of_eq Hg.out.symm)
  clear hRE HRS hR0 hB0 S2 B2 Hv
  go_loopw [5, 7] (fun v5 v7 wr => ∃ (i : Nat) (A : Option Addr) (c : Nat), i ≤ m ∧ v7 = .int .i64 (i : Nat) ∧ v5 = .slice A i c ∧ Hid (QReadsTo w B0 g m e0 R0 wr A c i)) (fun _ v7 _ => m - (intOf v7).toNat)
  case atStart => exact ⟨0, none, 0, Nat.zero_le _, rfl, rfl, hST.out⟩
  case round =>
    obtain ⟨i, A1, c1, hi, rfl, rfl, hV⟩ := hrel
    obtain ⟨qs, l, hql, hO, hR, hB, hBs, hE, hK⟩ := hV.out
    have HO := hideP hO; have HR := hideP hR; have HB := hideP hB; have HBs := hideP hBs; have HE := hideP hE; have HK := hideP hK; have Hql := hideP hql
    clear hO hR hB hBs hE hK hV hql hST
    by_cases hlt : i < m
    · have i1 : (i : Int) < (m : Int) := by omega
      have he0 : e0 = 0 := by
        rcases Int.decEq e0 0 with h | h
        · have := hbad.out h; omega
        · exact h
      subst he0
      obtain ⟨d, hd⟩ : ∃ d, m - i = d + 1 := ⟨m - i - 1, by omega⟩
      have hsz := hideP (show (Try.prog.info? 30).map (·.size) = some 4 by kernel_rfl)
      have hok := hideP (rOp_okW 256 (by decide) l HR.out.isB)
      obtain ⟨⟨o, l', e'⟩, hq⟩ : ∃ q, q = rOp 256 l 0 := ⟨_, rfl⟩
      have hE1 := HE.out
      rw [hd, rOps_oneR d l _ o l' e' hq.symm] at hE1
      have HE1 := hideP hE1
      rw [← hq] at hok
      dsimp only at hok
      have HD := hideP hd
      -- what is read
      have hBy := fun W (h : Qd W g l 0) => qbyte_any g l 0 W h
      have hkb := rByte_lt l 0 HR.out.isB
      have hb1 := (take_suf 1 l 0).isB HR.out.isB
      unfold rOp at hq
      obtain ⟨k, hk⟩ : ∃ k, k = rByte l 0 := ⟨_, rfl⟩
      obtain ⟨⟨o1, l1, e1⟩, h1⟩ : ∃ q, q = rTake 1 l 0 := ⟨_, rfl⟩
      rw [← hk, ← h1] at hBy hq
      rw [← hk] at hkb
      rw [← h1] at hb1
      dsimp only at hBy hq hb1
      have hTx := fun W (h : Qd W g l1 e1) => qtext_any g l1 16 e1 W h
      have htl := rText_len 16 l1 e1
      have hb2 := (text_suf 16 l1 e1).isB hb1
      obtain ⟨⟨t, l2, e2⟩, h2⟩ : ∃ q, q = rText 16 l1 e1 := ⟨_, rfl⟩
      rw [← h2] at hTx hq htl hb2
      dsimp only at hTx hq htl hb2
      obtain ⟨T, hTT⟩ : ∃ T, T = bstr t := ⟨_, rfl⟩
      rw [← hTT] at hq
      have HTT := hideP hTT
      have HQ := hideP hq
      have HhBy := hideP hBy; have HhTx := hideP hTx; have Hhb2 := hideP hb2; clear hBy hTx hb2
      clear hk h1 h2 hTT hq hb1 hE1 HE hd
      have hgr := hideP HR.out.lt
      go_upto_region 8 with (first
        | (go_at_call 78; refine (HhBy.out wr HR.out).mono ?_; rintro e_ w3 ⟨rfl, b_, s_⟩; have R3 := hideP s_; have C3 := hideP b_; clear b_ s_)
        | (refine wpList_store_row rfl 30 (.tmp 8) (.tmp 23) rfl w3.heap.size #[.int .u8 (k : Nat), .string ByteArray.empty, .slice none 0 0, .slice none 0 0] rfl rfl 30 opZ.toArray (Row.new w3 30 opZ) hsz.out rfl opV_one ?_))
      obtain ⟨h, hh⟩ : ∃ h, h = w3.heap.size := ⟨_, rfl⟩
      rw [← hh]
      obtain ⟨v3, hv3⟩ : ∃ v, v = (w3.alloc (.cells #[.int .u8 0, .string (⟨#[]⟩ : ByteArray), .slice none 0 0, .slice none 0 0] 30)).setRow h #[.int .u8 (k : Nat), .string ByteArray.empty, .slice none 0 0, .slice none 0 0] := ⟨_, rfl⟩
      rw [← hv3]
      have hb3 : Below w3.heap.size w3 v3 := by rw [hv3, hh]; exact below_setRow' (below_new w3 _) (Nat.le_refl _) _
      have H3 := hideP (show Row v3 h 30 (opV k ByteArray.empty none 0 0 none 0 0) by rw [hv3, hh]; exact Row.setRow (Row.new w3 30 opZ) (opV k ByteArray.empty none 0 0 none 0 0))
      have hgh := hideP (show g < h by rw [hh]; exact R3.out.lt)
      have hwh := hideP (show wr.heap.size ≤ h by rw [hh]; exact C3.out.size)
      have hhg := hideP (show h ≠ g by have := hgh.out; omega)
      replace R3 := hideP (R3.out.after hb3)
      replace C3 := hideP (C3.out.trans (But.of_below hb3))
      clear hv3 hb3 hh HhBy
      go_upto_region 9 with (go_at_call 79; refine (HhTx.out _ R3.out).mono ?_; rintro e_ w4 ⟨R4, d4, rfl, o_, b_, s_⟩; have cv := run_str (P := Try.prog) w4 31 5 Try.underlying31 Try.underlying5 (c := d4) o_.arr rfl 9 Try.underlying9; rw [← HTT.out] at cv; have R4_ := hideP s_; have C4 := hideP (C3.out.trans b_); have H4 := hideP (row_but b_ H3.out hhg.out); clear b_ s_ o_; have q1 := H4.out.cell 1; simp only [opV, List.getElem?_cons_zero, List.getElem?_cons_succ] at q1; have f1 := H4.out.fz 1)
      obtain ⟨v4, hv4⟩ : ∃ v4, v4 = w4.setCell ⟨h, 1, none⟩ (.string T) := ⟨_, rfl⟩
      rw [← hv4]
      have H5 := hideP (show Row v4 h 30 (opV k T none 0 0 none 0 0) by rw [hv4]; exact H4.out.set 1 (.string T))
      have R5 := hideP (show Qd v4 g l2 e2 by rw [hv4]; exact R4_.out.setNew hgh.out _)
      have C5 := hideP (show But (fun b => b = g) wr v4 by rw [hv4]; exact C4.out.setNew hwh.out _)
      clear hv4 q1 f1 cv R4_ C4 H4 R3 C3 H3 HhTx
      have k0 := H5.out.cell 0; have k1 := H5.out.cell 1; have k2 := H5.out.cell 2; have k3 := H5.out.cell 3
      simp only [opV, List.getElem?_cons_zero, List.getElem?_cons_succ] at k0 k1 k2 k3
      by_cases h1 : k = 1
      · subst h1
        have HBy2 := hideP (qbyte_any g l2 e2 v4 R5.out)
        have hkl := rByte_lt l2 e2 Hhb2.out
        have hQ1 := HQ.out
        rw [if_pos rfl] at hQ1
        obtain ⟨kb, hkb2⟩ : ∃ kb, kb = rByte l2 e2 := ⟨_, rfl⟩
        obtain ⟨⟨o3, l3, e3⟩, h3⟩ : ∃ q, q = rTake 1 l2 e2 := ⟨_, rfl⟩
        rw [← hkb2, ← h3] at HBy2 hQ1
        rw [← hkb2] at hkl
        dsimp only at HBy2 hQ1
        rw [Nat.min_eq_left (by omega)] at hQ1
        have hQ2 := hideP hQ1
        clear hQ1 HQ hkb2 h3 Hhb2
        go_upto_region 11 with (go_at_call 78; refine HBy2.out.mono ?_; rintro e_ v6 ⟨rfl, b_, s_⟩; have R6 := hideP s_; have C6 := hideP (C5.out.trans b_); have H6 := hideP (row_but b_ H5.out hhg.out); clear b_ s_ k0 k1 k2 k3)
        have hlen6 := hideP (rTexts_len 0 l3 e3)
        have hgv := hideP (show g < v6.heap.size from R6.out.lt)
        have hhv := hideP (show h < v6.heap.size from H6.out.lt)
        have hwv := hideP (show wr.heap.size ≤ v6.heap.size from C6.out.size)
        obtain ⟨wo, hwo⟩ : ∃ wo, wo = wr := ⟨wr, rfl⟩
        subst hwo
        go_wp2_with fail
        go_loopw [10] (fun v10 wx => ∃ j : Nat, j ≤ kb ∧ v10 = .int .i64 (j : Nat) ∧ Hid (QColsTo g h wo v6 l3 e3 T wx j)) (fun v10 _ => kb - (intOf v10).toNat)
        case atStart => exact ⟨0, Nat.zero_le _, rfl, none, 0, H6.out, OwnS.nil _ _, R6.out, C6.out, Nat.le_refl _⟩
        case round =>
          obtain ⟨j, hj, rfl, hW⟩ := hrel
          obtain ⟨A9, c9, hH, hO, hR, hC, hz⟩ := hW.out
          have HH := hideP hH; have HO9 := hideP hO; have HR9 := hideP hR; have HC9 := hideP hC; have Hz := hideP hz
          clear hH hO hR hC hz hW
          by_cases hlt : j < kb
          · have i1 : (j : Int) < (kb : Int) := by omega
            have hst := hideP (op_texts j 8 l3 e3)
            have hln := hideP (rTexts_len j l3 e3)
            obtain ⟨⟨cs, l4, e4⟩, hq⟩ : ∃ q, q = rTexts j l3 e3 := ⟨_, rfl⟩
            rw [← hq] at hst HR9 HO9 hln
            dsimp only at hst HR9 HO9 hln
            clear hq
            obtain ⟨⟨tt, l5, e5⟩, hq⟩ : ∃ q, q = rText 16 l4 e4 := ⟨_, rfl⟩
            have hT5 := fun W (hW : Qd W g l4 e4) => qtext_any g l4 16 e4 W hW
            rw [← hq] at hst hT5
            dsimp only at hst hT5
            have HT5 := hideP hT5
            clear hq hT5
            obtain ⟨B9, hB9⟩ : ∃ B9, B9 = v6.heap.size := ⟨_, rfl⟩
            have hgB9 := hideP (show g < B9 by rw [hB9]; exact hgv.out)
            have hhB9 := hideP (show h < B9 by rw [hB9]; exact hhv.out)
            rw [← hB9] at HO9 Hz
            have HB9 := hideP hB9
            clear hB9
            have nh := hideP (show ¬ (h = g ∨ B9 ≤ h) by have := hhB9.out; have := hhg.out; omega)
            have k2 := HH.out.cell 2
            simp only [opV, List.getElem?_cons_zero, List.getElem?_cons_succ] at k2
            go_wp2_with fail
            refine wp_region_mut (S := fun b => b = g ∨ B9 ≤ b) 7 (.q 0 (.q 1 (.q 2 (.l 3 (.l 4 (.l 5 (.l 6 .nil))))))) (by kernel_rfl) (by kernel_rfl) ?_
            simp only [pickT, nthO_zero, nthO_succ]
            iterate 3 (refine wpM_valK (by rfl) (fun K hK => ?_); apply Exists.intro; refine ⟨fun W hW => ?_, ?_⟩; (focus (have hs0 := hW.drew_left.cell k2 nh.out; go_simp; (try rfl); done)); go_simp; refine hK _ ?_; clear hK K)
            refine wpM_loudS 79 #[.pointer (some ⟨g, 0, none⟩), .int .i64 16] (by rfl) (fun W => by go_simp) (fun W hW => (HT5.out W (HR9.out.ext hW.drew_left)).mono ?_)
            rintro e6 w6 ⟨R6_, d6, rfl, o6_, b6_, s6_⟩
            refine ⟨_, rfl, b6_.mono (fun k hk => .inl hk), fun K hK => ?_⟩
            go_simp
            refine hK _ ?_
            clear hK K
            have X6 := hideP ((But.of_ext (S := fun b => b = g ∨ B9 ≤ b) hW.drew_left).trans (b6_.mono (fun k hk => .inl hk)))
            have O6 := hideP ((HO9.out.ext hW.drew_left).but b6_ fun k hk hg => by have := hgB9.out; omega)
            have D6 := hideP ((HC9.out.trans (But.of_ext hW.drew_left)).trans b6_)
            have S6 := hideP s6_
            have T6 := hideP o6_
            clear hW b6_ s6_ o6_
            refine wpM_turnK (by rfl) (fun W7 hW7 => ?_)
            obtain ⟨X, hX⟩ : ∃ X, X = bstr tt := ⟨_, rfl⟩
            have cv := run_str (P := Try.prog) W7 31 5 Try.underlying31 Try.underlying5 (c := d6) (T6.out.ext hW7).arr rfl 9 Try.underlying9
            rw [← hX] at cv hst
            clear hX
            refine ⟨.string X, W7, ⟨by go_simp, But.refl _⟩, fun K hK => ?_⟩
            go_simp
            refine hK _ ?_
            clear hK K cv
            refine wpM_buildK (by rfl) (fun W8 hW8 => ?_)
            refine ⟨.slice (some ⟨W8.heap.size, 0, none⟩) 1 1, W8.alloc (.cells #[.string X] 9), ⟨by go_simp, Ext.alloc _ _⟩, fun K hK => ?_⟩
            go_simp
            refine hK _ ?_
            clear hK K
            refine wpM_turnK (by rfl) (fun W9 hW9 => ?_)
            have E9 := (hW7.trans hW8).trans ((Ext.alloc W8 (.cells #[.string X] 9)).trans hW9)
            have c9' : W9.cell? ⟨W8.heap.size, 0, none⟩ = some (.string X) := hW9.cell (One.new W8 9 (.string X)).c0
            refine turn_append_str (.tmp 40) (.tmp 44) rfl B9 A9 c9 j cs hln.out.symm rfl (O6.out.ext E9) W8.heap.size 0 1 X rfl c9' (by omega) (Nat.le_trans Hz.out (Nat.le_trans X6.out.size E9.size)) (fun k hk => .inr hk) (fun g9 cc9 w9 o9_ bb9_ b9_ K hK => ?_)
            go_simp
            refine hK _ ?_
            clear hK K c9'
            have X9 := hideP (X6.out.trans ((But.of_ext E9).trans b9_))
            have S9 := hideP ((S6.out.ext E9).below (bb9_) hgB9.out)
            have O9 := hideP o9_
            have D9 := hideP ((D6.out.trans (But.of_ext E9)).then_new bb9_ (by rw [HB9.out]; exact hwv.out))
            clear hW7 hW8 hW9 E9 b9_ bb9_ o9_
            refine wpM_nil (fun W10 hW10 => ?_)
            simp only [List.drop_succ_cons, List.drop_zero, List.drop_nil]
            have H10 := hideP (HH.out |> fun r => row_but2 (X9.out.trans (But.of_ext hW10)) r nh.out)
            have S10 := hideP (S9.out.ext hW10)
            have O10 := hideP (O9.out.ext hW10)
            have D10 := hideP (D9.out.trans (But.of_ext hW10))
            have z10 := hideP (Nat.le_trans X9.out.size hW10.size)
            clear hW10 X9 S9 O9 D9 k2
            have q2 := H10.out.cell 2
            simp only [opV, List.getElem?_cons_zero, List.getElem?_cons_succ] at q2
            have f2 := H10.out.fz 2
            have m2 : IntKind.i64.wrap ((j : Int) + 1) = (j : Int) + 1 := IntWalk.i64_in _ (by omega)
            go_wp2_with fail
            go_roundw
            case rel =>
              refine ⟨j + 1, by omega, by rw [show ((j + 1 : Nat) : Int) = (j : Int) + 1 by omega], some ⟨g9, 0, none⟩, cc9, H10.out.set 2 _, ?_, ?_, D10.out.setNew hwh.out _, ?_⟩
              · rw [hst.out, ← HB9.out]
                refine O10.out.but (But.set _ ⟨h, 2, none⟩ _ (S := fun k => k = h) rfl) fun k hk e => ?_
                have := hhB9.out
                have : k = h := e
                omega
              · rw [hst.out]; exact S10.out.setNew hgh.out _
              · rw [← HB9.out]; have := Hz.out; have := z10.out; simp; omega
            case measure => simp [intOf]; omega
          · obtain rfl : kb = j := by omega
            have i1 : ¬ ((kb : Int) < (kb : Int)) := by omega
            have hln := hideP (rTexts_len kb l3 e3)
            have A5 := hideP (HO9.out.arrN (S := fun b => b < wo.heap.size) fun b hb => by have := hwv.out; omega)
            have P5 := hideP (show kb ≤ c9 by have := HO9.out.cap; rwa [hln.out] at this)
            have M7 := hideP (show OpMemN (fun b => b < wo.heap.size) wr o (A9, c9, none, 0) by rw [show o = _ from (Prod.mk.inj hQ2.out).1]; exact ⟨A5.out, ArrN.none_, by rw [hln.out]; exact P5.out⟩)
            have hoc := hideP (show opC o (A9, c9, none, 0) = opV 1 T A9 kb c9 none 0 0 by rw [show o = _ from (Prod.mk.inj hQ2.out).1]; unfold opC; rw [hln.out]; rfl)
            have hlz := hideP (show (l', e') = ((rTexts kb l3 e3).2.1, (rTexts kb l3 e3).2.2) from (Prod.mk.inj hQ2.out).2)
            have hkk := hideP (show 1 = o.kind ∧ T = o.table ∧ kb = o.cols.length ∧ 0 = o.row.length by rw [show o = _ from (Prod.mk.inj hQ2.out).1]; exact ⟨rfl, rfl, hln.out.symm, rfl⟩)
            clear hQ2 A5 P5 HO9 Hz
            have k0 := HH.out.cell 0; have k1 := HH.out.cell 1; have k2 := HH.out.cell 2; have k3 := HH.out.cell 3
            simp only [opV, List.getElem?_cons_zero, List.getElem?_cons_succ] at k0 k1 k2 k3
            go_upto_region 17 with fail
            clear k0 k1 k2 k3
            have QF := hideP (show Qd wr g l' e' by have h := Prod.mk.inj hlz.out; rw [h.1, h.2]; exact HR9.out)
            have BF := hideP (HB.out.trans (HR.out.butBelow HC9.out hgw.out))
            have OF := hideP (HO.out.but HC9.out)
            have zF := hideP HC9.out.size
            have hAw := hideP (fun b off s (h : A1 = some ⟨b, off, s⟩) => (HO.out.own.block h).2)
            have ec := QF.out.ecell
            have k0 := HH.out.cell 0; have k1 := HH.out.cell 1; have k2 := HH.out.cell 2; have k3 := HH.out.cell 3
            simp only [opV, List.getElem?_cons_zero, List.getElem?_cons_succ] at k0 k1 k2 k3
            by_cases he : e' = 0
            · subst he
              have hRt := hideP (rright_any o 1 kb 0 T A9 none c9 0 wr hkk.out.1 hkk.out.2.1 hkk.out.2.2.1 hkk.out.2.2.2 (by have := M7.out.cols.arr; rwa [← hkk.out.2.2.1] at this) (fun j => Nat.le_trans (hok.out.col j) (by decide)) (by rw [hkk.out.2.1]; exact Nat.le_trans hok.out.table (by decide)) (by rw [hkk.out.2.2.1]; exact Nat.le_trans hok.out.cols (by decide)) (by rw [hkk.out.2.2.2]; exact Nat.le_trans hok.out.row (by decide)))
              obtain ⟨G, hG⟩ : ∃ G, G = oprB o := ⟨_, rfl⟩
              rw [← hG] at hRt HE1
              have HG := hideP hG
              clear hG
              rcases Bool.eq_false_or_eq_true G with hg | hg
              · subst hg
                have hE2 := hideP (show R0 = rOps 256 oprB d l' ((qs ++ [(o, (A9, c9, none, 0))]).map Prod.fst) by rw [HE1.out, if_pos ⟨rfl, rfl⟩]; simp)
                clear HE1
                go_wp2_with (first
                  | (go_at_call 15; refine hRt.out.mono ?_; rintro e_ w8 ⟨rfl, b_⟩; have H8 := hideP (Row.after HH.out b_); have O8 := hideP (OF.out.ext (Ext.of_below b_)); have M8 := hideP (M7.out.block (But.of_below b_)); have Q8 := hideP (QF.out.after b_); have B8 := hideP (bstep BF.out b_); have z8 := hideP (Nat.le_trans zF.out b_.size); clear b_ ec k0 k1 k2 k3)
                  | (refine wpList_load_row rfl 30 (.tmp 8) rfl h rfl 30 #[.int .u8 (1 : Nat), .string T, .slice A9 kb c9, .slice none 0 0] (0, 0) _ H8.out Try.underlying30 rfl hsz.out ?_)
                  | (at_builtin; refine wpList_append_op rfl (.tmp 68) (.tmp 70) rfl B0 g A1 c1 i qs Hql.out.symm rfl (O8.out.ext (Ext.of_below (below_new w8 (.cells #[.int .u8 (1 : Nat), .string T, .slice A9 kb c9, .slice none 0 0] 30)))) w8.heap.size 1 (o, (A9, c9, none, 0)) wo.heap.size rfl (fun j v hv => by rw [show opC (o, (A9, c9, none, 0)).1 (o, (A9, c9, none, 0)).2 = opV 1 T A9 kb c9 none 0 0 from hoc.out] at hv; exact (Row.range (Row.new w8 30 (opV 1 T A9 kb c9 none 0 0))) j v hv) (M8.out.block (But.of_ext (Ext.of_below (below_new w8 (.cells #[.int .u8 (1 : Nat), .string T, .slice A9 kb c9, .slice none 0 0] 30))))) HBs.out hAw.out (by omega) (Nat.le_trans HBs.out (Nat.le_trans z8.out (below_new w8 (.cells #[.int .u8 (1 : Nat), .string T, .slice A9 kb c9, .slice none 0 0] 30)).size)) ?_; intro g5 c5 w5 o5_ b5_; have O5 := hideP o5_; have B5 := hideP b5_; clear o5_ b5_))
                have bn := hideP (below_new w8 (.cells #[.int .u8 (1 : Nat), .string T, .slice A9 kb c9, .slice none 0 0] 30))
                go_roundw
                case rel =>
                  refine ⟨i + 1, some ⟨g5, 0, none⟩, c5, by omega, by go_num, rfl, qs ++ [(o, (A9, c9, none, 0))], l', by simp [Hql.out], O5.out, (Q8.out.after bn.out).below B5.out hgB.out, (bstep B8.out bn.out).trans (B5.out.mono hwB.out), ?_, ?_, ?_⟩
                  · exact Nat.le_trans HBs.out (Nat.le_trans z8.out (Nat.le_trans bn.out.size B5.out.size))
                  · rw [hE2.out, show m - (i + 1) = d by have := HD.out; omega]
                  · intro q hq
                    rcases List.mem_append.1 hq with hq | hq
                    · exact HK.out q hq
                    · rw [List.mem_singleton.1 hq]; exact hok.out
                case measure => simp [intOf]; omega
              · subst hg
                have hf := hideP (show RS = none by rw [HRE.out, HE1.out, if_neg (fun h => by simp at h)])
                clear HE1
                go_wp2_with (go_at_call 15; refine hRt.out.mono ?_; rintro e_ w8 ⟨rfl, b_⟩; have B8 := hideP (bstep BF.out b_); clear b_ ec k0 k1 k2 k3)
                go_ret2
                exact ⟨B8.out, .inl ⟨hf.out, _, _, _, rfl⟩⟩
            · have he' : ((e' : Int) != 0) = true := by simpa using he
              have hf := hideP (show RS = none by rw [HRE.out, HE1.out, if_neg (fun h => he h.1)])
              clear HE1 he
              go_wp2_with fail
              go_ret2
              exact ⟨BF.out, .inl ⟨hf.out, _, _, _, rfl⟩⟩
      · have h1' : ((k : Int) == 1) = false := by simp; omega
        by_cases h34 : k = 3 ∨ k = 4
        · have hQ2 := hideP (show (o, l', e') = (⟨k, T, [], (rRow 8 l2 e2).1⟩, (rRow 8 l2 e2).2) by rw [HQ.out, if_neg h1, if_pos h34])
          have HRw := hideP (qrow_any g l2 8 e2 v4 R5.out)
          obtain ⟨⟨rs, l3, e3⟩, hq⟩ : ∃ q, q = rRow 8 l2 e2 := ⟨_, rfl⟩
          rw [← hq] at HRw hQ2
          dsimp only at HRw hQ2
          clear hq HQ h1
          have h34' : (((k : Int) == 3) = true) ∨ (((k : Int) == 3) = false ∧ ((k : Int) == 4) = true) := by
            rcases h34 with rfl | rfl
            · exact .inl rfl
            · exact .inr ⟨rfl, rfl⟩
          clear h34
          rcases h34' with t3 | ⟨t3, t4⟩
          all_goals
            go_upto_region 17 with (go_at_call 80; refine HRw.out.mono ?_; rintro e_ w6 ⟨R6, d6, rfl, o_, b_, s_⟩; have O6 := hideP o_; have R6_ := hideP s_; have C6 := hideP (C5.out.trans b_); have H6 := hideP (row_but b_ H5.out hhg.out); clear b_ s_ o_ k0 k1 k2 k3; have q1 := H6.out.cell 3; simp only [opV, List.getElem?_cons_zero, List.getElem?_cons_succ] at q1; have f1 := H6.out.fz 3)
            obtain ⟨v6, hv6⟩ : ∃ v, v = w6.setCell ⟨h, 3, none⟩ (.slice R6 rs.length d6) := ⟨_, rfl⟩
            rw [← hv6]
            have H7 := hideP (show Row v6 h 30 (opV k T none 0 0 R6 rs.length d6) by rw [hv6]; exact H6.out.set 3 _)
            have R7 := hideP (show Qd v6 g l3 e3 by rw [hv6]; exact R6_.out.setNew hgh.out _)
            have C7 := hideP (show But (fun b => b = g) wr v6 by rw [hv6]; exact C6.out.setNew hwh.out _)
            have A7 := hideP (show ArrN (fun b => b < wr.heap.size) v6 R6 rs.length (i64s rs) by
              have := O6.out.arrN (S := fun b => b < wr.heap.size ∨ b = h) fun b hb => by
                have h1 := H5.out.lt; have h2 := C5.out.size; omega
              rw [hv6]
              exact (this.block (But.set w6 ⟨h, 3, none⟩ _ (.inr rfl))).mono fun b hb => .inl hb)
            clear hv6 q1 f1 R6_ C6 H6 O6 H5 R5 C5 HRw
            obtain ⟨nr, hnr⟩ : ∃ n, n = rs.length := ⟨_, rfl⟩
            rw [← hnr] at H7 A7 ⊢
            have M7 := hideP (show OpMemN (fun b => b < wr.heap.size) v6 o (none, 0, R6, d6) by rw [show o = _ from (Prod.mk.inj hQ2.out).1]; exact ⟨ArrN.none_, by rw [← hnr]; exact A7.out, Nat.le_refl _⟩)
            have hoc := hideP (show opC o (none, 0, R6, d6) = opV k T none 0 0 R6 nr d6 by rw [show o = _ from (Prod.mk.inj hQ2.out).1, hnr]; rfl)
            have hlz := hideP (Prod.mk.inj hQ2.out).2
            have hkk := hideP (show k = o.kind ∧ T = o.table ∧ 0 = o.cols.length ∧ nr = o.row.length by rw [show o = _ from (Prod.mk.inj hQ2.out).1]; exact ⟨rfl, rfl, rfl, hnr⟩)
            clear hQ2 A7 hnr
            have QF := hideP (show Qd v6 g l' e' by have h := Prod.mk.inj hlz.out; rw [h.1, h.2]; exact R7.out)
            have BF := hideP (HB.out.trans (HR.out.butBelow C7.out hgw.out))
            have OF := hideP (HO.out.but C7.out)
            have zF := hideP C7.out.size
            have hAw := hideP (fun b off s (h : A1 = some ⟨b, off, s⟩) => (HO.out.own.block h).2)
            have ec := QF.out.ecell
            have k0 := H7.out.cell 0; have k1 := H7.out.cell 1; have k2 := H7.out.cell 2; have k3 := H7.out.cell 3
            simp only [opV, List.getElem?_cons_zero, List.getElem?_cons_succ] at k0 k1 k2 k3
            by_cases he : e' = 0
            · subst he
              have hRt := hideP (rright_any o k 0 nr T none R6 0 d6 v6 hkk.out.1 hkk.out.2.1 hkk.out.2.2.1 hkk.out.2.2.2 (by have := M7.out.cols.arr; rwa [← hkk.out.2.2.1] at this) (fun j => Nat.le_trans (hok.out.col j) (by decide)) (by rw [hkk.out.2.1]; exact Nat.le_trans hok.out.table (by decide)) (by rw [hkk.out.2.2.1]; exact Nat.le_trans hok.out.cols (by decide)) (by rw [hkk.out.2.2.2]; exact Nat.le_trans hok.out.row (by decide)))
              obtain ⟨G, hG⟩ : ∃ G, G = oprB o := ⟨_, rfl⟩
              rw [← hG] at hRt HE1
              have HG := hideP hG
              clear hG
              rcases Bool.eq_false_or_eq_true G with hg | hg
              · subst hg
                have hE2 := hideP (show R0 = rOps 256 oprB d l' ((qs ++ [(o, (none, 0, R6, d6))]).map Prod.fst) by rw [HE1.out, if_pos ⟨rfl, rfl⟩]; simp)
                clear HE1
                go_wp2_with (first
                  | (go_at_call 15; refine hRt.out.mono ?_; rintro e_ w8 ⟨rfl, b_⟩; have H8 := hideP (Row.after H7.out b_); have O8 := hideP (OF.out.ext (Ext.of_below b_)); have M8 := hideP (M7.out.block (But.of_below b_)); have Q8 := hideP (QF.out.after b_); have B8 := hideP (bstep BF.out b_); have z8 := hideP (Nat.le_trans zF.out b_.size); clear b_ ec k0 k1 k2 k3)
                  | (refine wpList_load_row rfl 30 (.tmp 8) rfl h rfl 30 #[.int .u8 (k : Nat), .string T, .slice none 0 0, .slice R6 nr d6] (0, 0) _ H8.out Try.underlying30 rfl hsz.out ?_)
                  | (at_builtin; refine wpList_append_op rfl (.tmp 68) (.tmp 70) rfl B0 g A1 c1 i qs Hql.out.symm rfl (O8.out.ext (Ext.of_below (below_new w8 (.cells #[.int .u8 (k : Nat), .string T, .slice none 0 0, .slice R6 nr d6] 30)))) w8.heap.size 1 (o, (none, 0, R6, d6)) wr.heap.size rfl (fun j v hv => by rw [show opC (o, (none, 0, R6, d6)).1 (o, (none, 0, R6, d6)).2 = opV k T none 0 0 R6 nr d6 from hoc.out] at hv; exact (Row.range (Row.new w8 30 (opV k T none 0 0 R6 nr d6))) j v hv) (M8.out.block (But.of_ext (Ext.of_below (below_new w8 (.cells #[.int .u8 (k : Nat), .string T, .slice none 0 0, .slice R6 nr d6] 30))))) HBs.out hAw.out (by omega) (Nat.le_trans HBs.out (Nat.le_trans z8.out (below_new w8 (.cells #[.int .u8 (k : Nat), .string T, .slice none 0 0, .slice R6 nr d6] 30)).size)) ?_; intro g5 c5 w5 o5_ b5_; have O5 := hideP o5_; have B5 := hideP b5_; clear o5_ b5_))
                have bn := hideP (below_new w8 (.cells #[.int .u8 (k : Nat), .string T, .slice none 0 0, .slice R6 nr d6] 30))
                go_roundw
                case rel =>
                  refine ⟨i + 1, some ⟨g5, 0, none⟩, c5, by omega, by go_num, rfl, qs ++ [(o, (none, 0, R6, d6))], l', by simp [Hql.out], O5.out, (Q8.out.after bn.out).below B5.out hgB.out, (bstep B8.out bn.out).trans (B5.out.mono hwB.out), ?_, ?_, ?_⟩
                  · exact Nat.le_trans HBs.out (Nat.le_trans z8.out (Nat.le_trans bn.out.size B5.out.size))
                  · rw [hE2.out, show m - (i + 1) = d by have := HD.out; omega]
                  · intro q hq
                    rcases List.mem_append.1 hq with hq | hq
                    · exact HK.out q hq
                    · rw [List.mem_singleton.1 hq]; exact hok.out
                case measure => simp [intOf]; omega
              · subst hg
                have hf := hideP (show RS = none by rw [HRE.out, HE1.out, if_neg (fun h => by simp at h)])
                clear HE1
                go_wp2_with (go_at_call 15; refine hRt.out.mono ?_; rintro e_ w8 ⟨rfl, b_⟩; have B8 := hideP (bstep BF.out b_); clear b_ ec k0 k1 k2 k3)
                go_ret2
                exact ⟨B8.out, .inl ⟨hf.out, _, _, _, rfl⟩⟩
            · have he' : ((e' : Int) != 0) = true := by simpa using he
              have hf := hideP (show RS = none by rw [HRE.out, HE1.out, if_neg (fun h => he h.1)])
              clear HE1 he
              go_wp2_with fail
              go_ret2
              exact ⟨BF.out, .inl ⟨hf.out, _, _, _, rfl⟩⟩
        · have h3' : ((k : Int) == 3) = false := by simp; omega
          have h4' : ((k : Int) == 4) = false := by simp; omega
          have hQ2 := hideP (show (o, l', e') = ((⟨k, T, [], []⟩ : OpD), l2, e2) by rw [HQ.out, if_neg h1, if_neg h34])
          have M7 := hideP (show OpMemN (fun b => b < wr.heap.size) v4 o (none, 0, none, 0) by rw [show o = _ from (Prod.mk.inj hQ2.out).1]; exact ⟨ArrN.none_, ArrN.none_, Nat.le_refl _⟩)
          have hoc := hideP (show opC o (none, 0, none, 0) = opV k T none 0 0 none 0 0 by rw [show o = _ from (Prod.mk.inj hQ2.out).1]; rfl)
          have hlz := hideP (Prod.mk.inj hQ2.out).2
          have hkk := hideP (show k = o.kind ∧ T = o.table ∧ 0 = o.cols.length ∧ 0 = o.row.length by rw [show o = _ from (Prod.mk.inj hQ2.out).1]; exact ⟨rfl, rfl, rfl, rfl⟩)
          clear hQ2 HQ h1 h34
          go_upto_region 17 with fail
          clear k0 k1 k2 k3
          have QF := hideP (show Qd v4 g l' e' by have h := Prod.mk.inj hlz.out; rw [h.1, h.2]; exact R5.out)
          have BF := hideP (HB.out.trans (HR.out.butBelow C5.out hgw.out))
          have OF := hideP (HO.out.but C5.out)
          have zF := hideP C5.out.size
          have hAw := hideP (fun b off s (h : A1 = some ⟨b, off, s⟩) => (HO.out.own.block h).2)
          have ec := QF.out.ecell
          have k0 := H5.out.cell 0; have k1 := H5.out.cell 1; have k2 := H5.out.cell 2; have k3 := H5.out.cell 3
          simp only [opV, List.getElem?_cons_zero, List.getElem?_cons_succ] at k0 k1 k2 k3
          by_cases he : e' = 0
          · subst he
            have hRt := hideP (rright_any o k 0 0 T none none 0 0 v4 hkk.out.1 hkk.out.2.1 hkk.out.2.2.1 hkk.out.2.2.2 (by have := M7.out.cols.arr; rwa [← hkk.out.2.2.1] at this) (fun j => Nat.le_trans (hok.out.col j) (by decide)) (by rw [hkk.out.2.1]; exact Nat.le_trans hok.out.table (by decide)) (by rw [hkk.out.2.2.1]; exact Nat.le_trans hok.out.cols (by decide)) (by rw [hkk.out.2.2.2]; exact Nat.le_trans hok.out.row (by decide)))
            obtain ⟨G, hG⟩ : ∃ G, G = oprB o := ⟨_, rfl⟩
            rw [← hG] at hRt HE1
            have HG := hideP hG
            clear hG
            rcases Bool.eq_false_or_eq_true G with hg | hg
            · subst hg
              have hE2 := hideP (show R0 = rOps 256 oprB d l' ((qs ++ [(o, (none, 0, none, 0))]).map Prod.fst) by rw [HE1.out, if_pos ⟨rfl, rfl⟩]; simp)
              clear HE1
              go_wp2_with (first
                | (go_at_call 15; refine hRt.out.mono ?_; rintro e_ w8 ⟨rfl, b_⟩; have H8 := hideP (Row.after H5.out b_); have O8 := hideP (OF.out.ext (Ext.of_below b_)); have M8 := hideP (M7.out.block (But.of_below b_)); have Q8 := hideP (QF.out.after b_); have B8 := hideP (bstep BF.out b_); have z8 := hideP (Nat.le_trans zF.out b_.size); clear b_ ec k0 k1 k2 k3)
                | (refine wpList_load_row rfl 30 (.tmp 8) rfl h rfl 30 #[.int .u8 (k : Nat), .string T, .slice none 0 0, .slice none 0 0] (0, 0) _ H8.out Try.underlying30 rfl hsz.out ?_)
                | (at_builtin; refine wpList_append_op rfl (.tmp 68) (.tmp 70) rfl B0 g A1 c1 i qs Hql.out.symm rfl (O8.out.ext (Ext.of_below (below_new w8 (.cells #[.int .u8 (k : Nat), .string T, .slice none 0 0, .slice none 0 0] 30)))) w8.heap.size 1 (o, (none, 0, none, 0)) wr.heap.size rfl (fun j v hv => by rw [show opC (o, (none, 0, none, 0)).1 (o, (none, 0, none, 0)).2 = opV k T none 0 0 none 0 0 from hoc.out] at hv; exact (Row.range (Row.new w8 30 (opV k T none 0 0 none 0 0))) j v hv) (M8.out.block (But.of_ext (Ext.of_below (below_new w8 (.cells #[.int .u8 (k : Nat), .string T, .slice none 0 0, .slice none 0 0] 30))))) HBs.out hAw.out (by omega) (Nat.le_trans HBs.out (Nat.le_trans z8.out (below_new w8 (.cells #[.int .u8 (k : Nat), .string T, .slice none 0 0, .slice none 0 0] 30)).size)) ?_; intro g5 c5 w5 o5_ b5_; have O5 := hideP o5_; have B5 := hideP b5_; clear o5_ b5_))
              have bn := hideP (below_new w8 (.cells #[.int .u8 (k : Nat), .string T, .slice none 0 0, .slice none 0 0] 30))
              go_roundw
              case rel =>
                refine ⟨i + 1, some ⟨g5, 0, none⟩, c5, by omega, by go_num, rfl, qs ++ [(o, (none, 0, none, 0))], l', by simp [Hql.out], O5.out, (Q8.out.after bn.out).below B5.out hgB.out, (bstep B8.out bn.out).trans (B5.out.mono hwB.out), ?_, ?_, ?_⟩
                · exact Nat.le_trans HBs.out (Nat.le_trans z8.out (Nat.le_trans bn.out.size B5.out.size))
                · rw [hE2.out, show m - (i + 1) = d by have := HD.out; omega]
                · intro q hq
                  rcases List.mem_append.1 hq with hq | hq
                  · exact HK.out q hq
                  · rw [List.mem_singleton.1 hq]; exact hok.out
              case measure => simp [intOf]; omega
            · subst hg
              have hf := hideP (show RS = none by rw [HRE.out, HE1.out, if_neg (fun h => by simp at h)])
              clear HE1
              go_wp2_with (go_at_call 15; refine hRt.out.mono ?_; rintro e_ w8 ⟨rfl, b_⟩; have B8 := hideP (bstep BF.out b_); clear b_ ec k0 k1 k2 k3)
              go_ret2
              exact ⟨B8.out, .inl ⟨hf.out, _, _, _, rfl⟩⟩
          · have he' : ((e' : Int) != 0) = true := by simpa using he
            have hf := hideP (show RS = none by rw [HRE.out, HE1.out, if_neg (fun h => he h.1)])
            clear HE1 he
            go_wp2_with fail
            go_ret2
            exact ⟨BF.out, .inl ⟨hf.out, _, _, _, rfl⟩⟩
    · obtain rfl : m = i := by omega
      have i1 : ¬ ((m : Int) < (m : Int)) := by omega
      obtain ⟨L, hL⟩ : ∃ L, L = qs.map Prod.fst := ⟨_, rfl⟩
      have hLl := hideP (show m = L.length by rw [hL, List.length_map]; exact Hql.out.symm)
      have hE2 := hideP (show RS = if e0 = 0 ∧ l = [] then some L else none by rw [HRE.out, HE.out, Nat.sub_self, ← hL]; rfl)
      have HS := hideP ((HO.out.opsH HK.out).mono hwB.out)
      rw [← hL] at HS
      clear hL HE HRE HK Hql HO
      obtain ⟨AB, cB, hT_, _⟩ := HR.out
      have b0 := hT_.c0
      have ec := hT_.c1
      clear hT_
      obtain ⟨lb, hlb⟩ : ∃ n, n = l.length := ⟨_, rfl⟩
      rw [← hlb] at b0
      by_cases he : e0 = 0
      · subst he
        by_cases hl0 : lb = 0
        · have hf := hideP (show RS = some L by rw [hE2.out, if_pos ⟨rfl, List.eq_nil_of_length_eq_zero (by omega)⟩])
          subst hl0
          clear hE2 hlb
          go_upto_region 20 with fail
          go_quiet (fail)
          go_wp2_with fail
          go_ret2
          exact ⟨below_drewN HB.out _, .inr ⟨L, A1, _, _, m, hf.out, hLl.out, rfl, HS.out.but (⟨Nat.le_refl _, fun _ _ _ => rfl, rfl, rfl, rfl⟩ : But (fun _ => False) wr (wr.drewN nq)) fun _ h => h.elim⟩⟩
        · have hf := hideP (show RS = none by rw [hE2.out, if_neg (fun h => hl0 (by rw [hlb, h.2]; rfl))])
          have l0' : ((lb : Int) == 0) = false := by simpa using hl0
          clear hE2 hlb
          go_upto_region 20 with fail
          go_quiet (fail)
          go_wp2_with fail
          go_ret2
          exact ⟨below_drewN HB.out _, .inl ⟨hf.out, _, _, _, rfl⟩⟩
      · have hf := hideP (show RS = none by rw [hE2.out, if_neg (fun h => he h.1)])
        have e0' : ((e0 : Int) == 0) = false := by simpa using he
        clear hE2 hlb he
        go_upto_region 20 with fail
        go_quiet (fail)
        go_wp2_with fail
        go_ret2
        exact ⟨below_drewN HB.out _, .inl ⟨hf.out, _, _, _, rfl⟩⟩
end Go.Proofs.Ytiicdnbhphgieaa
