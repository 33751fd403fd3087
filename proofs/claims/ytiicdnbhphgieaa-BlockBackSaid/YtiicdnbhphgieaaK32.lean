/- Contract of block.ReadOps. -/
import Derived.Test.YtiicdnbhphgieaaK31
set_option linter.unusedVariables false
set_option linter.unusedSimpArgs false
namespace Go.Proofs.Ytiicdnbhphgieaa
open Go.RowKit
/-- what ReadOps answers -/
def ReadsGot (w : World) (RS : Option (List OpD)) (e : Ending) (w' : World) : Prop :=
  Below w.heap.size w w' ∧ ((RS = none ∧ e = .returned (.tuple #[.slice none 0 0, .int .i64 21])) ∨
    ∃ m R d ps n, RS = some m ∧ n = m.length ∧ e = .returned (.tuple #[.slice R n d, .int .i64 0]) ∧ OpsH w' w.heap.size R m ps)
theorem rCount_bad {most : Nat} {l : List Nat} {e : Int} (h : (rCount most l e).2.2 ≠ 0) : (rCount most l e).1 = 0 := by
  unfold rCount at h ⊢
  split <;> rename_i hq
  · rfl
  · rw [hq] at h
    dsimp only at h ⊢
    split
    · rfl
    · rename_i h2
      rw [if_neg h2] at h
      exact absurd rfl h
theorem Rd.butBelow {w W : World} {g B : Nat} {l : List Nat} {e : Int} (h : Rd w g l e) (b : But (fun k => k = g) w W) (hB : B ≤ g) : Below B w W :=
  ⟨b.os, b.tape, b.output, b.size, fun k hk => b.block k (by have := h.lt; omega) (by omega)⟩
theorem opsB_len {l : List OpD} (h : ∀ i, i < l.length → OpOk (l.getD i default)) (hl : l.length ≤ 256) : (opsB l).length ≤ 1000000000000 := by
  unfold opsB
  rw [List.length_append]
  have := ops_len h l.length (Nat.le_refl _)
  rw [List.take_length] at this
  have h3 : (be3 l.length).length = 3 := rfl
  omega
/-- behind i changes -/
def ReadsTo (w : World) (B0 g : Nat) (n : Nat) (e0 : Int) (R0 : Option (List OpD × List Nat)) (wr : World) (A : Option Addr) (c i : Nat) : Prop :=
  ∃ (qs : List OpQ) (l : List Nat), qs.length = i ∧ OpsOwn wr B0 g A c qs ∧ Rd wr g l e0 ∧ Below w.heap.size w wr ∧ B0 ≤ wr.heap.size ∧ R0 = rOps 8 (fun _ => true) (n - i) l (qs.map Prod.fst) ∧ ∀ q ∈ qs, OpOk q.1
theorem rOps_one (n : Nat) (l : List Nat) (acc : List OpD) (o : OpD) (l' : List Nat) (e : Int) (h : rOp 8 l 0 = (o, l', e)) : rOps 8 (fun _ => true) (n + 1) l acc = if e = 0 then rOps 8 (fun _ => true) n l' (acc ++ [o]) else none := by
  simp [rOps, h]
def opZ : List Value := opV 0 ByteArray.empty none 0 0 none 0 0
theorem breadop2 (g : Nat) (l : List Nat) (o : OpD) (l' : List Nat) (e' : Int) (hq : rOp 8 l 0 = (o, l', e')) (w : World) (hS : Rd w g l 0) :
    Calls Try.prog 66 #[.pointer (some ⟨g, 0, none⟩)] w fun e w' => ∃ (k : Nat) (t : ByteArray) (AC : Option Addr) (nc cc : Nat) (AR : Option Addr) (nr cr : Nat), opC o (AC, cc, AR, cr) = opV k t AC nc cc AR nr cr ∧ e = .returned (.agg #[.int .u8 (k : Nat), .string t, .slice AC nc cc, .slice AR nr cr]) ∧
      OpMemN (fun b => b < w.heap.size) w' o (AC, cc, AR, cr) ∧ But (fun b => b = g) w w' ∧ Rd w' g l' e' := by
  refine (breadop_any g l 0 w hS).mono ?_
  rw [hq]
  rintro e w' ⟨⟨AC, cc, AR, cr⟩, rfl, h1, h2, h3⟩
  exact ⟨o.kind, o.table, AC, o.cols.length, cc, AR, o.row.length, cr, rfl, rfl, h1, h2, h3⟩
set_option maxRecDepth 100000 in
set_option maxHeartbeats 4000000 in
theorem breadops_any (A : Option Addr) (b : List Nat) (n c : Nat) (w : World) (hnn : n = b.length) (hA : Arr w w.heap.size A n (u8s b)) (hI : IsB b) (hn : n ≤ 100000000) :
    Calls Try.prog 20 #[.slice A n c] w (ReadsGot w (readP b)) := by
  obtain ⟨RS, hRS⟩ : ∃ RS, RS = readP b := ⟨_, rfl⟩
  rw [← hRS]
  have hN := hideP (rnew_any A b c w (by rw [← hnn]; exact hA) hI (by omega))
  rw [← hnn] at hN
  have HA := hideP hA
  have Hnn := hideP hnn
  have hbad := hideP (rCount_bad (most := 256) (l := b) (e := 0))
  have hle := rCount_le' 256 b 0
  have hC := fun g W (h : Rd W g b 0) => rcount_any g b 256 0 W h
  unfold readP at hRS
  obtain ⟨⟨m, l0, e0⟩, hq⟩ : ∃ q, q = rCount 256 b 0 := ⟨_, rfl⟩
  rw [← hq] at hC hRS hle hbad
  dsimp only at hC hRS hle hbad
  have HC := hideP hC
  have HRS := hideP hRS
  clear hq hC hRS hA hnn hI
  go_enter Try.func20, Try.ntmps20
  go_upto_region 3 with (go_at_call 64; refine hN.out.mono ?_; rintro e1 w1 ⟨g, rfl, hg_, b1_, s1_⟩; have B1 := hideP b1_; have S1 := hideP s1_; have hg := hideP hg_; clear b1_ s1_ hg_)
  go_wp2_with (go_at_call 65; refine (HC.out g _ S1.out).mono ?_; rintro e1 w2 ⟨rfl, b2_, s2_⟩; have B2 := hideP (B1.out.trans (S1.out.butBelow b2_ hg.out)); have S2 := hideP s2_; clear b2_ s2_)
  clear S1 B1 hN HC
  obtain ⟨R0, hR0⟩ : ∃ R0, R0 = rOps 8 (fun _ => true) m l0 [] := ⟨_, rfl⟩
  have hRE := HRS.out
  rw [← hR0] at hRE
  obtain ⟨B0, hB0⟩ : ∃ B0, B0 = w2.heap.size := ⟨_, rfl⟩
  have hgB := hideP (show g < B0 by rw [hB0]; exact S2.out.lt)
  have HRE := hideP hRE
  have hST := hideP (show ReadsTo w B0 g m e0 R0 w2 none 0 0 from ⟨[], l0, rfl, OpsOwn.nil _ hgB.out, S2.out, B2.out, Nat.le_of_eq hB0, by rw [hR0]; rfl, by simp⟩)
  have hwB := hideP (show w.heap.size ≤ B0 by rw [hB0]; exact B2.out.size)
  clear hRE HRS hR0 hB0 S2 B2
  go_loopw [5, 13] (fun v5 v13 wr => ∃ (i : Nat) (A : Option Addr) (c : Nat), i ≤ m ∧ v13 = .int .i64 (i : Nat) ∧ v5 = .slice A i c ∧ Hid (ReadsTo w B0 g m e0 R0 wr A c i)) (fun _ v13 _ => m - (intOf v13).toNat)
  case atStart => exact ⟨0, none, 0, Nat.zero_le _, rfl, rfl, hST.out⟩
  case round =>
    obtain ⟨i, A1, c1, hi, rfl, rfl, hV⟩ := hrel
    obtain ⟨qs, l, hql, hO, hR, hB, hBs, hE, hK⟩ := hV.out
    have HO := hideP hO; have HR := hideP hR; have HB := hideP hB; have HBs := hideP hBs; have HE := hideP hE; have HK := hideP hK; have Hql := hideP hql
    clear hO hR hB hBs hE hK hV hql
    by_cases hlt : i < m
    · have i1 : (i : Int) < (m : Int) := by omega
      have he0 : e0 = 0 := by
        rcases Int.decEq e0 0 with h | h
        · have := hbad.out h; omega
        · exact h
      subst he0
      obtain ⟨d, hd⟩ : ∃ d, m - i = d + 1 := ⟨m - i - 1, by omega⟩
      have hsz := hideP (show (Try.prog.info? 30).map (·.size) = some 4 by kernel_rfl)
      have hok := hideP (rOp_ok l HR.out.isB)
      obtain ⟨⟨o, l', e'⟩, hq⟩ : ∃ q, q = rOp 8 l 0 := ⟨_, rfl⟩
      have HT := hideP (breadop2 g l o l' e' hq.symm wr HR.out)
      have hE1 := HE.out
      rw [hd, rOps_one d l _ o l' e' hq.symm] at hE1
      have HE1 := hideP hE1
      rw [← hq] at hok
      dsimp only at hok
      clear hq hE1 HE
      have HD := hideP hd
      clear hd
      go_upto_region 6 with (first
        | (go_at_call 66; refine HT.out.mono ?_; rintro e1 w3 ⟨k, t, AC, nc, cc, AR, nr, cr, hoc_, rfl, hm_, hb_, hr_⟩; have hoc := hideP hoc_; have M3 := hideP hm_; have R3 := hideP hr_; have O3 := hideP (HO.out.but hb_); have B3 := hideP (HB.out.trans (HR.out.butBelow hb_ hg.out)); have z3 := hideP hb_.size; clear hoc_ hm_ hb_ hr_)
        | (refine wpList_store_row rfl 30 (.tmp 6) (.tmp 16) rfl w3.heap.size #[.int .u8 (k : Nat), .string t, .slice AC nc cc, .slice AR nr cr] rfl rfl 30 opZ.toArray (Row.new w3 30 opZ) hsz.out rfl opV_one ?_))
      obtain ⟨h, hh⟩ : ∃ h, h = w3.heap.size := ⟨_, rfl⟩
      rw [← hh]
      obtain ⟨v3, hv3⟩ : ∃ v, v = (w3.alloc (.cells #[.int .u8 0, .string (⟨#[]⟩ : ByteArray), .slice none 0 0, .slice none 0 0] 30)).setRow h #[.int .u8 (k : Nat), .string t, .slice AC nc cc, .slice AR nr cr] := ⟨_, rfl⟩
      rw [← hv3]
      have hb3 : Below w3.heap.size w3 v3 := by rw [hv3, hh]; exact below_setRow' (below_new w3 _) (Nat.le_refl _) _
      have V3 := hideP (show Row v3 h 30 (opV k t AC nc cc AR nr cr) by rw [hv3, hh]; exact Row.setRow (Row.new w3 30 opZ) (opV k t AC nc cc AR nr cr))
      replace M3 := hideP (M3.out.block (But.of_ext (Ext.of_below hb3)))
      replace R3 := hideP (R3.out.after hb3)
      replace O3 := hideP (O3.out.ext (Ext.of_below hb3))
      replace B3 := hideP (bstep B3.out hb3)
      replace z3 := hideP (Nat.le_trans z3.out hb3.size)
      have hgw := hideP HR.out.lt
      have hAw := hideP (fun b off s (h : A1 = some ⟨b, off, s⟩) => (HO.out.own.block h).2)
      clear hv3 hb3 hh HO HR HB HT
      by_cases he : e' = 0
      · subst he
        have hE2 := hideP (show R0 = rOps 8 (fun _ => true) d l' ((qs ++ [(o, (AC, cc, AR, cr))]).map Prod.fst) by rw [HE1.out, if_pos rfl]; simp)
        clear HE1
        have hcs := hideP (below_new v3 (.cells #[.int .u8 (k : Nat), .string t, .slice AC nc cc, .slice AR nr cr] 30))
        go_wp2_with (first
          | (go_at_call 67; refine (rerr_any g l' 0 _ R3.out).mono ?_; rintro e1 w4 ⟨rfl, rfl⟩)
          | (refine wpList_load_row rfl 30 (.tmp 6) rfl h rfl 30 #[.int .u8 (k : Nat), .string t, .slice AC nc cc, .slice AR nr cr] (0, 0) _ V3.out Try.underlying30 rfl hsz.out ?_)
          | (at_builtin; refine wpList_append_op rfl (.tmp 20) (.tmp 22) rfl B0 g A1 c1 i qs Hql.out.symm rfl (O3.out.ext (Ext.of_below hcs.out)) w4.heap.size 1 (o, (AC, cc, AR, cr)) wr.heap.size rfl (fun j v hv => by rw [show opC (o, (AC, cc, AR, cr)).1 (o, (AC, cc, AR, cr)).2 = opV k t AC nc cc AR nr cr from hoc.out] at hv; exact (Row.range (Row.new w4 30 (opV k t AC nc cc AR nr cr))) j v hv) (M3.out.block (But.of_ext (Ext.of_below hcs.out))) HBs.out hAw.out (by omega) (Nat.le_trans HBs.out (Nat.le_trans z3.out hcs.out.size)) ?_; intro g5 c5 w5 o5_ b5_; have O5 := hideP o5_; have B5 := hideP b5_; clear o5_ b5_))
        go_roundw
        case rel =>
          refine ⟨i + 1, some ⟨g5, 0, none⟩, c5, by omega, by go_num, rfl, qs ++ [(o, (AC, cc, AR, cr))], l', by simp [Hql.out], O5.out, (R3.out.after hcs.out).below B5.out hgB.out, (bstep B3.out hcs.out).trans (B5.out.mono hwB.out), ?_, ?_, ?_⟩
          · exact Nat.le_trans HBs.out (Nat.le_trans z3.out (Nat.le_trans hcs.out.size B5.out.size))
          · rw [hE2.out, show m - (i + 1) = d by have := HD.out; omega]
          · intro q hq
            rcases List.mem_append.1 hq with hq | hq
            · exact HK.out q hq
            · rw [List.mem_singleton.1 hq]; exact hok.out
        case measure => simp [intOf]; omega
      · have he' : ((e' : Int) != 0) = true := by simpa using he
        have hE2 := hideP (show RS = none by rw [HRE.out, HE1.out, if_neg he])
        clear HE1 he
        go_wp2_with (go_at_call 67; refine (rerr_any g l' e' _ R3.out).mono ?_; rintro e1 w4 ⟨rfl, rfl⟩)
        go_ret2
        exact ⟨B3.out, .inl ⟨hE2.out, rfl⟩⟩
    · obtain rfl : m = i := by omega
      have i1 : ¬ ((m : Int) < (m : Int)) := by omega
      obtain ⟨L, hL⟩ : ∃ L, L = qs.map Prod.fst := ⟨_, rfl⟩
      have hLl := hideP (show m = L.length by rw [hL, List.length_map]; exact Hql.out.symm)
      have hE2 := hideP (show RS = if e0 = 0 ∧ l = [] ∧ (L.all oprB = true ∧ opsB L = b) then some L else none by
        rw [HRE.out, HE.out, Nat.sub_self, ← hL]; rfl)
      have HS := hideP (HO.out.opsL HK.out)
      have HKK := HK
      have hLL := hideP hL
      rw [← hL] at HS
      clear hL HE HRE HK Hql
      have HEnd := hideP (rend_any g l e0 wr HR.out)
      obtain ⟨ee, hee⟩ : ∃ ee, ee = rEnd l e0 := ⟨_, rfl⟩
      rw [← hee] at HEnd
      by_cases he : e0 = 0 ∧ l = []
      · have hz : ee = 0 := by rw [hee, he.1, he.2]; rfl
        subst hz
        have hE3 := hideP (show RS = if L.all oprB = true ∧ opsB L = b then some L else none by rw [hE2.out]; simp [he.1, he.2])
        clear hE2 hee he
        have hAw := hideP (fun W (hW : Below w.heap.size w W) => HA.out.after hW)
        have hgw := hideP HR.out.lt
        have hSS := hideP (fun W (hW : But (fun k => k = g) wr W) => ((OpsOwn.but HO.out hW).opsH HKK.out).mono hwB.out)
        rw [← hLL.out] at hSS
        rcases Bool.eq_false_or_eq_true (allB L) with hb | hb
        · have hE4 := hideP (show RS = if opsB L = b then some L else none by
            rw [hE3.out]; simp only [allB, Bool.and_eq_true] at hb; simp [hb.1])
          have hO := hideP (fun W h => bops_ok A1 L _ m c1 W hLl.out (hSS.out W h).opsL hb)
          have hS4 := hideP hSS.out
          have hXn := hideP (opsB_len (fun i hi => (HS.out.2 i hi).2) (by rw [← hLl.out]; exact hle))
          clear hE3 HS hSS
          obtain ⟨X, hX⟩ : ∃ X, X = opsB L := ⟨_, rfl⟩
          rw [← hX] at hO hE4 hXn
          clear hX
          go_upto_region 13 with (first
            | (go_at_call 68; refine HEnd.out.mono ?_; rintro e1 w4 ⟨rfl, b4_, _⟩; have B4 := hideP (HB.out.trans (HR.out.butBelow b4_ hg.out)); have U4 := hideP b4_; clear b4_)
            | (go_at_call 16; refine (hO.out w4 U4.out).mono ?_; rintro e1 w5 ⟨R5, d5, rfl, o5_, b5_⟩; have O5 := hideP o5_; have B5 := hideP (bstep B4.out b5_); have b5 := hideP b5_; clear o5_ b5_))
          have hQ := hideP (bsequal_any R5 A X b X.length n d5 c w5 rfl Hnn.out O5.out.arr (HA.out.after B5.out) (by have := hXn.out; omega))
          have S5 := hideP ((hS4.out w4 U4.out).after b5.out)
          by_cases hx : X = b
          · have hE5 := hideP (show RS = some L by rw [hE4.out, if_pos hx])
            rw [decide_eq_true hx] at hQ
            clear hE4 hx
            go_wp2_with (go_at_call 69; refine hQ.out.mono ?_; rintro e1 w6 ⟨rfl, b6_⟩; have B6 := hideP (bstep B5.out b6_); have b6 := hideP b6_; clear b6_)
            go_ret2
            exact ⟨B6.out, .inr ⟨L, A1, c1, _, m, hE5.out, hLl.out, rfl, S5.out.after b6.out⟩⟩
          · have hE5 := hideP (show RS = none by rw [hE4.out, if_neg hx])
            rw [decide_eq_false hx] at hQ
            clear hE4 hx
            go_wp2_with (go_at_call 69; refine hQ.out.mono ?_; rintro e1 w6 ⟨rfl, b6_⟩; have B6 := hideP (bstep B5.out b6_); clear b6_)
            go_ret2
            exact ⟨B6.out, .inl ⟨hE5.out, rfl⟩⟩
        · have hE4 := hideP (show RS = none by
            rw [hE3.out, if_neg]
            rintro ⟨h1, _⟩
            rw [allB, h1, ← hLl.out] at hb
            simp [hle] at hb)
          have hO := hideP (fun W h => bops_no A1 L _ m c1 W hLl.out (hSS.out W h).opsL (by omega) hb)
          clear hE3 HS hSS
          go_wp2_with (first
            | (go_at_call 68; refine HEnd.out.mono ?_; rintro e1 w4 ⟨rfl, b4_, _⟩; have B4 := hideP (HB.out.trans (HR.out.butBelow b4_ hg.out)); have U4 := hideP b4_; clear b4_)
            | (go_at_call 16; refine (hO.out w4 U4.out).mono ?_; rintro e1 w5 ⟨rfl, b5_⟩; have B5 := hideP (bstep B4.out b5_); clear b5_))
          go_ret2
          exact ⟨B5.out, .inl ⟨hE4.out, rfl⟩⟩
      · have hz : ((ee : Int) != 0) = true := by
          rw [hee]; unfold rEnd; simp only [bne_iff_ne, ne_eq]
          split
          · decide
          · rename_i h; intro h0; apply he; refine ⟨h0, ?_⟩; rcases l with _ | ⟨x, l⟩
            · rfl
            · exact absurd ⟨by simp, h0⟩ h
        have hE3 := hideP (show RS = none by rw [hE2.out, if_neg (fun h => he ⟨h.1, h.2.1⟩)])
        clear hE2 hee he
        go_wp2_with (go_at_call 68; refine HEnd.out.mono ?_; rintro e1 w4 ⟨rfl, b4_, _⟩; have B4 := hideP (HB.out.trans (HR.out.butBelow b4_ hg.out)); clear b4_)
        go_ret2
        exact ⟨B4.out, .inl ⟨hE3.out, rfl⟩⟩
end Go.Proofs.Ytiicdnbhphgieaa
