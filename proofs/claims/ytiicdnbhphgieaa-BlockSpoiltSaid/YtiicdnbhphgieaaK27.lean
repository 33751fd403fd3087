/- Contract of block.readOp. -/
import Derived.Test.YtiicdnbhphgieaaK26
set_option linter.unusedVariables false
set_option linter.unusedSimpArgs false
namespace Go.Proofs.Ytiicdnbhphgieaa
open Go.RowKit
/-- the parts of a change lie in blocks that are none of S's -/
structure OpMemN (S : Nat → Prop) (w : World) (o : OpD) (p : OpP) : Prop where
  cols : ArrN S w p.1 o.cols.length (strs o.cols)
  row : ArrN S w p.2.2.1 o.row.length (i64s o.row)
  cap : o.cols.length ≤ p.2.1
theorem op_texts (i lim : Nat) (l : List Nat) (e : Int) : rTexts (i + 1) l e = ((rTexts i l e).1 ++ [bstr (rText 16 (rTexts i l e).2.1 (rTexts i l e).2.2).1], (rText 16 (rTexts i l e).2.1 (rTexts i l e).2.2).2) := rfl
theorem ArrN.mono {S S' : Nat → Prop} {w : World} {A : Option Addr} {n : Nat} {f : Nat → Value} (h : ArrN S w A n f) (hS : ∀ b, S' b → S b) : ArrN S' w A n f := fun hn => by
  obtain ⟨b, off, e, hb, hs, hc⟩ := h hn
  exact ⟨b, off, e, hb, fun h => hs (hS b h), hc⟩
theorem ArrN.block {S : Nat → Prop} {w W : World} {A : Option Addr} {n : Nat} {f : Nat → Value} (h : ArrN S w A n f) (b : But S w W) : ArrN S W A n f := fun hn => by
  obtain ⟨k, off, e, hk, hs, hc⟩ := h hn
  exact ⟨k, off, e, Nat.lt_of_lt_of_le hk b.size, hs, fun i hi => b.cell (hc i hi) hs⟩
theorem But.mono {S S' : Nat → Prop} {w W : World} (b : But S w W) (h : ∀ k, S k → S' k) : But S' w W := ⟨b.size, fun k hk hn => b.block k hk fun hs => hn (h k hs), b.os, b.tape, b.output⟩
theorem But.newBut {S : Nat → Prop} {w W W' : World} (b : But S w W) {r : Nat} (hr : w.heap.size ≤ r) (c : But (fun k => k = r) W W') : But S w W' :=
  ⟨Nat.le_trans b.size c.size, fun k hk hn => (c.block k (Nat.lt_of_lt_of_le hk b.size) (by omega)).trans (b.block k hk hn), c.os.trans b.os, c.tape.trans b.tape, c.output.trans b.output⟩
theorem arrN_out {g r : Nat} {w W : World} {A : Option Addr} {n : Nat} {f : Nat → Value} (h : ArrN (fun b => b < g ∨ b = r) w A n f) (b : But (fun k => k = r) w W) : ArrN (fun b => b < g) W A n f :=
  (h.block (b.mono fun _ hk => .inr hk)).mono fun _ hb => .inl hb
theorem ArrN.none_ {S : Nat → Prop} {w : World} {A : Option Addr} {f : Nat → Value} : ArrN S w A 0 f := fun h => absurd h (by omega)
theorem opV_one {k : Nat} {t : ByteArray} {AC AR : Option Addr} {nc cc nr cr : Nat} : (opV k t AC nc cc AR nr cr).toArray.all (·.oneCell') = true := by simp [opV, Value.oneCell']
theorem But.then_new {S : Nat → Prop} {w w1 w2 : World} {B : Nat} (b : But S w w1) (h : Below B w1 w2) (hB : w.heap.size ≤ B) : But S w w2 :=
  ⟨Nat.le_trans b.size h.size, fun k hk hn => (h.block k (Nat.lt_of_lt_of_le hk hB)).trans (b.block k hk hn), h.os.trans b.os, h.tape.trans b.tape, h.output.trans b.output⟩
theorem row_but2 {S : Nat → Prop} {w w' : World} {k : Nat} {t : TypeId} {cs : List Value} (b : But S w w') (h : Row w k t cs) (hk : ¬ S k) : Row w' k t cs := (b.block k (Row.lt h) hk).trans h
theorem Rd.but {w W : World} {g : Nat} {l : List Nat} {e : Int} (h : Rd w g l e) {r : Nat} (hr : g < r) (b : But (fun k => k = r) w W) : Rd W g l e :=
  h.below (B := g + 1) ⟨b.os, b.tape, b.output, b.size, fun k hk => b.block k (by have := h.lt; omega) (by omega)⟩ (by omega)
/-- behind i columns that were read -/
def ReadTo (g h r0 : Nat) (w v2 : World) (l3 : List Nat) (e3 : Int) (T : ByteArray) (wr : World) (i : Nat) : Prop :=
  ∃ A c, Row wr h 30 (opV 1 T A i c none 0 0) ∧ OwnS wr v2.heap.size A c (rTexts i l3 e3).1 ∧ Rd wr g (rTexts i l3 e3).2.1 (rTexts i l3 e3).2.2 ∧ But (fun b => b = g) w wr ∧ Row wr r0 30 (opV 0 (⟨#[]⟩ : ByteArray) none 0 0 none 0 0) ∧ v2.heap.size ≤ wr.heap.size
/-- what a reader of a change answers -/
def OpGot (w : World) (g : Nat) (q : OpD × List Nat × Int) (e' : Ending) (w' : World) : Prop :=
  ∃ p : OpP, e' = .returned (.agg (opC q.1 p).toArray) ∧ OpMemN (fun b => b < w.heap.size) w' q.1 p ∧ But (fun b => b = g) w w' ∧ Rd w' g q.2.1 q.2.2
set_option maxRecDepth 100000 in
set_option maxHeartbeats 4000000 in
theorem breadop_any (g : Nat) (l : List Nat) (e : Int) (w : World) (hS : Rd w g l e) :
    Calls Try.prog 66 #[.pointer (some ⟨g, 0, none⟩)] w (OpGot w g (rOp 8 l e)) := by
  obtain ⟨RS, hRS⟩ : ∃ RS, RS = rOp 8 l e := ⟨_, rfl⟩
  rw [← hRS]
  have hg := hS.lt
  obtain ⟨r0, hr0⟩ : ∃ r0, r0 = w.heap.size := ⟨_, rfl⟩
  obtain ⟨v, hv⟩ : ∃ v, v = w.alloc (.cells (opV 0 (⟨#[]⟩ : ByteArray) none 0 0 none 0 0).toArray 30) := ⟨_, rfl⟩
  have Z := hideP (show Row v r0 30 (opV 0 (⟨#[]⟩ : ByteArray) none 0 0 none 0 0) by rw [hv, hr0]; exact Row.new _ _ _)
  have V := hideP (show Rd v g l e by rw [hv]; exact hS.ext (Ext.alloc _ _))
  have B := hideP (show But (fun b => b = g) w v by rw [hv]; exact But.of_ext (Ext.alloc _ _))
  have hB := hideP (rbyte_any g l e v V.out)
  have hT := fun W (h : Rd W g (rTake 1 l e).2.1 (rTake 1 l e).2.2) => rtext_any g _ 16 _ W h
  have hrg := hideP (show r0 ≠ g by omega)
  have hgr := hideP (show g < r0 by omega)
  have hv' := hideP hv
  have hr' := hideP hr0
  -- what is read
  obtain ⟨k, hk⟩ : ∃ k, k = rByte l e := ⟨_, rfl⟩
  obtain ⟨⟨o0, l1, e1⟩, h1⟩ : ∃ q, q = rTake 1 l e := ⟨_, rfl⟩
  have hkb := rByte_lt l e hS.isB
  rw [← hk] at hB hkb
  rw [← h1] at hB hT
  dsimp only at hB hT
  obtain ⟨⟨t, l2, e2⟩, h2⟩ : ∃ q, q = rText 16 l1 e1 := ⟨_, rfl⟩
  rw [← h2] at hT
  dsimp only at hT
  have HT := hideP hT
  have hb1 : IsB l1 := by
    have := (take_suf 1 l e).isB hS.isB; rw [← h1] at this; exact this
  have htl : t.length ≤ 1048576 := by
    have : t = (rTake (rCount 16 l1 e1).1 (rCount 16 l1 e1).2.1 (rCount 16 l1 e1).2.2).1.getD [] := congrArg Prod.fst h2
    rw [this]
    have h3 := (rCount_le 16 l1 e1).1
    unfold rTake
    split
    · simp
    · split
      · simp
      · simp; omega
  have hE := hideP (show RS = (if k = 1 then
      (⟨k, bstr t, (rTexts (min (rByte l2 e2) 8) (rTake 1 l2 e2).2.1 (rTake 1 l2 e2).2.2).1, []⟩, (rTexts (min (rByte l2 e2) 8) (rTake 1 l2 e2).2.1 (rTake 1 l2 e2).2.2).2)
    else if k = 3 ∨ k = 4 then (⟨k, bstr t, [], (rRow 8 l2 e2).1⟩, (rRow 8 l2 e2).2) else (⟨k, bstr t, [], []⟩, l2, e2)) by
    rw [hRS]; unfold rOp; simp only [← hk, ← h1, ← h2])
  obtain ⟨T, hTT⟩ : ∃ T, T = bstr t := ⟨_, rfl⟩
  rw [← hTT] at hE
  have HTT := hideP hTT
  have hb2 : IsB l2 := by
    have := (text_suf 16 l1 e1).isB hb1; rw [← h2] at this; exact this
  clear hk h1 h2 hRS hT hb1 hTT hv hr0 hS
  go_enter Try.func66, Try.ntmps66
  go_upto_region 1 with fail
  rw [show w.heap.size = r0 from hr'.out.symm]
  rw [show (w.alloc (.cells #[.int .u8 0, .string (⟨#[]⟩ : ByteArray), .slice none 0 0, .slice none 0 0] 30)) = v from hv'.out.symm]
  go_upto_region 2 with (go_at_call 96; refine hB.out.mono ?_; rintro e3 w1 ⟨rfl, b1_, s1_⟩; have S1 := hideP s1_; have B1 := hideP (B.out.trans b1_); have Z1 := hideP (row_but b1_ Z.out hrg.out); clear b1_ s1_)
  obtain ⟨h, hh⟩ : ∃ h, h = w1.heap.size := ⟨_, rfl⟩
  rw [← hh]
  obtain ⟨v1, hv1⟩ : ∃ v1, v1 = w1.alloc (.cells (opV k (⟨#[]⟩ : ByteArray) none 0 0 none 0 0).toArray 30) := ⟨_, rfl⟩
  rw [show (w1.alloc (.cells #[.int .u8 (k : Nat), .string (⟨#[]⟩ : ByteArray), .slice none 0 0, .slice none 0 0] 30)) = v1 from hv1.symm]
  have hle : w.heap.size ≤ h := by rw [hh]; exact B1.out.size
  have hhw := hideP hle
  have H1 := hideP (show Row v1 h 30 (opV k (⟨#[]⟩ : ByteArray) none 0 0 none 0 0) by rw [hv1, hh]; exact Row.new _ _ _)
  have ext1 : Ext w1 v1 := by rw [hv1]; exact Ext.alloc _ _
  have V1 := hideP (S1.out.ext ext1)
  have C1 := hideP (B1.out.trans (But.of_ext ext1))
  have Y1 := hideP (Z1.out.ext ext1)
  have hgh := hideP (show g < h by rw [hh]; exact S1.out.lt)
  have hrh := hideP (show r0 ≠ h by have := Z1.out.lt; omega)
  have hhg := hideP (show h ≠ g by have := hgh.out; omega)
  clear hv1 hh ext1 S1 B1 Z1 hle hB
  go_upto_region 3 with (go_at_call 82; refine (HT.out _ V1.out).mono ?_; rintro e4 w2 ⟨R2, d2, rfl, o2_, b2_, s2_⟩; have cv := run_str (P := Try.prog) w2 31 5 Try.underlying31 Try.underlying5 (c := d2) o2_.arr rfl 9 Try.underlying9; rw [← HTT.out] at cv; have S2 := hideP s2_; have C2 := hideP (C1.out.trans b2_); have Y2 := hideP (row_but b2_ Y1.out hrg.out); have H2 := hideP (row_but b2_ H1.out hhg.out); clear b2_ s2_ o2_; have q1 := H2.out.cell 1; simp only [opV, List.getElem?_cons_zero, List.getElem?_cons_succ] at q1; have f1 := H2.out.fz 1)
  obtain ⟨v2, hv2⟩ : ∃ v2, v2 = w2.setCell ⟨h, 1, none⟩ (.string T) := ⟨_, rfl⟩
  rw [← hv2]
  have H3 := hideP (show Row v2 h 30 (opV k T none 0 0 none 0 0) by rw [hv2]; exact H2.out.set 1 (.string T))
  have S3 := hideP (show Rd v2 g l2 e2 by rw [hv2]; exact S2.out.setNew hgh.out _)
  have C3 := hideP (show But (fun b => b = g) w v2 by rw [hv2]; exact C2.out.setNew hhw.out _)
  have Y3 := hideP (show Row v2 r0 30 (opV 0 (⟨#[]⟩ : ByteArray) none 0 0 none 0 0) by rw [hv2]; exact Y2.out.setOther hrh.out _)
  clear hv2 q1 f1 cv S2 C2 Y2 H2 V1 C1 Y1 H1 HT
  have k0 := H3.out.cell 0; have k1 := H3.out.cell 1; have k2 := H3.out.cell 2; have k3 := H3.out.cell 3
  simp only [opV, List.getElem?_cons_zero, List.getElem?_cons_succ] at k0 k1 k2 k3
  have hsz := hideP (show (Try.prog.info? 30).map (·.size) = some 4 by kernel_rfl)
  by_cases h1 : k = 1
  · subst h1
    have HB := hideP (rbyte_any g l2 e2 v2 S3.out)
    obtain ⟨kb, hkb2⟩ : ∃ kb, kb = rByte l2 e2 := ⟨_, rfl⟩
    obtain ⟨⟨o3, l3, e3⟩, h3⟩ : ∃ q, q = rTake 1 l2 e2 := ⟨_, rfl⟩
    have hE1 := hideP (show RS = (⟨1, T, (rTexts (min kb 8) l3 e3).1, []⟩, (rTexts (min kb 8) l3 e3).2) by rw [hE.out, if_pos rfl, ← hkb2, ← h3])
    rw [← hkb2, ← h3] at HB
    dsimp only at HB
    have hkl : kb < 256 := by rw [hkb2]; exact rByte_lt l2 e2 hb2
    clear hE hkb2 h3 hb2
    by_cases h8 : kb ≤ 8
    · have hE2 := hideP (show RS = (⟨1, T, (rTexts kb l3 e3).1, []⟩, (rTexts kb l3 e3).2) by rw [hE1.out, Nat.min_eq_left h8])
      have h8' : (kb : Int) ≤ 8 := by omega
      clear hE1
      go_upto_region 6 with (go_at_call 96; refine HB.out.mono ?_; rintro e4 w4 ⟨rfl, b4_, s4_⟩; have S4 := hideP s4_; have C4 := hideP (C3.out.trans b4_); have zv4 := hideP b4_.size; have Y4 := hideP (row_but b4_ Y3.out hrg.out); have H4 := hideP (row_but b4_ H3.out hhg.out); clear b4_ s4_ k0 k1 k2 k3)
      go_loopw [19] (fun v19 wr => ∃ i : Nat, i ≤ kb ∧ v19 = .int .i64 (i : Nat) ∧ Hid (ReadTo g h r0 w v2 l3 e3 T wr i)) (fun v19 _ => kb - (intOf v19).toNat)
      case atStart => exact ⟨0, Nat.zero_le _, rfl, none, 0, H4.out, OwnS.nil _ _, S4.out, C4.out, Y4.out, zv4.out⟩
      case round =>
        obtain ⟨i, hi, rfl, hV⟩ := hrel
        obtain ⟨A, c, hH, hO, hR, hC, hY, hz⟩ := hV.out
        have HH := hideP hH; have HO := hideP hO; have HR := hideP hR; have HC := hideP hC; have HY := hideP hY; have Hz := hideP hz
        clear hH hO hR hC hY hz hV
        by_cases hlt : i < kb
        · have i1 : (i : Int) < (kb : Int) := by omega
          have hst := hideP (op_texts i 8 l3 e3)
          have hln := hideP (rTexts_len i l3 e3)
          obtain ⟨⟨cs, l4, e4⟩, hq⟩ : ∃ q, q = rTexts i l3 e3 := ⟨_, rfl⟩
          rw [← hq] at hst HR HO hln
          dsimp only at hst HR HO hln
          clear hq
          obtain ⟨⟨tt, l5, e5⟩, hq⟩ : ∃ q, q = rText 16 l4 e4 := ⟨_, rfl⟩
          have hT5 := fun W (hW : Rd W g l4 e4) => rtext_any g l4 16 e4 W hW
          rw [← hq] at hst hT5
          dsimp only at hst hT5
          have HT5 := hideP hT5
          clear hq hT5
          obtain ⟨B0, hB0⟩ : ∃ B0, B0 = v2.heap.size := ⟨_, rfl⟩
          have hgB := hideP (show g < B0 by rw [hB0]; exact S3.out.lt)
          have hhB := hideP (show h < B0 by rw [hB0]; exact H3.out.lt)
          have hrB := hideP (show r0 < B0 by rw [hB0]; exact Y3.out.lt)
          rw [← hB0] at HO Hz
          have HB0 := hideP hB0
          clear hB0
          have nh := hideP (show ¬ (h = g ∨ B0 ≤ h) by have := hhB.out; have := hhg.out; omega)
          have nr := hideP (show ¬ (r0 = g ∨ B0 ≤ r0) by have := hrB.out; have := hrg.out; omega)
          have k2 := HH.out.cell 2
          simp only [opV, List.getElem?_cons_zero, List.getElem?_cons_succ] at k2
          go_wp2_with fail
          refine wp_region_mut (S := fun b => b = g ∨ B0 ≤ b) 7 (.q 0 (.q 1 (.q 2 (.l 3 (.l 4 (.l 5 (.l 6 .nil))))))) (by kernel_rfl) (by kernel_rfl) ?_
          simp only [pickT, nthO_zero, nthO_succ]
          iterate 3 (refine wpM_valK (by rfl) (fun K hK => ?_); apply Exists.intro; refine ⟨fun W hW => ?_, ?_⟩; (focus (have hs0 := hW.drew_left.cell k2 nh.out; go_simp; (try rfl); done)); go_simp; refine hK _ ?_; clear hK K)
          refine wpM_loudS 82 #[.pointer (some ⟨g, 0, none⟩), .int .i64 16] (by rfl) (fun W => by go_simp) (fun W hW => (HT5.out W (HR.out.ext hW.drew_left)).mono ?_)
          rintro e6 w6 ⟨R6, d6, rfl, o6_, b6_, s6_⟩
          refine ⟨_, rfl, b6_.mono (fun k hk => .inl hk), fun K hK => ?_⟩
          go_simp
          refine hK _ ?_
          clear hK K
          have X6 := hideP ((But.of_ext (S := fun b => b = g ∨ B0 ≤ b) hW.drew_left).trans (b6_.mono (fun k hk => .inl hk)))
          have O6 := hideP ((HO.out.ext hW.drew_left).but b6_ fun k hk hg => by have := hgB.out; omega)
          have D6 := hideP ((HC.out.trans (But.of_ext hW.drew_left)).trans b6_)
          have S6 := hideP s6_
          have T6 := hideP o6_
          clear hW b6_ s6_ o6_
          refine wpM_turnK (by rfl) (fun W7 hW7 => ?_)
          obtain ⟨X, hX⟩ : ∃ X, X = bstr tt := ⟨_, rfl⟩
          have cv := run_str (P := Try.prog) W7 31 5 Try.underlying31 Try.underlying5 (c := d6) (T6.out.ext hW7).arr rfl 9 Try.underlying9
          rw [← hX] at cv hst
          clear hX
          refine ⟨.string X, W7, ⟨by go_simp, But.refl _⟩, fun K hK => ?_⟩
          go_simp
          refine hK _ ?_
          clear hK K cv
          refine wpM_buildK (by rfl) (fun W8 hW8 => ?_)
          refine ⟨.slice (some ⟨W8.heap.size, 0, none⟩) 1 1, W8.alloc (.cells #[.string X] 9), ⟨by go_simp, Ext.alloc _ _⟩, fun K hK => ?_⟩
          go_simp
          refine hK _ ?_
          clear hK K
          refine wpM_turnK (by rfl) (fun W9 hW9 => ?_)
          have E9 := (hW7.trans hW8).trans ((Ext.alloc W8 (.cells #[.string X] 9)).trans hW9)
          have c9 : W9.cell? ⟨W8.heap.size, 0, none⟩ = some (.string X) := hW9.cell (One.new W8 9 (.string X)).c0
          refine turn_append_str (.tmp 22) (.tmp 26) rfl B0 A c i cs hln.out.symm rfl (O6.out.ext E9) W8.heap.size 0 1 X rfl c9 (by omega) (Nat.le_trans Hz.out (Nat.le_trans X6.out.size E9.size)) (fun k hk => .inr hk) (fun g9 c9' w9 o9_ bb9_ b9_ K hK => ?_)
          go_simp
          refine hK _ ?_
          clear hK K c9
          have X9 := hideP (X6.out.trans ((But.of_ext E9).trans b9_))
          have S9 := hideP ((S6.out.ext E9).below (bb9_) hgB.out)
          have O9 := hideP o9_
          have D9 := hideP ((D6.out.trans (But.of_ext E9)).then_new bb9_ (by rw [HB0.out]; exact C3.out.size))
          clear hW7 hW8 hW9 E9 b9_ bb9_ o9_
          refine wpM_nil (fun W10 hW10 => ?_)
          simp only [List.drop_succ_cons, List.drop_zero, List.drop_nil]
          have H10 := hideP (HH.out |> fun r => row_but2 (X9.out.trans (But.of_ext hW10)) r nh.out)
          have Y10 := hideP (HY.out |> fun r => row_but2 (X9.out.trans (But.of_ext hW10)) r nr.out)
          have S10 := hideP (S9.out.ext hW10)
          have O10 := hideP (O9.out.ext hW10)
          have D10 := hideP (D9.out.trans (But.of_ext hW10))
          have z10 := hideP (Nat.le_trans X9.out.size hW10.size)
          clear hW10 X9 S9 O9 D9 k2
          have q2 := H10.out.cell 2
          simp only [opV, List.getElem?_cons_zero, List.getElem?_cons_succ] at q2
          have f2 := H10.out.fz 2
          have m2 : IntKind.i64.wrap ((i : Int) + 1) = (i : Int) + 1 := IntWalk.i64_in _ (by omega)
          go_wp2_with fail
          go_roundw
          case rel =>
            refine ⟨i + 1, by omega, by rw [show ((i + 1 : Nat) : Int) = (i : Int) + 1 by omega], some ⟨g9, 0, none⟩, c9', H10.out.set 2 _, ?_, ?_, D10.out.setNew hhw.out _, Y10.out.setOther hrh.out _, ?_⟩
            · rw [hst.out, ← HB0.out]
              refine O10.out.but (But.set _ ⟨h, 2, none⟩ _ (S := fun k => k = h) rfl) fun k hk e => ?_
              have := hhB.out
              have : k = h := e
              omega
            · rw [hst.out]; exact S10.out.setNew hgh.out _
            · rw [← HB0.out]; have := Hz.out; have := z10.out; simp; omega
          case measure => simp [intOf]; omega
        · obtain rfl : kb = i := by omega
          have i1 : ¬ ((kb : Int) < (kb : Int)) := by omega
          have hln := rTexts_len kb l3 e3
          have A5 := hideP (HO.out.arrN (S := fun b => b < w.heap.size ∨ b = r0) fun b hb => by
            have h1 := S3.out.lt; have h2 := Y3.out.lt; have h3 := hr'.out; omega)
          have P5 := hideP (show kb ≤ c by have := HO.out.cap; rwa [hln] at this)
          have Hl := hideP hln
          clear hln HO Hz
          have k0 := HH.out.cell 0; have k1 := HH.out.cell 1; have k2 := HH.out.cell 2; have k3 := HH.out.cell 3
          simp only [opV, List.getElem?_cons_zero, List.getElem?_cons_succ] at k0 k1 k2 k3
          go_wp2_with (first
            | (refine wpList_load_row rfl 30 (.tmp 3) rfl h rfl 30 (opV 1 T A kb c none 0 0).toArray (0, 0) _ HH.out Try.underlying30 rfl hsz.out ?_)
            | (refine wpList_store_row rfl 30 (.tmp 2) (.tmp 36) rfl r0 (opV 1 T A kb c none 0 0).toArray rfl rfl 30 _ HY.out hsz.out rfl opV_one ?_))
          refine ret_cells rfl rfl (Row.setRow HY.out (opV 1 T A kb c none 0 0)) Try.underlying30 hsz.out rfl ⟨(A, c, none, 0), ?_, ?_, ?_, ?_⟩
          · rw [hE2.out]; show Ending.returned (.agg (opV 1 T A kb c none 0 0).toArray) = _; unfold opC; rw [Hl.out]; rfl
          · rw [hE2.out]; exact ⟨arrN_out A5.out (But.setRow _ r0 _ rfl), arrN_out ArrN.none_ (But.setRow _ r0 _ rfl), by rw [Hl.out]; exact P5.out⟩
          · exact HC.out.newBut (Nat.le_of_eq hr'.out.symm) (But.setRow _ r0 _ rfl)
          · rw [hE2.out]; exact HR.out.but hgr.out (But.setRow _ r0 _ rfl)
    · have hE2 := hideP (show RS = (⟨1, T, (rTexts 8 l3 e3).1, []⟩, (rTexts 8 l3 e3).2) by rw [hE1.out, Nat.min_eq_right (by omega)])
      have h8' : ¬ (kb : Int) ≤ 8 := by omega
      have h8 : kb > 8 := by omega
      clear hE1
      go_upto_region 6 with (go_at_call 96; refine HB.out.mono ?_; rintro e4 w4 ⟨rfl, b4_, s4_⟩; have S4 := hideP s4_; have C4 := hideP (C3.out.trans b4_); have zv4 := hideP b4_.size; have Y4 := hideP (row_but b4_ Y3.out hrg.out); have H4 := hideP (row_but b4_ H3.out hhg.out); clear b4_ s4_ k0 k1 k2 k3)
      go_loopw [19] (fun v19 wr => ∃ i : Nat, i ≤ 8 ∧ v19 = .int .i64 (i : Nat) ∧ Hid (ReadTo g h r0 w v2 l3 e3 T wr i)) (fun v19 _ => 8 - (intOf v19).toNat)
      case atStart => exact ⟨0, Nat.zero_le _, rfl, none, 0, H4.out, OwnS.nil _ _, S4.out, C4.out, Y4.out, zv4.out⟩
      case round =>
        obtain ⟨i, hi, rfl, hV⟩ := hrel
        obtain ⟨A, c, hH, hO, hR, hC, hY, hz⟩ := hV.out
        have HH := hideP hH; have HO := hideP hO; have HR := hideP hR; have HC := hideP hC; have HY := hideP hY; have Hz := hideP hz
        clear hH hO hR hC hY hz hV
        by_cases hlt : i < 8
        · have i1 : (i : Int) < (8 : Int) := by omega
          have hst := hideP (op_texts i 8 l3 e3)
          have hln := hideP (rTexts_len i l3 e3)
          obtain ⟨⟨cs, l4, e4⟩, hq⟩ : ∃ q, q = rTexts i l3 e3 := ⟨_, rfl⟩
          rw [← hq] at hst HR HO hln
          dsimp only at hst HR HO hln
          clear hq
          obtain ⟨⟨tt, l5, e5⟩, hq⟩ : ∃ q, q = rText 16 l4 e4 := ⟨_, rfl⟩
          have hT5 := fun W (hW : Rd W g l4 e4) => rtext_any g l4 16 e4 W hW
          rw [← hq] at hst hT5
          dsimp only at hst hT5
          have HT5 := hideP hT5
          clear hq hT5
          obtain ⟨B0, hB0⟩ : ∃ B0, B0 = v2.heap.size := ⟨_, rfl⟩
          have hgB := hideP (show g < B0 by rw [hB0]; exact S3.out.lt)
          have hhB := hideP (show h < B0 by rw [hB0]; exact H3.out.lt)
          have hrB := hideP (show r0 < B0 by rw [hB0]; exact Y3.out.lt)
          rw [← hB0] at HO Hz
          have HB0 := hideP hB0
          clear hB0
          have nh := hideP (show ¬ (h = g ∨ B0 ≤ h) by have := hhB.out; have := hhg.out; omega)
          have nr := hideP (show ¬ (r0 = g ∨ B0 ≤ r0) by have := hrB.out; have := hrg.out; omega)
          have k2 := HH.out.cell 2
          simp only [opV, List.getElem?_cons_zero, List.getElem?_cons_succ] at k2
          go_wp2_with fail
          refine wp_region_mut (S := fun b => b = g ∨ B0 ≤ b) 7 (.q 0 (.q 1 (.q 2 (.l 3 (.l 4 (.l 5 (.l 6 .nil))))))) (by kernel_rfl) (by kernel_rfl) ?_
          simp only [pickT, nthO_zero, nthO_succ]
          iterate 3 (refine wpM_valK (by rfl) (fun K hK => ?_); apply Exists.intro; refine ⟨fun W hW => ?_, ?_⟩; (focus (have hs0 := hW.drew_left.cell k2 nh.out; go_simp; (try rfl); done)); go_simp; refine hK _ ?_; clear hK K)
          refine wpM_loudS 82 #[.pointer (some ⟨g, 0, none⟩), .int .i64 16] (by rfl) (fun W => by go_simp) (fun W hW => (HT5.out W (HR.out.ext hW.drew_left)).mono ?_)
          rintro e6 w6 ⟨R6, d6, rfl, o6_, b6_, s6_⟩
          refine ⟨_, rfl, b6_.mono (fun k hk => .inl hk), fun K hK => ?_⟩
          go_simp
          refine hK _ ?_
          clear hK K
          have X6 := hideP ((But.of_ext (S := fun b => b = g ∨ B0 ≤ b) hW.drew_left).trans (b6_.mono (fun k hk => .inl hk)))
          have O6 := hideP ((HO.out.ext hW.drew_left).but b6_ fun k hk hg => by have := hgB.out; omega)
          have D6 := hideP ((HC.out.trans (But.of_ext hW.drew_left)).trans b6_)
          have S6 := hideP s6_
          have T6 := hideP o6_
          clear hW b6_ s6_ o6_
          refine wpM_turnK (by rfl) (fun W7 hW7 => ?_)
          obtain ⟨X, hX⟩ : ∃ X, X = bstr tt := ⟨_, rfl⟩
          have cv := run_str (P := Try.prog) W7 31 5 Try.underlying31 Try.underlying5 (c := d6) (T6.out.ext hW7).arr rfl 9 Try.underlying9
          rw [← hX] at cv hst
          clear hX
          refine ⟨.string X, W7, ⟨by go_simp, But.refl _⟩, fun K hK => ?_⟩
          go_simp
          refine hK _ ?_
          clear hK K cv
          refine wpM_buildK (by rfl) (fun W8 hW8 => ?_)
          refine ⟨.slice (some ⟨W8.heap.size, 0, none⟩) 1 1, W8.alloc (.cells #[.string X] 9), ⟨by go_simp, Ext.alloc _ _⟩, fun K hK => ?_⟩
          go_simp
          refine hK _ ?_
          clear hK K
          refine wpM_turnK (by rfl) (fun W9 hW9 => ?_)
          have E9 := (hW7.trans hW8).trans ((Ext.alloc W8 (.cells #[.string X] 9)).trans hW9)
          have c9 : W9.cell? ⟨W8.heap.size, 0, none⟩ = some (.string X) := hW9.cell (One.new W8 9 (.string X)).c0
          refine turn_append_str (.tmp 22) (.tmp 26) rfl B0 A c i cs hln.out.symm rfl (O6.out.ext E9) W8.heap.size 0 1 X rfl c9 (by omega) (Nat.le_trans Hz.out (Nat.le_trans X6.out.size E9.size)) (fun k hk => .inr hk) (fun g9 c9' w9 o9_ bb9_ b9_ K hK => ?_)
          go_simp
          refine hK _ ?_
          clear hK K c9
          have X9 := hideP (X6.out.trans ((But.of_ext E9).trans b9_))
          have S9 := hideP ((S6.out.ext E9).below (bb9_) hgB.out)
          have O9 := hideP o9_
          have D9 := hideP ((D6.out.trans (But.of_ext E9)).then_new bb9_ (by rw [HB0.out]; exact C3.out.size))
          clear hW7 hW8 hW9 E9 b9_ bb9_ o9_
          refine wpM_nil (fun W10 hW10 => ?_)
          simp only [List.drop_succ_cons, List.drop_zero, List.drop_nil]
          have H10 := hideP (HH.out |> fun r => row_but2 (X9.out.trans (But.of_ext hW10)) r nh.out)
          have Y10 := hideP (HY.out |> fun r => row_but2 (X9.out.trans (But.of_ext hW10)) r nr.out)
          have S10 := hideP (S9.out.ext hW10)
          have O10 := hideP (O9.out.ext hW10)
          have D10 := hideP (D9.out.trans (But.of_ext hW10))
          have z10 := hideP (Nat.le_trans X9.out.size hW10.size)
          clear hW10 X9 S9 O9 D9 k2
          have q2 := H10.out.cell 2
          simp only [opV, List.getElem?_cons_zero, List.getElem?_cons_succ] at q2
          have f2 := H10.out.fz 2
          have m2 : IntKind.i64.wrap ((i : Int) + 1) = (i : Int) + 1 := IntWalk.i64_in _ (by omega)
          go_wp2_with fail
          go_roundw
          case rel =>
            refine ⟨i + 1, by omega, by rw [show ((i + 1 : Nat) : Int) = (i : Int) + 1 by omega], some ⟨g9, 0, none⟩, c9', H10.out.set 2 _, ?_, ?_, D10.out.setNew hhw.out _, Y10.out.setOther hrh.out _, ?_⟩
            · rw [hst.out, ← HB0.out]
              refine O10.out.but (But.set _ ⟨h, 2, none⟩ _ (S := fun k => k = h) rfl) fun k hk e => ?_
              have := hhB.out
              have : k = h := e
              omega
            · rw [hst.out]; exact S10.out.setNew hgh.out _
            · rw [← HB0.out]; have := Hz.out; have := z10.out; simp; omega
          case measure => simp [intOf]; omega
        · obtain rfl : 8 = i := by omega
          have i1 : ¬ ((8 : Int) < (8 : Int)) := by omega
          have hln := rTexts_len 8 l3 e3
          have A5 := hideP (HO.out.arrN (S := fun b => b < w.heap.size ∨ b = r0) fun b hb => by
            have h1 := S3.out.lt; have h2 := Y3.out.lt; have h3 := hr'.out; omega)
          have P5 := hideP (show 8 ≤ c by have := HO.out.cap; rwa [hln] at this)
          have Hl := hideP hln
          clear hln HO Hz
          have k0 := HH.out.cell 0; have k1 := HH.out.cell 1; have k2 := HH.out.cell 2; have k3 := HH.out.cell 3
          simp only [opV, List.getElem?_cons_zero, List.getElem?_cons_succ] at k0 k1 k2 k3
          go_wp2_with (first
            | (refine wpList_load_row rfl 30 (.tmp 3) rfl h rfl 30 (opV 1 T A 8 c none 0 0).toArray (0, 0) _ HH.out Try.underlying30 rfl hsz.out ?_)
            | (refine wpList_store_row rfl 30 (.tmp 2) (.tmp 36) rfl r0 (opV 1 T A 8 c none 0 0).toArray rfl rfl 30 _ HY.out hsz.out rfl opV_one ?_))
          refine ret_cells rfl rfl (Row.setRow HY.out (opV 1 T A 8 c none 0 0)) Try.underlying30 hsz.out rfl ⟨(A, c, none, 0), ?_, ?_, ?_, ?_⟩
          · rw [hE2.out]; show Ending.returned (.agg (opV 1 T A 8 c none 0 0).toArray) = _; unfold opC; rw [Hl.out]; rfl
          · rw [hE2.out]; exact ⟨arrN_out A5.out (But.setRow _ r0 _ rfl), arrN_out ArrN.none_ (But.setRow _ r0 _ rfl), by rw [Hl.out]; exact P5.out⟩
          · exact HC.out.newBut (Nat.le_of_eq hr'.out.symm) (But.setRow _ r0 _ rfl)
          · rw [hE2.out]; exact HR.out.but hgr.out (But.setRow _ r0 _ rfl)
  · have h1' : ((k : Int) == 1) = false := by simp; omega
    by_cases h34 : k = 3 ∨ k = 4
    · have hE2 := hideP (show RS = (⟨k, T, [], (rRow 8 l2 e2).1⟩, (rRow 8 l2 e2).2) by rw [hE.out, if_neg h1, if_pos h34])
      clear hE h1
      have HR := hideP (rrow_any g l2 8 e2 v2 S3.out)
      obtain ⟨⟨rs, l3, e3⟩, hq⟩ : ∃ q, q = rRow 8 l2 e2 := ⟨_, rfl⟩
      rw [← hq] at HR hE2
      dsimp only at HR hE2
      clear hq
      have h34' : (((k : Int) == 3) = true) ∨ (((k : Int) == 3) = false ∧ ((k : Int) == 4) = true) := by
        rcases h34 with rfl | rfl
        · exact .inl rfl
        · exact .inr ⟨rfl, rfl⟩
      clear h34
      rcases h34' with t3 | ⟨t3, t4⟩
      all_goals
        go_upto_region 12 with (go_at_call 98; refine HR.out.mono ?_; rintro e4 w4 ⟨R4, d4, rfl, o4_, b4_, s4_⟩; have O4 := hideP o4_; have S4 := hideP s4_; have C4 := hideP (C3.out.trans b4_); have Y4 := hideP (row_but b4_ Y3.out hrg.out); have H4 := hideP (row_but b4_ H3.out hhg.out); clear b4_ s4_ o4_ k0 k1 k2 k3; have q1 := H4.out.cell 3; simp only [opV, List.getElem?_cons_zero, List.getElem?_cons_succ] at q1; have f1 := H4.out.fz 3)
        obtain ⟨v4, hv4⟩ : ∃ v4, v4 = w4.setCell ⟨h, 3, none⟩ (.slice R4 rs.length d4) := ⟨_, rfl⟩
        rw [← hv4]
        have H5 := hideP (show Row v4 h 30 (opV k T none 0 0 R4 rs.length d4) by rw [hv4]; exact H4.out.set 3 _)
        have S5 := hideP (show Rd v4 g l3 e3 by rw [hv4]; exact S4.out.setNew hgh.out _)
        have C5 := hideP (show But (fun b => b = g) w v4 by rw [hv4]; exact C4.out.setNew hhw.out _)
        have Y5 := hideP (show Row v4 r0 30 (opV 0 (⟨#[]⟩ : ByteArray) none 0 0 none 0 0) by rw [hv4]; exact Y4.out.setOther hrh.out _)
        have A5 := hideP (show ArrN (fun b => b < w.heap.size ∨ b = r0) v4 R4 rs.length (i64s rs) by
          have := O4.out.arrN (S := fun b => b < w.heap.size ∨ b = r0 ∨ b = h) fun b hb => by
            have h1 := H3.out.lt; have h2 := Y3.out.lt; have h3 := hr'.out; omega
          rw [hv4]
          exact (this.block (But.set w4 ⟨h, 3, none⟩ _ (.inr (.inr rfl)))).mono fun b hb => hb.imp id .inl)
        clear hv4 q1 f1 S4 C4 Y4 H4 O4 C3 S3 Y3 H3 HR
        have k0 := H5.out.cell 0; have k1 := H5.out.cell 1; have k2 := H5.out.cell 2; have k3 := H5.out.cell 3
        simp only [opV, List.getElem?_cons_zero, List.getElem?_cons_succ] at k0 k1 k2 k3
        go_wp2_with (first
          | (refine wpList_load_row rfl 30 (.tmp 3) rfl h rfl 30 (opV k T none 0 0 R4 rs.length d4).toArray (0, 0) _ H5.out Try.underlying30 rfl hsz.out ?_)
          | (refine wpList_store_row rfl 30 (.tmp 2) (.tmp 36) rfl r0 (opV k T none 0 0 R4 rs.length d4).toArray rfl rfl 30 _ Y5.out hsz.out rfl opV_one ?_))
        refine ret_cells rfl rfl (Row.setRow Y5.out (opV k T none 0 0 R4 rs.length d4)) Try.underlying30 hsz.out rfl ⟨(none, 0, R4, d4), ?_, ?_, ?_, ?_⟩
        · rw [hE2.out]; rfl
        · rw [hE2.out]; exact ⟨arrN_out ArrN.none_ (But.setRow _ r0 _ rfl), arrN_out A5.out (But.setRow _ r0 _ rfl), Nat.le_refl 0⟩
        · exact C5.out.newBut (Nat.le_of_eq hr'.out.symm) (But.setRow _ r0 _ rfl)
        · rw [hE2.out]; exact S5.out.but hgr.out (But.setRow _ r0 _ rfl)
    · have h3' : ((k : Int) == 3) = false := by simp; omega
      have h4' : ((k : Int) == 4) = false := by simp; omega
      have hE2 := hideP (show RS = (⟨k, T, [], []⟩, l2, e2) by rw [hE.out, if_neg h1, if_neg h34])
      clear hE h1 h34
      go_wp2_with (first
        | (refine wpList_load_row rfl 30 (.tmp 3) rfl h rfl 30 (opV k T none 0 0 none 0 0).toArray (0, 0) _ H3.out Try.underlying30 rfl hsz.out ?_)
        | (refine wpList_store_row rfl 30 (.tmp 2) (.tmp 36) rfl r0 (opV k T none 0 0 none 0 0).toArray rfl rfl 30 _ Y3.out hsz.out rfl opV_one ?_))
      refine ret_cells rfl rfl (Row.setRow Y3.out (opV k T none 0 0 none 0 0)) Try.underlying30 hsz.out rfl ⟨(none, 0, none, 0), ?_, ?_, ?_, ?_⟩
      · rw [hE2.out]; rfl
      · rw [hE2.out]; exact ⟨arrN_out ArrN.none_ (But.setRow _ r0 _ rfl), arrN_out ArrN.none_ (But.setRow _ r0 _ rfl), Nat.le_refl 0⟩
      · exact C3.out.newBut (Nat.le_of_eq hr'.out.symm) (But.setRow _ r0 _ rfl)
      · rw [hE2.out]; exact S3.out.but hgr.out (But.setRow _ r0 _ rfl)
end Go.Proofs.Ytiicdnbhphgieaa
