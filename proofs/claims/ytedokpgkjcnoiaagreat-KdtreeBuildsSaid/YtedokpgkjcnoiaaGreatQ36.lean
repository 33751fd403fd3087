/- Contract of package sha's Done. -/
import Derived.Test.YtedokpgkjcnoiaaGreatQ35
set_option linter.unusedVariables false
set_option linter.unusedSimpArgs false
namespace Go.Proofs.YtedokpgkjcnoiaaGreat
open Go.RowKit
theorem Row.range {w : World} {g : Nat} {t : TypeId} {cs : List Value} (h : Row w g t cs) : w.rangeAt g 0 cs := fun j v hv => by rw [Nat.zero_add, Row.cell h j, hv]
/-- what is left of a text, filled up -/
def restp (r : List Nat) (T : Nat) : List Nat := r ++ [128] ++ List.replicate (zeros r.length) 0 ++ be8 (8 * T)
theorem compN_same (h : List UInt32) (a b : List Nat) : ∀ n, (∀ i, i < n → blk a i = blk b i) → compN h a n = compN h b n
 | 0, _ => rfl
 | n + 1, e => by
  show turnS (compN h a n) (blk a n) = turnS (compN h b n) (blk b n)
  rw [compN_same h a b n (fun i hi => e i (by omega)), e n (by omega)]
theorem compN_more (h : List UInt32) (a : List Nat) (q : Nat) : ∀ n, compN h a (q + n) = compN (compN h a q) (a.drop (64 * q)) n
 | 0 => rfl
 | n + 1 => by
  show turnS (compN h a (q + n)) (blk a (q + n)) = turnS (compN (compN h a q) (a.drop (64 * q)) n) (blk (a.drop (64 * q)) n)
  rw [compN_more h a q n]
  unfold blk
  rw [List.drop_drop, show 64 * q + 64 * n = 64 * (q + n) by omega]
theorem done_law (t : List Nat) : compN (compN h0 t (t.length / 64)) (restp (t.drop (64 * (t.length / 64))) t.length) ((restp (t.drop (64 * (t.length / 64))) t.length).length / 64) = sumW t := by
 obtain ⟨q, hq⟩ : ∃ q, q = t.length / 64 := ⟨_, rfl⟩
 rw [← hq]
 have hP : padl t = t ++ ([128] ++ List.replicate (zeros t.length) 0 ++ be8 (8 * t.length)) := by unfold padl; simp
 have hz : zeros (t.drop (64 * q)).length = zeros t.length := by unfold zeros; rw [List.length_drop]; omega
 have hR : restp (t.drop (64 * q)) t.length = (padl t).drop (64 * q) := by
  rw [hP, List.drop_append_of_le_length (by omega)]; unfold restp; rw [hz]; simp
 have hH : compN h0 t q = compN h0 (padl t) q := compN_same _ _ _ _ fun i hi => by
  unfold blk
  rw [hP, List.drop_append_of_le_length (by omega), List.take_append_of_le_length (by rw [List.length_drop]; omega)]
 have hL := padl_len t
 rw [hH, hR, ← compN_more, List.length_drop]
 unfold sumW
 congr 1
 omega
theorem wpList_store_byte {ops : Array Oper} {rest : List Oper} {o : Oper} {a : Act} {w : World} {Q : Exit → Act → World → Prop} (hgd : o.guard = none) (x y : Operand) (ho : o.op = .store 5 x y) (g k : Nat) (y0 : Nat) (u : Value)
    (hx : a.eval x = .pointer (some ⟨g, k, none⟩)) (hy : a.eval y = .int .u8 (y0 : Int)) (hc : w.cell? ⟨g, k, none⟩ = some u) (hf : w.frozen? ⟨g, k, none⟩ = false)
    (h : wpList Tryz.prog ops Q rest (a.put o.dst undef) (w.setCell ⟨g, k, none⟩ (.int .u8 (y0 : Int)))) : wpList Tryz.prog ops Q (o :: rest) a w := by
  obtain ⟨i0, hi0, hz0, hz1, hz2⟩ := info_parts info_b8
  have hst : (storeVar 5 ⟨g, k, none⟩ (.int .u8 (y0 : Int))).run Tryz.prog w = .ok () (w.setCell ⟨g, k, none⟩ (.int .u8 (y0 : Int))) := by
    have := run_storeCells_cells (P := Tryz.prog) g k [.int .u8 (y0 : Int)] 0 w (fun j hj => by
      obtain rfl : j = 0 := by simpa using hj
      simp [hc]) (fun j hj => by
      obtain rfl : j = 0 := by simpa using hj
      simpa using hf) (fun v hv => by obtain rfl : v = _ := by simpa using hv
                                      rfl)
    simp only [Nat.add_zero] at this
    simp [storeVar, sizeOf, typeInfo, hi0, hz1, Value.cells, this, World.setCells]
  refine wpList_plain hgd fun K hK => ?_
  unfold Oper.wp execOp
  simp only [ho, hx, hy, Instr.storeAt, Instr.sureAddr, Sem.run_bind, Sem.run_pure, Result.andThen_ok, hst]
  exact hK _ _ h
theorem run_index_w8 (SS : Array Value) (i : Nat) (x : Value) (hi : i < 8) (hq : SS[i]? = some x) (W : World) : (Instr.index 194 (.agg SS) (.int .i64 (i : Int))).run Tryz.prog W = .ok x W := by
 obtain ⟨i0, hi0, hz0, hz1, hz2⟩ := info_parts info_u32
 have hn : (i : Int) < 8 := by omega
 have hagg : (isAgg 141).run Tryz.prog W = .ok false W := by
  unfold isAgg
  rw [Sem.run_bind, run_underlying Tryz.underlying141 W]
  rfl
 simp [Instr.index, run_underlying Tryz.underlying194, asIntOf, hn, part, sizeOf, typeInfo, hi0, hz1, hagg, hq, Sem.run_bind]
 intro h
 omega
theorem ArrX.setRow {w : World} {g n : Nat} {A : Option Addr} {l : List Nat} (h : ArrX w g A n l) (cs : Array Value) : ArrX (w.setRow g cs) g A n l := fun hn => by
 obtain ⟨b, off, e, hB, hg, hc⟩ := h hn
 refine ⟨b, off, e, by simpa [World.setRow] using hB, hg, fun i hi => ?_⟩
 have := hc i hi
 unfold World.cell? at this ⊢
 rw [setRow_other w g b cs hg]
 exact this
set_option maxRecDepth 100000 in
set_option maxHeartbeats 4000000 in
theorem done_any (g : Nat) (hs : List UInt32) (A : Option Addr) (r t : List Nat) (c : Nat) (w : World) (hS : ShSt w g hs (.slice A r.length c) (.int .u64 t.length)) (hA : Arr w w.heap.size A r.length (u8s r))
    (he : hs = compN h0 t (t.length / 64)) (hr : r = t.drop (64 * (t.length / 64))) (ht : IsB t) (hn : t.length ≤ 1000000000) :
    Calls Tryz.prog 145 #[.pointer (some ⟨g, 0, none⟩)] w fun e w' => e = .returned (.agg ((dig (sumW t)).map b8).toArray) ∧ Below w.heap.size w w' := by
  have hsum := hideP (show compN hs (restp r t.length) ((restp r t.length).length / 64) = sumW t by rw [he, hr]; exact done_law t)
  have h00 := hideP (show t.length = 0 → hs = h0 from fun h => by rw [he, h]; rfl)
  have hrB := hideP (show IsB r from fun i => by rw [hr]; unfold List.getD; rw [List.getElem?_drop]; exact ht _)
  obtain ⟨S, hSS⟩ : ∃ S, S = sumW t := ⟨_, rfl⟩
  rw [← hSS] at hsum ⊢
  obtain ⟨T, hT⟩ : ∃ T, T = t.length := ⟨_, rfl⟩
  obtain ⟨R, hR⟩ : ∃ R, R = r.length := ⟨_, rfl⟩
  have hRT : R ≤ T := by rw [hR, hr, List.length_drop, ← hT]; omega
  rw [← hT] at hS hn hsum h00
  rw [← hR] at hS hA
  have hms := hideP (show (Tryz.prog.info? 194).map (·.size) = some (hs.map v32).length by rw [size_w8']; simp [hS.1])
  have hHs := hideP (show (Tryz.prog.info? 194).map (·.size) = some (hs.map v32).toArray.size by rw [size_w8']; simp [hS.1])
  have hHo := hideP (show (z8.map v32).toArray.size = (hs.map v32).toArray.size by simp [hS.1, z8])
  have hHl := hideP hS.1
  clear he hr ht hT hSS
  have HhS := hideP hS; have HhA := hideP hA; have HhR := hideP hR; clear hS hA hR
  go_enter Tryz.func145, Tryz.ntmps145
  go_upto_region 1 with fail
  obtain ⟨w1, hw1⟩ : ∃ w1, w1 = w.alloc (Obj.cells #[.int .u8 0, .int .u8 0, .int .u8 0, .int .u8 0, .int .u8 0, .int .u8 0, .int .u8 0, .int .u8 0, .int .u8 0, .int .u8 0, .int .u8 0, .int .u8 0, .int .u8 0, .int .u8 0, .int .u8 0, .int .u8 0, .int .u8 0, .int .u8 0, .int .u8 0, .int .u8 0, .int .u8 0, .int .u8 0, .int .u8 0, .int .u8 0, .int .u8 0, .int .u8 0, .int .u8 0, .int .u8 0, .int .u8 0, .int .u8 0, .int .u8 0, .int .u8 0] 32) := ⟨_, rfl⟩
  have c1 := hideP (show Row w1 w.heap.size 32 z32 by rw [hw1]; exact Row.new w _ z32)
  have cb := hideP (show Below w.heap.size w w1 by rw [hw1]; exact below_new _ _)
  rw [← hw1]
  clear hw1
  have s1 := hideP (HhS.out.after cb.out)
  have x3 := hideP (Row.new w1 194 (z8.map v32))
  have s3 := hideP (s1.out.after (below_new w1 (Obj.cells (z8.map v32).toArray 194)))
  go_upto_region 2 with (first
    | (refine wpList_load_mid rfl 194 (.tmp 10) rfl g 0 rfl (hs.map v32) _ s1.out.range Tryz.underlying194 rfl hms.out ?_)
    | (refine wpList_store_row rfl 194 (.tmp 3) (.tmp 11) rfl w1.heap.size (hs.map v32).toArray rfl rfl 194 (z8.map v32).toArray x3.out hHs.out hHo.out (all_v32 hs) ?_))
  obtain ⟨w2, hw2⟩ : ∃ w2, w2 = (w1.alloc (Obj.cells (z8.map v32).toArray 194)).setRow w1.heap.size (hs.map v32).toArray := ⟨_, rfl⟩
  have y2 := hideP (show Row w2 w1.heap.size 194 (hs.map v32) by rw [hw2]; exact Row.setRow x3.out _)
  have b2 := hideP (show Below w1.heap.size w1 w2 by rw [hw2]; exact below_setRow' (below_new _ _) (Nat.le_refl _) _)
  have e2 : (w1.alloc (Obj.cells #[.int .u32 0, .int .u32 0, .int .u32 0, .int .u32 0, .int .u32 0, .int .u32 0, .int .u32 0, .int .u32 0] 194)).setRow w1.heap.size (hs.map v32).toArray = w2 := by rw [hw2]; rfl
  rw [e2]
  clear e2 hw2
  obtain ⟨G, hG⟩ : ∃ G, G = w1.heap.size := ⟨_, rfl⟩
  rw [← hG] at y2
  have hwG := hideP (show w.heap.size < G by rw [hG]; exact Row.lt c1.out)
  replace c1 := hideP (Row.after c1.out b2.out)
  replace cb := hideP (cb.out.trans (b2.out.mono cb.out.size))
  rw [← hG]
  clear hG b2 s1 s3 x3
  simp only [Act.put]
  have s2 := hideP (HhS.out.after cb.out)
  have k9 := s2.out.ncell
  go_upto_if 16 with fail
  clear k9
  go_cut [17] (fun s17 wx => (True ∨ s17 = s17) ∧ Hid (Row wx G 194 (hs.map v32) ∧ Row wx w.heap.size 32 z32 ∧ Below w.heap.size w wx))
  case first =>
    by_cases hz : T = 0
    · have hh := hideP (h00.out hz)
      go_wp2_with (first
        | (go_at_call 154; refine (begin_any _).mono ?_; rintro e w3 ⟨rfl, hb3⟩; rw [← hh.out]; have y3 := hideP (Row.after y2.out hb3); have c3 := hideP (Row.after c1.out hb3); have cb3 := hideP (cb.out.trans (hb3.mono cb.out.size)))
        | (refine wpList_store_row rfl 194 (.tmp 3) (.tmp 17) rfl G (hs.map v32).toArray rfl rfl 194 (hs.map v32).toArray y3.out hHs.out rfl (all_v32 hs) ?_))
      simp only [Act.put]
      go_meet
      exact ⟨Or.inl trivial, Row.setRow y3.out _, Row.setRowOther c3.out (Nat.ne_of_lt hwG.out) _, below_setRow' cb3.out (Nat.le_of_lt hwG.out) _⟩
    · go_wp2_with fail
      go_meet
      exact ⟨Or.inl trivial, y2.out, c1.out, cb.out⟩
  case rest =>
    obtain ⟨-, hV0⟩ := hcut
    have y3 := hideP hV0.out.1
    have c3 := hideP hV0.out.2.1
    have cb3 := hideP hV0.out.2.2
    clear hV0 y2 c1 cb
    obtain ⟨B, hB⟩ : ∃ B, B = wc.heap.size := ⟨_, rfl⟩
    have bn := hideP (below_new wc (Obj.cells #[] 5))
    have s4 := hideP ((HhS.out.after cb3.out).after bn.out)
    have A4 := hideP ((HhA.out.after cb3.out).after bn.out)
    have k8 := s4.out.rcell
    have o4 := hideP (OwnB.lit0 wc)
    have z4 := hideP (show B ≤ (wc.alloc (Obj.cells #[] 5)).heap.size by simp [hB])
    have hGB := hideP (show G < B by rw [hB]; exact Row.lt y3.out)
    rw [← hB] at o4
    have hBB := hideP hB
    clear hB
    go_wp2_with (first
      | (at_builtin; refine wpList_appn rfl (.tmp 18) (.tmp 22) rfl B (some ⟨wc.heap.size, 0, none⟩) 0 0 [] rfl rfl (by rw [← hBB.out]; exact o4.out) _ A R c r HhR.out rfl A4.out (by omega) z4.out ?_; intro A5 c5 w5 o5 b5; have z5 := hideP (Nat.le_trans z4.out b5.size); have o5' := hideP (show OwnB w5 B A5 c5 r from o5))
      | (at_builtin; refine wpList_app1 rfl (.tmp 23) (.tmp 24) rfl B A5 c5 R r HhR.out rfl o5'.out 128 rfl (by omega) z5.out ?_; intro A6 c6 w6 o6 b6))
    have o7 := hideP o6
    have hbx := hideP (show Below B wc w6 from (((Below.refl B wc).alloc (Nat.le_of_eq hBB.out) _).trans b5).trans b6)
    have y7 := hideP (Row.below y3.out hbx.out hGB.out)
    have c7 := hideP (Row.below c3.out hbx.out (Nat.lt_trans hwG.out hGB.out))
    have cb7 := hideP (cb3.out.trans (hbx.out.mono (Nat.le_of_lt (Nat.lt_trans hwG.out hGB.out))))
    have z7 := hideP (show B ≤ w6.heap.size by rw [hBB.out]; exact hbx.out.size)
    clear o6 b6 o5 b5 o5' z5 A4 z4 o4 k8 s4 bn y3 c3 cb3 hbx
    go_loopw [4] (fun v4 wr => ∃ (j : Nat) (A3 : Option Addr) (c3 : Nat), j ≤ zeros R ∧ v4 = .slice A3 (R + 1 + j) c3 ∧ Hid (OwnB wr B A3 c3 (r ++ [128] ++ List.replicate j 0) ∧ Row wr G 194 (hs.map v32) ∧ Row wr w.heap.size 32 z32 ∧ Below w.heap.size w wr ∧ B ≤ wr.heap.size)) (fun v4 _ => match v4 with | .slice _ n _ => R + 1 + zeros R - n | _ => 0)
    case atStart => exact ⟨0, A6, c6, by omega, rfl, by simpa using o7.out, y7.out, c7.out, cb7.out, z7.out⟩
    case round =>
      obtain ⟨j, A3, c3, hj, rfl, hV⟩ := hrel
      clear o7 y7 c7 cb7 z7
      have hz : zeros R < 64 := by unfold zeros; omega
      have hst := zeros_step R j hj
      by_cases hlt : j < zeros R
      · have e1 : ¬ (R + 1 + j) % 64 = 56 := fun h => by have := hst.1 h; omega
        have e3 : (((R : Int) + 1 + (j : Int)) % 64 != 56) = true := by simp; omega
        have e4 : (((R : Int) + 1 + (j : Int)).tmod 64 != 56) = true := by rw [Int.tmod_eq_emod_of_nonneg (by omega)]; exact e3
        have i1 : (0 : Int) ≤ (R : Int) + 1 + (j : Int) := by omega
        have hl := hideP (show R + 1 + j = (r ++ [128] ++ List.replicate j 0).length by simp [HhR.out]; omega)
        clear hst
        go_wp2_with (at_builtin; refine wpList_app1 rfl (.tmp 30) (.tmp 31) rfl B A3 c3 (R + 1 + j) (r ++ [128] ++ List.replicate j 0) hl.out rfl hV.out.1 0 rfl (by omega) hV.out.2.2.2.2 ?_; intro A4 c4 w4 o4 b4)
        have o5 := hideP (show OwnB w4 B A4 c4 (r ++ [128] ++ List.replicate (j + 1) 0) by rw [List.replicate_succ', ← List.append_assoc]; exact o4)
        have y3 := hideP (Row.below hV.out.2.1 b4 hGB.out)
        have c1 := hideP (Row.below hV.out.2.2.1 b4 (Nat.lt_trans hwG.out hGB.out))
        have cb := hideP (hV.out.2.2.2.1.trans (b4.mono (Nat.le_of_lt (Nat.lt_trans hwG.out hGB.out))))
        have s3 := hideP (Nat.le_trans hV.out.2.2.2.2 b4.size)
        clear hV o4 b4 e1 e3 e4
        go_roundw
        case rel => exact ⟨j + 1, A4, c4, by omega, rfl, o5.out, y3.out, c1.out, cb.out, s3.out⟩
        case measure => simp; omega
      · have hjz : j = zeros R := by omega
        have e1 : (R + 1 + j) % 64 = 56 := hst.2 hjz
        have e3 : (((R : Int) + 1 + (j : Int)) % 64 != 56) = false := by simp; omega
        have e4 : (((R : Int) + 1 + (j : Int)).tmod 64 != 56) = false := by rw [Int.tmod_eq_emod_of_nonneg (by omega)]; exact e3
        have i1 : (0 : Int) ≤ (R : Int) + 1 + (j : Int) := by omega
        obtain ⟨N, hN⟩ : ∃ N, N = 8 * T := ⟨_, rfl⟩
        have eN : IntKind.u64.wrap (8 * (T : Int)) = (N : Int) := by rw [IntKind.wrap_u64, hN]; omega
        have hN64 : N < 18446744073709551616 := by omega
        obtain ⟨M, hM⟩ : ∃ M, M = R + 1 + j := ⟨_, rfl⟩
        obtain ⟨pre, hp⟩ : ∃ pre, pre = r ++ [128] ++ List.replicate j 0 := ⟨_, rfl⟩
        have hpl := hideP (show M = pre.length by rw [hp, hM]; simp [HhR.out]; omega)
        rw [← hp] at hV
        have hpad := hideP (show pre ++ be8 N = restp r T by unfold restp; rw [hp, hN, hjz, HhR.out])
        have hMl : M ≤ 1000001000 := by omega
        have hM64 := hideP (show (M + 8) % 64 = 0 by omega)
        have o4 := hideP hV.out.1
        have y3 := hideP hV.out.2.1
        have c1 := hideP hV.out.2.2.1
        have cb := hideP hV.out.2.2.2.1
        have s3 := hideP hV.out.2.2.2.2
        have hMI : (R : Int) + 1 + (j : Int) = (M : Int) := by omega
        rw [← hM]
        rw [hMI] at e3 e4
        have s5 := hideP (HhS.out.after cb.out)
        have k9 := s5.out.ncell
        clear hV hst hz hlt hj e1 i1 hMI hM hN hp hjz
        have i1 : (0 : Int) ≤ (M : Int) := by omega
        go_wp2_with (first
          | (go_at_call 156; refine (eight_any N hN64 _).mono ?_; rintro e w5 ⟨A5, c5, rfl, hb5, h5⟩; have z5 := hideP (Nat.le_trans s3.out hb5.size); have o5 := hideP (o4.out.after hb5); have a5 := hideP (h5.arr))
          | (at_builtin; refine wpList_appn rfl (.tmp 33) (.tmp 39) rfl B A3 c3 M pre hpl.out rfl o5.out _ A5 8 c5 (be8 N) (be8_len N).symm rfl a5.out (by omega) z5.out ?_; intro A6 c6 w6 o6 b6))
        have o7 := hideP (show OwnB w6 B A6 c6 (restp r T) by rw [← hpad.out]; exact o6)
        have y7 := hideP (Row.below (Row.after y3.out hb5) b6 hGB.out)
        have c7 := hideP (Row.below (Row.after c1.out hb5) b6 (Nat.lt_trans hwG.out hGB.out))
        have cb7 := hideP ((cb.out.trans (hb5.mono cb.out.size)).trans (b6.mono (Nat.le_of_lt (Nat.lt_trans hwG.out hGB.out))))
        have x7 := hideP (ArrX.of_own o7.out hGB.out)
        obtain ⟨L, hL⟩ : ∃ L, L = M + 8 := ⟨_, rfl⟩
        have hLp := hideP (show L = (restp r T).length by rw [hL, ← hpad.out, List.length_append, ← hpl.out, be8_len])
        have hcap := o7.out.cap
        rw [← hLp.out] at hcap x7
        rw [← hL] at hM64 ⊢
        have hBr := hideP (show IsB (restp r T) by
          unfold restp
          refine isB_append (isB_append (isB_append hrB.out fun i => ?_) fun i => ?_) (isB_be8 _)
          · cases i with
            | zero => decide
            | succ i => rw [getD_out _ _ _ (by simp)]; omega
          · unfold List.getD; rw [List.getElem?_replicate]; split <;> simp)
        clear o7 o6 b6 hb5 o5 a5 z5 h5 o4 y3 c1 cb s3 s5 k9 e3 e4 eN hpad hpl hL
        obtain ⟨P, hP⟩ : ∃ P, P = restp r T := ⟨_, rfl⟩
        rw [← hP] at hLp x7 hBr hsum
        clear hP
        go_loopw [4] (fun v4 wr => ∃ (i n : Nat) (A : Option Addr) (c : Nat), n ≤ c ∧ 64 * i + n = L ∧ v4 = .slice A n c ∧ Hid (Row wr G 194 ((compN hs P i).map v32) ∧ Row wr w.heap.size 32 z32 ∧ Below w.heap.size w wr ∧ ArrX wr G A n (P.drop (64 * i)))) (fun v4 _ => match v4 with | .slice _ n _ => n | _ => 0)
        case atStart => exact ⟨0, L, A6, c6, hcap, by omega, rfl, y7.out, c7.out, cb7.out, x7.out⟩
        case round =>
          clear y7 c7 cb7 x7 hcap
          obtain ⟨i, n, Av, cv, hnc, hin, rfl, hV⟩ := hrel
          by_cases hlt : 0 < n
          · have h64 : 64 ≤ n := by have := hM64.out; omega
            have i2 : (64 : Int) ≤ (cv : Int) := by omega
            have i3 : (64 : Int) ≤ (n : Int) := by omega
            obtain ⟨h, hh⟩ : ∃ h, h = compN hs P i := ⟨_, rfl⟩
            rw [← hh] at hV
            have hhl := hideP (show h.length = 8 by rw [hh]; exact compN_len hs P hHl.out i)
            have hN := hideP (show turnS h (blk P i) = compN hs P (i + 1) by rw [hh]; rfl)
            have hAb := hideP (show Arr wr wr.heap.size Av 64 (u8s (blk P i)) from ((hV.out.2.2.2.arr).front h64).congr fun j hj => by unfold u8s; rw [← drop_blk]; unfold List.getD; rw [List.getElem?_take, if_pos hj])
            have hbb := hideP (isB_blk hBr.out i)
            have hrg := hideP hV.out.1
            have hms1 := hideP (show (Tryz.prog.info? 194).map (·.size) = some (h.map v32).length by rw [size_w8']; simp [hhl.out])
            have Hhh := hideP hh; clear hh
            go_wp2_with fail
            refine wp_region_eager 4 [(true, 0), (true, 1), (true, 2), (true, 3)] (by kernel_rfl) (by kernel_rfl) ?_
            simp only [pick, List.map_cons, List.map_nil, nthO_zero, nthO_succ]
            repeat (first
              | (refine wpPlan_skipK (by rfl) (fun K hK => ?_); go_simp; refine hK _ ?_; clear hK K)
              | (refine wpPlan_valK (by rfl) (fun K hK => ?_); refine ⟨.agg (h.map v32).toArray, fun W hW => exec_load_mid 194 (.tmp 3) rfl G 0 rfl (h.map v32) _ (Row.range (Row.ext hrg.out hW.drew_left)) Tryz.underlying194 rfl hms1.out, ?_⟩; go_simp; refine hK _ ?_; clear hK K)
              | (refine wpPlan_valK (by rfl) (fun K hK => ?_); apply Exists.intro; refine ⟨fun W hW => ?_, ?_⟩; (focus (go_simp; (try rfl); done)); go_simp; refine hK _ ?_; clear hK K)
              | (refine wpPlan_callK (.agg ((turnS h (blk P i)).map v32).toArray) 155 #[.agg (h.map v32).toArray, .slice Av 64 cv] (by rfl) ?_ (fun W hW => (turn_any h hhl.out Av (blk P i) cv W (hAb.out.ext hW.drew_left) hbb.out).mono fun e w' h => ⟨h.1, Ext.of_below h.2⟩) (fun K hK => ?_); (focus (intro W; go_simp; done)); go_simp; refine hK _ ?_; clear hK K))
            refine wpPlan_nil (fun W1 hW0 => ?_)
            simp only [List.drop_succ_cons, List.drop_zero, List.drop_nil]
            have y1 := hideP (Row.ext hV.out.1 hW0.drew_left)
            have c1 := hideP (Row.ext hV.out.2.1 hW0.drew_left)
            have b1 := hideP (below_ext hV.out.2.2.1 hW0.drew_left)
            have x1 := hideP (hV.out.2.2.2.after hW0.drew_left.below)
            have hYl := hideP (show (turnS h (blk P i)).length = 8 from turnS_len _ _)
            obtain ⟨Y, hY⟩ : ∃ Y, Y = turnS h (blk P i) := ⟨_, rfl⟩
            rw [← hY] at hYl hN ⊢
            clear hY hV hW0 hAb hbb hrg
            have hYs := hideP (show (Tryz.prog.info? 194).map (·.size) = some (Y.map v32).toArray.size by rw [size_w8']; simp [hYl.out])
            refine wpList_store_row rfl 194 (.tmp 3) (.tmp 49) rfl G (Y.map v32).toArray rfl rfl 194 (h.map v32).toArray y1.out hYs.out (by simp [hYl.out, hhl.out]) (all_v32 Y) ?_
            have y2 := hideP (Row.setRow y1.out (Y.map v32))
            have c2 := hideP (Row.setRowOther c1.out (Nat.ne_of_lt hwG.out) (Y.map v32).toArray)
            have b2 := hideP (below_setRow' b1.out (Nat.le_of_lt hwG.out) (Y.map v32).toArray)
            have x2 := hideP (x1.out.setRow (Y.map v32).toArray)
            obtain ⟨w2, hw2⟩ : ∃ w2, w2 = W1.setRow G (Y.map v32).toArray := ⟨_, rfl⟩
            rw [← hw2] at y2 c2 b2 x2 ⊢
            clear hw2 y1 c1 b1 x1
            have x3 := hideP (x2.out.cut 64 h64 hnc)
            go_wp2_with fail
            go_roundw
            case rel => exact ⟨i + 1, n - 64, _, _, by omega, by omega, rfl, by rw [← hN.out]; exact y2.out, c2.out, b2.out, by have := x3.out; rwa [List.drop_drop, show 64 * i + 64 = 64 * (i + 1) by omega] at this⟩
            case measure => simp; omega
          · have hiL : i = P.length / 64 := by rw [← hLp.out]; have := hM64.out; omega
            have hSS : compN hs P i = S := by rw [hiL]; exact hsum.out
            have y1 := hideP (hSS ▸ hV.out.1)
            have c1 := hideP hV.out.2.1
            have b1 := hideP hV.out.2.2.1
            have hSl := hideP (show S.length = 8 by rw [← hSS]; exact compN_len hs P hHl.out i)
            have hSs := hideP (show (Tryz.prog.info? 194).map (·.size) = some (S.map v32).toArray.size by rw [size_w8']; simp [hSl.out])
            clear hV hiL hSS
            have bn := hideP (below_new wr (Obj.cells z32.toArray 32))
            have y2 := hideP (Row.after y1.out bn.out)
            go_wp2_with (refine wpList_load_row rfl 194 (.tmp 3) rfl G rfl 194 (S.map v32).toArray (0, 0) _ y2.out Tryz.underlying194 rfl hSs.out ?_)
            obtain ⟨w9, hw9⟩ : ∃ w9, w9 = wr.alloc (Obj.cells z32.toArray 32) := ⟨_, rfl⟩
            have hz := hideP (show z32 = (List.replicate 32 0).map b8 by unfold z32; rw [List.map_replicate]; rfl)
            have dd := hideP (show Row w9 wr.heap.size 32 ((List.replicate 32 0).map b8) by rw [hw9, ← hz.out]; exact Row.new _ _ _)
            have ltd := hideP (show w.heap.size < wr.heap.size from Row.lt c1.out)
            have c9 := hideP (show Row w9 w.heap.size 32 z32 by rw [hw9]; exact Row.alloc c1.out _)
            have b9 := hideP (show Below w.heap.size w w9 by rw [hw9]; exact b1.out.alloc (Nat.le_of_lt ltd.out) _)
            have e9 : wr.alloc (Obj.cells #[.int .u8 0, .int .u8 0, .int .u8 0, .int .u8 0, .int .u8 0, .int .u8 0, .int .u8 0, .int .u8 0, .int .u8 0, .int .u8 0, .int .u8 0, .int .u8 0, .int .u8 0, .int .u8 0, .int .u8 0, .int .u8 0, .int .u8 0, .int .u8 0, .int .u8 0, .int .u8 0, .int .u8 0, .int .u8 0, .int .u8 0, .int .u8 0, .int .u8 0, .int .u8 0, .int .u8 0, .int .u8 0, .int .u8 0, .int .u8 0, .int .u8 0, .int .u8 0] 32) = w9 := by rw [hw9]; rfl
            rw [e9]
            clear hw9 e9
            obtain ⟨D, hD⟩ : ∃ D, D = wr.heap.size := ⟨_, rfl⟩
            rw [← hD] at dd ltd ⊢
            obtain ⟨SS, hSS⟩ : ∃ SS, SS = (S.map v32).toArray := ⟨_, rfl⟩
            rw [← hSS]
            have hSz := hideP (show SS.size = 8 by rw [hSS]; simp [hSl.out])
            have hSg := hideP (show ∀ i, i < 8 → SS[i]? = some (.int .u32 ((S.getD i 0).toNat : Int)) from fun i hi => by
              rw [hSS]; simp [List.getD, List.getElem?_eq_getElem (show i < S.length by rw [hSl.out]; exact hi)]; rfl)
            clear hD y1 y2 bn c1 b1 hSs hlt hSS hnc hin
            go_loopw [51] (fun v51 wr => ∃ (i : Nat) (l : List Nat), i ≤ 8 ∧ v51 = .int .i64 i ∧ Hid (l.length = 32 ∧ (∀ j, l.getD j 0 = if j < 4 * i then (dig S).getD j 0 else 0) ∧ Row wr D 32 (l.map b8) ∧ Row wr w.heap.size 32 z32 ∧ Below w.heap.size w wr)) (fun v51 _ => 8 - (intOf v51).toNat)
            case atStart => exact ⟨0, List.replicate 32 0, by omega, rfl, rfl, fun i => by unfold List.getD; rw [List.getElem?_replicate]; split <;> simp, dd.out, c9.out, b9.out⟩
            case round =>
              clear dd c9 b9
              obtain ⟨i, l, hi, rfl, hV⟩ := hrel
              by_cases hlt : i < 8
              · have i0 : (0 : Int) ≤ (i : Int) := by omega
                have i8 : (i : Int) < 8 := by omega
                have hq := hSg.out i hlt
                have hsz := hSz.out
                obtain ⟨X, hX⟩ : ∃ X, X = (S.getD i 0).toNat := ⟨_, rfl⟩
                rw [← hX] at hq
                have hX32 : X < 4294967296 := by rw [hX]; exact UInt32.toNat_lt _
                have HhX := hideP hX; clear hX
                have hix := fun W => run_index_w8 SS i _ hlt hq W
                go_upto_region 15 with fail
                have m0 : IntKind.i64.wrap (4 * (i : Int)) = 4 * (i : Int) := IntWalk.i64_in _ (by omega)
                have m1 : IntKind.i64.wrap (4 * (i : Int) + 1) = 4 * (i : Int) + 1 := IntWalk.i64_in _ (by omega)
                have m2 : IntKind.i64.wrap (4 * (i : Int) + 2) = 4 * (i : Int) + 2 := IntWalk.i64_in _ (by omega)
                have m3 : IntKind.i64.wrap (4 * (i : Int) + 3) = 4 * (i : Int) + 3 := IntWalk.i64_in _ (by omega)
                have n0 : (4 * (i : Int)).toNat = 4 * i := by omega
                have n1 : (4 * (i : Int) + 1).toNat = 4 * i + 1 := by omega
                have n2 : (4 * (i : Int) + 2).toNat = 4 * i + 2 := by omega
                have n3 : (4 * (i : Int) + 3).toNat = 4 * i + 3 := by omega
                have p0 : (0 : Int) ≤ 4 * (i : Int) := by omega
                have p1 : (0 : Int) ≤ 4 * (i : Int) + 1 := by omega
                have p2 : (0 : Int) ≤ 4 * (i : Int) + 2 := by omega
                have p3 : (0 : Int) ≤ 4 * (i : Int) + 3 := by omega
                have q0 : 4 * (i : Int) < 32 := by omega
                have q1 : 4 * (i : Int) + 1 < 32 := by omega
                have q2 : 4 * (i : Int) + 2 < 32 := by omega
                have q3 : 4 * (i : Int) + 3 < 32 := by omega
                obtain ⟨y0, hy0⟩ : ∃ Z, Z = X / 16777216 := ⟨_, rfl⟩
                obtain ⟨Z1, hZ1⟩ : ∃ Z, Z = X / 65536 := ⟨_, rfl⟩
                obtain ⟨Z2, hZ2⟩ : ∃ Z, Z = X / 256 := ⟨_, rfl⟩
                have r0 : (X : Int) / 16777216 = (y0 : Int) := by omega
                have y0l : y0 < 256 := by omega
                have r1 : (X : Int) / 65536 = (Z1 : Int) := by omega
                have r2 : (X : Int) / 256 = (Z2 : Int) := by omega
                obtain ⟨y1, hy1⟩ : ∃ y, y = Z1 % 256 := ⟨_, rfl⟩
                obtain ⟨y2, hy2⟩ : ∃ y, y = Z2 % 256 := ⟨_, rfl⟩
                obtain ⟨y3, hy3⟩ : ∃ y, y = X % 256 := ⟨_, rfl⟩
                have v1 := hideP (show (Z1 : Int) % 256 = (y1 : Int) by omega)
                have v2 := hideP (show (Z2 : Int) % 256 = (y2 : Int) by omega)
                have v3 := hideP (show (X : Int) % 256 = (y3 : Int) by omega)
                have hl0 := hideP hV.out.1
                have hi0 := hideP hV.out.2.1
                have R0 := hideP hV.out.2.2.1
                have c0 := hideP hV.out.2.2.2.1
                have b0 := hideP hV.out.2.2.2.2
                clear hV
                have hcl : ∀ {l : List Nat} {W : World} {j : Nat}, l.length = 32 → Row W D 32 (l.map b8) → j < 32 → W.cell? ⟨D, j, none⟩ = some (.int .u8 (l.getD j 0 : Nat)) := fun {l W j} hl hR hj => by
                  rw [Row.cell hR j]; simp [List.getD, List.getElem?_eq_getElem (show j < l.length by omega)]; rfl
                have s0 := hcl hl0.out R0.out (show 4 * i < 32 by omega)
                have f0 := Row.fz R0.out (4 * i)
                obtain ⟨W1, hW1⟩ : ∃ W, W = wr.setCell ⟨D, 4 * i, none⟩ (.int .u8 (y0 : Int)) := ⟨_, rfl⟩
                have R1 := hideP (show Row W1 D 32 ((l.set (4 * i) y0).map b8) by rw [hW1, List.map_set]; exact Row.set R0.out _ _)
                have c1 := hideP (show Row W1 w.heap.size 32 z32 by rw [hW1]; exact Row.setOther c0.out (a := ⟨D, 4 * i, none⟩) (Nat.ne_of_lt ltd.out) (.int .u8 (y0 : Int)))
                have b1 := hideP (show Below w.heap.size w W1 by rw [hW1]; exact b0.out.setCell (p := ⟨D, 4 * i, none⟩) (Nat.le_of_lt ltd.out) (.int .u8 (y0 : Int)))
                have l1 := hideP (show (l.set (4 * i) y0).length = 32 by rw [List.length_set]; exact hl0.out)
                have s1 := hcl l1.out R1.out (show 4 * i + 1 < 32 by omega)
                have f1 := Row.fz R1.out (4 * i + 1)
                replace hW1 := hideP hW1
                obtain ⟨W2, hW2⟩ : ∃ W, W = W1.setCell ⟨D, 4 * i + 1, none⟩ (.int .u8 (y1 : Int)) := ⟨_, rfl⟩
                have R2 := hideP (show Row W2 D 32 (((l.set (4 * i) y0).set (4 * i + 1) y1).map b8) by rw [hW2, List.map_set]; exact Row.set R1.out _ _)
                have c2 := hideP (show Row W2 w.heap.size 32 z32 by rw [hW2]; exact Row.setOther c1.out (a := ⟨D, 4 * i + 1, none⟩) (Nat.ne_of_lt ltd.out) (.int .u8 (y1 : Int)))
                have b2 := hideP (show Below w.heap.size w W2 by rw [hW2]; exact b1.out.setCell (p := ⟨D, 4 * i + 1, none⟩) (Nat.le_of_lt ltd.out) (.int .u8 (y1 : Int)))
                have l2 := hideP (show ((l.set (4 * i) y0).set (4 * i + 1) y1).length = 32 by rw [List.length_set]; exact l1.out)
                have s2 := hcl l2.out R2.out (show 4 * i + 2 < 32 by omega)
                have f2 := Row.fz R2.out (4 * i + 2)
                replace hW2 := hideP hW2
                obtain ⟨W3, hW3⟩ : ∃ W, W = W2.setCell ⟨D, 4 * i + 2, none⟩ (.int .u8 (y2 : Int)) := ⟨_, rfl⟩
                have R3 := hideP (show Row W3 D 32 ((((l.set (4 * i) y0).set (4 * i + 1) y1).set (4 * i + 2) y2).map b8) by rw [hW3, List.map_set]; exact Row.set R2.out _ _)
                have c3 := hideP (show Row W3 w.heap.size 32 z32 by rw [hW3]; exact Row.setOther c2.out (a := ⟨D, 4 * i + 2, none⟩) (Nat.ne_of_lt ltd.out) (.int .u8 (y2 : Int)))
                have b3 := hideP (show Below w.heap.size w W3 by rw [hW3]; exact b2.out.setCell (p := ⟨D, 4 * i + 2, none⟩) (Nat.le_of_lt ltd.out) (.int .u8 (y2 : Int)))
                have l3 := hideP (show (((l.set (4 * i) y0).set (4 * i + 1) y1).set (4 * i + 2) y2).length = 32 by rw [List.length_set]; exact l2.out)
                have s3 := hcl l3.out R3.out (show 4 * i + 3 < 32 by omega)
                have f3 := Row.fz R3.out (4 * i + 3)
                replace hW3 := hideP hW3
                obtain ⟨W4, hW4⟩ : ∃ W, W = W3.setCell ⟨D, 4 * i + 3, none⟩ (.int .u8 (y3 : Int)) := ⟨_, rfl⟩
                have R4 := hideP (show Row W4 D 32 (((((l.set (4 * i) y0).set (4 * i + 1) y1).set (4 * i + 2) y2).set (4 * i + 3) y3).map b8) by rw [hW4, List.map_set]; exact Row.set R3.out _ _)
                have c4 := hideP (show Row W4 w.heap.size 32 z32 by rw [hW4]; exact Row.setOther c3.out (a := ⟨D, 4 * i + 3, none⟩) (Nat.ne_of_lt ltd.out) (.int .u8 (y3 : Int)))
                have b4 := hideP (show Below w.heap.size w W4 by rw [hW4]; exact b3.out.setCell (p := ⟨D, 4 * i + 3, none⟩) (Nat.le_of_lt ltd.out) (.int .u8 (y3 : Int)))
                replace hW4 := hideP hW4
                have HY := hideP (And.intro hy0 (And.intro (hy1.trans (by rw [hZ1])) (And.intro (hy2.trans (by rw [hZ2])) hy3)))
                clear hcl hy0 hy1 hy2 hy3 hZ1 hZ2 R0 R1 R2 R3 c0 c1 c2 c3 b0 b1 b2 b3 l1 l2 l3 hq hsz hix
                generalize (l.getD (4 * i) 0) = a0 at s0
                generalize ((l.set (4 * i) y0).getD (4 * i + 1) 0) = a1 at s1
                generalize (((l.set (4 * i) y0).set (4 * i + 1) y1).getD (4 * i + 2) 0) = a2 at s2
                generalize ((((l.set (4 * i) y0).set (4 * i + 1) y1).set (4 * i + 2) y2).getD (4 * i + 3) 0) = a3 at s3
                go_wp2_with (first
                  | (refine wpList_store_byte rfl (.tmp 77) (.tmp 68) rfl D (4 * i) y0 _ rfl rfl s0 f0 ?_; rw [← hW1.out])
                  | (refine wpList_store_byte rfl (.tmp 78) (.tmp 71) rfl D (4 * i + 1) y1 _ rfl (by rw [← v1.out]; rfl) s1 f1 ?_; rw [← hW2.out])
                  | (refine wpList_store_byte rfl (.tmp 79) (.tmp 74) rfl D (4 * i + 2) y2 _ rfl (by rw [← v2.out]; rfl) s2 f2 ?_; rw [← hW3.out])
                  | (refine wpList_store_byte rfl (.tmp 80) (.tmp 76) rfl D (4 * i + 3) y3 _ rfl (by rw [← v3.out]; rfl) s3 f3 ?_; rw [← hW4.out]))
                clear s0 s1 s2 s3 f0 f1 f2 f3
                go_roundw
                case rel =>
                  refine ⟨i + 1, ((((l.set (4 * i) y0).set (4 * i + 1) y1).set (4 * i + 2) y2).set (4 * i + 3) y3), by omega, by go_num, by simp [hl0.out], fun j => ?_, R4.out, c4.out, b4.out⟩
                  have gs : ∀ (m : List Nat) (k y : Nat), k < m.length → (m.set k y).getD j 0 = if k = j then y else m.getD j 0 := fun m k y hk => by
                    unfold List.getD
                    rw [List.getElem?_set]
                    by_cases e : k = j
                    · subst e; rw [if_pos rfl, if_pos rfl, if_pos hk]; rfl
                    · rw [if_neg e, if_neg e]
                  have dg : ∀ k, k < 4 → (dig S).getD (4 * i + k) 0 = X / 2 ^ (24 - 8 * k) % 256 := fun k hk => by
                    unfold dig
                    rw [HhX.out]
                    simp only [List.getD, List.getElem?_map, List.getElem?_range (show 4 * i + k < 32 by omega), Option.map_some, Option.getD_some]
                    rw [show (4 * i + k) / 4 = i by omega, show (4 * i + k) % 4 = k by omega]
                  have d0 := dg 0 (by omega)
                  have d1 := dg 1 (by omega)
                  have d2 := dg 2 (by omega)
                  have d3 := dg 3 (by omega)
                  have hj := hi0.out j
                  have hl := hl0.out
                  rw [gs _ _ _ (by simp; omega), gs _ _ _ (by simp; omega), gs _ _ _ (by simp; omega), gs _ _ _ (by omega), hj]
                  obtain ⟨e0, e1, e2, e3⟩ := HY.out
                  by_cases h3 : 4 * i + 3 = j
                  · rw [if_pos h3, if_pos (by omega), ← h3, d3, e3]; simp
                  rw [if_neg h3]
                  by_cases h2 : 4 * i + 2 = j
                  · rw [if_pos h2, if_pos (by omega), ← h2, d2, e2]
                  rw [if_neg h2]
                  by_cases h1 : 4 * i + 1 = j
                  · rw [if_pos h1, if_pos (by omega), ← h1, d1, e1]
                  rw [if_neg h1]
                  by_cases h0 : 4 * i = j
                  · rw [if_pos h0, if_pos (by omega), ← h0, show 4 * i = 4 * i + 0 from rfl, d0, e0, Nat.mod_eq_of_lt (by omega)]
                  rw [if_neg h0]
                  by_cases h : j < 4 * i
                  · rw [if_pos h, if_pos (by omega)]
                  · rw [if_neg h, if_neg (by omega)]
                case measure => simp [intOf]; omega
              · have hi8 : i = 8 := by omega
                have hld : l = dig S := by
                  refine List.ext_getElem? fun i => ?_
                  rcases Nat.lt_or_ge i 32 with hi | hi
                  · have := hV.out.2.1 i
                    rw [if_pos (by omega)] at this
                    unfold List.getD at this
                    rw [List.getElem?_eq_getElem (by rw [hV.out.1]; exact hi)] at this ⊢
                    rw [List.getElem?_eq_getElem (by simp [dig]; exact hi)] at this ⊢
                    simpa using this
                  · rw [List.getElem?_eq_none (by rw [hV.out.1]; exact hi), List.getElem?_eq_none (by simp [dig]; exact hi)]
                have dd := hideP (hld ▸ hV.out.2.2.1)
                have c1 := hideP hV.out.2.2.2.1
                have cb := hideP hV.out.2.2.2.2
                clear hV hld hi8 hi
                have hds := hideP (show (Tryz.prog.info? 32).map (·.size) = some ((dig S).map b8).toArray.size by rw [size_dig]; simp [dig])
                have hdo := hideP (show z32.toArray.size = ((dig S).map b8).toArray.size by simp [dig, z32])
                go_wp2_with (first
                  | (refine wpList_load_row rfl 32 (.tmp 5) rfl D rfl 32 ((dig S).map b8).toArray (0, 0) _ dd.out Tryz.underlying32 rfl hds.out ?_)
                  | (refine wpList_store_row rfl 32 (.tmp 2) (.tmp 82) rfl w.heap.size ((dig S).map b8).toArray rfl rfl 32 z32.toArray c1.out hds.out hdo.out (all_b8 _) ?_))
                refine ret_row rfl rfl (Row.setRow c1.out ((dig S).map b8)) Tryz.underlying32 (by rw [size_dig]; simp [dig]) rfl ⟨rfl, ?_⟩
                exact below_setRow' cb.out (Nat.le_refl _) _
end Go.Proofs.YtedokpgkjcnoiaaGreat
