/- Rows of structs in memory; slices.ContainsFunc of changes; a text's bytes as a slice. Contracts of block.op and of the closure in block.Ops. -/
import Derived.Lib.ConvBytes
import Derived.Deep.DeepCutAuto
import Derived.Test.YtiicdnbhphgieaaK23
set_option linter.unusedVariables false
set_option linter.unusedSimpArgs false
namespace Go.Proofs.Ytiicdnbhphgieaa
open Go.RowKit

theorem enter_fn {f : FuncId} {fn : Func} (hf : Try.prog.funcs[f]? = some fn) (hn : (fn.name == "runtime.NumGoroutine") = false) (hb : fn.body.isNone = false) (args : Array Value) (w : World) : (callFunc f args).run Try.prog w = .ok (.enter f args) w := by
  have h1 : (fn.name = "runtime.NumGoroutine") = False := by simpa using hn
  simp [callFunc, hf, h1, hb, program, Sem.run]
  intro h; simp [h] at hb
/-- n structs of s cells each, cs i, lie at A, below block B -/
def ArrC (w : World) (B : Nat) (A : Option Addr) (n s : Nat) (cs : Nat → List Value) : Prop :=
  0 < n → ∃ b off, A = some ⟨b, off, none⟩ ∧ b < B ∧ ∀ i, i < n → w.rangeAt b (off + i * s) (cs i)
section
variable {w w' : World} {B B' n s : Nat} {A : Option Addr} {cs ds : Nat → List Value}
theorem ArrC.below (h : ArrC w B A n s cs) (hb : Below B w w') : ArrC w' B A n s cs := fun hn => by
  obtain ⟨b, off, e, hB, hc⟩ := h hn
  exact ⟨b, off, e, hB, fun i hi j v hv => (hb.cell (p := ⟨b, off + i * s + j, none⟩) hB).trans (hc i hi j v hv)⟩
theorem ArrC.more (h : ArrC w B A n s cs) (hB : B ≤ B') : ArrC w B' A n s cs := fun hn => by
  obtain ⟨b, off, e, hb, hc⟩ := h hn
  exact ⟨b, off, e, by omega, hc⟩
theorem ArrC.after (h : ArrC w w.heap.size A n s cs) (hb : Below w.heap.size w w') : ArrC w' w'.heap.size A n s cs := (h.below hb).more hb.size
theorem ArrC.congr (h : ArrC w B A n s cs) (e : ∀ i, i < n → cs i = ds i) : ArrC w B A n s ds := fun hn => by
  obtain ⟨b, off, ea, hb, hc⟩ := h hn
  exact ⟨b, off, ea, hb, fun i hi => by rw [← e i hi]; exact hc i hi⟩
theorem ArrC.none_ : ArrC w B A 0 s cs := fun h => absurd h (by omega)
end
theorem cells_after {w w' : World} {b o : Nat} {cs : List Value} (h : w.rangeAt b o cs) (hb : Below w.heap.size w w') (hB : b < w.heap.size) : w'.rangeAt b o cs := fun j v hv => (hb.cell (p := ⟨b, o + j, none⟩) hB).trans (h j v hv)
def anyTo (p : Nat → Bool) (k : Nat) : Bool := (List.range k).any p
theorem anyTo_succ (p : Nat → Bool) (k : Nat) : anyTo p (k + 1) = (anyTo p k || p k) := by simp [anyTo, List.range_succ, List.any_append]
theorem anyTo_true {p : Nat → Bool} {k n : Nat} (hk : k < n) (h : p k = true) : anyTo p n = true := List.any_eq_true.2 ⟨k, List.mem_range.2 hk, h⟩
set_option maxRecDepth 100000 in
set_option maxHeartbeats 1000000 in
theorem opix_any (A : Option Addr) (n c s : Nat) (cs : Nat → List Value) (p : Nat → Bool) (fv : Value) (fn : Nat) (caps : Array Value) (hfv : fv = .func (.func fn) #[] caps) (w : World) (hA : ArrC w w.heap.size A n 4 cs) (hlen : ∀ i, i < n → (cs i).length = 4) (hn : n ≤ 1000000000)
    (henter : ∀ args W, (callFunc fn args).run Try.prog W = .ok (.enter fn args) W)
    (hside : ∀ (i : Nat) (W : World), i < n → Below w.heap.size w W → Calls Try.prog fn (#[.agg (cs i).toArray] ++ caps) W fun e W' => e = .returned (.bool (p i)) ∧ Below W.heap.size W W') :
    Calls Try.prog 116 #[.slice A n c, fv] w fun e w' => ((∃ k : Nat, e = .returned (.int .i64 k) ∧ k < n ∧ p k = true ∧ anyTo p k = false) ∨ (e = .returned (.int .i64 (-1)) ∧ anyTo p n = false)) ∧ Below w.heap.size w w' := by
  subst hfv
  have HS := hideP hside
  have hsz := hideP (show (Try.prog.info? 30).map (·.size) = some 4 by kernel_rfl)
  have HhA := hideP hA; have Hhlen := hideP hlen; clear hA hlen
  clear hside
  go_enter Try.func116, Try.ntmps116
  go_wp2_with fail
  go_loopw [8] (fun v8 wr => ∃ k : Nat, k ≤ n ∧ v8 = .int .i64 (k : Nat) ∧ Hid (anyTo p k = false ∧ Below w.heap.size w wr)) (fun v8 _ => n - (intOf v8).toNat)
  case atStart => exact ⟨0, Nat.zero_le _, rfl, rfl, Below.refl _ _⟩
  case round =>
    obtain ⟨k, hk, rfl, hV⟩ := hrel
    by_cases hlt : k < n
    · have i1 : (k : Int) < (n : Int) := by omega
      obtain ⟨b0, off, hA, hB0, hc⟩ := HhA.out (by omega)
      subst hA
      have hr := hideP (show wr.rangeAt b0 (off + k * 4) (cs k) from fun j v hv => (hV.out.2.cell (p := ⟨b0, off + k * 4 + j, none⟩) hB0).trans (hc k hlt j v hv))
      have hS := hideP (HS.out k wr hlt hV.out.2)
      have hL := Hhlen.out k hlt
      obtain ⟨C, hC⟩ : ∃ C, C = cs k := ⟨_, rfl⟩
      obtain ⟨q, hq⟩ : ∃ q, q = p k := ⟨_, rfl⟩
      rw [← hC] at hr hL
      rw [← hC, ← hq] at hS
      have Hq := hideP hq
      have HL := hideP (hsz.out.trans (congrArg some hL.symm))
      clear hC hq hc hL
      go_wp2_with (refine wpList_load_mid rfl 30 (.tmp 14) rfl b0 (off + k * 4) rfl C _ hr.out Try.underlying30 rfl HL.out ?_)
      refine hS.out.mono ?_
      rintro e w1 ⟨rfl, b1⟩
      have B1 := hideP (hV.out.2.trans (b1.mono hV.out.2.size))
      clear b1
      rcases q with _ | _
      · have hf := hideP (show anyTo p (k + 1) = false by rw [anyTo_succ, hV.out.1, ← Hq.out]; rfl)
        go_wp2_with fail
        go_roundw
        case rel => exact ⟨k + 1, by omega, by go_num, hf.out, B1.out⟩
        case measure => simp [intOf]; omega
      · go_wp2_with fail
        go_ret
        exact ⟨.inl ⟨k, rfl, hlt, Hq.out.symm, hV.out.1⟩, B1.out⟩
    · have hkn : k = n := by omega
      subst hkn
      have i1 : ¬ ((k : Int) < (k : Int)) := by omega
      go_wp2_with fail
      go_ret
      exact ⟨.inr ⟨rfl, hV.out.1⟩, hV.out.2⟩
set_option maxRecDepth 100000 in
set_option maxHeartbeats 1000000 in
theorem opco_any (A : Option Addr) (n c s : Nat) (cs : Nat → List Value) (p : Nat → Bool) (fv : Value) (fn : Nat) (caps : Array Value) (hfv : fv = .func (.func fn) #[] caps) (w : World) (hA : ArrC w w.heap.size A n 4 cs) (hlen : ∀ i, i < n → (cs i).length = 4) (hn : n ≤ 1000000000)
    (henter : ∀ args W, (callFunc fn args).run Try.prog W = .ok (.enter fn args) W)
    (hside : ∀ (i : Nat) (W : World), i < n → Below w.heap.size w W → Calls Try.prog fn (#[.agg (cs i).toArray] ++ caps) W fun e W' => e = .returned (.bool (p i)) ∧ Below W.heap.size W W') :
    Calls Try.prog 58 #[.slice A n c, fv] w fun e w' => e = .returned (.bool (anyTo p n)) ∧ Below w.heap.size w w' := by
  subst hfv
  have hT := hideP (opix_any A n c s cs p _ fn caps rfl w hA hlen hn henter hside)
  clear hA hlen henter hside
  go_enter Try.func58, Try.ntmps58
  go_wp2_with (go_at_call 116; refine hT.out.mono ?_; rintro e1 w1 ⟨(⟨k, rfl, hk, hx, _⟩ | ⟨rfl, hx⟩), b1⟩ <;> have Hx := hideP hx <;> have B1 := hideP b1 <;> clear hx b1)
  · go_ret
    exact ⟨ret_bool (anyTo_true hk Hx.out).symm, B1.out⟩
  · go_ret
    exact ⟨ret_bool Hx.out.symm, B1.out⟩
/-- '[]byte(s)' -/
theorem conv_sb (w : World) (s : ByteArray) : ∃ W c, (convert 9 31 (.string s)).run Try.prog w = .ok (.slice (some ⟨w.heap.size, 0, none⟩) s.size c) W ∧ Below w.heap.size w W ∧ W.heap.size = w.heap.size + 1 ∧ Arr W W.heap.size (some ⟨w.heap.size, 0, none⟩) s.size (u8s (nb s)) := by
  refine ⟨_, _, Lib.run_convert_string_bytes w 9 31 5 s Try.underlying9 Try.underlying31 Try.underlying5, ⟨rfl, rfl, rfl, by rw [Lib.bytesWorld_size]; omega, fun k hk => Lib.bytesWorld_at_old w _ s k hk⟩, Lib.bytesWorld_size _ _ _, fun _ => ⟨w.heap.size, 0, rfl, by rw [Lib.bytesWorld_size]; omega, fun i hi => ?_⟩⟩
  rw [Nat.zero_add, Lib.bytesWorld_cell w _ s i hi]
  unfold u8s nb List.getD
  rw [List.getElem?_map, List.getElem?_eq_getElem (by simpa using hi)]
  rfl
theorem wpList_conv_sb {ops : Array Oper} {rest : List Oper} {o : Oper} {a : Act} {w : World} {Q : Exit → Act → World → Prop} (hgd : o.guard = none) (x : Operand) (ho : o.op = .convert 9 31 x) (s : ByteArray) (hx : a.eval x = .string s)
    (h : ∀ W c, Below w.heap.size w W → W.heap.size = w.heap.size + 1 → Arr W W.heap.size (some ⟨w.heap.size, 0, none⟩) s.size (u8s (nb s)) → wpList Try.prog ops Q rest (a.put o.dst (.slice (some ⟨w.heap.size, 0, none⟩) s.size c)) W) : wpList Try.prog ops Q (o :: rest) a w := by
  obtain ⟨W, c, hrun, h1, h2, h3⟩ := conv_sb w s
  refine wpList_plain hgd fun K hK => ?_
  unfold Oper.wp execOp
  simp only [ho, hx, Sem.run_bind, Sem.run_pure, Result.andThen_ok, hrun]
  exact hK _ _ (h W c h1 h2 h3)
end Go.Proofs.Ytiicdnbhphgieaa
namespace Go.Proofs.Ytiicdnbhphgieaa
open Go.RowKit
theorem textB_len (x : ByteArray) : (textB (nb x)).length = 3 + x.size := by
  unfold textB; rw [List.length_append, nb_len]; rfl
theorem texts_len_gen (L : List ByteArray) (M : Nat) (hs : ∀ i, (L.getD i default).size ≤ M) (k : Nat) : (textsB (L.take k)).length ≤ k * (M + 3) := by
  induction k with
  | zero => simp [textsB]
  | succ k ih =>
    by_cases hk : k < L.length
    · rw [textsB_succ L k hk, List.length_append, textB_len, Nat.succ_mul]
      have := hs k
      omega
    · rw [List.take_of_length_le (by omega)]
      rw [List.take_of_length_le (by omega)] at ih
      exact Nat.le_trans ih (Nat.mul_le_mul_right _ (by omega))
theorem texts_len_le (L : List ByteArray) (hs : ∀ i, (L.getD i default).size ≤ 1048576) (k : Nat) : (textsB (L.take k)).length ≤ k * 1048579 := texts_len_gen L 1048576 hs k
theorem Row.mv {S S1 : Nat → Prop} {w w1 : World} {g : Nat} {t : TypeId} {cs : List Value} (h : Row w g t cs) (m : Mv S w S1 w1) (hn : ¬ S g) : Row w1 g t cs := (m.but.block g (Row.lt h) hn).trans h
set_option maxRecDepth 100000 in
set_option maxHeartbeats 4000000 in
theorem bop_any (S : Nat → Prop) (g : Nat) (l : List Nat) (e : Int) (o : OpD) (k nc nr : Nat) (t : ByteArray) (AC AR : Option Addr) (cc cr : Nat) (w : World) (hS : Wr w S g l e) (hk : k = o.kind) (ht : t = o.table) (hnc : nc = o.cols.length) (hnr : nr = o.row.length)
    (hC : ArrN S w AC nc (strs o.cols)) (hR : ArrN S w AR nr (i64s o.row)) (hI : IsI o.row) (hts : t.size ≤ 1048576) (hs : ∀ i, (o.cols.getD i default).size ≤ 1048576) (hn : nc ≤ 255) (hrn : nr ≤ 255) (hkb : k < 256) (hl : l.length ≤ 140737000000000) :
    Calls Try.prog 61 #[.pointer (some ⟨g, 0, none⟩), .agg #[.int .u8 (k : Nat), .string t, .slice AC nc cc, .slice AR nr cr]] w fun e' w' => e' = .returned (.tuple #[]) ∧ WrP S w w' g (l ++ opB o) e := by
  obtain ⟨v, hv⟩ : ∃ v, v = w.alloc (.cells (opV k t AC nc cc AR nr cr).toArray 30) := ⟨_, rfl⟩
  obtain ⟨h, hh⟩ : ∃ h, h = w.heap.size := ⟨_, rfl⟩
  have R := hideP (show Row v h 30 (opV k t AC nc cc AR nr cr) by rw [hv, hh]; exact Row.new _ _ _)
  have Mv0 := hideP (show Mv S w S v by rw [hv]; exact Mv.alloc _ _ _)
  have V := hideP (show Wr v S g l e by rw [hv]; exact hS.ext (Ext.alloc _ _))
  have N := hideP (show ¬ S h by rw [hh]; exact hS.notnew)
  have C := hideP (hC.mv Mv0.out)
  have Q := hideP (hR.mv Mv0.out)
  obtain ⟨L, hL⟩ : ∃ L, L = o.cols := ⟨_, rfl⟩
  obtain ⟨r, hr⟩ : ∃ r, r = o.row := ⟨_, rfl⟩
  have hO := hideP (show opB o = [k] ++ (be3 t.size ++ nb t) ++ (if k = 1 then [nc] ++ textsB L else []) ++ (if k = 3 ∨ k = 4 then rowB r else []) by unfold opB textB; rw [← hk, ← ht, ← hnc, ← hL, ← hr, nb_len])
  rw [← hL] at C hs hnc
  rw [← hr] at Q hI hnr
  have Hs := hideP hs
  have hv' := hideP hv
  have m1 : (nc : Int) % 256 = (nc : Int) := by omega
  have hts' := hideP hts
  have hnc' := hideP hnc
  have hnr' := hideP hnr
  have hI' := hideP hI
  have hlt0 := hideP (Nat.lt_of_lt_of_eq hS.lt hh.symm)
  clear hL hr hv hS hk ht hC hR hs hnc hnr hI
  have hh' := hideP hh
  clear hh
  go_enter Try.func61, Try.ntmps61
  go_upto_region 1 with fail
  rw [← hh'.out, show (w.alloc (.cells #[.int .u8 (k : Nat), .string t, .slice AC nc cc, .slice AR nr cr] 30)) = v from hv'.out.symm]
  have Rv := hideP (R.out.mv (Mv.refl _ _) N.out)
  have k0 := Rv.out.cell 0; have k1 := Rv.out.cell 1; have k2 := Rv.out.cell 2; have k3 := Rv.out.cell 3
  simp only [opV, List.getElem?_cons_zero, List.getElem?_cons_succ] at k0 k1 k2 k3
  go_upto_region 3 with (first
    | (go_at_call 118; refine (wbyte_any S g l k e _ V.out hkb (by omega)).mono ?_; rintro e1 w1 ⟨rfl, S1, m1_, s1_⟩; have V1 := hideP s1_; have M1 := hideP m1_; have R1 := hideP (R.out.mv m1_ N.out); clear m1_ s1_ k0 k1 k2 k3; have k0 := R1.out.cell 0; have k1 := R1.out.cell 1; simp only [opV, List.getElem?_cons_zero, List.getElem?_cons_succ] at k0 k1)
    | (refine wpList_conv_sb rfl (.tmp 12) rfl t rfl ?_; intro W1 c1 b_ z_ a_; have AW1 := hideP (ArrN.of_new (S := S1) V1.out.old a_ fun b off s h => by injection h with h; injection h with h1; omega); have VW1 := hideP (V1.out.after b_); have MW1 := hideP (M1.out.trans (Mv.ext S1 (Ext.of_below b_))); clear b_ z_ a_)
    | (go_at_call 81; refine (wtext_any S1 g (l ++ [k]) (nb t) _ t.size _ e _ VW1.out (nb_len t).symm AW1.out (isB_nb t) hts'.out (by simp; omega)).mono ?_; rintro e1 w2 ⟨rfl, S2, m2_, s2_⟩; have V2 := hideP s2_; have M2 := hideP (MW1.out.trans m2_); clear m2_ s2_ k0 k1))
  clear V1 M1 R1 VW1 AW1 MW1 V Rv
  obtain ⟨l2, hl2⟩ : ∃ l2, l2 = l ++ [k] ++ (be3 t.size ++ nb t) := ⟨_, rfl⟩
  have hO2 := hideP (show l ++ opB o = l2 ++ (if k = 1 then [nc] ++ textsB L else []) ++ (if k = 3 ∨ k = 4 then rowB r else []) by rw [hO.out, hl2]; simp only [List.append_assoc])
  have hlen := hideP (show l2.length ≤ 140737010000000 by rw [hl2]; simp only [List.length_append, be3, nb_len, List.length_cons, List.length_nil]; have := hts'.out; omega)
  rw [← hl2] at V2
  clear hl2 hO
  have R2 := hideP (R.out.mv M2.out N.out)
  have k0 := R2.out.cell 0; have k1 := R2.out.cell 1; have k2 := R2.out.cell 2; have k3 := R2.out.cell 3
  simp only [opV, List.getElem?_cons_zero, List.getElem?_cons_succ] at k0 k1 k2 k3
  by_cases h1 : k = 1
  · subst h1
    have hO3 := hideP (show l ++ opB o = l2 ++ [nc] ++ textsB L by rw [hO2.out]; simp)
    clear hO2
    go_upto_region 6 with (go_at_call 118; refine (wbyte_any S2 g l2 nc e _ V2.out (by omega) (by have := hlen.out; omega)).mono ?_; rintro e1 w3 ⟨rfl, S3, m3_, s3_⟩; have V3 := hideP s3_; have M3 := hideP (M2.out.trans m3_); clear m3_ s3_ k0 k1 k2 k3)
    have R3 := hideP (R.out.mv M3.out N.out)
    have k0 := R3.out.cell 0; have k1 := R3.out.cell 1; have k2 := R3.out.cell 2; have k3 := R3.out.cell 3
    simp only [opV, List.getElem?_cons_zero, List.getElem?_cons_succ] at k0 k1 k2 k3
    go_wp2_with fail
    clear k0 k1 k2 k3
    go_loopw [28] (fun v28 wr => ∃ i : Nat, i ≤ nc ∧ v28 = .int .i64 (i : Nat) ∧ Hid (WrP S v wr g (l2 ++ [nc] ++ textsB (L.take i)) e)) (fun v28 _ => nc - (intOf v28).toNat)
    case atStart => exact ⟨0, Nat.zero_le _, rfl, S3, M3.out, by simpa [textsB] using V3.out⟩
    case round =>
      obtain ⟨i, hi, rfl, hV⟩ := hrel
      by_cases hlt : i < nc
      · have i1 : (i : Int) < (nc : Int) := by omega
        obtain ⟨S4, m4, v4⟩ := hV.out
        have M4 := hideP m4
        have V4 := hideP v4
        obtain ⟨b0, off, hA, hB0, hns, hc⟩ := C.out (by omega)
        subst hA
        have c0 := m4.cell (p := ⟨b0, off + i, none⟩) hns (hc i hlt)
        unfold strs at c0
        have hx := hideP (Hs.out i)
        have hst := hideP (textsB_succ L i (by rw [← hnc'.out]; exact hlt))
        obtain ⟨x, hxx⟩ : ∃ x, x = L.getD i default := ⟨_, rfl⟩
        rw [← hxx] at c0 hst hx
        have hst' := hideP (show l2 ++ [nc] ++ textsB (L.take i) ++ (be3 x.size ++ nb x) = l2 ++ [nc] ++ textsB (L.take (i + 1)) by rw [hst.out]; simp only [textB, List.append_assoc, nb_len])
        have hll := hideP (show (l2 ++ [nc] ++ textsB (L.take i)).length ≤ 140737420000000 by
          simp only [List.length_append, List.length_cons, List.length_nil]
          have h1 := texts_len_le L Hs.out i
          have := hlen.out
          omega)
        clear hxx hc m4 v4 hV hns hst
        go_wp2_with (first
          | (refine wpList_conv_sb rfl (.tmp 33) rfl x rfl ?_; intro W5 c5 b_ z_ a_; have AW5 := hideP (ArrN.of_new (S := S4) V4.out.old a_ fun b off s h => by injection h with h; injection h with h1; omega); have VW5 := hideP (V4.out.after b_); have MW5 := hideP (M4.out.trans (Mv.ext S4 (Ext.of_below b_))); clear b_ z_ a_)
          | (go_at_call 81; refine (wtext_any S4 g _ (nb x) _ x.size _ e _ VW5.out (nb_len x).symm AW5.out (isB_nb x) hx.out (by have := hll.out; omega)).mono ?_; rintro e1 w6 ⟨rfl, s6_⟩; have V6 := hideP (WrP.then MW5.out s6_); clear s6_))
        rw [hst'.out] at V6
        go_roundw
        case rel => exact ⟨i + 1, by omega, by go_num, V6.out⟩
        case measure => simp [intOf]; omega
      · have hin : i = nc := by omega
        subst hin
        have i1 : ¬ ((i : Int) < (i : Int)) := by omega
        have hf := hideP (show WrP S v wr g (l ++ opB o) e by rw [hO3.out]; have := hV.out; rwa [hnc'.out, List.take_length, ← hnc'.out] at this)
        clear hV
        go_wp2_with fail
        exact bodyPost_end (results_none rfl _ _ _) rfl ⟨rfl, WrP.then Mv0.out hf.out⟩
  · have h1' : ((k : Int) == 1) = false := by simp; omega
    by_cases h34 : k = 3 ∨ k = 4
    · have hO3 := hideP (show l ++ opB o = l2 ++ rowB r by rw [hO2.out, if_neg h1, if_pos h34]; simp)
      clear hO2 h1
      have Q2 := hideP (show ArrN S2 w2 AR r.length (i64s r) by rw [← hnr'.out]; exact Q.out.mv M2.out)
      have hrow := fun W S' l e (hW : Wr W S' g l e) (hA : ArrN S' W AR r.length (i64s r)) => wrow_any S' g l r AR cr e W hW hA hI'.out (by rw [← hnr'.out]; exact hrn)
      rw [← hnr'.out] at hrow Q2
      have Hrow := hideP hrow
      clear hrow
      rcases h34 with rfl | rfl
      all_goals
        go_wp2_with (go_at_call 119; refine (Hrow.out _ S2 l2 e V2.out Q2.out (by have := hlen.out; omega)).mono ?_; rintro e1 w3 ⟨rfl, s3_⟩; have V3 := hideP (WrP.then M2.out s3_); clear s3_)
        rw [← hO3.out] at V3
        exact bodyPost_end (results_none rfl _ _ _) rfl ⟨rfl, WrP.then Mv0.out V3.out⟩
    · have h3' : ((k : Int) == 3) = false := by simp; omega
      have h4' : ((k : Int) == 4) = false := by simp; omega
      have hO3 := hideP (show l ++ opB o = l2 by rw [hO2.out, if_neg h1, if_neg h34]; simp)
      clear hO2 h1 h34
      rw [← hO3.out] at V2
      go_wp2_with fail
      exact bodyPost_end (results_none rfl _ _ _) rfl ⟨rfl, WrP.then Mv0.out ⟨S2, M2.out, V2.out⟩⟩
end Go.Proofs.Ytiicdnbhphgieaa
