/- The writer's contracts, told from the world where it began. Heads of blocks; contract of block.Head. Contracts of block.Preimage, block.Sum. -/
import Derived.Test.YtiicdnbhphgieaaK10
import Derived.Test.YtiicdnbhphgieaaK32
set_option linter.unusedVariables false
set_option linter.unusedSimpArgs false
namespace Go.Proofs.Ytiicdnbhphgieaa
open Go.RowKit
section
variable {S : Nat → Prop} {v w : World} {g : Nat} {l : List Nat} {e : Int}
theorem wdigestP (d : List Nat) (h : WrP S v w g l e) (hd : d.length = 32) (hI : IsB d) (hn : l.length ≤ 140737488000000) :
    Calls Try.prog 89 #[.pointer (some ⟨g, 0, none⟩), dg d] w fun e' w' => e' = .returned (.tuple #[]) ∧ WrP S v w' g (l ++ d) e := by
  obtain ⟨S1, m1, v1⟩ := h
  exact (wdigest_any S1 g l d e w v1 hd hI hn).mono fun e' w' h => ⟨h.1, WrP.then m1 h.2⟩
theorem wnumP (x : Int) (h : WrP S v w g l e) (h1 : -9223372036854775808 ≤ x) (h2 : x ≤ 9223372036854775807) (hn : l.length ≤ 140737488353000) :
    Calls Try.prog 83 #[.pointer (some ⟨g, 0, none⟩), .int .i64 x] w fun e' w' => e' = .returned (.tuple #[]) ∧ WrP S v w' g (l ++ num8 x) e := by
  obtain ⟨S1, m1, v1⟩ := h
  exact (wnum_any S1 g l x e w v1 h1 h2 hn).mono fun e' w' h => ⟨h.1, WrP.then m1 h.2⟩
theorem wbyteP (x : Nat) (h : WrP S v w g l e) (hx : x < 256) (hn : l.length ≤ 140737488354000) :
    Calls Try.prog 118 #[.pointer (some ⟨g, 0, none⟩), .int .u8 (x : Nat)] w fun e' w' => e' = .returned (.tuple #[]) ∧ WrP S v w' g (l ++ [x]) e := by
  obtain ⟨S1, m1, v1⟩ := h
  exact (wbyte_any S1 g l x e w v1 hx hn).mono fun e' w' h => ⟨h.1, WrP.then m1 h.2⟩
theorem wcountP (n : Nat) (h : WrP S v w g l e) (hx : n ≤ 1048576) (hn : l.length ≤ 140737488354000) :
    Calls Try.prog 60 #[.pointer (some ⟨g, 0, none⟩), .int .i64 (n : Nat)] w fun e' w' => e' = .returned (.tuple #[]) ∧ WrP S v w' g (l ++ be3 n) e := by
  obtain ⟨S1, m1, v1⟩ := h
  exact (wcount_any S1 g l n e w v1 hx hn).mono fun e' w' h => ⟨h.1, WrP.then m1 h.2⟩
theorem wtruthP (x : Bool) (h : WrP S v w g l e) (hn : l.length ≤ 140737488354000) :
    Calls Try.prog 139 #[.pointer (some ⟨g, 0, none⟩), .bool x] w fun e' w' => e' = .returned (.tuple #[]) ∧ WrP S v w' g (l ++ [if x then 1 else 0]) e := by
  obtain ⟨S1, m1, v1⟩ := h
  exact (wtruth_any S1 g l x e w v1 hn).mono fun e' w' h => ⟨h.1, WrP.then m1 h.2⟩
/-- a text that lies below the writer -/
theorem wtextP (k : List Nat) (X : Option Addr) (K c B : Nat) (hv : Wr v S g [] 0) (h : WrP S v w g l e) (hK : K = k.length) (hX : Arr w B X K (u8s k)) (hB : B ≤ g) (hk : IsB k) (hx : K ≤ 1048576) (hn : l.length ≤ 140737480000000) :
    Calls Try.prog 81 #[.pointer (some ⟨g, 0, none⟩), .slice X K c] w fun e' w' => e' = .returned (.tuple #[]) ∧ WrP S v w' g (l ++ (be3 K ++ k)) e := by
  obtain ⟨S1, m1, v1⟩ := h
  exact (wtext_any S1 g l k X K c e w v1 hK (ArrN.of_low hX (Nat.le_trans hB (Nat.le_of_lt v1.lt)) fun b hb => Nat.le_trans hB (v1.low b hb)) hk hx hn).mono fun e' w' h => ⟨h.1, WrP.then m1 h.2⟩
theorem wtextP_long (X : Option Addr) (K c : Nat) (h : WrP S v w g l e) (hx : 1048576 < K) :
    Calls Try.prog 81 #[.pointer (some ⟨g, 0, none⟩), .slice X K c] w fun e' w' => e' = .returned (.tuple #[]) ∧ WrP S v w' g l 10 := by
  obtain ⟨S1, m1, v1⟩ := h
  exact (wtext_long S1 g l X K c e w v1 hx).mono fun e' w' h => ⟨h.1, WrP.then m1 h.2⟩
theorem wrowP (r : List Int) (R : Option Addr) (n c B : Nat) (h : WrP S v w g l e) (hnr : n = r.length) (hR : Arr w B R n (i64s r)) (hB : B ≤ g) (hI : IsI r) (hr : n ≤ 255) (hn : l.length ≤ 140737488000000) :
    Calls Try.prog 119 #[.pointer (some ⟨g, 0, none⟩), .slice R n c] w fun e' w' => e' = .returned (.tuple #[]) ∧ WrP S v w' g (l ++ rowB r) e := by
  subst hnr
  obtain ⟨S1, m1, v1⟩ := h
  exact (wrow_any S1 g l r R c e w v1 (ArrN.of_low hR (Nat.le_trans hB (Nat.le_of_lt v1.lt)) fun b hb => Nat.le_trans hB (v1.low b hb)) hI hr hn).mono fun e' w' h => ⟨h.1, WrP.then m1 h.2⟩
theorem wbytesP (h : WrP S v w g l 0) (hn : l.length ≤ 140737488351232) :
    Calls Try.prog 62 #[.pointer (some ⟨g, 0, none⟩)] w fun e w' => ∃ R d, e = .returned (.slice R l.length d) ∧ OwnB w' w.heap.size R d l ∧ Below w.heap.size w w' ∧ WrP S v w' g l 0 := by
  obtain ⟨S1, m1, v1⟩ := h
  refine (wbytes_ok S1 g l w v1 hn).mono ?_
  rintro e w' ⟨R, d, h1, h2, h3⟩
  exact ⟨R, d, h1, h2, h3, S1, m1.trans (Mv.ext _ (Ext.of_below h3)), v1.after h3⟩
theorem wbytesP_err (he : e ≠ 0) (h : WrP S v w g l e) :
    Calls Try.prog 62 #[.pointer (some ⟨g, 0, none⟩)] w fun e' w' => e' = .returned (.slice none 0 0) ∧ w' = w := by
  obtain ⟨S1, m1, v1⟩ := h
  exact wbytes_err S1 g l e he w v1
theorem werrP (h : WrP S v w g l e) : Calls Try.prog 63 #[.pointer (some ⟨g, 0, none⟩)] w fun e' w' => e' = .returned (.int .i64 e) ∧ w' = w := by
  obtain ⟨S1, m1, v1⟩ := h
  exact werr_any S1 g l e w v1
theorem WrP.refl (h : Wr v S g l e) : WrP S v v g l e := ⟨S, Mv.refl _ _, h⟩
theorem WrP.after {w' : World} (h : WrP S v w g l e) (hb : Below w.heap.size w w') : WrP S v w' g l e := by
  obtain ⟨S1, m1, v1⟩ := h
  exact ⟨S1, m1.trans (Mv.ext _ (Ext.of_below hb)), v1.after hb⟩
theorem Wr.new_at {u : World} {g0 : Nat} (hv : v = u.alloc (.cells #[.slice none 0 0, .int .i64 0] 100)) (hg : g0 = u.heap.size) : Wr v (fun b => b = g0) g0 [] 0 := by subst hv hg; exact ⟨none, 0, Two.new u _ _ _, OwnB.nil _ _, fun i => by simp, rfl, (fun b off s h => by cases h), (fun b hb => by subst hb; exact ⟨Nat.le_refl _, by simp⟩)⟩
end
end Go.Proofs.Ytiicdnbhphgieaa
namespace Go.Proofs.Ytiicdnbhphgieaa
open Go.RowKit
/-- a head -/
structure HeadD where
  prev : List Nat
  num : Int
  ops : List Nat
  tabs : List Nat
structure HeadOk (h : HeadD) : Prop where
  p : h.prev.length = 32
  o : h.ops.length = 32
  t : h.tabs.length = 32
  pB : IsB h.prev
  oB : IsB h.ops
  tB : IsB h.tabs
  n1 : -9223372036854775808 ≤ h.num
  n2 : h.num ≤ 9223372036854775807
def headC (h : HeadD) : List Value := h.prev.map b8 ++ (.int .i64 h.num :: (h.ops.map b8 ++ h.tabs.map b8))
/-- a head's bytes -/
def headB (h : HeadD) : List Nat := h.prev ++ num8 h.num ++ h.ops ++ h.tabs
def headR (h : HeadD) : Bool := decide (0 ≤ h.num) && decide (h.num ≤ 1099511627776)
theorem HeadOk.cells {h : HeadD} (k : HeadOk h) : (headC h).length = 97 := by simp [headC, k.p, k.o, k.t]
theorem HeadOk.len {h : HeadD} (k : HeadOk h) : (headB h).length = 104 := by simp [headB, k.p, k.o, k.t, num8_len]
theorem HeadOk.isB {h : HeadD} (k : HeadOk h) : IsB (headB h) := isB_append (isB_append (isB_append k.pB (isB_be8 _)) k.oB) k.tB
section
variable {w : World} {g : Nat} {T : TypeId} {h : HeadD}
theorem range_part {cs : List Value} (r : Row w g T cs) (a b c : List Value) (e : cs = a ++ (b ++ c)) : w.rangeAt g a.length b := fun j v hv => by
  have hj : j < b.length := (List.getElem?_eq_some_iff.1 hv).1
  rw [Row.cell r, e, List.getElem?_append_right (by omega), show a.length + j - a.length = j by omega, List.getElem?_append_left hj, hv]
theorem head_prev (k : HeadOk h) (r : Row w g T (headC h)) : w.rangeAt g 0 (h.prev.map b8) := range_part r [] _ _ rfl
theorem head_num (k : HeadOk h) (r : Row w g T (headC h)) : w.cell? ⟨g, 32, none⟩ = some (.int .i64 h.num) := by
  rw [Row.cell r]; unfold headC; rw [List.getElem?_append_right (by simp [k.p])]; simp [k.p]
theorem head_ops (k : HeadOk h) (r : Row w g T (headC h)) : w.rangeAt g 33 (h.ops.map b8) := by
  have := range_part r (h.prev.map b8 ++ [.int .i64 h.num]) (h.ops.map b8) (h.tabs.map b8) (by simp [headC])
  simpa [k.p] using this
theorem head_tabs (k : HeadOk h) (r : Row w g T (headC h)) : w.rangeAt g 65 (h.tabs.map b8) := by
  have := range_part r (h.prev.map b8 ++ [.int .i64 h.num] ++ h.ops.map b8) (h.tabs.map b8) [] (by simp [headC])
  simpa [k.p, k.o] using this
end
theorem size_d32 {l : List Nat} (h : l.length = 32) : (Try.prog.info? 41).map (·.size) = some (l.map b8).length := by rw [size_dig]; simp [h]
set_option maxRecDepth 100000 in
set_option maxHeartbeats 1000000 in
theorem bhead_no (h : HeadD) (hk : HeadOk h) (hr : headR h = false) (w : World) :
    Calls Try.prog 34 #[.agg (headC h).toArray] w fun e w' => e = .returned (.tuple #[.slice none 0 0, .int .i64 1]) ∧ Below w.heap.size w w' := by
  have k0 := head_num hk (Row.new w 48 (headC h))
  have hb := hideP (below_new w (.cells (headC h).toArray 48))
  have hr' := hr
  simp only [headR, Bool.and_eq_false_iff, decide_eq_false_iff_not] at hr'
  obtain ⟨C, hC⟩ : ∃ C, C = headC h := ⟨_, rfl⟩
  obtain ⟨n, hn⟩ : ∃ n, n = h.num := ⟨_, rfl⟩
  rw [← hC] at hb k0 ⊢
  rw [← hn] at k0 hr'
  clear hC hn hr hk
  go_enter Try.func34, Try.ntmps34
  by_cases h0 : n < 0
  · have d0 : decide (n < 0) = true := by simpa using h0
    go_wp2_with fail
    go_ret2
    exact ⟨rfl, hb.out⟩
  · have d0 : decide (n < 0) = false := by simpa using h0
    have d1 : decide (1099511627776 < n) = true := by
      rcases hr' with h | h
      · exact absurd (by omega) h0
      · simp; omega
    go_wp2_with fail
    go_ret2
    exact ⟨rfl, hb.out⟩
set_option maxRecDepth 100000 in
set_option maxHeartbeats 1000000 in
theorem bhead_ok (h : HeadD) (hk : HeadOk h) (hr : headR h = true) (w : World) :
    Calls Try.prog 34 #[.agg (headC h).toArray] w fun e w' => ∃ R d, e = .returned (.tuple #[.slice R 104 d, .int .i64 0]) ∧ OwnB w' w.heap.size R d (headB h) ∧ Below w.heap.size w w' := by
  have r0 := Row.new w 48 (headC h)
  have hr' := hr
  simp only [headR, Bool.and_eq_true, decide_eq_true_eq] at hr'
  obtain ⟨d0, d1⟩ := hr'
  obtain ⟨v, hv⟩ : ∃ v, v = w.alloc (.cells (headC h).toArray 48) := ⟨_, rfl⟩
  obtain ⟨z, hz⟩ : ∃ z, z = w.heap.size := ⟨_, rfl⟩
  have hb := hideP (show Below w.heap.size w v by rw [hv]; exact below_new w _)
  rw [← hv, ← hz] at r0
  have R0 := hideP r0
  have k0 := head_num hk r0
  have hlen := hideP hk.len
  have hzl := hideP (Row.lt r0)
  have hB := hideP (show headB h = h.prev ++ num8 h.num ++ h.ops ++ h.tabs from rfl)
  obtain ⟨B, hBB⟩ : ∃ B, B = headB h := ⟨_, rfl⟩
  rw [← hBB] at hB hlen ⊢
  have K := hideP hk
  obtain ⟨hp, ho, ht, pB, oB, tB, n1, n2⟩ := hk
  have hcp := head_prev K.out r0
  have hco := head_ops K.out r0
  have hct := head_tabs K.out r0
  obtain ⟨C, hC⟩ : ∃ C, C = headC h := ⟨_, rfl⟩
  rw [← hC] at hv r0 R0 ⊢
  obtain ⟨p, n, o, t⟩ := h
  dsimp only at hp ho ht pB oB tB n1 n2 d0 d1 hB k0 hcp hco hct
  have d0' : decide (n < 0) = false := by simpa using d0
  have d1' : decide (1099511627776 < n) = false := by simpa using d1
  have Hv := hideP hv
  have Hz := hideP hz
  have Hhp := hideP hp; have Hho := hideP ho; have Hht := hideP ht; have HpB := hideP pB; have HoB := hideP oB; have HtB := hideP tB; have Hhcp := hideP hcp; have Hhco := hideP hco; have Hhct := hideP hct; clear hp ho ht pB oB tB hcp hco hct
  have s1 := hideP (size_d32 Hhp.out)
  have s2 := hideP (size_d32 Hho.out)
  have s3 := hideP (size_d32 Hht.out)
  clear hv hr hC hBB r0 K hz
  go_enter Try.func34, Try.ntmps34
  go_upto_region 1 with fail
  rw [← Hz.out, ← Hv.out]
  go_upto_region 4 with fail
  obtain ⟨v2, hv2⟩ : ∃ v2, v2 = v.alloc (.cells #[.slice none 0 0, .int .i64 0] 100) := ⟨_, rfl⟩
  obtain ⟨g, hg⟩ : ∃ g, g = v.heap.size := ⟨_, rfl⟩
  rw [← hv2, ← hg]
  have V := hideP (show Wr v2 (fun b => b = g) g [] 0 by rw [hv2, hg]; exact Wr.new _)
  have B2 := hideP (show Below w.heap.size w v2 by rw [hv2]; exact hb.out.trans ((below_new _ _).mono hb.out.size))
  have hgw := hideP (show w.heap.size ≤ g by rw [hg]; exact hb.out.size)
  have X2 := hideP (show Ext v v2 by rw [hv2]; exact Ext.alloc _ _)
  have hzg := hideP (show z < g by rw [hg]; exact hzl.out)
  obtain ⟨S, hS⟩ : ∃ S : Nat → Prop, S = (fun b => b = g) := ⟨_, rfl⟩
  rw [← hS] at V
  have c2 := hideP (fun W l e (hW : WrP S v2 W g l e) (o : Nat) cs (hc : v.rangeAt z o cs) => (show W.rangeAt z o cs from fun j v hv => (cell_below (a := ⟨z, o + j, none⟩) (WrP.below V.out hW) hzg.out ((X2.out.cell (hc j v hv))))))
  have P0 := hideP (WrP.refl V.out)
  have n0 := X2.out.cell k0
  have N0 := hideP n0
  have l1 := hideP (num8_len n)
  clear hv2 hg hS k0 hb n0 d0' d1' R0
  go_upto_region 5 with (first
    | (refine wpList_load_mid rfl 41 (.tmp 16) rfl z 0 rfl (p.map b8) _ (c2.out _ _ _ P0.out _ _ Hhcp.out) Try.underlying41 rfl s1.out ?_)
    | (go_at_call 89; refine (wdigestP p P0.out Hhp.out HpB.out (by simp)).mono ?_; rintro e1 w3 ⟨rfl, p1_⟩; have P1 := hideP p1_; clear p1_))
  have k1 := cell_below (a := ⟨z, 32, none⟩) (WrP.below V.out P1.out) hzg.out N0.out
  go_upto_region 6 with (go_at_call 83; refine (wnumP n P1.out n1 n2 (by have := Hhp.out; simp; omega)).mono ?_; rintro e1 w4 ⟨rfl, p1_⟩; have P2 := hideP p1_; clear p1_)
  go_upto_region 7 with (first
    | (refine wpList_load_mid rfl 41 (.tmp 24) rfl z 33 rfl (o.map b8) _ (c2.out _ _ _ P2.out _ _ Hhco.out) Try.underlying41 rfl s2.out ?_)
    | (go_at_call 89; refine (wdigestP o P2.out Hho.out HoB.out (by have := Hhp.out; have := l1.out; simp; omega)).mono ?_; rintro e1 w5 ⟨rfl, p1_⟩; have P3 := hideP p1_; clear p1_))
  go_upto_region 8 with (first
    | (refine wpList_load_mid rfl 41 (.tmp 28) rfl z 65 rfl (t.map b8) _ (c2.out _ _ _ P3.out _ _ Hhct.out) Try.underlying41 rfl s3.out ?_)
    | (go_at_call 89; refine (wdigestP t P3.out Hht.out HtB.out (by have := Hhp.out; have := l1.out; have := Hho.out; simp; omega)).mono ?_; rintro e1 w6 ⟨rfl, p1_⟩; have P4 := hideP p1_; clear p1_))
  rw [List.nil_append, ← hB.out] at P4
  have B6 := hideP (B2.out.trans ((WrP.below V.out P4.out).mono hgw.out))
  have hbs := hideP (wbytesP P4.out (by have := hlen.out; omega))
  rw [hlen.out] at hbs
  go_wp2_with (first
    | (go_at_call 62; refine hbs.out.mono ?_; rintro e1 w7 ⟨R7, d7, rfl, o7_, b7_, p7_⟩; have O7 := hideP (OwnB.monoR o7_ B6.out.size); have P7 := hideP p7_; have B7 := hideP (bstep B6.out b7_); clear o7_ b7_ p7_)
    | (go_at_call 63; refine (werrP P7.out).mono ?_; rintro e1 w8 ⟨rfl, rfl⟩))
  go_ret2
  exact ⟨R7, d7, rfl, O7.out, B7.out⟩
end Go.Proofs.Ytiicdnbhphgieaa
namespace Go.Proofs.Ytiicdnbhphgieaa
open Go.RowKit
theorem size_h97 {cs : List Value} (h : cs.length = 97) : (Try.prog.info? 48).map (·.size) = some cs.length := by rw [h]; kernel_rfl
theorem preN_len1 (tag : Nat) (t : List Nat) : (preN tag [t]).length = 9 + t.length := by unfold preN; simp [prePart, be8_len]; omega
set_option maxRecDepth 100000 in
set_option maxHeartbeats 1000000 in
theorem bpre_no (h : HeadD) (hk : HeadOk h) (hr : headR h = false) (w : World) :
    Calls Try.prog 36 #[.agg (headC h).toArray] w fun e w' => e = .returned (.slice none 0 0) ∧ Below w.heap.size w w' := by
  have r0 := hideP (Row.new w 48 (headC h))
  have hb := hideP (below_new w (.cells (headC h).toArray 48))
  have hT := hideP (fun W => bhead_no h hk hr W)
  have hs := hideP (size_h97 hk.cells)
  obtain ⟨C, hC⟩ : ∃ C, C = headC h := ⟨_, rfl⟩
  rw [← hC] at hb r0 hT hs ⊢
  clear hC hr hk
  go_enter Try.func36, Try.ntmps36
  go_wp2_with (first
    | (refine wpList_load_row rfl 48 (.tmp 1) rfl w.heap.size rfl 48 C.toArray (0, 0) _ r0.out Try.underlying48 rfl hs.out ?_)
    | (go_at_call 34; refine (hT.out _).mono ?_; rintro e1 w2 ⟨rfl, b2_⟩; have B2 := hideP (bstep hb.out b2_); clear b2_))
  go_ret
  exact ⟨rfl, B2.out⟩
set_option maxRecDepth 100000 in
set_option maxHeartbeats 1000000 in
theorem bpre_ok (h : HeadD) (hk : HeadOk h) (hr : headR h = true) (w : World) :
    Calls Try.prog 36 #[.agg (headC h).toArray] w fun e w' => ∃ R d, e = .returned (.slice R (preN 66 [headB h]).length d) ∧ OwnB w' w.heap.size R d (preN 66 [headB h]) ∧ Below w.heap.size w w' := by
  have r0 := hideP (Row.new w 48 (headC h))
  have hb := hideP (below_new w (.cells (headC h).toArray 48))
  have hT := hideP (fun W => bhead_ok h hk hr W)
  have hs := hideP (size_h97 hk.cells)
  have hP := hideP (fun W A c (hA : Arr W W.heap.size A (headB h).length (u8s (headB h))) => pre_any 66 (some ⟨W.heap.size, 0, none⟩) 1 [headB h] (fun _ => A) (fun _ => c) (W.alloc (.cells #[.slice A (headB h).length c] 31)) (row1 W A (headB h) c hA).1 (row1 W A (headB h) c hA).2 (Nat.le_trans (pre1_len 66 _ (by rw [hk.len]; decide)) (by decide)) (by simp))
  have hl := hideP hk.len
  obtain ⟨C, hC⟩ : ∃ C, C = headC h := ⟨_, rfl⟩
  obtain ⟨P, hPP⟩ : ∃ P, P = preN 66 [headB h] := ⟨_, rfl⟩
  obtain ⟨X, hX⟩ : ∃ X, X = headB h := ⟨_, rfl⟩
  rw [← hC] at hb r0 hT hs ⊢
  rw [← hPP] at hP ⊢
  rw [← hX] at hT hP hl
  rw [hl.out] at hP
  clear hC hr hk hX hPP
  go_enter Try.func36, Try.ntmps36
  go_wp2_with (first
    | (refine wpList_load_row rfl 48 (.tmp 1) rfl w.heap.size rfl 48 C.toArray (0, 0) _ r0.out Try.underlying48 rfl hs.out ?_)
    | (go_at_call 34; refine (hT.out _).mono ?_; rintro e1 w2 ⟨R2, d2, rfl, o2_, b2_⟩; have O2 := hideP o2_; have B2 := hideP (bstep hb.out b2_); clear b2_ o2_)
    | (go_at_call 84; refine (hP.out w2 R2 d2 (by have := O2.out.arr; rwa [hl.out] at this)).mono ?_; rintro e1 w3 ⟨A3, c3, rfl, b3_, o3_⟩; have O3 := hideP o3_; have B3 := hideP (bstep (bstep B2.out (below_new w2 _)) b3_); clear b3_ o3_))
  go_ret
  exact ⟨A3, c3, rfl, OwnB.monoR O3.out (Nat.le_trans B2.out.size (by simp)), B3.out⟩
set_option maxRecDepth 100000 in
set_option maxHeartbeats 1000000 in
theorem bsum_no (h : HeadD) (hk : HeadOk h) (hr : headR h = false) (w : World) :
    Calls Try.prog 35 #[.agg (headC h).toArray] w fun e w' => e = .returned (.agg z32.toArray) ∧ Below w.heap.size w w' := by
  have hT := hideP (fun W => bpre_no h hk hr W)
  have hs := hideP (size_h97 hk.cells)
  obtain ⟨C, hC⟩ : ∃ C, C = headC h := ⟨_, rfl⟩
  rw [← hC] at hT hs ⊢
  clear hC hr hk
  obtain ⟨v, hv⟩ : ∃ v, v = w.alloc (.cells C.toArray 48) := ⟨_, rfl⟩
  have r0 := hideP (show Row v w.heap.size 48 C by rw [hv]; exact Row.new w 48 C)
  have hb := hideP (show Below w.heap.size w v by rw [hv]; exact below_new w (.cells C.toArray 48))
  go_enter Try.func35, Try.ntmps35
  go_upto_region 1 with fail
  obtain ⟨w1, hw1⟩ : ∃ w1, w1 = (w.alloc (.cells C.toArray 48)).alloc (Obj.cells #[.int .u8 0, .int .u8 0, .int .u8 0, .int .u8 0, .int .u8 0, .int .u8 0, .int .u8 0, .int .u8 0, .int .u8 0, .int .u8 0, .int .u8 0, .int .u8 0, .int .u8 0, .int .u8 0, .int .u8 0, .int .u8 0, .int .u8 0, .int .u8 0, .int .u8 0, .int .u8 0, .int .u8 0, .int .u8 0, .int .u8 0, .int .u8 0, .int .u8 0, .int .u8 0, .int .u8 0, .int .u8 0, .int .u8 0, .int .u8 0, .int .u8 0, .int .u8 0] 41) := ⟨_, rfl⟩
  obtain ⟨z, hz⟩ : ∃ z, z = w.heap.size + 1 := ⟨_, rfl⟩
  rw [← hw1, ← hz]
  have sv := hideP (show v.heap.size = z by rw [hv, hz]; simp)
  have c1 := hideP (show Row w1 z 41 z32 by rw [hw1, ← hv, ← sv.out]; exact Row.new v _ z32)
  have bv1 : Below v.heap.size v w1 := by rw [hw1, ← hv]; exact below_new _ _
  have cb := hideP (bstep hb.out bv1)
  have r1 := hideP (Row.after r0.out bv1)
  have hzw := hideP (show w.heap.size ≤ z by omega)
  clear hw1 hv r0 hb sv hz bv1
  go_wp2_with (first
    | (refine wpList_load_row rfl 48 (.tmp 1) rfl w.heap.size rfl 48 C.toArray (0, 0) _ r1.out Try.underlying48 rfl hs.out ?_)
    | (go_at_call 36; refine (hT.out _).mono ?_; rintro e1 w2 ⟨rfl, b2_⟩; have B2 := hideP (bstep cb.out b2_); have c2 := hideP (Row.after c1.out b2_); clear b2_)
    | (refine wpList_store_row rfl 41 (.tmp 2) (.tmp 9) rfl z z32.toArray rfl rfl 41 z32.toArray c2.out (by rw [size_dig]; rfl) rfl (all_b8 (List.replicate 32 0)) ?_))
  refine ret_row rfl rfl (Row.setRow c2.out z32) Try.underlying41 (by rw [size_dig]; rfl) rfl ⟨rfl, ?_⟩
  exact below_setRow' B2.out hzw.out _
set_option maxRecDepth 100000 in
set_option maxHeartbeats 1000000 in
theorem bsum_ok (h : HeadD) (hk : HeadOk h) (hr : headR h = true) (w : World) :
    Calls Try.prog 35 #[.agg (headC h).toArray] w fun e w' => e = .returned (.agg ((tagD 66 (headB h)).map b8).toArray) ∧ Below w.heap.size w w' := by
  have hT := hideP (fun W => bpre_ok h hk hr W)
  have hs := hideP (size_h97 hk.cells)
  have hPB := hideP (show IsB (preN 66 [headB h]) from isB_prePart (by decide) (isB_one1 hk.isB) _)
  have hPn := hideP (pre1_len 66 (headB h) (by rw [hk.len]; decide))
  have hP1 := hideP (show ((preN 66 [headB h]).length : Int) ≠ 0 by rw [preN_len1, hk.len]; decide)
  unfold tagD
  obtain ⟨C, hC⟩ : ∃ C, C = headC h := ⟨_, rfl⟩
  rw [← hC] at hT hs ⊢
  obtain ⟨P, hPP⟩ : ∃ P, P = preN 66 [headB h] := ⟨_, rfl⟩
  rw [← hPP] at hT hPB hPn hP1 ⊢
  clear hC hr hk hPP
  obtain ⟨DD, hDD⟩ : ∃ D, D = (dig (sumW P)).map b8 := ⟨_, rfl⟩
  have hDl := hideP (show DD.length = 32 by rw [hDD]; simp [dig])
  have hDa := hideP (show DD.toArray.all (·.oneCell') = true by rw [hDD]; exact all_b8 _)
  have hDe := hideP (show (dig (sumW P)).map b8 = DD from hDD.symm)
  rw [← hDD]
  clear hDD
  have hds := hideP (show (Try.prog.info? 41).map (·.size) = some DD.toArray.size by rw [size_dig]; simp [hDl.out])
  have hdo := hideP (show z32.toArray.size = DD.toArray.size by simp [hDl.out, z32])
  have hP0 : ((P.length : Int) == 0) = false := by simpa using hP1.out
  obtain ⟨v, hv⟩ : ∃ v, v = w.alloc (.cells C.toArray 48) := ⟨_, rfl⟩
  have r0 := hideP (show Row v w.heap.size 48 C by rw [hv]; exact Row.new w 48 C)
  have hb := hideP (show Below w.heap.size w v by rw [hv]; exact below_new w (.cells C.toArray 48))
  go_enter Try.func35, Try.ntmps35
  go_upto_region 1 with fail
  obtain ⟨w1, hw1⟩ : ∃ w1, w1 = (w.alloc (.cells C.toArray 48)).alloc (Obj.cells #[.int .u8 0, .int .u8 0, .int .u8 0, .int .u8 0, .int .u8 0, .int .u8 0, .int .u8 0, .int .u8 0, .int .u8 0, .int .u8 0, .int .u8 0, .int .u8 0, .int .u8 0, .int .u8 0, .int .u8 0, .int .u8 0, .int .u8 0, .int .u8 0, .int .u8 0, .int .u8 0, .int .u8 0, .int .u8 0, .int .u8 0, .int .u8 0, .int .u8 0, .int .u8 0, .int .u8 0, .int .u8 0, .int .u8 0, .int .u8 0, .int .u8 0, .int .u8 0] 41) := ⟨_, rfl⟩
  obtain ⟨z, hz⟩ : ∃ z, z = w.heap.size + 1 := ⟨_, rfl⟩
  rw [← hw1, ← hz]
  have sv := hideP (show v.heap.size = z by rw [hv, hz]; simp)
  have c1 := hideP (show Row w1 z 41 z32 by rw [hw1, ← hv, ← sv.out]; exact Row.new v _ z32)
  have bv1 : Below v.heap.size v w1 := by rw [hw1, ← hv]; exact below_new _ _
  have cb := hideP (bstep hb.out bv1)
  have r1 := hideP (Row.after r0.out bv1)
  have hzw := hideP (show w.heap.size ≤ z by omega)
  clear hw1 hv r0 hb sv hz bv1
  go_wp2_with (first
    | (refine wpList_load_row rfl 48 (.tmp 1) rfl w.heap.size rfl 48 C.toArray (0, 0) _ r1.out Try.underlying48 rfl hs.out ?_)
    | (go_at_call 36; refine (hT.out _).mono ?_; rintro e1 w2 ⟨A2, d2, rfl, o2_, b2_⟩; have O2 := hideP o2_; have B2 := hideP (bstep cb.out b2_); have c2 := hideP (Row.after c1.out b2_); clear b2_ o2_)
    | (go_at_call 33; refine (ssum_any A2 P d2 _ O2.out.arr hPB.out hPn.out).mono ?_; rintro e w4 ⟨rfl, hb4⟩; rw [hDe.out]; have c4 := hideP (Row.after c2.out hb4); have cb4 := hideP (B2.out.trans (hb4.mono B2.out.size)))
    | (refine wpList_store_row rfl 41 (.tmp 2) (.tmp 11) rfl z DD.toArray rfl rfl 41 z32.toArray c4.out hds.out hdo.out hDa.out ?_))
  refine ret_row rfl rfl (Row.setRow c4.out DD) Try.underlying41 (by rw [size_dig, hDl.out]) rfl ⟨rfl, ?_⟩
  exact below_setRow' cb4.out hzw.out _
end Go.Proofs.Ytiicdnbhphgieaa
