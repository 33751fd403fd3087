/- The example of chapter 09 comes true. -/
import Derived.Test.YtjdbpeblbejllaaPage6
import Derived.Stop.BytesEq
import Derived.Lib.SlBytesConst
set_option linter.unusedVariables false
set_option linter.unusedSimpArgs false
namespace Go.Proofs.Ytjdbpeblbejllaa
open Go.RowKit
open Go.Maps (Keyed)
theorem sizeU8 (w : World) : (sizeOf 5).run Try.prog w = .ok 1 w := by kernel_rfl
theorem cells_b8 {l : List Nat} (h : IsB l) : l.map b8 = (l.map UInt8.ofNat).map Extern.Stop.cell := by
  rw [List.map_map]
  refine List.map_congr_left fun x hx => ?_
  obtain ⟨i, hi, rfl⟩ := List.getElem_of_mem hx
  have := h i
  simp only [List.getD, List.getElem?_eq_getElem hi, Option.getD_some] at this
  simp only [Function.comp_apply, b8, Extern.Stop.cell, Value.int.injEq, true_and]
  rw [UInt8.toNat_ofNat', Nat.mod_eq_of_lt this]
  rfl
theorem run_eql_dg (l m : List Nat) (hl : l.length = 32) (hm : m.length = 32) (bl : IsB l) (bm : IsB m) (w : World) :
    (binOp .eql 25 (.agg (l.map b8).toArray) (.agg (m.map b8).toArray)).run Try.prog w = .ok (.bool (l == m)) w := by
  have e : (l.map UInt8.ofNat == m.map UInt8.ofNat) = (l == m) := by
    rw [Bool.eq_iff_iff]
    simp only [beq_iff_eq]
    exact ⟨fun h => map_ofNat_inj l m bl bm h, fun h => by rw [h]⟩
  rw [cells_b8 bl, cells_b8 bm, run_eql_bytes w 25 5 32 Try.underlying25 Try.underlying5 sizeU8 _ _ (by simpa using hl) (by simpa using hm), e]
theorem freeze_at (W : World) (b k : Nat) (C : Array Value) (e : TypeId) (hb : W.heap[b]? = some (.cells C e)) : (W.freeze ⟨b, k, none⟩ 1).heap[b]? = some (.cells C e (k, k + 1)) := by
  unfold World.freeze
  rw [if_neg (by decide)]
  simp only [Array.getElem?_modify, hb, if_true, Option.map_some]
  rfl
theorem freeze_other (W : World) (b k j : Nat) (h : j ≠ b) : (W.freeze ⟨b, k, none⟩ 1).heap[j]? = W.heap[j]? := by
  unfold World.freeze
  rw [if_neg (by decide)]
  simp only [Array.getElem?_modify]
  rw [if_neg (fun e => h e.symm)]
theorem freeze_size (W : World) (a : Addr) : (W.freeze a 1).heap.size = W.heap.size := by
  unfold World.freeze
  rw [if_neg (by decide)]
  simp
theorem But.freeze {S : Nat → Prop} (W : World) (b k : Nat) (h : S b) : But S W (W.freeze ⟨b, k, none⟩ 1) :=
  ⟨Nat.le_of_eq (freeze_size W _).symm, fun j hj hn => freeze_other W b k j (fun e => hn (e ▸ h)), rfl, rfl, rfl⟩
theorem run_convert_mark {P : Program} (W : World) (t e : TypeId) (C : Array Value) (b n c : Nat) (hb : W.heap[b]? = some (.cells C e)) (ht : P.underlying t = some (.slice e)) (he : P.underlying e = some (.int .u8)) :
    (convert t t (.slice (some ⟨b, 0, none⟩) n c)).run P W = .ok (.slice (some ⟨b, 0, none⟩) n c) (W.freeze ⟨b, C.size, none⟩ 1) := by
  have hsh : W.shape? b = some (e, C.size) := by
    unfold World.shape?
    rw [hb]
  simp [convert, run_underlying ht, run_underlying he, markStringish, hsh]
/-- bytes that the call has just laid, marked -/
theorem arr_lit (W : World) (b : Nat) (l : List Nat) (fr : Nat × Nat) (hb : W.heap[b]? = some (.cells (l.map b8).toArray 5 fr)) : Arr W W.heap.size (some ⟨b, 0, none⟩) l.length (u8s l) := fun hn =>
  ⟨b, 0, rfl, (Array.getElem?_eq_some_iff.1 hb).1, fun i hi => by
    rw [Nat.zero_add, cell_of_row W b i _ _ _ hb]
    simp [u8s, b8, List.getD, List.getElem?_eq_getElem hi]⟩
theorem but_is_ext {w W : World} (h : But (fun b => w.heap.size ≤ b) w.drew W) : Ext w W := ⟨h.size, fun k hk => h.block k hk (by omega), h.os, h.tape, h.output⟩
set_option maxRecDepth 100000 in
set_option maxHeartbeats 1000000 in
theorem alive09 (w : World) : Calls Try.prog 11 #[] w fun e w' => e = .returned (.bool true) ∧ Below w.heap.size w w' := by
  obtain ⟨t, ht⟩ : ∃ t : List Nat, t = [97, 98] := ⟨_, rfl⟩
  have htl := hideP (show t.length = 2 by rw [ht]; rfl)
  have htb := hideP (show IsB t by rw [ht]; intro i; rcases i with _ | _ | i <;> simp)
  have htn := hideP (show t.length ≤ 100000000 by rw [htl.out]; decide)
  have ht' := hideP ht
  obtain ⟨l, hl⟩ : ∃ l, l = sum9 t := ⟨_, rfl⟩
  have hll := hideP (show l.length = 32 by rw [hl]; exact sum9_len t)
  have hlb := hideP (show IsB l by rw [hl]; exact isB_dig _)
  have hpd := hideP (show pageD t = l.map b8 by rw [hl]; rfl)
  have hlt := hideP hl
  have hds := hideP (show (Try.prog.info? 25).map (·.size) = some (l.map b8).toArray.size by rw [size_dig]; simp [hll.out])
  have hdo := hideP (show z32.toArray.size = (l.map b8).toArray.size by simp [hll.out, z32])
  have hda := hideP (show (l.map b8).toArray.all (·.oneCell') = true from all_b8 _)
  have hsz := hideP (size_dg l hll.out)
  have p1 := hideP (show putL [] t = [t] by simp [putL])
  have p2 := hideP (show putC [] none t = none by simp [putC])
  have p3 := hideP (show putL [t] t = [t] by simp [putL])
  have p4 := hideP (show putC [t] none t = none by simp [putC])
  have p5 := hideP (show keepL [t] [] = [] by simp [keepL])
  clear ht hl
  have kc := fun (w : World) (C : Array Value) (n c : Nat) => Lib.run_convert_bytes_const (P := Try.prog) w 22 5 C n c Try.underlying22 Try.underlying5
  go_enter Try.func11, Try.ntmps11
  go_upto_region 4 with (go_at_call 16; refine (pnew_any w).mono ?_; rintro e w1 ⟨g, S, rfl, hb1, hP1, hS1⟩; have b1 := hideP hb1; have P1 := hideP hP1; have s1 := hideP hS1; clear hb1 hP1 hS1)
  have hA := hideP (show Arr (w1.alloc (.cells #[.int .u8 97, .int .u8 98] 5 (2, 3))) (w1.alloc (.cells #[.int .u8 97, .int .u8 98] 5 (2, 3))).heap.size (some ⟨w1.heap.size, 0, none⟩) t.length (u8s t) by
    rw [ht'.out]
    exact arr_lit _ _ [97, 98] (2, 3) (heap_alloc_new w1 _))
  have Q1 := hideP (P1.out.after (below_new w1 (.cells #[.int .u8 97, .int .u8 98] 5 (2, 3))))
  have c1 := hideP (b1.out.alloc b1.out.size (.cells #[.int .u8 97, .int .u8 98] 5 (2, 3)))
  have hput := pput_any g S [] none (some ⟨w1.heap.size, 0, none⟩) t 2 _ Q1.out hA.out htb.out htn.out
  rw [htl.out, p1.out, p2.out, hpd.out] at hput
  have hput1 := hideP hput
  clear hput
  go_upto_region 5 with (first
    | (go_at_call 17; refine hput1.out.mono ?_; rintro e w2 ⟨S2, rfl, hb2, hS2, hP2⟩; have b2 := hideP (c1.out.trans (hb2.below s1.out c1.out.size)); have P2 := hideP hP2; have s2 := hideP (show ∀ b, S2 b → w.heap.size ≤ b from fun b hb => (hS2 b hb).elim (s1.out b) (fun h => Nat.le_trans c1.out.size h)); clear hb2 hS2 hP2)
    | (refine wpList_store_row rfl 25 (.tmp 2) (.tmp 15) rfl w2.heap.size (l.map b8).toArray rfl rfl 25 z32.toArray (Row.new w2 _ z32) hds.out hdo.out hda.out ?_))
  simp only [Act.put]
  obtain ⟨D, hD⟩ : ∃ D, D = w2.heap.size := ⟨_, rfl⟩
  obtain ⟨w3, hw3⟩ : ∃ w3, w3 = (w2.alloc (Obj.cells #[.int .u8 0, .int .u8 0, .int .u8 0, .int .u8 0, .int .u8 0, .int .u8 0, .int .u8 0, .int .u8 0, .int .u8 0, .int .u8 0, .int .u8 0, .int .u8 0, .int .u8 0, .int .u8 0, .int .u8 0, .int .u8 0, .int .u8 0, .int .u8 0, .int .u8 0, .int .u8 0, .int .u8 0, .int .u8 0, .int .u8 0, .int .u8 0, .int .u8 0, .int .u8 0, .int .u8 0, .int .u8 0, .int .u8 0, .int .u8 0, .int .u8 0, .int .u8 0] 25)).setRow w2.heap.size (l.map b8).toArray := ⟨_, rfl⟩
  have d3 := hideP (show Row w3 D 25 (l.map b8) by rw [hw3, hD]; exact Row.setRow (Row.new w2 _ z32) _)
  have bb := hideP (show Below w2.heap.size w2 w3 by rw [hw3]; exact below_setRow' (below_new _ _) (Nat.le_refl _) _)
  have nD := hideP (show ¬ S2 D from fun h => by have := P2.out.fresh D h; omega)
  rw [← hw3, ← hD]
  have P3 := hideP (P2.out.after bb.out)
  have b3 := hideP (b2.out.trans (bb.out.mono b2.out.size))
  clear hw3 hD bb b2 P2 hput1 hA Q1 c1 b1 P1
  have hget := pget_in g S2 [t] none t l w3 P3.out (by simp) hlt.out.symm
  unfold dg at hget
  rw [htl.out] at hget
  have hget' := hideP hget
  clear hget
  go_upto_region 6 with (first
    | (refine wpList_load_row rfl 25 (.tmp 2) rfl D rfl 25 (l.map b8).toArray (0, 0) _ d3.out Try.underlying25 rfl hds.out ?_)
    | (go_at_call 18; refine hget'.out.mono ?_; rintro e w4 ⟨R, d, rfl, hb4, ho⟩; have b4 := hideP (b3.out.trans (hb4.mono b3.out.size)); have o4 := hideP (show ArrS (fun b => ¬ S2 b ∧ b < w4.heap.size) w4 R t.length (u8s t) from fun hn0 => (ho.arrS hn0).elim fun q h => h.elim fun off h => ⟨q, off, h.1, ⟨fun h2 => Nat.lt_irrefl _ (Nat.lt_of_lt_of_le (P3.out.fresh q h2) h.2.1), h.2.2.1⟩, h.2.2.1, h.2.2.2⟩); have d4 := hideP (Row.after d3.out hb4); have P4 := hideP (P3.out.after hb4); clear hb4 ho))
  clear hget' d3 P3 b3
  have hA := hideP (show Arr (w4.alloc (.cells #[.int .u8 97, .int .u8 98] 5 (2, 3))) (w4.alloc (.cells #[.int .u8 97, .int .u8 98] 5 (2, 3))).heap.size (some ⟨w4.heap.size, 0, none⟩) t.length (u8s t) by
    rw [ht'.out]
    exact arr_lit _ _ [97, 98] (2, 3) (heap_alloc_new w4 _))
  have Q1 := hideP (P4.out.after (below_new w4 (.cells #[.int .u8 97, .int .u8 98] 5 (2, 3))))
  have c1 := hideP (b4.out.alloc b4.out.size (.cells #[.int .u8 97, .int .u8 98] 5 (2, 3)))
  have d1 := hideP (Row.alloc d4.out (.cells #[.int .u8 97, .int .u8 98] 5 (2, 3)))
  have o1 := hideP (o4.out.keep (w' := w4.alloc (.cells #[.int .u8 97, .int .u8 98] 5 (2, 3))) (fun b hb => Below.heap_alloc w4 _ b hb.2) (by simp))
  have z1 := hideP (show w4.heap.size ≤ (w4.alloc (.cells #[.int .u8 97, .int .u8 98] 5 (2, 3))).heap.size by simp)
  have hput := pput_any g S2 [t] none (some ⟨w4.heap.size, 0, none⟩) t 2 _ Q1.out hA.out htb.out htn.out
  rw [htl.out, p3.out, p4.out, hpd.out] at hput
  have hput1 := hideP hput
  clear hput
  go_upto_region 7 with (go_at_call 17; refine hput1.out.mono ?_; rintro e w5 ⟨S5, rfl, hb5, hS5, hP5⟩; have b5 := hideP (c1.out.trans (hb5.below s2.out c1.out.size)); have x5 := hideP hb5; have P5 := hideP hP5; have s5 := hideP (show ∀ b, S5 b → w.heap.size ≤ b from fun b hb => (hS5 b hb).elim (s2.out b) (fun h => Nat.le_trans c1.out.size h)); have hS5' := hideP hS5; clear hb5 hS5 hP5)
  have hlen := plen_any g S5 [t] none w5 P5.out
  have hkeep := pkeep_any g S5 [t] none none [] 0 0 w5 P5.out (fun h => by simp at h) rfl (by simp) (by omega) (by simp)
  rw [show ([t] : List (List Nat)).length = 1 from rfl] at hlen hkeep
  rw [p5.out] at hkeep
  rw [show (((1 : Nat) : Int) - (([] : List (List Nat)).length : Int)) = 1 from rfl] at hkeep
  rw [show ((1 : Nat) : Int) = 1 from rfl] at hlen
  have hlen' := hideP hlen
  have hkeep' := hideP hkeep
  clear hlen hkeep
  go_upto_region 8 with (go_at_call 26; refine hlen'.out.mono ?_; rintro e w' ⟨rfl, rfl⟩)
  go_upto_region 9 with (go_at_call 23; refine hkeep'.out.mono ?_; rintro e w6 ⟨rfl, hb6, hP6⟩; have x6 := hideP hb6; have P6 := hideP hP6; clear hb6 hP6)
  have nD5 := hideP (show ¬ S5 D from fun h => (hS5'.out D h).elim nD.out fun h => by have := Row.lt d4.out; have := z1.out; omega)
  have d5 := hideP (show Row w5 D 25 (l.map b8) from (x5.out.block D (Row.lt d1.out) nD.out).trans d1.out)
  have d6 := hideP (show Row w6 D 25 (l.map b8) from (x6.out.block D (Row.lt d5.out) nD5.out).trans d5.out)
  have o5 := hideP (o1.out.keep (w' := w5) (fun b hb => x5.out.block b (Nat.lt_of_lt_of_le hb.2 z1.out) hb.1) x5.out.size)
  have o6 := hideP (o5.out.keep (w' := w6) (fun b hb => x6.out.block b (Nat.lt_of_lt_of_le (Nat.lt_of_lt_of_le hb.2 z1.out) x5.out.size) (fun h => (hS5'.out b h).elim hb.1 fun h => by have := hb.2; have := z1.out; omega)) x6.out.size)
  have b6 := hideP (b5.out.trans (x6.out.below s5.out b5.out.size))
  clear hlen' hkeep' x5 x6 hS5' P5 P4 o1 o4 o5 d1 d4 d5 hA Q1 c1 hput1 b4 b5
  have hget := pget_out g S5 [] none l w6 P6.out hll.out hlb.out (fun u hu => by simp at hu)
  unfold dg at hget
  have hget' := hideP hget
  clear hget
  go_upto_region 10 with (first
    | (refine wpList_load_row rfl 25 (.tmp 2) rfl D rfl 25 (l.map b8).toArray (0, 0) _ d6.out Try.underlying25 rfl hds.out ?_)
    | (go_at_call 18; refine hget'.out.mono ?_; rintro e w7 ⟨rfl, hb7⟩; have b7 := hideP (b6.out.trans (hb7.mono b6.out.size)); have d7 := hideP (Row.after d6.out hb7); have o7 := hideP (o6.out.arr.after hb7); clear hb7))
  clear hget' P6 o6 d6 b6 kc
  have hcs := hideP (fun (W : World) (hW : Ext w7 W) => run_str (P := Try.prog) W 22 5 Try.underlying22 Try.underlying5 (c := d) (o7.out.ext hW) rfl 9 Try.underlying9)
  rw [htl.out] at hcs
  have htx : (bstr t).toList = [97, 98] := by rw [toList_bstr, ht'.out]; rfl
  have hq : ∀ W, (binOp .eql 25 (.agg (l.map b8).toArray) (.agg (l.map b8).toArray)).run Try.prog W = .ok (.bool true) W := fun W => by rw [run_eql_dg l l hll.out hll.out hlb.out hlb.out]; simp
  refine wp_region_mut (S := fun b => w7.heap.size ≤ b) 27 (.q 0 (.q 1 (.q 2 (.q 3 (.q 4 (.q 5 (.q 6 (.q 7 (.q 8 (.q 9 (.q 10 (.q 11 (.q 12 (.q 13 (.q 14 (.q 15 (.q 16 (.q 17 (.q 18 (.q 19 (.q 20 (.l 21 (.l 22 (.l 23 (.q 24 (.q 25 (.q 26 .nil))))))))))))))))))))))))))) (by kernel_rfl) (by kernel_rfl) ?_
  simp only [pickT, nthO_zero, nthO_succ]
  iterate 21 (first
    | (refine wpM_skipK (by rfl) (fun K hK => ?_); go_simp; refine hK _ ?_; clear hK K)
    | (refine wpM_valK (by rfl) (fun K hK => ?_); refine ⟨.agg (l.map b8).toArray, fun W hW => exec_load_mid 25 (.tmp 2) rfl D 0 rfl (l.map b8) _ (Row.range (Row.ext d7.out (but_is_ext hW))) Try.underlying25 rfl hsz.out, ?_⟩; go_simp; refine hK _ ?_; clear hK K)
    | (refine wpM_valK (by rfl) (fun K hK => ?_); apply Exists.intro; refine ⟨fun W hW => ?_, ?_⟩; (focus (have hs0 := hcs.out W (but_is_ext hW); go_simp; (try rfl); done)); go_simp; refine hK _ ?_; clear hK K))
  refine wpM_buildK (by rfl) (fun W hW => ?_)
  refine ⟨.slice (some ⟨W.heap.size, 0, none⟩) 2 2, W.alloc (.cells #[.int .u8 97, .int .u8 98] 5), ⟨by go_simp, Ext.alloc _ _⟩, fun K hK => ?_⟩
  go_simp
  refine hK _ ?_
  clear hK K
  obtain ⟨b, hb⟩ : ∃ b, b = W.heap.size := ⟨_, rfl⟩
  have hbW := hideP (show w7.heap.size ≤ b by rw [hb]; exact hW.drew_left.size)
  have hbx := hideP (show Ext w7 (W.alloc (.cells #[.int .u8 97, .int .u8 98] 5)) from hW.drew_left.trans (Ext.alloc _ _))
  have hbc := hideP (show (W.alloc (.cells #[.int .u8 97, .int .u8 98] 5)).heap[b]? = some (.cells #[.int .u8 97, .int .u8 98] 5) by rw [hb]; exact heap_alloc_new _ _)
  rw [← hb]
  clear hb hW
  refine wpM_turnK (by rfl) (fun W1 hW1 => ?_)
  have hc1 := hideP (show W1.heap[b]? = some (.cells #[.int .u8 97, .int .u8 98] 5) from (hW1.block b (Array.getElem?_eq_some_iff.1 hbc.out).1).trans hbc.out)
  have hx1 := hideP (hbx.out.trans hW1)
  have hcv := run_convert_mark (P := Try.prog) W1 22 5 _ b 2 2 hc1.out Try.underlying22 Try.underlying5
  obtain ⟨W2, hW2⟩ : ∃ W2, W2 = W1.freeze ⟨b, 2, none⟩ 1 := ⟨_, rfl⟩
  have hcv1 : (convert 22 22 (.slice (some ⟨b, 0, none⟩) 2 2)).run Try.prog W1 = .ok (.slice (some ⟨b, 0, none⟩) 2 2) W2 := by rw [hW2]; exact hcv
  refine ⟨.slice (some ⟨b, 0, none⟩) 2 2, W2, ⟨by go_simp, by rw [hW2]; exact But.freeze W1 b 2 hbW.out⟩, fun K hK => ?_⟩
  clear hcv hcv1
  have hc2 := hideP (show W2.heap[b]? = some (.cells #[.int .u8 97, .int .u8 98] 5 (2, 3)) by rw [hW2]; exact freeze_at W1 b 2 _ _ hc1.out)
  have hx2 := hideP (show Ext w7 W2 from ⟨by rw [hW2, freeze_size]; exact hx1.out.size, fun k hk => by rw [hW2, freeze_other W1 b 2 k (by have := hbW.out; omega)]; exact hx1.out.block k hk, by rw [hW2]; exact hx1.out.os, by rw [hW2]; exact hx1.out.tape, by rw [hW2]; exact hx1.out.output⟩)
  clear hW2 hW1 hbc hbx
  go_simp
  refine hK _ ?_
  clear hK K
  have hA2 := hideP (show Arr W2 W2.heap.size (some ⟨b, 0, none⟩) t.length (u8s t) by rw [ht'.out]; exact arr_lit _ _ [97, 98] (2, 3) hc2.out)
  refine wpM_loudK 12 #[.slice (some ⟨b, 0, none⟩) 2 2] (by rfl) (fun W' => by go_simp) (fun W3 hW3 => ?_)
  have hps := psum_any (some ⟨b, 0, none⟩) t 2 W3 (hA2.out.ext hW3) htb.out htn.out
  rw [htl.out, hpd.out] at hps
  refine hps.mono ?_
  rintro e W4 ⟨rfl, hb4⟩
  refine ⟨_, rfl, Ext.of_below hb4, fun K hK => ?_⟩
  have hx4 := hideP (hx2.out.trans (hW3.trans (Ext.of_below hb4)))
  clear hps hW3 hb4
  go_simp
  refine hK _ ?_
  clear hK K
  iterate 3 (refine wpM_valK (by rfl) (fun K hK => ?_); apply Exists.intro; refine ⟨fun W hW => ?_, ?_⟩; (focus (go_simp; (try rfl); done)); go_simp; refine hK _ ?_; clear hK K)
  refine wpM_nil (fun W5 hW5 => ?_)
  simp only [List.drop_succ_cons, List.drop_zero, List.drop_nil]
  have hx5 := hideP (hx4.out.trans hW5)
  clear hW5 hq htx hcs
  go_wp2
  go_ret
  exact ⟨rfl, b7.out.trans (hx5.out.below.mono b7.out.size)⟩
end Go.Proofs.Ytjdbpeblbejllaa
