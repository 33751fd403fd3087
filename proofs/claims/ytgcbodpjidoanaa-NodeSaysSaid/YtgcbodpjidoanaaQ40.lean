/- Contract of page's Put of a text whose sum is there. -/
import Derived.Test.YtgcbodpjidoanaaQ39
set_option linter.unusedVariables false
set_option linter.unusedSimpArgs false
namespace Go.Proofs.Ytgcbodpjidoanaa
open Go.RowKit
open Go.Maps (Keyed)

/-- the store behind a clash -/
theorem PSt.clash {S : Nat → Prop} {w W : World} {g bm : Nat} {L : List (List Nat)} {A : List Nat → Option Addr} {c : List Nat → Nat} {a b : Option Addr} {ca cb : Nat} {x y t u : List Nat}
    (hP : ∀ t ∈ L, ArrS S w (A t) t.length (u8s t) ∧ IsB t ∧ t.length ≤ 100000000) (hf : ∀ b, S b → b < w.heap.size) (hg : S g) (hm : S bm) (hne : g ≠ bm)
    (hW : ∀ b, S b → b ≠ g → W.heap[b]? = w.heap[b]?) (hs : w.heap.size ≤ W.heap.size) {o : Value} {os : List Value} (hg0 : Row w g 224 [.map (some bm), .slice a x.length ca, .slice b y.length cb, .bool false])
    {R : Option Addr} {dc : Nat} (hRow : Row W g 224 [.map (some bm), .slice (A u) u.length (c u), .slice R t.length dc, .bool true]) (hE : Ents Try.prog 37 w bm (entsOf A c L))
    (hR : ArrS (fun b => w.heap.size ≤ b) W R t.length (u8s t)) (ht : IsB t) (hn : t.length ≤ 100000000) (hu : u ∈ L) (hst : sum9 u = sum9 t) (hut : u ≠ t) :
    PSt W (fun b => S b ∨ (w.heap.size ≤ b ∧ b < W.heap.size)) g L (some (u, t)) := by
  have hk : ∀ {A : Option Addr} {n : Nat} {l : List Nat}, ArrS S w A n (u8s l) → ArrS (fun b => S b ∨ (w.heap.size ≤ b ∧ b < W.heap.size)) W A n (u8s l) := fun {A n l} h hn0 => by
    obtain ⟨q, off, hA, hS, hb, hc⟩ := h hn0
    have hq : q ≠ g := fun e => by
      have := hc 0 hn0
      rw [e, Row.cell hg0] at this
      unfold u8s at this
      rcases off with _ | _ | _ | _ | off <;> simp at this
    exact ⟨q, off, hA, .inl hS, by omega, fun i hi => (World.cell?_of_block (w := w) (hW q hS hq)).trans (hc i hi)⟩
  refine ⟨bm, A, c, A u, R, c u, dc, u, t, hRow, hE.of_block (hW bm hm (Ne.symm hne)), .inl hg, .inl hm, hne, fun v hv => ⟨hk (hP v hv).1, (hP v hv).2⟩, hk (hP u hu).1, fun hn0 => ?_, fun q hq => hq.elim (fun h => Nat.lt_of_lt_of_le (hf q h) hs) (fun h => h.2), (hP u hu).2.1, ht, (hP u hu).2.2, hn, (fun h => by cases h), (fun p hp => by cases hp; exact ⟨rfl, hst, hut⟩)⟩
  obtain ⟨q, off, hA, hS, hb, hc⟩ := hR hn0
  exact ⟨q, off, hA, .inr ⟨hS, hb⟩, hb, hc⟩
set_option maxRecDepth 100000 in
set_option maxHeartbeats 1000000 in
theorem pput_some (g : Nat) (S : Nat → Prop) (L : List (List Nat)) (p : List Nat × List Nat) (At : Option Addr) (t : List Nat) (ct : Nat) (w : World) (h : PSt w S g L (some p)) (hA : Arr w w.heap.size At t.length (u8s t)) (ht : IsB t) (hn : t.length ≤ 100000000)
    (u : List Nat) (hu : u ∈ L) (hs : sum9 u = sum9 t) :
    Calls Try.prog 157 #[.pointer (some ⟨g, 0, none⟩), .slice At t.length ct] w fun e w' => ∃ S', e = .returned (.agg (pageD t).toArray) ∧ But S w w' ∧ (∀ b, S' b → S b ∨ w.heap.size ≤ b) ∧ PSt w' S' g L (some p) := by
  obtain ⟨bm, A, c, a, b, ca, cb, x, y, h1, h2, h3, h4, h5, h6, h7, h8, h9, h10⟩ := h
  have hP := hideP h6
  have hx := hideP h7
  have hy := hideP h8
  have hf := hideP h9
  have hr := hideP h10
  have hSg := hideP h3
  have hSb := hideP h4
  have hgb := hideP h5
  have hRow := hideP h1
  have hE := hideP h2
  obtain ⟨l, hl⟩ : ∃ l, l = sum9 t := ⟨_, rfl⟩
  have hll := hideP (show l.length = 32 by rw [hl]; exact sum9_len t)
  obtain ⟨kl, hkl⟩ := key_dg l hll.out (by rw [hl]; exact isB_dig _)
  have hkk := hideP hkl
  have hpd := hideP (show pageD t = l.map b8 by rw [hl]; rfl)
  have hlt := hideP hl
  have hds := hideP (show (Try.prog.info? 37).map (·.size) = some (l.map b8).toArray.size by rw [size_dig]; simp [hll.out])
  have hdo := hideP (show z32.toArray.size = (l.map b8).toArray.size by simp [hll.out, z32])
  have hda := hideP (show (l.map b8).toArray.all (·.oneCell') = true from all_b8 _)
  have hsz := hideP (size_dg l hll.out)
  have hgl := hideP (hf.out g hSg.out)
  have hbl := hideP (hf.out bm hSb.out)
  rw [hpd.out]
  have HhA := hideP hA; have Hht := hideP ht; have Hhn := hideP hn; clear hA ht hn
  clear h1 h2 h3 h4 h5 h6 h7 h8 h9 h10 hkl hl
  have hin := hideP (show (dg l, Value.slice (A u) u.length (c u)) ∈ entsOf A c L from List.mem_map.2 ⟨u, hu, by rw [hs, hlt.out]⟩)
  have hAu := hideP (hP.out u hu).1
  have hBu := hideP (hP.out u hu).2
  have hBs := hideP hs
  have hBi := hideP hu
  clear hs hu
  go_enter Try.func157, Try.ntmps157
  go_upto_region 1 with fail
  obtain ⟨w1, hw1⟩ : ∃ w1, w1 = w.alloc (Obj.cells #[.int .u8 0, .int .u8 0, .int .u8 0, .int .u8 0, .int .u8 0, .int .u8 0, .int .u8 0, .int .u8 0, .int .u8 0, .int .u8 0, .int .u8 0, .int .u8 0, .int .u8 0, .int .u8 0, .int .u8 0, .int .u8 0, .int .u8 0, .int .u8 0, .int .u8 0, .int .u8 0, .int .u8 0, .int .u8 0, .int .u8 0, .int .u8 0, .int .u8 0, .int .u8 0, .int .u8 0, .int .u8 0, .int .u8 0, .int .u8 0, .int .u8 0, .int .u8 0] 37) := ⟨_, rfl⟩
  have r1 := hideP (show Row w1 w.heap.size 37 z32 by rw [hw1]; exact Row.new w _ z32)
  have b1 := hideP (show Below w.heap.size w w1 by rw [hw1]; exact below_new _ _)
  rw [← hw1]
  clear hw1
  have A1 := hideP (HhA.out.after b1.out)
  go_upto_region 2 with (first
    | (go_at_call 105; refine (psum_any At t ct _ A1.out Hht.out (by have := Hhn.out; omega)).mono ?_; rintro e w2 ⟨rfl, hb2⟩; rw [hpd.out]; have b2 := hideP (b1.out.trans (hb2.mono b1.out.size)); have r2 := hideP (Row.after r1.out hb2))
    | (refine wpList_store_row rfl 37 (.tmp 5) (.tmp 9) rfl w2.heap.size (l.map b8).toArray rfl rfl 37 z32.toArray (Row.new w2 _ z32) hds.out hdo.out hda.out ?_))
  obtain ⟨d, hd⟩ : ∃ d, d = w2.heap.size := ⟨_, rfl⟩
  obtain ⟨w3, hw3⟩ : ∃ w3, w3 = (w2.alloc (Obj.cells #[.int .u8 0, .int .u8 0, .int .u8 0, .int .u8 0, .int .u8 0, .int .u8 0, .int .u8 0, .int .u8 0, .int .u8 0, .int .u8 0, .int .u8 0, .int .u8 0, .int .u8 0, .int .u8 0, .int .u8 0, .int .u8 0, .int .u8 0, .int .u8 0, .int .u8 0, .int .u8 0, .int .u8 0, .int .u8 0, .int .u8 0, .int .u8 0, .int .u8 0, .int .u8 0, .int .u8 0, .int .u8 0, .int .u8 0, .int .u8 0, .int .u8 0, .int .u8 0] 37)).setRow w2.heap.size (l.map b8).toArray := ⟨_, rfl⟩
  have d3 := hideP (show Row w3 d 37 (l.map b8) by rw [hw3, hd]; exact Row.setRow (Row.new w2 _ z32) _)
  have b3 := hideP (show Below w.heap.size w w3 by rw [hw3]; exact below_setRow' (b2.out.alloc b2.out.size _) b2.out.size _)
  have rd := hideP (show w.heap.size < d by rw [hd]; exact Row.lt r2.out)
  have r3 := hideP (show Row w3 w.heap.size 37 z32 by rw [hw3]; exact Row.setRowOther (Row.alloc r2.out _) (by rw [← hd]; have := rd.out; omega) _)
  rw [← hw3, ← hd]
  clear hw3 hd r2 b2 r1 b1 A1
  have RW := hideP (show Row w3 g 224 _ from Row.below hRow.out b3.out hgl.out)
  have c0 := Row.cell RW.out 0
  simp only [List.getElem?_cons_zero] at c0
  have hE3 := hideP (hE.out.of_block (w' := w3) (b3.out.block bm hbl.out))
  refine wp_region_eager 11 [(true, 0), (true, 1), (true, 2), (true, 3), (true, 4), (true, 5), (true, 6), (true, 7), (true, 8), (true, 9), (true, 10)] (by kernel_rfl) (by kernel_rfl) ?_
  simp only [pick, List.map_cons, List.map_nil, nthO_zero, nthO_succ]
  repeat (first
    | (refine wpPlan_skipK (by rfl) (fun K hK => ?_); go_simp; refine hK _ ?_; clear hK K)
    | (refine wpPlan_valK (by rfl) (fun K hK => ?_); refine ⟨.agg (l.map b8).toArray, fun W hW => exec_load_mid 37 (.tmp 5) rfl d 0 rfl (l.map b8) _ (Row.range (Row.ext d3.out hW.drew_left)) Try.underlying37 rfl hsz.out, ?_⟩; go_simp; refine hK _ ?_; clear hK K)
    | (refine wpPlan_valK (by rfl) (fun K hK => ?_); refine ⟨.tuple #[.slice (A u) u.length (c u), .bool true], fun W hW => exec_look 222 _ _ true rfl (.map (some bm)) (.agg (l.map b8).toArray) _ rfl rfl (Ents.look_in (hE3.out.of_block (hW.drew_left.block bm hE3.out.lt)) keyD Try.underlying222 hkk.out hin.out true), ?_⟩; go_simp; refine hK _ ?_; clear hK K)
    | (refine wpPlan_valK (by rfl) (fun K hK => ?_); apply Exists.intro; refine ⟨fun W hW => ?_, ?_⟩; (focus (have hs0 := hW.cell c0; go_simp; (try rfl); done)); go_simp; refine hK _ ?_; clear hK K))
  refine wpPlan_nil (fun W hW0 => ?_)
  simp only [List.drop_succ_cons, List.drop_zero, List.drop_nil]
  have b4 := hideP (b3.out.trans (hW0.drew_left.below.mono b3.out.size))
  have d4 := hideP (Row.ext d3.out hW0.drew_left)
  have r4 := hideP (Row.ext r3.out hW0.drew_left)
  have R4 := hideP (Row.ext RW.out hW0.drew_left)
  clear hW0 d3 r3 RW b3 hE3 c0
  have c3 := Row.cell R4.out 3
  simp only [List.getElem?_cons_zero, List.getElem?_cons_succ] at c3
  have hAW := hideP (hAu.out.keep (fun q hq => b4.out.block q (hf.out q hq)) b4.out.size).arr
  have hTW := hideP (HhA.out.after b4.out)
  simp only [Option.isSome_some] at c3
  go_wp2_with (first
    | (refine wpList_load_row rfl 37 (.tmp 5) rfl d rfl 37 (l.map b8).toArray (0, 0) _ d4.out Try.underlying37 rfl hds.out ?_)
    | (refine wpList_store_row rfl 37 (.tmp 4) (.tmp 53) rfl w.heap.size (l.map b8).toArray rfl rfl 37 z32.toArray r4.out hds.out hdo.out hda.out ?_))
  refine ret_row rfl rfl (Row.setRow r4.out (l.map b8)) Try.underlying37 (by rw [size_dig, List.length_map, hll.out]) rfl ⟨S, rfl, ?_⟩
  have bB : Below w.heap.size w (W.setRow w.heap.size (l.map b8).toArray) := below_setRow' b4.out (Nat.le_refl _) _
  refine ⟨But.of_ext (Ext.of_below bB), fun b hb => .inl hb, ?_⟩
  have hPS : PSt w S g L (some p) := ⟨bm, A, c, a, b, ca, cb, x, y, hRow.out, hE.out, hSg.out, hSb.out, hgb.out, hP.out, hx.out, hy.out, hf.out, by simpa using hr.out⟩
  exact hPS.after bB
set_option maxRecDepth 100000 in
set_option maxHeartbeats 1000000 in
theorem pput_same (g : Nat) (S : Nat → Prop) (L : List (List Nat)) (At : Option Addr) (t : List Nat) (ct : Nat) (w : World) (h : PSt w S g L none) (hA : Arr w w.heap.size At t.length (u8s t)) (ht : IsB t) (hn : t.length ≤ 100000000)
    (u : List Nat) (hu : u ∈ L) (hs : sum9 u = sum9 t) (he : u = t) :
    Calls Try.prog 157 #[.pointer (some ⟨g, 0, none⟩), .slice At t.length ct] w fun e w' => ∃ S', e = .returned (.agg (pageD t).toArray) ∧ But S w w' ∧ (∀ b, S' b → S b ∨ w.heap.size ≤ b) ∧ PSt w' S' g L none := by
  have Hhe := hideP he; clear he
  obtain ⟨bm, A, c, a, b, ca, cb, x, y, h1, h2, h3, h4, h5, h6, h7, h8, h9, h10⟩ := h
  have hP := hideP h6
  have hx := hideP h7
  have hy := hideP h8
  have hf := hideP h9
  have hr := hideP h10
  have hSg := hideP h3
  have hSb := hideP h4
  have hgb := hideP h5
  have hRow := hideP h1
  have hE := hideP h2
  obtain ⟨l, hl⟩ : ∃ l, l = sum9 t := ⟨_, rfl⟩
  have hll := hideP (show l.length = 32 by rw [hl]; exact sum9_len t)
  obtain ⟨kl, hkl⟩ := key_dg l hll.out (by rw [hl]; exact isB_dig _)
  have hkk := hideP hkl
  have hpd := hideP (show pageD t = l.map b8 by rw [hl]; rfl)
  have hlt := hideP hl
  have hds := hideP (show (Try.prog.info? 37).map (·.size) = some (l.map b8).toArray.size by rw [size_dig]; simp [hll.out])
  have hdo := hideP (show z32.toArray.size = (l.map b8).toArray.size by simp [hll.out, z32])
  have hda := hideP (show (l.map b8).toArray.all (·.oneCell') = true from all_b8 _)
  have hsz := hideP (size_dg l hll.out)
  have hgl := hideP (hf.out g hSg.out)
  have hbl := hideP (hf.out bm hSb.out)
  rw [hpd.out]
  have HhA := hideP hA; have Hht := hideP ht; have Hhn := hideP hn; clear hA ht hn
  clear h1 h2 h3 h4 h5 h6 h7 h8 h9 h10 hkl hl
  have hin := hideP (show (dg l, Value.slice (A u) u.length (c u)) ∈ entsOf A c L from List.mem_map.2 ⟨u, hu, by rw [hs, hlt.out]⟩)
  have hAu := hideP (hP.out u hu).1
  have hBu := hideP (hP.out u hu).2
  have hBs := hideP hs
  have hBi := hideP hu
  clear hs hu
  go_enter Try.func157, Try.ntmps157
  go_upto_region 1 with fail
  obtain ⟨w1, hw1⟩ : ∃ w1, w1 = w.alloc (Obj.cells #[.int .u8 0, .int .u8 0, .int .u8 0, .int .u8 0, .int .u8 0, .int .u8 0, .int .u8 0, .int .u8 0, .int .u8 0, .int .u8 0, .int .u8 0, .int .u8 0, .int .u8 0, .int .u8 0, .int .u8 0, .int .u8 0, .int .u8 0, .int .u8 0, .int .u8 0, .int .u8 0, .int .u8 0, .int .u8 0, .int .u8 0, .int .u8 0, .int .u8 0, .int .u8 0, .int .u8 0, .int .u8 0, .int .u8 0, .int .u8 0, .int .u8 0, .int .u8 0] 37) := ⟨_, rfl⟩
  have r1 := hideP (show Row w1 w.heap.size 37 z32 by rw [hw1]; exact Row.new w _ z32)
  have b1 := hideP (show Below w.heap.size w w1 by rw [hw1]; exact below_new _ _)
  rw [← hw1]
  clear hw1
  have A1 := hideP (HhA.out.after b1.out)
  go_upto_region 2 with (first
    | (go_at_call 105; refine (psum_any At t ct _ A1.out Hht.out (by have := Hhn.out; omega)).mono ?_; rintro e w2 ⟨rfl, hb2⟩; rw [hpd.out]; have b2 := hideP (b1.out.trans (hb2.mono b1.out.size)); have r2 := hideP (Row.after r1.out hb2))
    | (refine wpList_store_row rfl 37 (.tmp 5) (.tmp 9) rfl w2.heap.size (l.map b8).toArray rfl rfl 37 z32.toArray (Row.new w2 _ z32) hds.out hdo.out hda.out ?_))
  obtain ⟨d, hd⟩ : ∃ d, d = w2.heap.size := ⟨_, rfl⟩
  obtain ⟨w3, hw3⟩ : ∃ w3, w3 = (w2.alloc (Obj.cells #[.int .u8 0, .int .u8 0, .int .u8 0, .int .u8 0, .int .u8 0, .int .u8 0, .int .u8 0, .int .u8 0, .int .u8 0, .int .u8 0, .int .u8 0, .int .u8 0, .int .u8 0, .int .u8 0, .int .u8 0, .int .u8 0, .int .u8 0, .int .u8 0, .int .u8 0, .int .u8 0, .int .u8 0, .int .u8 0, .int .u8 0, .int .u8 0, .int .u8 0, .int .u8 0, .int .u8 0, .int .u8 0, .int .u8 0, .int .u8 0, .int .u8 0, .int .u8 0] 37)).setRow w2.heap.size (l.map b8).toArray := ⟨_, rfl⟩
  have d3 := hideP (show Row w3 d 37 (l.map b8) by rw [hw3, hd]; exact Row.setRow (Row.new w2 _ z32) _)
  have b3 := hideP (show Below w.heap.size w w3 by rw [hw3]; exact below_setRow' (b2.out.alloc b2.out.size _) b2.out.size _)
  have rd := hideP (show w.heap.size < d by rw [hd]; exact Row.lt r2.out)
  have r3 := hideP (show Row w3 w.heap.size 37 z32 by rw [hw3]; exact Row.setRowOther (Row.alloc r2.out _) (by rw [← hd]; have := rd.out; omega) _)
  rw [← hw3, ← hd]
  clear hw3 hd r2 b2 r1 b1 A1
  have RW := hideP (show Row w3 g 224 _ from Row.below hRow.out b3.out hgl.out)
  have c0 := Row.cell RW.out 0
  simp only [List.getElem?_cons_zero] at c0
  have hE3 := hideP (hE.out.of_block (w' := w3) (b3.out.block bm hbl.out))
  refine wp_region_eager 11 [(true, 0), (true, 1), (true, 2), (true, 3), (true, 4), (true, 5), (true, 6), (true, 7), (true, 8), (true, 9), (true, 10)] (by kernel_rfl) (by kernel_rfl) ?_
  simp only [pick, List.map_cons, List.map_nil, nthO_zero, nthO_succ]
  repeat (first
    | (refine wpPlan_skipK (by rfl) (fun K hK => ?_); go_simp; refine hK _ ?_; clear hK K)
    | (refine wpPlan_valK (by rfl) (fun K hK => ?_); refine ⟨.agg (l.map b8).toArray, fun W hW => exec_load_mid 37 (.tmp 5) rfl d 0 rfl (l.map b8) _ (Row.range (Row.ext d3.out hW.drew_left)) Try.underlying37 rfl hsz.out, ?_⟩; go_simp; refine hK _ ?_; clear hK K)
    | (refine wpPlan_valK (by rfl) (fun K hK => ?_); refine ⟨.tuple #[.slice (A u) u.length (c u), .bool true], fun W hW => exec_look 222 _ _ true rfl (.map (some bm)) (.agg (l.map b8).toArray) _ rfl rfl (Ents.look_in (hE3.out.of_block (hW.drew_left.block bm hE3.out.lt)) keyD Try.underlying222 hkk.out hin.out true), ?_⟩; go_simp; refine hK _ ?_; clear hK K)
    | (refine wpPlan_valK (by rfl) (fun K hK => ?_); apply Exists.intro; refine ⟨fun W hW => ?_, ?_⟩; (focus (have hs0 := hW.cell c0; go_simp; (try rfl); done)); go_simp; refine hK _ ?_; clear hK K))
  refine wpPlan_nil (fun W hW0 => ?_)
  simp only [List.drop_succ_cons, List.drop_zero, List.drop_nil]
  have b4 := hideP (b3.out.trans (hW0.drew_left.below.mono b3.out.size))
  have d4 := hideP (Row.ext d3.out hW0.drew_left)
  have r4 := hideP (Row.ext r3.out hW0.drew_left)
  have R4 := hideP (Row.ext RW.out hW0.drew_left)
  clear hW0 d3 r3 RW b3 hE3 c0
  have c3 := Row.cell R4.out 3
  simp only [List.getElem?_cons_zero, List.getElem?_cons_succ] at c3
  have hAW := hideP (hAu.out.keep (fun q hq => b4.out.block q (hf.out q hq)) b4.out.size).arr
  have hTW := hideP (HhA.out.after b4.out)
  simp only [Option.isSome_none] at c3
  have hq := hideP (show (u == t) = true by simpa using Hhe.out)
  go_wp2_with (first
    | (go_at_call 220; refine (bequal_any (A u) At u t (c u) ct _ hAW.out hTW.out hBu.out.1 Hht.out).mono ?_; rw [hq.out]; rintro e w' ⟨rfl, rfl⟩)
    | (refine wpList_load_row rfl 37 (.tmp 5) rfl d rfl 37 (l.map b8).toArray (0, 0) _ d4.out Try.underlying37 rfl hds.out ?_)
    | (refine wpList_store_row rfl 37 (.tmp 4) (.tmp 53) rfl w.heap.size (l.map b8).toArray rfl rfl 37 z32.toArray r4.out hds.out hdo.out hda.out ?_))
  refine ret_row rfl rfl (Row.setRow r4.out (l.map b8)) Try.underlying37 (by rw [size_dig, List.length_map, hll.out]) rfl ⟨S, rfl, ?_⟩
  have bB : Below w.heap.size w (W.setRow w.heap.size (l.map b8).toArray) := below_setRow' b4.out (Nat.le_refl _) _
  refine ⟨But.of_ext (Ext.of_below bB), fun b hb => .inl hb, ?_⟩
  have hPS : PSt w S g L none := ⟨bm, A, c, a, b, ca, cb, x, y, hRow.out, hE.out, hSg.out, hSb.out, hgb.out, hP.out, hx.out, hy.out, hf.out, by simpa using hr.out⟩
  exact hPS.after bB
set_option maxRecDepth 100000 in
set_option maxHeartbeats 1000000 in
theorem pput_clash (g : Nat) (S : Nat → Prop) (L : List (List Nat)) (At : Option Addr) (t : List Nat) (ct : Nat) (w : World) (h : PSt w S g L none) (hA : Arr w w.heap.size At t.length (u8s t)) (ht : IsB t) (hn : t.length ≤ 100000000)
    (u : List Nat) (hu : u ∈ L) (hs : sum9 u = sum9 t) (he : u ≠ t) :
    Calls Try.prog 157 #[.pointer (some ⟨g, 0, none⟩), .slice At t.length ct] w fun e w' => ∃ S', e = .returned (.agg (pageD t).toArray) ∧ But S w w' ∧ (∀ b, S' b → S b ∨ w.heap.size ≤ b) ∧ PSt w' S' g L (some (u, t)) := by
  have Hhe := hideP he; clear he
  obtain ⟨bm, A, c, a, b, ca, cb, x, y, h1, h2, h3, h4, h5, h6, h7, h8, h9, h10⟩ := h
  have hP := hideP h6
  have hx := hideP h7
  have hy := hideP h8
  have hf := hideP h9
  have hr := hideP h10
  have hSg := hideP h3
  have hSb := hideP h4
  have hgb := hideP h5
  have hRow := hideP h1
  have hE := hideP h2
  obtain ⟨l, hl⟩ : ∃ l, l = sum9 t := ⟨_, rfl⟩
  have hll := hideP (show l.length = 32 by rw [hl]; exact sum9_len t)
  obtain ⟨kl, hkl⟩ := key_dg l hll.out (by rw [hl]; exact isB_dig _)
  have hkk := hideP hkl
  have hpd := hideP (show pageD t = l.map b8 by rw [hl]; rfl)
  have hlt := hideP hl
  have hds := hideP (show (Try.prog.info? 37).map (·.size) = some (l.map b8).toArray.size by rw [size_dig]; simp [hll.out])
  have hdo := hideP (show z32.toArray.size = (l.map b8).toArray.size by simp [hll.out, z32])
  have hda := hideP (show (l.map b8).toArray.all (·.oneCell') = true from all_b8 _)
  have hsz := hideP (size_dg l hll.out)
  have hgl := hideP (hf.out g hSg.out)
  have hbl := hideP (hf.out bm hSb.out)
  rw [hpd.out]
  have HhA := hideP hA; have Hht := hideP ht; have Hhn := hideP hn; clear hA ht hn
  clear h1 h2 h3 h4 h5 h6 h7 h8 h9 h10 hkl hl
  have hin := hideP (show (dg l, Value.slice (A u) u.length (c u)) ∈ entsOf A c L from List.mem_map.2 ⟨u, hu, by rw [hs, hlt.out]⟩)
  have hAu := hideP (hP.out u hu).1
  have hBu := hideP (hP.out u hu).2
  have hBs := hideP hs
  have hBi := hideP hu
  clear hs hu
  go_enter Try.func157, Try.ntmps157
  go_upto_region 1 with fail
  obtain ⟨w1, hw1⟩ : ∃ w1, w1 = w.alloc (Obj.cells #[.int .u8 0, .int .u8 0, .int .u8 0, .int .u8 0, .int .u8 0, .int .u8 0, .int .u8 0, .int .u8 0, .int .u8 0, .int .u8 0, .int .u8 0, .int .u8 0, .int .u8 0, .int .u8 0, .int .u8 0, .int .u8 0, .int .u8 0, .int .u8 0, .int .u8 0, .int .u8 0, .int .u8 0, .int .u8 0, .int .u8 0, .int .u8 0, .int .u8 0, .int .u8 0, .int .u8 0, .int .u8 0, .int .u8 0, .int .u8 0, .int .u8 0, .int .u8 0] 37) := ⟨_, rfl⟩
  have r1 := hideP (show Row w1 w.heap.size 37 z32 by rw [hw1]; exact Row.new w _ z32)
  have b1 := hideP (show Below w.heap.size w w1 by rw [hw1]; exact below_new _ _)
  rw [← hw1]
  clear hw1
  have A1 := hideP (HhA.out.after b1.out)
  go_upto_region 2 with (first
    | (go_at_call 105; refine (psum_any At t ct _ A1.out Hht.out (by have := Hhn.out; omega)).mono ?_; rintro e w2 ⟨rfl, hb2⟩; rw [hpd.out]; have b2 := hideP (b1.out.trans (hb2.mono b1.out.size)); have r2 := hideP (Row.after r1.out hb2))
    | (refine wpList_store_row rfl 37 (.tmp 5) (.tmp 9) rfl w2.heap.size (l.map b8).toArray rfl rfl 37 z32.toArray (Row.new w2 _ z32) hds.out hdo.out hda.out ?_))
  obtain ⟨d, hd⟩ : ∃ d, d = w2.heap.size := ⟨_, rfl⟩
  obtain ⟨w3, hw3⟩ : ∃ w3, w3 = (w2.alloc (Obj.cells #[.int .u8 0, .int .u8 0, .int .u8 0, .int .u8 0, .int .u8 0, .int .u8 0, .int .u8 0, .int .u8 0, .int .u8 0, .int .u8 0, .int .u8 0, .int .u8 0, .int .u8 0, .int .u8 0, .int .u8 0, .int .u8 0, .int .u8 0, .int .u8 0, .int .u8 0, .int .u8 0, .int .u8 0, .int .u8 0, .int .u8 0, .int .u8 0, .int .u8 0, .int .u8 0, .int .u8 0, .int .u8 0, .int .u8 0, .int .u8 0, .int .u8 0, .int .u8 0] 37)).setRow w2.heap.size (l.map b8).toArray := ⟨_, rfl⟩
  have d3 := hideP (show Row w3 d 37 (l.map b8) by rw [hw3, hd]; exact Row.setRow (Row.new w2 _ z32) _)
  have b3 := hideP (show Below w.heap.size w w3 by rw [hw3]; exact below_setRow' (b2.out.alloc b2.out.size _) b2.out.size _)
  have rd := hideP (show w.heap.size < d by rw [hd]; exact Row.lt r2.out)
  have r3 := hideP (show Row w3 w.heap.size 37 z32 by rw [hw3]; exact Row.setRowOther (Row.alloc r2.out _) (by rw [← hd]; have := rd.out; omega) _)
  rw [← hw3, ← hd]
  clear hw3 hd r2 b2 r1 b1 A1
  have RW := hideP (show Row w3 g 224 _ from Row.below hRow.out b3.out hgl.out)
  have c0 := Row.cell RW.out 0
  simp only [List.getElem?_cons_zero] at c0
  have hE3 := hideP (hE.out.of_block (w' := w3) (b3.out.block bm hbl.out))
  refine wp_region_eager 11 [(true, 0), (true, 1), (true, 2), (true, 3), (true, 4), (true, 5), (true, 6), (true, 7), (true, 8), (true, 9), (true, 10)] (by kernel_rfl) (by kernel_rfl) ?_
  simp only [pick, List.map_cons, List.map_nil, nthO_zero, nthO_succ]
  repeat (first
    | (refine wpPlan_skipK (by rfl) (fun K hK => ?_); go_simp; refine hK _ ?_; clear hK K)
    | (refine wpPlan_valK (by rfl) (fun K hK => ?_); refine ⟨.agg (l.map b8).toArray, fun W hW => exec_load_mid 37 (.tmp 5) rfl d 0 rfl (l.map b8) _ (Row.range (Row.ext d3.out hW.drew_left)) Try.underlying37 rfl hsz.out, ?_⟩; go_simp; refine hK _ ?_; clear hK K)
    | (refine wpPlan_valK (by rfl) (fun K hK => ?_); refine ⟨.tuple #[.slice (A u) u.length (c u), .bool true], fun W hW => exec_look 222 _ _ true rfl (.map (some bm)) (.agg (l.map b8).toArray) _ rfl rfl (Ents.look_in (hE3.out.of_block (hW.drew_left.block bm hE3.out.lt)) keyD Try.underlying222 hkk.out hin.out true), ?_⟩; go_simp; refine hK _ ?_; clear hK K)
    | (refine wpPlan_valK (by rfl) (fun K hK => ?_); apply Exists.intro; refine ⟨fun W hW => ?_, ?_⟩; (focus (have hs0 := hW.cell c0; go_simp; (try rfl); done)); go_simp; refine hK _ ?_; clear hK K))
  refine wpPlan_nil (fun W hW0 => ?_)
  simp only [List.drop_succ_cons, List.drop_zero, List.drop_nil]
  have b4 := hideP (b3.out.trans (hW0.drew_left.below.mono b3.out.size))
  have d4 := hideP (Row.ext d3.out hW0.drew_left)
  have r4 := hideP (Row.ext r3.out hW0.drew_left)
  have R4 := hideP (Row.ext RW.out hW0.drew_left)
  clear hW0 d3 r3 RW b3 hE3 c0
  have c3 := Row.cell R4.out 3
  simp only [List.getElem?_cons_zero, List.getElem?_cons_succ] at c3
  have hAW := hideP (hAu.out.keep (fun q hq => b4.out.block q (hf.out q hq)) b4.out.size).arr
  have hTW := hideP (HhA.out.after b4.out)
  simp only [Option.isSome_none] at c3
  have hq := hideP (show (u == t) = false by simpa using Hhe.out)
  have hi1 := hideP (show (Try.prog.info? 22).map (·.size) = some 1 by kernel_rfl)
  have hi2 := hideP (show (Try.prog.info? 4).map (·.size) = some 1 by kernel_rfl)
  have hgd := hideP (show g ≠ w.heap.size ∧ g ≠ d by have := hgl.out; have := rd.out; constructor <;> omega)
  go_upto_region 6 with (go_at_call 220; refine (bequal_any (A u) At u t (c u) ct _ hAW.out hTW.out hBu.out.1 Hht.out).mono ?_; rw [hq.out]; rintro e w' ⟨rfl, rfl⟩)
  go_upto_region 7 with (first
    | (go_at_call 219; refine (bclone_any At t ct _ hTW.out (by have := Hhn.out; omega)).mono ?_; rintro e W2 ⟨R, dc, rfl, ho, hb⟩; have ho' := hideP ho; have hb' := hideP hb; have R5 := hideP (Row.after R4.out hb); (obtain ⟨W3, hW3⟩ : ∃ W3, W3 = W2.setCell ⟨g, 1, none⟩ (.slice (A u) u.length (c u)) := ⟨_, rfl⟩); (obtain ⟨W4, hW4⟩ : ∃ W4, W4 = W3.setCell ⟨g, 2, none⟩ (.slice R t.length dc) := ⟨_, rfl⟩); (obtain ⟨W5, hW5⟩ : ∃ W5, W5 = W4.setCell ⟨g, 3, none⟩ (.bool true) := ⟨_, rfl⟩); have R6 := hideP (show Row W3 g 224 _ by rw [hW3]; exact Row.set R5.out 1 _); have R7 := hideP (show Row W4 g 224 _ by rw [hW4]; exact Row.set R6.out 2 _); have R8 := hideP (show Row W5 g 224 _ by rw [hW5]; exact Row.set R7.out 3 _); have oth := hideP (show ∀ k, k ≠ g → W5.heap[k]? = W2.heap[k]? from fun k hk => by rw [hW5, hW4, hW3, Below.heap_setCell _ _ _ _ hk, Below.heap_setCell _ _ _ _ hk, Below.heap_setCell _ _ _ _ hk]); have sz5 := hideP (show W5.heap.size = W2.heap.size by rw [hW5, hW4, hW3]; simp); have HW3 := hideP hW3; have HW4 := hideP hW4; have HW5 := hideP hW5; clear hW3 hW4 hW5 ho hb c3)
    | (refine wpList_store_one rfl 22 (.tmp 48) (.tmp 44) rfl g 1 (.slice (A u) u.length (c u)) _ hi1.out rfl rfl rfl rfl ((Row.cell R5.out 1).trans rfl) (Row.fz R5.out 1) ?_; rw [← HW3.out])
    | (refine wpList_store_one rfl 22 (.tmp 50) (.tmp 46) rfl g 2 (.slice R t.length dc) _ hi1.out rfl rfl rfl rfl ((Row.cell R6.out 2).trans rfl) (Row.fz R6.out 2) ?_; rw [← HW4.out])
    | (refine wpList_store_one rfl 4 (.tmp 52) (.const (.bool true)) rfl g 3 (.bool true) _ hi2.out rfl rfl rfl rfl ((Row.cell R7.out 3).trans rfl) (Row.fz R7.out 3) ?_; rw [← HW5.out]))
  have d5 := hideP (show Row W5 d 37 (l.map b8) from (oth.out d (fun e => hgd.out.2 e.symm)).trans (Row.after d4.out hb'.out))
  have r5 := hideP (show Row W5 w.heap.size 37 z32 from (oth.out _ (fun e => hgd.out.1 e.symm)).trans (Row.after r4.out hb'.out))
  go_wp2_with (first
    | (refine wpList_load_row rfl 37 (.tmp 5) rfl d rfl 37 (l.map b8).toArray (0, 0) _ d5.out Try.underlying37 rfl hds.out ?_)
    | (refine wpList_store_row rfl 37 (.tmp 4) (.tmp 53) rfl w.heap.size (l.map b8).toArray rfl rfl 37 z32.toArray r5.out hds.out hdo.out hda.out ?_))
  refine ret_row rfl rfl (Row.setRow r5.out (l.map b8)) Try.underlying37 (by rw [size_dig, List.length_map, hll.out]) rfl ⟨fun b => S b ∨ (w.heap.size ≤ b ∧ b < (W5.setRow w.heap.size (l.map b8).toArray).heap.size), rfl, ?_⟩
  have sW6 : (W5.setRow w.heap.size (l.map b8).toArray).heap.size = W2.heap.size := by simp [World.setRow, sz5.out]
  have bB : But S w W2 := But.of_ext ((Ext.of_below b4.out).trans (Ext.of_below hb'.out))
  have bC : But (fun b => S b ∨ w.heap.size ≤ b) W2 (W5.setRow w.heap.size (l.map b8).toArray) := by
    refine But.trans (b := W5) ?_ (But.setRow _ _ _ (.inr (Nat.le_refl _)))
    rw [HW5.out, HW4.out, HW3.out]
    exact ((But.set W2 _ _ (.inl hSg.out)).trans (But.set _ _ _ (.inl hSg.out))).trans (But.set _ _ _ (.inl hSg.out))
  have hsz2 : w.heap.size ≤ W2.heap.size := bB.size
  have hsame : ∀ k, k ≠ g → k < w.heap.size → (W5.setRow w.heap.size (l.map b8).toArray).heap[k]? = w.heap[k]? := fun k hk hlt => by
    rw [setRow_other _ _ _ _ (by omega), oth.out k hk]
    exact (hb'.out.block k (Nat.lt_of_lt_of_le hlt b4.out.size)).trans (b4.out.block k hlt)
  refine ⟨bB.mono2 (fun b hb => hb) bC, fun b hb => hb.imp id fun h => h.1, ?_⟩
  refine PSt.clash (A := A) (c := c) (a := a) (b := b) (ca := ca) (cb := cb) (x := x) (y := y) (o := undef) (os := []) hP.out hf.out hSg.out hSb.out hgb.out (fun k hk hne => hsame k hne (hf.out k hk)) (by rw [sW6]; exact hsz2) hRow.out (R := R) (dc := dc) ?_ hE.out ?_ Hht.out Hhn.out hBi.out hBs.out Hhe.out
  · exact Row.setRowOther R8.out hgd.out.1 _
  · have := ho'.out.arrS
    intro hn0
    obtain ⟨q, off, hA, hS, hb, hc⟩ := this hn0
    have hbase : w.heap.size ≤ q ∧ q ≠ w.heap.size ∧ q ≠ g := by
      have h1 := rd.out
      have h2 := (Row.lt d4.out)
      have h4 := b4.out.size
      have h5 := hgl.out
      refine ⟨?_, ?_, ?_⟩ <;> omega
    refine ⟨q, off, hA, hbase.1, by rw [sW6]; exact hb, fun i hi => ?_⟩
    exact (World.cell?_of_block (w := W2) ((setRow_other _ _ _ _ hbase.2.1).trans (oth.out q hbase.2.2))).trans (hc i hi)
end Go.Proofs.Ytgcbodpjidoanaa
