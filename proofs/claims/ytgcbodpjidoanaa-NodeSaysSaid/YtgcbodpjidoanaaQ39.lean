/- Contracts of page's New, Len, Get, Clash. Contract of page's Put. -/
import Derived.Test.YtgcbodpjidoanaaQ34
set_option linter.unusedVariables false
set_option linter.unusedSimpArgs false
namespace Go.Proofs.Ytgcbodpjidoanaa
open Go.RowKit
open Go.Maps (Keyed)
theorem zeroB (w : World) : (zeroValue 22).run Try.prog w = .ok (.slice none 0 0) w := by kernel_rfl
theorem size_dg (l : List Nat) (hl : l.length = 32) : (Try.prog.info? 37).map (·.size) = some (l.map b8).length := by
  rw [List.length_map, hl]; kernel_rfl
section
variable {S : Nat → Prop} {w w' : World} {g : Nat} {L : List (List Nat)} {C : Option (List Nat × List Nat)}
end
theorem pnew_any (w : World) : Calls Try.prog 80 #[] w fun e w' => ∃ g S, e = .returned (.pointer (some ⟨g, 0, none⟩)) ∧ Below w.heap.size w w' ∧ PSt w' S g [] none ∧ ∀ b, S b → w.heap.size ≤ b := by
  have hmm := @run_makeMap Try.prog
  go_enter Try.func80, Try.ntmps80
  go_wp2
  go_ret
  have e1 : (w.alloc (.map #[] 0)).heap.size = w.heap.size + 1 := by simp
  refine ⟨w.heap.size + 1, fun b => b = w.heap.size ∨ b = w.heap.size + 1, rfl, (below_new w _).trans ((Below.refl _ _).alloc (by simp) _), ?_, fun b hb => by omega⟩
  have hE := (Ents.made w Try.prog 37).of_block (w' := (w.alloc (.map #[] 0)).alloc (.cells #[.map (some w.heap.size), .slice none 0 0, .slice none 0 0, .bool false] 224)) (Below.heap_alloc _ _ _ (by simp))
  refine ⟨w.heap.size, fun _ => none, fun _ => 0, none, none, 0, 0, [], [], ?_, hE, Or.inr rfl, Or.inl rfl, by omega, fun t ht => by simp at ht, fun h => by simp at h, fun h => by simp at h, fun b hb => ?_, fun i => by simp, fun i => by simp, by simp, by simp, fun _ => ⟨rfl, rfl⟩, fun p hp => by cases hp⟩
  · exact Row.new' (w.alloc (.map #[] 0)) 224 [.map (some w.heap.size), .slice none 0 0, .slice none 0 0, .bool false] _ e1
  · have : ((w.alloc (.map #[] 0)).alloc (.cells #[.map (some w.heap.size), .slice none 0 0, .slice none 0 0, .bool false] 224)).heap.size = w.heap.size + 1 + 1 := by simp
    rw [this]
    omega
theorem pget_in (g : Nat) (S : Nat → Prop) (L : List (List Nat)) (C : Option (List Nat × List Nat)) (u l : List Nat) (w : World) (h : PSt w S g L C) (hu : u ∈ L) (hs : sum9 u = l) :
    Calls Try.prog 158 #[.pointer (some ⟨g, 0, none⟩), dg l] w fun e w' => ∃ R d, e = .returned (.tuple #[.slice R u.length d, .int .i64 0]) ∧ Below w.heap.size w w' ∧ OwnB w' w.heap.size R d u := by
  obtain ⟨bm, A, c, a, b, ca, cb, x, y, h1, h2, h3, h4, h5, h6, r⟩ := h
  subst hs
  have c0 := Row.cell h1 0
  simp only [List.getElem?_cons_zero] at c0
  obtain ⟨kl, hkl⟩ := key_dg (sum9 u) (sum9_len u) (isB_dig _)
  have hkk := hideP hkl
  have h2 := hideP h2
  have hm := hideP (show (dg (sum9 u), Value.slice (A u) u.length (c u)) ∈ entsOf A c L from List.mem_map.2 ⟨u, hu, rfl⟩)
  have hA := hideP (h6 u hu).1.arr
  have hn := hideP (h6 u hu).2.2
  have hz := hideP (sum9_len u)
  obtain ⟨l, hl⟩ : ∃ l, l = sum9 u := ⟨_, rfl⟩
  rw [← hl] at hkk hm hz ⊢
  clear h1 h3 h4 h5 h6 r hu hkl hl
  have hsz := hideP (size_dg l hz.out)
  unfold dg at *
  go_enter Try.func158, Try.ntmps158
  go_upto_region 1 with fail
  obtain ⟨w1, hw1⟩ : ∃ w1, w1 = w.alloc (Obj.cells (l.map b8).toArray 37) := ⟨_, rfl⟩
  have d1 := hideP (show Row w1 w.heap.size 37 (l.map b8) by rw [hw1]; exact Row.new w _ _)
  have b1 := hideP (show Below w.heap.size w w1 by rw [hw1]; exact below_new _ _)
  have c0' : w1.cell? ⟨g, 0, none⟩ = some (.map (some bm)) := cell_below b1.out (World.block_lt_of_cell? _ _ c0) c0
  rw [← hw1]
  clear hw1 c0
  have hE := hideP (h2.out.of_block (w' := w1) (b1.out.block bm h2.out.lt))
  refine wp_region_eager 11 [(true, 0), (true, 1), (true, 2), (true, 3), (true, 4), (true, 5), (true, 6), (true, 7), (true, 8), (true, 9), (true, 10)] (by kernel_rfl) (by kernel_rfl) ?_
  simp only [pick, List.map_cons, List.map_nil, nthO_zero, nthO_succ]
  repeat (first
    | (refine wpPlan_skipK (by rfl) (fun K hK => ?_); go_simp; refine hK _ ?_; clear hK K)
    | (refine wpPlan_valK (by rfl) (fun K hK => ?_); refine ⟨.agg (l.map b8).toArray, fun W hW => exec_load_mid 37 (.tmp 3) rfl w.heap.size 0 rfl (l.map b8) _ (Row.range (Row.ext d1.out hW.drew_left)) Try.underlying37 rfl hsz.out, ?_⟩; go_simp; refine hK _ ?_; clear hK K)
    | (refine wpPlan_valK (by rfl) (fun K hK => ?_); refine ⟨.tuple #[.slice (A u) u.length (c u), .bool true], fun W hW => exec_look 222 _ _ true rfl (.map (some bm)) (.agg (l.map b8).toArray) _ rfl rfl (Ents.look_in (hE.out.of_block (hW.drew_left.block bm hE.out.lt)) keyD Try.underlying222 hkk.out hm.out true), ?_⟩; go_simp; refine hK _ ?_; clear hK K)
    | (refine wpPlan_valK (by rfl) (fun K hK => ?_); apply Exists.intro; refine ⟨fun W hW => ?_, ?_⟩; (focus (have hs0 := hW.cell c0'; go_simp; (try rfl); done)); go_simp; refine hK _ ?_; clear hK K))
  refine wpPlan_nil (fun W hW0 => ?_)
  simp only [List.drop_succ_cons, List.drop_zero, List.drop_nil]
  have hB := hideP (b1.out.trans (hW0.drew_left.below.mono b1.out.size))
  have hAW := hideP (hA.out.after hB.out)
  clear hW0 b1 d1 c0' h2 hE
  go_wp2_with (first
    | (go_at_call 219; refine (bclone_any (A u) u (c u) _ hAW.out (by have := hn.out; omega)).mono ?_; rintro e w2 ⟨R, d, rfl, ho, hb⟩; have ho' := hideP ho; have hb' := hideP (hB.out.trans (hb.mono hB.out.size))))
  go_ret2
  exact ⟨R, d, rfl, hb'.out, ho'.out.mono hB.out.size⟩
end Go.Proofs.Ytgcbodpjidoanaa
namespace Go.Proofs.Ytgcbodpjidoanaa
open Go.RowKit
open Go.Maps (Keyed)

theorem wpList_store_one {ops : Array Oper} {rest : List Oper} {o : Oper} {a : Act} {w : World} {Q : Exit → Act → World → Prop} (hgd : o.guard = none) (ty : TypeId) (x y : Operand) (ho : o.op = .store ty x y) (g k : Nat) (v : Value) (u : Value)
    (hi : (Try.prog.info? ty).map (·.size) = some 1) (hv : v.cells = #[v]) (hv1 : v.oneCell' = true)
    (hx : a.eval x = .pointer (some ⟨g, k, none⟩)) (hy : a.eval y = v) (hc : w.cell? ⟨g, k, none⟩ = some u) (hf : w.frozen? ⟨g, k, none⟩ = false)
    (h : wpList Try.prog ops Q rest (a.put o.dst undef) (w.setCell ⟨g, k, none⟩ v)) : wpList Try.prog ops Q (o :: rest) a w := by
  obtain ⟨i0, hi0, hz1⟩ := Option.map_eq_some_iff.1 hi
  have hst : (storeVar ty ⟨g, k, none⟩ v).run Try.prog w = .ok () (w.setCell ⟨g, k, none⟩ v) := by
    have := run_storeCells_cells (P := Try.prog) g k [v] 0 w (fun j hj => by
      obtain rfl : j = 0 := by simpa using hj
      simp [hc]) (fun j hj => by
      obtain rfl : j = 0 := by simpa using hj
      simpa using hf) (fun v' hv' => by obtain rfl : v' = v := by simpa using hv'
                                        exact hv1)
    simp only [Nat.add_zero] at this
    simp [storeVar, sizeOf, typeInfo, hi0, hz1, hv, this, World.setCells]
  refine wpList_plain hgd fun K hK => ?_
  unfold Oper.wp execOp
  simp only [ho, hx, hy, Instr.storeAt, Instr.sureAddr, Sem.run_bind, Sem.run_pure, Result.andThen_ok, hst]
  exact hK _ _ h
theorem setBlock_other (w : World) (b : Nat) (o : Obj) {k : Nat} (h : k ≠ b) : (ChangeMaps.setBlock w b o).heap[k]? = w.heap[k]? := by
  show (w.heap.setIfInBounds b o)[k]? = _
  rw [Array.getElem?_setIfInBounds, if_neg (fun e => h e.symm)]
theorem setBlock_size (w : World) (b : Nat) (o : Obj) : (ChangeMaps.setBlock w b o).heap.size = w.heap.size := by
  show (w.heap.setIfInBounds b o).size = _
  simp
theorem But.setBlock {S : Nat → Prop} (w : World) (b : Nat) (o : Obj) (hS : S b) : But S w (ChangeMaps.setBlock w b o) :=
  ⟨Nat.le_of_eq (setBlock_size w b o).symm, fun k hk hn => setBlock_other w b o (fun e => hn (e ▸ hS)), rfl, rfl, rfl⟩
/-- the store behind a new text -/
theorem PSt.more {S : Nat → Prop} {w W : World} {g bm : Nat} {L : List (List Nat)} {C : Option (List Nat × List Nat)} {A : List Nat → Option Addr} {c : List Nat → Nat} {a b : Option Addr} {ca cb : Nat} {x y t : List Nat}
    (hP : ∀ t ∈ L, ArrS S w (A t) t.length (u8s t) ∧ IsB t ∧ t.length ≤ 100000000) (hx : ArrS S w a x.length (u8s x)) (hy : ArrS S w b y.length (u8s y)) (hf : ∀ b, S b → b < w.heap.size)
    (hr : IsB x ∧ IsB y ∧ x.length ≤ 100000000 ∧ y.length ≤ 100000000 ∧ (C = none → x = [] ∧ y = []) ∧ (∀ p, C = some p → p = (x, y) ∧ sum9 x = sum9 y ∧ x ≠ y)) (hg : S g) (hm : S bm) (hne : g ≠ bm)
    (hW : ∀ b, S b → b ≠ bm → W.heap[b]? = w.heap[b]?) (hs : w.heap.size ≤ W.heap.size) (hbm : ∃ es clock, w.heap[bm]? = some (.map es clock))
    (hRow : Row W g 224 [.map (some bm), .slice a x.length ca, .slice b y.length cb, .bool C.isSome]) {R : Option Addr} {dc : Nat} (hE : Ents Try.prog 37 W bm (entsOf A c L ++ [(dg (sum9 t), .slice R t.length dc)]))
    (hR : ArrS (fun b => w.heap.size ≤ b) W R t.length (u8s t)) (ht : IsB t) (hn : t.length ≤ 100000000) (hst : ∀ u ∈ L, sum9 u ≠ sum9 t) :
    PSt W (fun b => S b ∨ (w.heap.size ≤ b ∧ b < W.heap.size)) g (L ++ [t]) C := by
  have hk : ∀ {A : Option Addr} {n : Nat} {l : List Nat}, ArrS S w A n (u8s l) → ArrS (fun b => S b ∨ (w.heap.size ≤ b ∧ b < W.heap.size)) W A n (u8s l) := fun {A n l} h hn0 => by
    obtain ⟨q, off, hA, hS, hb, hc⟩ := h hn0
    have hq : q ≠ bm := fun e => by
      obtain ⟨es, clock, hes⟩ := hbm
      have := hc 0 hn0
      rw [e] at this
      simp [World.cell?, hes] at this
    exact ⟨q, off, hA, .inl hS, by omega, fun i hi => (World.cell?_of_block (w := w) (hW q hS hq)).trans (hc i hi)⟩
  refine ⟨bm, fun u => if u = t then R else A u, fun u => if u = t then dc else c u, a, b, ca, cb, x, y, hRow, ?_, .inl hg, .inl hm, hne, fun u hu => ?_, hk hx, hk hy, fun q hq => hq.elim (fun h => Nat.lt_of_lt_of_le (hf q h) hs) (fun h => h.2), hr⟩
  · have e1 : entsOf (fun u => if u = t then R else A u) (fun u => if u = t then dc else c u) (L ++ [t]) = entsOf A c L ++ [(dg (sum9 t), .slice R t.length dc)] := by
      unfold entsOf
      rw [List.map_append]
      congr 1
      · refine List.map_congr_left fun u hu => ?_
        have : u ≠ t := fun e => hst u hu (by rw [e])
        simp [this]
      · simp
    rw [e1]
    exact hE
  · rcases List.mem_append.1 hu with hu | hu
    · have : u ≠ t := fun e => hst u hu (by rw [e])
      simp only [if_neg this]
      exact ⟨hk (hP u hu).1, (hP u hu).2⟩
    · obtain rfl := List.mem_singleton.1 hu
      simp only [if_true]
      refine ⟨fun hn0 => ?_, ht, hn⟩
      obtain ⟨q, off, hA, hS, hb, hc⟩ := hR hn0
      exact ⟨q, off, hA, .inr ⟨hS, hb⟩, hb, hc⟩
set_option maxRecDepth 100000 in
set_option maxHeartbeats 1000000 in
theorem pput_out (g : Nat) (S : Nat → Prop) (L : List (List Nat)) (C : Option (List Nat × List Nat)) (At : Option Addr) (t : List Nat) (ct : Nat) (w : World) (h : PSt w S g L C) (hA : Arr w w.heap.size At t.length (u8s t)) (ht : IsB t) (hn : t.length ≤ 100000000)
    (hs : ∀ u ∈ L, sum9 u ≠ sum9 t) :
    Calls Try.prog 157 #[.pointer (some ⟨g, 0, none⟩), .slice At t.length ct] w fun e w' => ∃ S', e = .returned (.agg (pageD t).toArray) ∧ But S w w' ∧ (∀ b, S' b → S b ∨ w.heap.size ≤ b) ∧ PSt w' S' g (L ++ [t]) C := by
  obtain ⟨bm, A, c, a, b, ca, cb, x, y, h1, h2, h3, h4, h5, h6, h7, h8, h9, h10⟩ := h
  have hP := hideP h6
  have hx := hideP h7
  have hy := hideP h8
  have hf := hideP h9
  have hr := hideP h10
  have hSg := hideP h3
  have hSb := hideP h4
  have hgb := hideP h5
  have hRow := hideP h1
  have hE := hideP h2
  obtain ⟨l, hl⟩ : ∃ l, l = sum9 t := ⟨_, rfl⟩
  have hll := hideP (show l.length = 32 by rw [hl]; exact sum9_len t)
  obtain ⟨kl, hkl⟩ := key_dg l hll.out (by rw [hl]; exact isB_dig _)
  have hkk := hideP hkl
  have hpd := hideP (show pageD t = l.map b8 by rw [hl]; rfl)
  have hlt := hideP hl
  have hds := hideP (show (Try.prog.info? 37).map (·.size) = some (l.map b8).toArray.size by rw [size_dig]; simp [hll.out])
  have hdo := hideP (show z32.toArray.size = (l.map b8).toArray.size by simp [hll.out, z32])
  have hda := hideP (show (l.map b8).toArray.all (·.oneCell') = true from all_b8 _)
  have hsz := hideP (size_dg l hll.out)
  have hgl := hideP (hf.out g hSg.out)
  have hbl := hideP (hf.out bm hSb.out)
  rw [hpd.out]
  have HhA := hideP hA; have Hht := hideP ht; have Hhn := hideP hn; clear hA ht hn
  clear h1 h2 h3 h4 h5 h6 h7 h8 h9 h10 hkl hl
  have hm := hideP (show ∀ x ∈ entsOf A c L, x.1 ≠ dg l from fun x hx => by
    obtain ⟨u, hu, rfl⟩ := List.mem_map.1 hx
    exact fun e => hs u hu ((dg_inj e).trans hlt.out))
  have Hhs := hideP hs; clear hs
  go_enter Try.func157, Try.ntmps157
  go_upto_region 1 with fail
  obtain ⟨w1, hw1⟩ : ∃ w1, w1 = w.alloc (Obj.cells #[.int .u8 0, .int .u8 0, .int .u8 0, .int .u8 0, .int .u8 0, .int .u8 0, .int .u8 0, .int .u8 0, .int .u8 0, .int .u8 0, .int .u8 0, .int .u8 0, .int .u8 0, .int .u8 0, .int .u8 0, .int .u8 0, .int .u8 0, .int .u8 0, .int .u8 0, .int .u8 0, .int .u8 0, .int .u8 0, .int .u8 0, .int .u8 0, .int .u8 0, .int .u8 0, .int .u8 0, .int .u8 0, .int .u8 0, .int .u8 0, .int .u8 0, .int .u8 0] 37) := ⟨_, rfl⟩
  have r1 := hideP (show Row w1 w.heap.size 37 z32 by rw [hw1]; exact Row.new w _ z32)
  have b1 := hideP (show Below w.heap.size w w1 by rw [hw1]; exact below_new _ _)
  rw [← hw1]
  clear hw1
  have A1 := hideP (HhA.out.after b1.out)
  go_upto_region 2 with (first
    | (go_at_call 105; refine (psum_any At t ct _ A1.out Hht.out (by have := Hhn.out; omega)).mono ?_; rintro e w2 ⟨rfl, hb2⟩; rw [hpd.out]; have b2 := hideP (b1.out.trans (hb2.mono b1.out.size)); have r2 := hideP (Row.after r1.out hb2))
    | (refine wpList_store_row rfl 37 (.tmp 5) (.tmp 9) rfl w2.heap.size (l.map b8).toArray rfl rfl 37 z32.toArray (Row.new w2 _ z32) hds.out hdo.out hda.out ?_))
  obtain ⟨d, hd⟩ : ∃ d, d = w2.heap.size := ⟨_, rfl⟩
  obtain ⟨w3, hw3⟩ : ∃ w3, w3 = (w2.alloc (Obj.cells #[.int .u8 0, .int .u8 0, .int .u8 0, .int .u8 0, .int .u8 0, .int .u8 0, .int .u8 0, .int .u8 0, .int .u8 0, .int .u8 0, .int .u8 0, .int .u8 0, .int .u8 0, .int .u8 0, .int .u8 0, .int .u8 0, .int .u8 0, .int .u8 0, .int .u8 0, .int .u8 0, .int .u8 0, .int .u8 0, .int .u8 0, .int .u8 0, .int .u8 0, .int .u8 0, .int .u8 0, .int .u8 0, .int .u8 0, .int .u8 0, .int .u8 0, .int .u8 0] 37)).setRow w2.heap.size (l.map b8).toArray := ⟨_, rfl⟩
  have d3 := hideP (show Row w3 d 37 (l.map b8) by rw [hw3, hd]; exact Row.setRow (Row.new w2 _ z32) _)
  have b3 := hideP (show Below w.heap.size w w3 by rw [hw3]; exact below_setRow' (b2.out.alloc b2.out.size _) b2.out.size _)
  have rd := hideP (show w.heap.size < d by rw [hd]; exact Row.lt r2.out)
  have r3 := hideP (show Row w3 w.heap.size 37 z32 by rw [hw3]; exact Row.setRowOther (Row.alloc r2.out _) (by rw [← hd]; have := rd.out; omega) _)
  rw [← hw3, ← hd]
  clear hw3 hd r2 b2 r1 b1 A1
  have RW := hideP (show Row w3 g 224 _ from Row.below hRow.out b3.out hgl.out)
  have c0 := Row.cell RW.out 0
  simp only [List.getElem?_cons_zero] at c0
  have hE3 := hideP (hE.out.of_block (w' := w3) (b3.out.block bm hbl.out))
  refine wp_region_eager 11 [(true, 0), (true, 1), (true, 2), (true, 3), (true, 4), (true, 5), (true, 6), (true, 7), (true, 8), (true, 9), (true, 10)] (by kernel_rfl) (by kernel_rfl) ?_
  simp only [pick, List.map_cons, List.map_nil, nthO_zero, nthO_succ]
  repeat (first
    | (refine wpPlan_skipK (by rfl) (fun K hK => ?_); go_simp; refine hK _ ?_; clear hK K)
    | (refine wpPlan_valK (by rfl) (fun K hK => ?_); refine ⟨.agg (l.map b8).toArray, fun W hW => exec_load_mid 37 (.tmp 5) rfl d 0 rfl (l.map b8) _ (Row.range (Row.ext d3.out hW.drew_left)) Try.underlying37 rfl hsz.out, ?_⟩; go_simp; refine hK _ ?_; clear hK K)
    | (refine wpPlan_valK (by rfl) (fun K hK => ?_); refine ⟨.tuple #[.slice none 0 0, .bool false], fun W hW => exec_look 222 _ _ true rfl (.map (some bm)) (.agg (l.map b8).toArray) _ rfl rfl (Ents.look_out (hE3.out.of_block (hW.drew_left.block bm hE3.out.lt)) keyD Try.underlying222 (zeroB _) hkk.out hm.out true), ?_⟩; go_simp; refine hK _ ?_; clear hK K)
    | (refine wpPlan_valK (by rfl) (fun K hK => ?_); apply Exists.intro; refine ⟨fun W hW => ?_, ?_⟩; (focus (have hs0 := hW.cell c0; go_simp; (try rfl); done)); go_simp; refine hK _ ?_; clear hK K))
  refine wpPlan_nil (fun W hW0 => ?_)
  simp only [List.drop_succ_cons, List.drop_zero, List.drop_nil]
  have b4 := hideP (b3.out.trans (hW0.drew_left.below.mono b3.out.size))
  have d4 := hideP (Row.ext d3.out hW0.drew_left)
  have r4 := hideP (Row.ext r3.out hW0.drew_left)
  have R4 := hideP (Row.ext RW.out hW0.drew_left)
  clear hW0 d3 r3 RW b3 hE3 c0
  have c0 := Row.cell R4.out 0
  simp only [List.getElem?_cons_zero] at c0
  go_upto_region 4 with fail
  have AW := hideP (HhA.out.after b4.out)
  have E4 := hideP (hE.out.of_block (w' := W) (b4.out.block bm hbl.out))
  refine wp_region_fork 7 (.q 0 (.q 1 (.q 2 (.q 3 (.q 4 (.q 5 (.l 6 .nil))))))) (by kernel_rfl) (by kernel_rfl) ?_
  simp only [pickT, nthO_zero, nthO_succ]
  repeat (first
    | (refine wpT_valK (by rfl) (fun K hK => ?_); refine ⟨.agg (l.map b8).toArray, fun W' hW => exec_load_mid 37 (.tmp 5) rfl d 0 rfl (l.map b8) _ (Row.range (Row.ext d4.out hW.drew_left)) Try.underlying37 rfl hsz.out, ?_⟩; go_simp; refine hK _ ?_; clear hK K)
    | (refine wpT_valK (by rfl) (fun K hK => ?_); apply Exists.intro; refine ⟨fun W' hW => ?_, ?_⟩; (focus (have hs0 := hW.cell c0; go_simp; (try rfl); done)); go_simp; refine hK _ ?_; clear hK K))
  refine wpT_loudK 219 #[.slice At t.length ct] (by rfl) (fun W' => by go_simp) (fun W1 hW1 => (bclone_any At t ct W1 (AW.out.ext hW1.drew_left) (by have := Hhn.out; omega)).mono ?_)
  rintro e W2 ⟨R, dc, rfl, ho, hb⟩
  refine ⟨_, rfl, Ext.of_below hb, fun K hK => ?_⟩
  go_simp
  refine hK _ ?_
  clear hK K
  refine wpT_nil (fun W3 hW3 => ?_)
  simp only [List.drop_succ_cons, List.drop_zero, List.drop_nil]
  have x3 := hideP (hW1.drew_left.trans ((Ext.of_below hb).trans hW3))
  have o3 := hideP (ho.ext hW3)
  have hW1s := hideP hW1.drew_left.size
  have E3 := hideP (E4.out.of_block (w' := W3) (x3.out.block bm E4.out.lt))
  obtain ⟨ob, hup, hE5⟩ := Ents.put_out (val := .slice R t.length dc) E3.out keyD Try.underlying222 hkk.out hm.out
  have hup' := hideP hup
  obtain ⟨W4, hW4⟩ : ∃ W4, W4 = ChangeMaps.setBlock W3 bm ob := ⟨_, rfl⟩
  rw [← hW4] at hup' hE5
  have hW4' := hideP hW4
  have hE5' := hideP hE5
  clear hup hW4 hE5 hW3 hb ho hW1 hb2
  have hbd := hideP (show bm ≠ d by have := rd.out; have := hbl.out; omega)
  have hbr := hideP (show bm ≠ w.heap.size by have := hbl.out; omega)
  have oth := hideP (show ∀ k, k ≠ bm → W4.heap[k]? = W3.heap[k]? from fun k hk => by rw [hW4'.out]; exact setBlock_other _ _ _ hk)
  have d5 := hideP (show Row W4 d 37 (l.map b8) from (oth.out d (fun e => hbd.out e.symm)).trans (Row.ext d4.out x3.out))
  have r5 := hideP (show Row W4 w.heap.size 37 z32 from (oth.out _ (fun e => hbr.out e.symm)).trans (Row.ext r4.out x3.out))
  go_wp2_with (first
    | (at_mapUpdate; refine wpList_upd rfl _ _ _ 222 rfl (.map (some bm)) (.agg (l.map b8).toArray) (.slice R t.length dc) W4 rfl rfl rfl hup'.out ?_)
    | (refine wpList_load_row rfl 37 (.tmp 5) rfl d rfl 37 (l.map b8).toArray (0, 0) _ d5.out Try.underlying37 rfl hds.out ?_)
    | (refine wpList_store_row rfl 37 (.tmp 4) (.tmp 53) rfl w.heap.size (l.map b8).toArray rfl rfl 37 z32.toArray r5.out hds.out hdo.out hda.out ?_))
  refine ret_row rfl rfl (Row.setRow r5.out (l.map b8)) Try.underlying37 (by rw [size_dig, List.length_map, hll.out]) rfl ⟨fun b => S b ∨ (w.heap.size ≤ b ∧ b < (W4.setRow w.heap.size (l.map b8).toArray).heap.size), rfl, ?_⟩
  have sW4 : W4.heap.size = W3.heap.size := by rw [hW4'.out]; exact setBlock_size _ _ _
  have sW5 : (W4.setRow w.heap.size (l.map b8).toArray).heap.size = W3.heap.size := by simp [World.setRow, sW4]
  have bB : But S w W3 := But.of_ext ((Ext.of_below b4.out).trans x3.out)
  have bC : But (fun b => S b ∨ w.heap.size ≤ b) W3 (W4.setRow w.heap.size (l.map b8).toArray) := by
    refine (show But _ W3 W4 by rw [hW4'.out]; exact But.setBlock _ _ _ (.inl hSb.out)).trans (But.setRow _ _ _ (.inr (Nat.le_refl _)))
  have hsz3 : w.heap.size ≤ W3.heap.size := bB.size
  have hsame : ∀ k, k ≠ bm → k < w.heap.size → (W4.setRow w.heap.size (l.map b8).toArray).heap[k]? = w.heap[k]? := fun k hk hlt => by
    rw [setRow_other _ _ _ _ (by omega), oth.out k hk]
    exact (x3.out.block k (Nat.lt_of_lt_of_le hlt b4.out.size)).trans (b4.out.block k hlt)
  refine ⟨bB.mono2 (fun b hb => hb) bC, fun b hb => hb.imp id fun h => h.1, ?_⟩
  refine PSt.more (A := A) (c := c) (ca := ca) (cb := cb) hP.out hx.out hy.out hf.out hr.out hSg.out hSb.out hgb.out (fun k hk hne => hsame k hne (hf.out k hk)) (by rw [sW5]; exact hsz3) ?_ ?_ (R := R) (dc := dc) ?_ ?_ Hht.out Hhn.out Hhs.out
  · obtain ⟨es, clock, hes, _⟩ := hE.out
    exact ⟨es, clock, hes⟩
  · exact (hsame g hgb.out hgl.out).trans hRow.out
  · rw [← hlt.out]
    exact hE5'.out.of_block (setRow_other _ _ _ _ (by have := hbr.out; omega))
  · have := o3.out.arrS
    intro hn0
    obtain ⟨q, off, hA, hS, hb, hc⟩ := this hn0
    have hbase : w.heap.size ≤ q ∧ q ≠ w.heap.size := by
      have h1 := rd.out
      have h2 := (Row.lt d4.out)
      have h3 := hW1s.out
      have h4 := b4.out.size
      constructor <;> omega
    refine ⟨q, off, hA, hbase.1, by rw [sW5]; exact hb, fun i hi => ?_⟩
    have hq : q ≠ bm := by have := hbl.out; omega
    exact (World.cell?_of_block (w := W3) ((setRow_other _ _ _ _ hbase.2).trans (oth.out q hq))).trans (hc i hi)
end Go.Proofs.Ytgcbodpjidoanaa
