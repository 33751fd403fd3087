/- Contracts of page's New, Len, Get, Clash. -/
import Derived.Test.YtjdbpeblbejllaaPage1
set_option linter.unusedVariables false
set_option linter.unusedSimpArgs false
namespace Go.Proofs.Ytjdbpeblbejllaa
open Go.RowKit
open Go.Maps (Keyed)
theorem zeroB (w : World) : (zeroValue 22).run Try.prog w = .ok (.slice none 0 0) w := by kernel_rfl
theorem size_dg (l : List Nat) (hl : l.length = 32) : (Try.prog.info? 25).map (·.size) = some (l.map b8).length := by
  rw [List.length_map, hl]; kernel_rfl
section
variable {S : Nat → Prop} {w w' : World} {g : Nat} {L : List (List Nat)} {C : Option (List Nat × List Nat)}
end
theorem pnew_any (w : World) : Calls Try.prog 16 #[] w fun e w' => ∃ g S, e = .returned (.pointer (some ⟨g, 0, none⟩)) ∧ Below w.heap.size w w' ∧ PSt w' S g [] none ∧ ∀ b, S b → w.heap.size ≤ b := by
  have hmm := @run_makeMap Try.prog
  go_enter Try.func16, Try.ntmps16
  go_wp2
  go_ret
  have e1 : (w.alloc (.map #[] 0)).heap.size = w.heap.size + 1 := by simp
  refine ⟨w.heap.size + 1, fun b => b = w.heap.size ∨ b = w.heap.size + 1, rfl, (below_new w _).trans ((Below.refl _ _).alloc (by simp) _), ?_, fun b hb => by omega⟩
  have hE := (Ents.made w Try.prog 25).of_block (w' := (w.alloc (.map #[] 0)).alloc (.cells #[.map (some w.heap.size), .slice none 0 0, .slice none 0 0, .bool false] 84)) (Below.heap_alloc _ _ _ (by simp))
  refine ⟨w.heap.size, fun _ => none, fun _ => 0, none, none, 0, 0, [], [], ?_, hE, Or.inr rfl, Or.inl rfl, by omega, fun t ht => by simp at ht, fun h => by simp at h, fun h => by simp at h, fun b hb => ?_, fun i => by simp, fun i => by simp, by simp, by simp, fun _ => ⟨rfl, rfl⟩, fun p hp => by cases hp⟩
  · exact Row.new' (w.alloc (.map #[] 0)) 84 [.map (some w.heap.size), .slice none 0 0, .slice none 0 0, .bool false] _ e1
  · have : ((w.alloc (.map #[] 0)).alloc (.cells #[.map (some w.heap.size), .slice none 0 0, .slice none 0 0, .bool false] 84)).heap.size = w.heap.size + 1 + 1 := by simp
    rw [this]
    omega
theorem plen_any (g : Nat) (S : Nat → Prop) (L : List (List Nat)) (C : Option (List Nat × List Nat)) (w : World) (h : PSt w S g L C) :
    Calls Try.prog 26 #[.pointer (some ⟨g, 0, none⟩)] w fun e w' => e = .returned (.int .i64 L.length) ∧ w = w' := by
  obtain ⟨bm, A, c, a, b, ca, cb, x, y, h1, h2, h3⟩ := h
  have c0 := Row.cell h1 0
  simp only [List.getElem?_cons_zero] at c0
  have hl := hideP (h2.len Try.underlying82 3)
  have hL := hideP (show (entsOf A c L).length = L.length by simp [entsOf])
  clear h1 h2 h3
  go_enter Try.func26, Try.ntmps26
  go_wp2_with (at_len; refine wpList_len rfl _ 82 rfl (.map (some bm)) _ rfl hl.out ?_)
  go_ret
  exact ⟨by rw [← hL.out]; rfl, rfl⟩
theorem pget_in (g : Nat) (S : Nat → Prop) (L : List (List Nat)) (C : Option (List Nat × List Nat)) (u l : List Nat) (w : World) (h : PSt w S g L C) (hu : u ∈ L) (hs : sum9 u = l) :
    Calls Try.prog 18 #[.pointer (some ⟨g, 0, none⟩), dg l] w fun e w' => ∃ R d, e = .returned (.tuple #[.slice R u.length d, .int .i64 0]) ∧ Below w.heap.size w w' ∧ OwnB w' w.heap.size R d u := by
  obtain ⟨bm, A, c, a, b, ca, cb, x, y, h1, h2, h3, h4, h5, h6, r⟩ := h
  subst hs
  have c0 := Row.cell h1 0
  simp only [List.getElem?_cons_zero] at c0
  obtain ⟨kl, hkl⟩ := key_dg (sum9 u) (sum9_len u) (isB_dig _)
  have hkk := hideP hkl
  have h2 := hideP h2
  have hm := hideP (show (dg (sum9 u), Value.slice (A u) u.length (c u)) ∈ entsOf A c L from List.mem_map.2 ⟨u, hu, rfl⟩)
  have hA := hideP (h6 u hu).1.arr
  have hn := hideP (h6 u hu).2.2
  have hz := hideP (sum9_len u)
  obtain ⟨l, hl⟩ : ∃ l, l = sum9 u := ⟨_, rfl⟩
  rw [← hl] at hkk hm hz ⊢
  clear h1 h3 h4 h5 h6 r hu hkl hl
  have hsz := hideP (size_dg l hz.out)
  unfold dg at *
  go_enter Try.func18, Try.ntmps18
  go_upto_region 1 with fail
  obtain ⟨w1, hw1⟩ : ∃ w1, w1 = w.alloc (Obj.cells (l.map b8).toArray 25) := ⟨_, rfl⟩
  have d1 := hideP (show Row w1 w.heap.size 25 (l.map b8) by rw [hw1]; exact Row.new w _ _)
  have b1 := hideP (show Below w.heap.size w w1 by rw [hw1]; exact below_new _ _)
  have c0' : w1.cell? ⟨g, 0, none⟩ = some (.map (some bm)) := cell_below b1.out (World.block_lt_of_cell? _ _ c0) c0
  rw [← hw1]
  clear hw1 c0
  have hE := hideP (h2.out.of_block (w' := w1) (b1.out.block bm h2.out.lt))
  refine wp_region_eager 11 [(true, 0), (true, 1), (true, 2), (true, 3), (true, 4), (true, 5), (true, 6), (true, 7), (true, 8), (true, 9), (true, 10)] (by kernel_rfl) (by kernel_rfl) ?_
  simp only [pick, List.map_cons, List.map_nil, nthO_zero, nthO_succ]
  repeat (first
    | (refine wpPlan_skipK (by rfl) (fun K hK => ?_); go_simp; refine hK _ ?_; clear hK K)
    | (refine wpPlan_valK (by rfl) (fun K hK => ?_); refine ⟨.agg (l.map b8).toArray, fun W hW => exec_load_mid 25 (.tmp 3) rfl w.heap.size 0 rfl (l.map b8) _ (Row.range (Row.ext d1.out hW.drew_left)) Try.underlying25 rfl hsz.out, ?_⟩; go_simp; refine hK _ ?_; clear hK K)
    | (refine wpPlan_valK (by rfl) (fun K hK => ?_); refine ⟨.tuple #[.slice (A u) u.length (c u), .bool true], fun W hW => exec_look 82 _ _ true rfl (.map (some bm)) (.agg (l.map b8).toArray) _ rfl rfl (Ents.look_in (hE.out.of_block (hW.drew_left.block bm hE.out.lt)) keyD Try.underlying82 hkk.out hm.out true), ?_⟩; go_simp; refine hK _ ?_; clear hK K)
    | (refine wpPlan_valK (by rfl) (fun K hK => ?_); apply Exists.intro; refine ⟨fun W hW => ?_, ?_⟩; (focus (have hs0 := hW.cell c0'; go_simp; (try rfl); done)); go_simp; refine hK _ ?_; clear hK K))
  refine wpPlan_nil (fun W hW0 => ?_)
  simp only [List.drop_succ_cons, List.drop_zero, List.drop_nil]
  have hB := hideP (b1.out.trans (hW0.drew_left.below.mono b1.out.size))
  have hAW := hideP (hA.out.after hB.out)
  clear hW0 b1 d1 c0' h2 hE
  go_wp2_with (first
    | (go_at_call 47; refine (bclone_any (A u) u (c u) _ hAW.out (by have := hn.out; omega)).mono ?_; rintro e w2 ⟨R, d, rfl, ho, hb⟩; have ho' := hideP ho; have hb' := hideP (hB.out.trans (hb.mono hB.out.size))))
  go_ret2
  exact ⟨R, d, rfl, hb'.out, ho'.out.mono hB.out.size⟩
theorem pget_out (g : Nat) (S : Nat → Prop) (L : List (List Nat)) (C : Option (List Nat × List Nat)) (l : List Nat) (w : World) (h : PSt w S g L C) (hll : l.length = 32) (hlb : IsB l) (hs : ∀ u ∈ L, sum9 u ≠ l) :
    Calls Try.prog 18 #[.pointer (some ⟨g, 0, none⟩), dg l] w fun e w' => e = .returned (.tuple #[.slice none 0 0, .int .i64 9]) ∧ Below w.heap.size w w' := by
  obtain ⟨bm, A, c, a, b, ca, cb, x, y, h1, h2, h3⟩ := h
  have c0 := Row.cell h1 0
  simp only [List.getElem?_cons_zero] at c0
  obtain ⟨kl, hkl⟩ := key_dg l hll hlb
  have hkk := hideP hkl
  have h2 := hideP h2
  have hm := hideP (show ∀ x ∈ entsOf A c L, x.1 ≠ dg l from fun x hx => by
    obtain ⟨u, hu, rfl⟩ := List.mem_map.1 hx
    exact fun e => hs u hu (dg_inj e))
  have hsz := hideP (size_dg l hll)
  clear h1 h3 hkl hs hll hlb
  unfold dg at *
  go_enter Try.func18, Try.ntmps18
  go_upto_region 1 with fail
  obtain ⟨w1, hw1⟩ : ∃ w1, w1 = w.alloc (Obj.cells (l.map b8).toArray 25) := ⟨_, rfl⟩
  have d1 := hideP (show Row w1 w.heap.size 25 (l.map b8) by rw [hw1]; exact Row.new w _ _)
  have b1 := hideP (show Below w.heap.size w w1 by rw [hw1]; exact below_new _ _)
  have c0' : w1.cell? ⟨g, 0, none⟩ = some (.map (some bm)) := cell_below b1.out (World.block_lt_of_cell? _ _ c0) c0
  rw [← hw1]
  clear hw1 c0
  have hE := hideP (h2.out.of_block (w' := w1) (b1.out.block bm h2.out.lt))
  refine wp_region_eager 11 [(true, 0), (true, 1), (true, 2), (true, 3), (true, 4), (true, 5), (true, 6), (true, 7), (true, 8), (true, 9), (true, 10)] (by kernel_rfl) (by kernel_rfl) ?_
  simp only [pick, List.map_cons, List.map_nil, nthO_zero, nthO_succ]
  repeat (first
    | (refine wpPlan_skipK (by rfl) (fun K hK => ?_); go_simp; refine hK _ ?_; clear hK K)
    | (refine wpPlan_valK (by rfl) (fun K hK => ?_); refine ⟨.agg (l.map b8).toArray, fun W hW => exec_load_mid 25 (.tmp 3) rfl w.heap.size 0 rfl (l.map b8) _ (Row.range (Row.ext d1.out hW.drew_left)) Try.underlying25 rfl hsz.out, ?_⟩; go_simp; refine hK _ ?_; clear hK K)
    | (refine wpPlan_valK (by rfl) (fun K hK => ?_); refine ⟨.tuple #[.slice none 0 0, .bool false], fun W hW => exec_look 82 _ _ true rfl (.map (some bm)) (.agg (l.map b8).toArray) _ rfl rfl (Ents.look_out (hE.out.of_block (hW.drew_left.block bm hE.out.lt)) keyD Try.underlying82 (zeroB _) hkk.out hm.out true), ?_⟩; go_simp; refine hK _ ?_; clear hK K)
    | (refine wpPlan_valK (by rfl) (fun K hK => ?_); apply Exists.intro; refine ⟨fun W hW => ?_, ?_⟩; (focus (have hs0 := hW.cell c0'; go_simp; (try rfl); done)); go_simp; refine hK _ ?_; clear hK K))
  refine wpPlan_nil (fun W hW0 => ?_)
  simp only [List.drop_succ_cons, List.drop_zero, List.drop_nil]
  have hB := hideP (b1.out.trans (hW0.drew_left.below.mono b1.out.size))
  clear hW0 b1 d1 c0' h2 hE
  go_wp2
  go_ret2
  exact ⟨rfl, hB.out⟩
end Go.Proofs.Ytjdbpeblbejllaa
