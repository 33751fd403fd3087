/- 'append([]byte{}, x..)': a new row, and all that was stays. Contract of the document's OpeningPreimage. -/
import Derived.Laws.AppendOwn
import Derived.Test.YtiicdnbhphgieaaK26
import Derived.Test.YtiicdnbhphgieaaK29
import Derived.Test.YtiicdnbhphgieaaK34
import Derived.Test.YtiicdnbhphgieaaK35
set_option linter.unusedVariables false
set_option linter.unusedSimpArgs false
namespace Go.Proofs.Ytiicdnbhphgieaa
open Go.RowKit
theorem exec_append_grow0 {o : Oper} {a : Act} {w : World} (s x : Operand) (ho : o.op = .call { callee := .builtin .append, args := #[s, x], argTypes := #[31, 31] })
    (g : Nat) (b off n c : Nat) (t : List Nat) (hs : a.eval s = .slice (some ⟨g, 0, none⟩) 0 0) (hx : a.eval x = .slice (some ⟨b, off, none⟩) n c) (ht : n = t.length) (hA : ∀ i, i < n → w.cell? ⟨b, off + i, none⟩ = some (u8s t i)) (h0 : 0 < n) (hn : n ≤ 100000000000000) :
    ∃ c' w', (execOp a.eval o).run Try.prog w = .ok (.value (.slice (some ⟨w.heap.size, 0, none⟩) n c')) w' ∧ Ext w w' ∧ OwnB w' w.heap.size (some ⟨w.heap.size, 0, none⟩) c' t := by
  obtain ⟨i0, hi0, hz0, hz1, hz2⟩ := info_parts info_b8
  subst ht
  have h := run_append_grow (P := Try.prog) w 31 o.type 5 i0 (.int .u8 0) Try.underlying31 hi0 hz0 ⟨g, 0, none⟩ 0 0 [] (by simp) (by simp) ⟨b, off, none⟩ t.length c (t.map b8) (by rw [hz1]; simp) (fun j v hv => by
    have hj : j < t.length := by simpa using (List.getElem?_eq_some_iff.1 hv).1
    rw [Addr.add_mid, hA j hj, ← hv]
    simp [u8s, b8, List.getD, List.getElem?_map, List.getElem?_eq_getElem hj]) (by omega) (by omega) (by rw [hz2]; exact growslice_fits (by omega) (by omega))
  rw [Nat.zero_add] at h
  have hge := grownCap_ge w t.length 0 5
  have hle := grownCap_le_maxLen w t.length 0 5 (by unfold maxLen; omega)
  obtain ⟨C, hC⟩ : ∃ C, C = grownCap w t.length 0 5 := ⟨_, rfl⟩
  rw [← hC] at h hge hle
  refine ⟨C, w.drew.alloc (Obj.cells (#[] ++ (List.map b8 t).toArray ++ Builtin.zeroCells (Value.int .u8 0).cells (C - t.length)) 5), ?_, (Ext.alloc w.drew _).drew_left, ?_⟩
  · unfold execOp
    simp only [ho, resolve, invoke, builtin, Sem.run_bind, Sem.run_pure, Result.andThen_ok, List.map_toArray, List.map_cons, List.map_nil, hs, hx]
    rw [h]; rfl
  · refine ⟨by simp, .inr ⟨w.heap.size, C, _, rfl, Nat.le_refl _, heap_alloc_new w.drew _, hge, hle, ?_, ?_⟩⟩
    · simp only [Array.size_append, size_zeroCells, List.size_toArray, List.length_map]
      show 0 + t.length + (C - t.length) * 1 = C * 1
      omega
    · simp
theorem turn_grow0 {S : Nat → Prop} {o : Oper} {a : Act} {W : World} {Kk : Value → World → Prop} (s x : Operand) (ho : o.op = .call { callee := .builtin .append, args := #[s, x], argTypes := #[31, 31] })
    (b off n c : Nat) (t : List Nat) (hs : ∃ g, a.eval s = .slice (some ⟨g, 0, none⟩) 0 0) (hx : a.eval x = .slice (some ⟨b, off, none⟩) n c) (ht : n = t.length) (hA : ∀ i, i < n → W.cell? ⟨b, off + i, none⟩ = some (u8s t i)) (h0 : 0 < n) (hn : n ≤ 100000000000000)
    (h : ∀ c' w', Ext W w' → OwnB w' W.heap.size (some ⟨W.heap.size, 0, none⟩) c' t → Kk (.slice (some ⟨W.heap.size, 0, none⟩) n c') w') : ∃ v w', ((execOp a.eval o).run Try.prog W = .ok (.value v) w' ∧ But S W w') ∧ Kk v w' := by
  obtain ⟨g, hs⟩ := hs
  obtain ⟨c', w', h1, h2, h3⟩ := exec_append_grow0 s x ho g b off n c t hs hx ht hA h0 hn
  exact ⟨_, w', ⟨h1, But.of_ext h2⟩, h c' w' h2 h3⟩
theorem wpList_grow0 {ops : Array Oper} {rest : List Oper} {Q : Exit → Act → World → Prop} {o : Oper} {a : Act} {w : World} (hgd : o.guard = none) (s x : Operand) (ho : o.op = .call { callee := .builtin .append, args := #[s, x], argTypes := #[31, 31] })
    (g : Nat) (b off n c : Nat) (t : List Nat) (hs : a.eval s = .slice (some ⟨g, 0, none⟩) 0 0) (hx : a.eval x = .slice (some ⟨b, off, none⟩) n c) (ht : n = t.length) (hA : ∀ i, i < n → w.cell? ⟨b, off + i, none⟩ = some (u8s t i)) (h0 : 0 < n) (hn : n ≤ 100000000000000)
    (h : ∀ c' w', Ext w w' → OwnB w' w.heap.size (some ⟨w.heap.size, 0, none⟩) c' t → wpList Try.prog ops Q rest (a.put o.dst (.slice (some ⟨w.heap.size, 0, none⟩) n c')) w') : wpList Try.prog ops Q (o :: rest) a w := by
  obtain ⟨c', w', h1, h2, h3⟩ := exec_append_grow0 s x ho g b off n c t hs hx ht hA h0 hn
  refine wpList_plain hgd fun K hK => ?_
  unfold Oper.wp
  rw [h1]
  exact hK _ _ (h c' w' h2 h3)
end Go.Proofs.Ytiicdnbhphgieaa
namespace Go.Proofs.Ytiicdnbhphgieaa
open Go.RowKit
theorem Arr.at32 {w : World} {b off n : Nat} {f : Nat → Value} (h : Arr w w.heap.size (some ⟨b, off, none⟩) n f) (h0 : 0 < n) : ∀ i, i < n → w.cell? ⟨b, off + i, none⟩ = some (f i) := by
  obtain ⟨b', off', e, _, hc⟩ := h h0
  injection e with e; injection e with e1 e2
  subst e1 e2
  exact hc
def opnR : Tr := .l 10 (.l 11 (.l 12 .nil))
def opnT : Tr := .alt (.l 2 (.alt (.l 3 (.alt (.l 6 (.l 7 opnR)) (.l 7 (.l 6 opnR)))) (.l 7 (.l 3 (.l 6 opnR)))))
  (.alt (.l 3 (.alt (.l 2 (.alt (.l 6 (.l 7 opnR)) (.l 7 (.l 6 opnR)))) (.l 7 (.l 2 (.l 6 opnR))))) (.l 7 (.alt (.l 2 (.l 3 (.l 6 opnR))) (.l 3 (.l 2 (.l 6 opnR))))))
set_option maxRecDepth 100000 in
set_option maxHeartbeats 1000000 in
theorem rdpre_any (o : OpenD) (hk : OpenOk o) (w : World) :
    Calls Try.prog 31 #[.agg (openC o).toArray] w fun e w' => ∃ R d, e = .returned (.slice R (openP o).length d) ∧ OwnB w' w.heap.size R d (openP o) ∧ Below w.heap.size w w' := by
  obtain ⟨v, hv⟩ : ∃ v, v = w.alloc (.cells (openC o).toArray 57) := ⟨_, rfl⟩
  obtain ⟨z, hz⟩ : ∃ z, z = w.heap.size := ⟨_, rfl⟩
  have r0 : Row v z 57 (openC o) := by rw [hv, hz]; exact Row.new w _ _
  have BW := hideP (show Below w.heap.size w v by rw [hv]; exact below_new w _)
  have R0 := hideP r0
  have k0 := open_num r0
  have H := hideP (open_hist hk r0)
  have D := hideP (open_head hk r0)
  have Hv := hideP hv
  have Hz := hideP hz
  have hP := hideP (fun W AT c (Af : Nat → Option Addr) cf hT hA => rpre_any 68 AT c [num8 o.blocks, o.hist, o.head] Af cf W hT hA (Nat.le_trans (openP_len hk) (by decide)) (by simp))
  have hH := hideP hk.h
  have hD := hideP hk.d
  have hN := hideP (fun W => rwnum_any o.blocks W hk.n1 hk.n2)
  rw [show preN 68 [num8 o.blocks, o.hist, o.head] = openP o from rfl] at hP
  obtain ⟨Z, hZ⟩ : ∃ Z, Z = openP o := ⟨_, rfl⟩
  obtain ⟨C, hC⟩ : ∃ Z, Z = openC o := ⟨_, rfl⟩
  obtain ⟨n, t1, t2⟩ := o
  dsimp only at k0 H D hP hH hD hN
  rw [← hZ] at hP ⊢
  rw [← hC] at Hv R0 ⊢
  clear hv hz hZ hC r0 hk
  go_enter Try.func31, Try.ntmps31
  go_upto_region 1 with fail
  rw [← Hz.out, ← Hv.out]
  refine wp_region_mut (S := fun _ => False) 13 (.q 0 (.q 1 (.q 4 (.q 5 (.q 8 (.q 9 opnT)))))) (by kernel_rfl) (by kernel_rfl) ?_
  simp only [pickT, nthO_zero, nthO_succ, opnT, opnR]
  iterate 6 (refine wpM_valK (by rfl) (fun K hK => ?_); apply Exists.intro; refine ⟨fun W hW => ?_, ?_⟩; (focus (have hs0 := hW.drew_left.cell k0 (fun h => h); go_simp; (try rfl); done)); go_simp; refine hK _ ?_; clear hK K)
  replace H := hideP (show Arr v.drew v.drew.heap.size (some ⟨z, 1, none⟩) 32 (u8s t1) from H.out)
  replace D := hideP (show Arr v.drew v.drew.heap.size (some ⟨z, 33, none⟩) 32 (u8s t2) from D.out)
  replace BW := hideP (below_ext BW.out (Ext.refl v.drew).drew_left)
  clear k0 R0 Hv
  generalize v.drew = v1 at H D BW ⊢
  repeat' (first
    | (refine wpM_alt ?_ ?_)
    | (refine wpM_loudS 85 #[.int .i64 n] ?_ ?_ (fun W hW => (hN.out W).mono ?_); (focus (rfl)); (focus (intro W; go_simp; done)); rintro e_ w2 ⟨g2, rfl, o_, b_⟩; refine ⟨_, rfl, But.of_below b_, fun K hK => ?_⟩; go_simp; refine hK _ ?_; clear hK K; have E := hW.trans (Ext.of_below b_);
       (try replace N := hideP (N.out.ext E)); (try replace P9 := hideP (P9.out.ext E)); (try replace P13 := hideP (P13.out.ext E)); replace H := hideP (H.out.ext E); replace D := hideP (D.out.ext E); replace BW := hideP (below_ext BW.out E); clear E
       ; have N := hideP o_.arr; clear o_ b_ hW)
    | (refine wpM_turnK ?_ (fun W hW => ?_); (focus (rfl)); refine turn_grow0 (.tmp 6) (.tmp 8) ?_ z 1 32 32 t1 ?_ ?_ hH.out.symm (Arr.at32 (H.out.ext hW) (Nat.zero_lt_succ 31)) (Nat.zero_lt_succ 31) (Nat.le_of_ble_eq_true rfl) (fun c9 w9 x_ o_ K hK => ?_); (focus (rfl)); (focus (exact ⟨_, rfl⟩)); (focus (rfl)); go_simp; refine hK _ ?_; clear hK K; obtain ⟨g9, hg9⟩ : ∃ g9, g9 = W.heap.size := ⟨_, rfl⟩; rw [← hg9] at o_ ⊢; have E := hW.trans x_;
       (try replace N := hideP (N.out.ext E)); (try replace P9 := hideP (P9.out.ext E)); (try replace P13 := hideP (P13.out.ext E)); replace H := hideP (H.out.ext E); replace D := hideP (D.out.ext E); replace BW := hideP (below_ext BW.out E); clear E
       ; have P9 := hideP o_.arr; clear o_ x_ hW hg9)
    | (refine wpM_turnK ?_ (fun W hW => ?_); (focus (rfl)); refine turn_grow0 (.tmp 10) (.tmp 12) ?_ z 33 32 32 t2 ?_ ?_ hD.out.symm (Arr.at32 (D.out.ext hW) (Nat.zero_lt_succ 31)) (Nat.zero_lt_succ 31) (Nat.le_of_ble_eq_true rfl) (fun c13 w13 x_ o_ K hK => ?_); (focus (rfl)); (focus (exact ⟨_, rfl⟩)); (focus (rfl)); go_simp; refine hK _ ?_; clear hK K; obtain ⟨g13, hg13⟩ : ∃ g9, g9 = W.heap.size := ⟨_, rfl⟩; rw [← hg13] at o_ ⊢; have E := hW.trans x_;
       (try replace N := hideP (N.out.ext E)); (try replace P9 := hideP (P9.out.ext E)); (try replace P13 := hideP (P13.out.ext E)); replace H := hideP (H.out.ext E); replace D := hideP (D.out.ext E); replace BW := hideP (below_ext BW.out E); clear E
       ; have P13 := hideP o_.arr; clear o_ x_ hW hg13)
    | (refine wpM_buildK ?_ (fun W hW => ?_); (focus (rfl)); refine ⟨.slice (some ⟨W.heap.size, 0, none⟩) 0 0, W.alloc (.cells #[] 5), ⟨?_, Ext.alloc _ _⟩, fun K hK => ?_⟩; (focus (go_simp; done)); go_simp; refine hK _ ?_; clear hK K; have E := hW.trans (Ext.alloc W (.cells #[] 5));
       (try replace N := hideP (N.out.ext E)); (try replace P9 := hideP (P9.out.ext E)); (try replace P13 := hideP (P13.out.ext E)); replace H := hideP (H.out.ext E); replace D := hideP (D.out.ext E); replace BW := hideP (below_ext BW.out E); clear E
       ; clear hW))
  all_goals
    refine wpM_buildK (by rfl) (fun W5 hW5 => ?_)
    refine ⟨.slice (some ⟨W5.heap.size, 0, none⟩) 3 3, W5.alloc (.cells #[.slice (some ⟨g2, 0, none⟩) 8 8, .slice (some ⟨g9, 0, none⟩) 32 c9, .slice (some ⟨g13, 0, none⟩) 32 c13] 31), ⟨by go_simp, Ext.alloc _ _⟩, fun K hK => ?_⟩
    go_simp
    refine hK _ ?_
    clear hK K
    have hr3 := hideP (row3 W5 (some ⟨g2, 0, none⟩) (some ⟨g9, 0, none⟩) (some ⟨g13, 0, none⟩) (num8 n) t1 t2 8 32 32 8 c9 c13 (num8_len n).symm hH.out.symm hD.out.symm (by have := N.out.ext hW5; rwa [num8_len] at this) (by have := P9.out.ext hW5; rwa [hH.out] at this) (by have := P13.out.ext hW5; rwa [hD.out] at this))
    have B5 := hideP (below_ext BW.out hW5)
    obtain ⟨v5, hv5⟩ : ∃ v, v = W5.alloc (.cells #[.slice (some ⟨g2, 0, none⟩) 8 8, .slice (some ⟨g9, 0, none⟩) 32 c9, .slice (some ⟨g13, 0, none⟩) 32 c13] 31) := ⟨_, rfl⟩
    rw [← hv5] at hr3 ⊢
    have B6 := hideP (below_ext B5.out (show Ext W5 v5 by rw [hv5]; exact Ext.alloc _ _))
    obtain ⟨h5a, h5b⟩ := hr3.out
    refine wpM_loudS 76 #[.int .u8 68, .slice (some ⟨W5.heap.size, 0, none⟩) 3 3] (by rfl) (fun W => by go_simp) (fun W hW => (hP.out W (some ⟨W5.heap.size, 0, none⟩) 3 _ _ (h5a.after hW.below) (fun i hi => (h5b i hi).after hW.below)).mono ?_)
    rintro e7 w7 ⟨A7, d7, rfl, b7_, o7_⟩
    refine ⟨_, rfl, But.of_below b7_, fun K hK => ?_⟩
    go_simp
    refine hK _ ?_
    clear hK K
    have B7 := hideP (below_ext B6.out (hW.trans (Ext.of_below b7_)))
    have O7 := hideP (OwnB.monoR o7_ (Nat.le_trans B6.out.size hW.size))
    clear hW b7_ o7_ h5a h5b hr3
    refine wpM_nil (fun W8 hW8 => ?_)
    simp only [List.drop_succ_cons, List.drop_zero, List.drop_nil]
    have B8 := hideP (below_ext B7.out hW8)
    have O8 := hideP (O7.out.ext hW8)
    clear hW8
    go_wp2_with fail
    go_ret
    exact ⟨A7, d7, rfl, O8.out, B8.out⟩
end Go.Proofs.Ytiicdnbhphgieaa
