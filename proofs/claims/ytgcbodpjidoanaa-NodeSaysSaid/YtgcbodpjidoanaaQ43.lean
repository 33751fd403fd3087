/- Contract of the reference's SameNode. -/
import Derived.Test.YtgcbodpjidoanaaQ20
import Derived.Test.YtgcbodpjidoanaaQ42
set_option linter.unusedVariables false
set_option linter.unusedSimpArgs false
namespace Go.Proofs.Ytgcbodpjidoanaa
open Go.RowKit
theorem butf_ext {w W : World} (h : But (fun _ => False) w W) : Ext w W := ⟨h.size, fun k hk => h.block k hk id, h.os, h.tape, h.output⟩
theorem take_nextG {α : Type} [Inhabited α] {l m : List α} {k : Nat} (hl : k < l.length) (hm : k < m.length) (h : l.take k = m.take k) (e : l.getD k default = m.getD k default) : l.take (k + 1) = m.take (k + 1) := by
  rw [List.take_add_one, List.take_add_one, h, List.getElem?_eq_getElem hl, List.getElem?_eq_getElem hm]
  simp only [List.getD, List.getElem?_eq_getElem hl, List.getElem?_eq_getElem hm, Option.getD_some] at e
  rw [e]
set_option maxRecDepth 100000 in
set_option maxHeartbeats 4000000 in
theorem rsamenode_any (n m : NodeD) (p q : NodeP) (w : World) (hn : NodeOk n) (hm : NodeOk m) (kn : NodeMem w w.heap.size n p) (km : NodeMem w w.heap.size m q) :
    Calls Try.prog 17 #[.agg (nodeC n p).toArray, .agg (nodeC m q).toArray] w fun e w' => e = .returned (.bool (decide (n = m))) ∧ Below w.heap.size w w' := by
  have hN := hideP hn; have hM := hideP hm; have KN := hideP kn; have KM := hideP km
  unfold nodeC
  obtain ⟨nr, f1⟩ : ∃ b, b = n.rows.length := ⟨_, rfl⟩
  obtain ⟨nk, f2⟩ : ∃ b, b = n.kids.length := ⟨_, rfl⟩
  obtain ⟨kd, f3⟩ : ∃ b, b = n.kind := ⟨_, rfl⟩
  obtain ⟨mr, g1⟩ : ∃ b, b = m.rows.length := ⟨_, rfl⟩
  obtain ⟨mk, g2⟩ : ∃ b, b = m.kids.length := ⟨_, rfl⟩
  obtain ⟨md, g3⟩ : ∃ b, b = m.kind := ⟨_, rfl⟩
  obtain ⟨RS, f4⟩ : ∃ b, b = decide (n = m) := ⟨_, rfl⟩
  have no1 := hideP (fun (h : kd ≠ md) => show RS = false by rw [f4]; simp; intro e; exact h (by rw [f3, g3, e]))
  have no2 := hideP (fun (h : nr ≠ mr) => show RS = false by rw [f4]; simp; intro e; exact h (by rw [f1, g1, e]))
  have no3 := hideP (fun (h : nk ≠ mk) => show RS = false by rw [f4]; simp; intro e; exact h (by rw [f2, g2, e]))
  have no4 := hideP (fun i (h : n.rows.getD i default ≠ m.rows.getD i default) => show RS = false by rw [f4]; simp; intro e; exact h (by rw [e]))
  have no5 := hideP (fun i (h : n.kids.getD i default ≠ m.kids.getD i default) => show RS = false by rw [f4]; simp; intro e; exact h (by rw [e]))
  have yes := hideP (fun (h1 : kd = md) (h2 : n.rows = m.rows) (h3 : n.kids = m.kids) => show RS = true by rw [f4]; simp; cases n; cases m; simp_all)
  rw [← f1, ← f2, ← f3, ← g1, ← g2, ← g3, ← f4]
  have F1 := hideP f1; have F2 := hideP f2; have G1 := hideP g1; have G2 := hideP g2
  clear f1 f2 f3 g1 g2 g3 f4 hn hm kn km
  obtain ⟨v, hv⟩ : ∃ v, v = (w.alloc (.cells #[.int .u8 (kd : Nat), .slice p.rA nr p.rc, .slice p.kA nk p.kc] 27)).alloc (.cells #[.int .u8 (md : Nat), .slice q.rA mr q.rc, .slice q.kA mk q.kc] 27) := ⟨_, rfl⟩
  obtain ⟨g, hg⟩ : ∃ g, g = w.heap.size := ⟨_, rfl⟩
  obtain ⟨g', hg'⟩ : ∃ g', g' = w.heap.size + 1 := ⟨_, rfl⟩
  have T0 := hideP (show Row v g 27 [.int .u8 (kd : Nat), .slice p.rA nr p.rc, .slice p.kA nk p.kc] by rw [hv, hg]; exact (Row.new w _ _).alloc _)
  have U0 := hideP (show Row v g' 27 [.int .u8 (md : Nat), .slice q.rA mr q.rc, .slice q.kA mk q.kc] by rw [hv]; exact Row.new' _ _ _ _ (by simp [hg']))
  have B0 := hideP (show Below w.heap.size w v by rw [hv]; exact (below_new _ _).alloc (by simp) _)
  have Hv := hideP hv
  clear hv
  obtain ⟨pr, hpr⟩ : ∃ a, a = p.rA := ⟨_, rfl⟩
  obtain ⟨pk, hpk⟩ : ∃ a, a = p.kA := ⟨_, rfl⟩
  obtain ⟨qr, hqr⟩ : ∃ a, a = q.rA := ⟨_, rfl⟩
  obtain ⟨qk, hqk⟩ : ∃ a, a = q.kA := ⟨_, rfl⟩
  have Hpr := hideP hpr; have Hpk := hideP hpk; have Hqr := hideP hqr; have Hqk := hideP hqk
  rw [← hpr, ← hpk] at T0 Hv ⊢
  rw [← hqr, ← hqk] at U0 Hv ⊢
  clear hpr hpk hqr hqk
  go_enter Try.func17, Try.ntmps17
  go_upto_region 1 with fail
  rw [← Hv.out, ← hg', ← hg]
  clear hg hg' Hv
  obtain ⟨c0, c1, c2⟩ := nrow3 T0.out
  obtain ⟨d0, d1, d2⟩ := nrow3 U0.out
  by_cases q1 : kd = md
  case neg =>
    have i1 : ((kd : Int) != (md : Int)) = true := by simp; omega
    have hr := hideP (no1.out q1)
    clear q1
    go_wp2_with fail
    go_ret
    exact ⟨by rw [hr.out]; rfl, B0.out⟩
  have i1 : ((kd : Int) != (md : Int)) = false := by simp; omega
  by_cases q2 : nr = mr
  case neg =>
    have i2 : ((nr : Int) != (mr : Int)) = true := by simp; omega
    have hr := hideP (no2.out q2)
    clear q1 q2
    go_wp2_with fail
    go_ret
    exact ⟨by rw [hr.out]; rfl, B0.out⟩
  have i2 : ((nr : Int) != (mr : Int)) = false := by simp; omega
  by_cases q3 : nk = mk
  case neg =>
    have i3 : ((nk : Int) != (mk : Int)) = true := by simp; omega
    have hr := hideP (no3.out q3)
    clear q1 q2 q3
    go_wp2_with fail
    go_ret
    exact ⟨by rw [hr.out]; rfl, B0.out⟩
  have i3 : ((nk : Int) != (mk : Int)) = false := by simp; omega
  have yes2 := hideP (yes.out q1)
  have G1' := hideP (q2.trans G1.out); have G2' := hideP (q3.trans G2.out)
  clear q1 q2 q3 yes no1 no2 no3
  go_upto_region 4 with fail
  clear c0 c1 c2 d0 d1 d2 i1 i2 i3
  go_loopw [5] (fun v5 wr => ∃ (i : Nat), i ≤ nr ∧ v5 = .int .i64 (i : Nat) ∧ Hid (n.rows.take i = m.rows.take i ∧ Below w.heap.size w wr ∧ Row wr g 27 [.int .u8 (kd : Nat), .slice pr nr p.rc, .slice pk nk p.kc] ∧ Row wr g' 27 [.int .u8 (md : Nat), .slice qr mr q.rc, .slice qk mk q.kc])) (fun v5 _ => nr - (intOf v5).toNat)
  case atStart => exact ⟨0, Nat.zero_le _, rfl, rfl, B0.out, T0.out, U0.out⟩
  case round =>
    obtain ⟨i, hi, rfl, hV⟩ := hrel
    have B1 := hideP hV.out.2.1
    have T1 := hideP hV.out.2.2.1
    have U1 := hideP hV.out.2.2.2
    obtain ⟨c0, c1, c2⟩ := nrow3 T1.out
    obtain ⟨d0, d1, d2⟩ := nrow3 U1.out
    by_cases hlt : i < nr
    · have i1 : (i : Int) < (nr : Int) := by omega
      have j1 : (i : Int) < (mr : Int) := by have := F1.out; have := G1'.out; have := G1.out; omega
      have m2 := wrap_succ hlt (by rw [F1.out]; exact hN.out.rows)
      have hil : i < n.rows.length := by have := F1.out; omega
      have hil' : i < m.rows.length := by have := G1'.out; omega
      obtain ⟨b0, off, hA, hB0, hc⟩ := KN.out.rows (by omega)
      obtain ⟨b1, of1, hA', hB1, hc'⟩ := KM.out.rows (by omega)
      rw [← Hpr.out] at hA
      rw [← Hqr.out] at hA'
      subst hA hA'
      have hce := hc i hil
      have hce' := hc' i hil'
      dsimp only at hce hce'
      have hra := KN.out.row i hil
      have hra' := KM.out.row i hil'
      have hok := hN.out.row i hil
      have hst := fun h => take_nextG hil hil' hV.out.1 h
      have hno := fun h => no4.out i h
      obtain ⟨e, he⟩ : ∃ e, e = n.rows.getD i default := ⟨_, rfl⟩
      obtain ⟨e', he'⟩ : ∃ e, e = m.rows.getD i default := ⟨_, rfl⟩
      obtain ⟨⟨A1, cA⟩, hp⟩ : ∃ e, e = p.rp i := ⟨_, rfl⟩
      obtain ⟨⟨A2, cA'⟩, hp'⟩ : ∃ e, e = q.rp i := ⟨_, rfl⟩
      rw [← he] at hce hra hok hst hno
      rw [← he'] at hce' hra' hst hno
      rw [← hp] at hce hra
      rw [← hp'] at hce' hra'
      obtain ⟨r, lv⟩ := e
      obtain ⟨r', lv'⟩ := e'
      dsimp only at hra hra' hok
      have KF := hideP (fun W (hW : Ext wr W) => (show W.cell? ⟨g, 1, none⟩ = some (.slice (some ⟨b0, off, none⟩) nr p.rc) ∧ W.cell? ⟨g', 1, none⟩ = some (.slice (some ⟨b1, of1, none⟩) mr q.rc) ∧ W.cell? ⟨b0, off + i * 2, none⟩ = some (.slice A1 r.length cA) ∧ W.cell? ⟨b0, off + i * 2 + 1, none⟩ = some (.bool lv) ∧ W.cell? ⟨b1, of1 + i * 2, none⟩ = some (.slice A2 r'.length cA') ∧ W.cell? ⟨b1, of1 + i * 2 + 1, none⟩ = some (.bool lv') from
        ⟨hW.cell c1, hW.cell d1, hW.cell ((B1.out.cell (p := ⟨b0, off + i * 2, none⟩) hB0).trans (hce 0 _ rfl)), hW.cell ((B1.out.cell (p := ⟨b0, off + i * 2 + 1, none⟩) hB0).trans (hce 1 _ rfl)), hW.cell ((B1.out.cell (p := ⟨b1, of1 + i * 2, none⟩) hB1).trans (hce' 0 _ rfl)), hW.cell ((B1.out.cell (p := ⟨b1, of1 + i * 2 + 1, none⟩) hB1).trans (hce' 1 _ rfl))⟩))
      have hSR := hideP (fun W (hW : Below w.heap.size w W) => sameRow_any A1 A2 r r' cA cA' W ((hra.below hW).more hW.size) ((hra'.below hW).more hW.size) (Nat.le_trans hok.2 (by decide)))
      obtain ⟨nn, e1⟩ : ∃ x, x = r.length := ⟨_, rfl⟩
      obtain ⟨nn', e2⟩ : ∃ x, x = r'.length := ⟨_, rfl⟩
      rw [← e1, ← e2] at KF hSR
      have Hst := hideP hst; have Hno := hideP hno
      clear he he' hp hp' hce hce' hra hra' hok hst hno hc hc' hil hil' e1 e2
      go_upto_region 6 with fail
      clear c0 c1 c2 d0 d1 d2
      have hdrew := (Ext.refl wr.drew).drew_left
      have E0 := hideP hdrew
      clear hdrew
      by_cases hl : lv = lv'
      · subst hl
        have z1 : (lv != lv) = false := by simp
        refine wp_region_mut (S := fun _ => False) 29 (.q 0 (.q 1 (.q 2 (.q 3 (.q 4 (.q 5 (.q 6 (.q 7 (.q 8 (.q 9 (.q 10 (.q 11 (.q 12 (.q 13 (.q 14 (.q 15 (.q 16 (.q 17 (.q 18 (.q 19 (.q 20 (.q 21 (.q 22 (.q 23 (.q 24 (.q 25 (.l 26 (.q 27 (.q 28 .nil))))))))))))))))))))))))))))) (by kernel_rfl) (by kernel_rfl) ?_
        simp only [pickT, nthO_zero, nthO_succ]
        iterate 26 (first
          | (refine wpM_skipK ?_ (fun K hK => ?_); (focus (rfl)); go_simp; refine hK _ ?_; clear hK K)
          | (refine wpM_valK ?_ (fun K hK => ?_); (focus (rfl)); apply Exists.intro; refine ⟨fun W hW => ?_, ?_⟩; (focus (obtain ⟨a1, a2, a3, a4, a5, a6⟩ := KF.out W (E0.out.trans (butf_ext hW)); go_simp; (try rfl); done)); go_simp; refine hK _ ?_; clear hK K))
        refine wpM_loudS 84 #[.slice A1 nn cA, .slice A2 nn' cA'] (by rfl) (fun W => by go_simp) (fun W hW => (hSR.out W (below_ext B1.out (E0.out.trans hW))).mono ?_)
        rintro e_ w2 ⟨rfl, b_⟩
        obtain ⟨R, hR⟩ : ∃ R, R = decide (r = r') := ⟨_, rfl⟩
        rw [← hR]
        have HR := hideP hR
        clear hR
        refine ⟨_, rfl, But.of_below b_, fun K hK => ?_⟩
        go_simp
        refine hK _ ?_
        clear hK K
        have E1 := hideP (E0.out.trans (hW.trans (Ext.of_below b_)))
        clear b_ hW
        iterate 2 (first
          | (refine wpM_skipK ?_ (fun K hK => ?_); (focus (rfl)); go_simp; refine hK _ ?_; clear hK K)
          | (refine wpM_valK ?_ (fun K hK => ?_); (focus (rfl)); apply Exists.intro; refine ⟨fun W hW => ?_, ?_⟩; (focus (obtain ⟨a1, a2, a3, a4, a5, a6⟩ := KF.out W (E1.out.trans (butf_ext hW)); go_simp; (try rfl); done)); go_simp; refine hK _ ?_; clear hK K))
        refine wpM_nil (fun W9 hW9 => ?_)
        simp only [List.drop_succ_cons, List.drop_zero, List.drop_nil]
        have hx := E1.out.trans hW9
        have B9 := hideP (below_ext B1.out hx)
        have T9 := hideP (Row.ext T1.out hx)
        have U9 := hideP (Row.ext U1.out hx)
        clear hW9 hx
        rcases R with _ | _
        · have hr := hideP (Hno.out (fun e => by have := HR.out; injection e with e1 e2; rw [e1] at this; simp at this))
          go_wp2_with fail
          go_ret
          exact ⟨by rw [hr.out]; rfl, B9.out⟩
        · have hn := hideP (Hst.out (by have := HR.out; rw [of_decide_eq_true this.symm]))
          go_wp2_with fail
          go_roundw
          case rel => exact ⟨i + 1, by omega, by go_num, hn.out, B9.out, T9.out, U9.out⟩
          case measure => rw [m2]; simp [intOf]; omega
      · have hr := hideP (Hno.out (fun e => by injection e with e1 e2; exact hl e2))
        obtain rfl : lv' = !lv := by cases lv <;> cases lv' <;> simp_all
        clear hl
        rcases lv with _ | _
        · skip
          refine wp_region_mut (S := fun _ => False) 29 (.q 0 (.q 1 (.q 2 (.q 3 (.q 4 (.q 5 (.q 6 (.q 7 (.q 8 (.q 9 (.q 10 (.q 11 (.q 12 (.q 13 (.q 14 (.q 15 (.q 16 (.q 17 (.q 18 (.q 19 (.q 20 (.q 21 (.q 22 (.q 23 (.q 24 (.q 25 (.l 26 (.q 27 (.q 28 .nil))))))))))))))))))))))))))))) (by kernel_rfl) (by kernel_rfl) ?_
          simp only [pickT, nthO_zero, nthO_succ]
          iterate 26 (first
            | (refine wpM_skipK ?_ (fun K hK => ?_); (focus (rfl)); go_simp; refine hK _ ?_; clear hK K)
            | (refine wpM_valK ?_ (fun K hK => ?_); (focus (rfl)); apply Exists.intro; refine ⟨fun W hW => ?_, ?_⟩; (focus (obtain ⟨a1, a2, a3, a4, a5, a6⟩ := KF.out W (E0.out.trans (butf_ext hW)); go_simp; (try rfl); done)); go_simp; refine hK _ ?_; clear hK K))
          refine wpM_skipK' ?_ (fun W hW K hK => ?_)
          · rfl
          go_simp
          refine hK _ ?_
          clear hK K
          have E1 := hideP (E0.out.trans hW)
          clear hW
          iterate 2 (first
            | (refine wpM_skipK ?_ (fun K hK => ?_); (focus (rfl)); go_simp; refine hK _ ?_; clear hK K)
            | (refine wpM_valK ?_ (fun K hK => ?_); (focus (rfl)); apply Exists.intro; refine ⟨fun W hW => ?_, ?_⟩; (focus (obtain ⟨a1, a2, a3, a4, a5, a6⟩ := KF.out W (E1.out.trans (butf_ext hW)); go_simp; (try rfl); done)); go_simp; refine hK _ ?_; clear hK K))
          refine wpM_nil (fun W9 hW9 => ?_)
          simp only [List.drop_succ_cons, List.drop_zero, List.drop_nil]
          have B9 := hideP (below_ext B1.out (E1.out.trans hW9))
          clear hW9
          go_wp2_with fail
          go_ret
          exact ⟨by rw [hr.out]; rfl, B9.out⟩
        · skip
          refine wp_region_mut (S := fun _ => False) 29 (.q 0 (.q 1 (.q 2 (.q 3 (.q 4 (.q 5 (.q 6 (.q 7 (.q 8 (.q 9 (.q 10 (.q 11 (.q 12 (.q 13 (.q 14 (.q 15 (.q 16 (.q 17 (.q 18 (.q 19 (.q 20 (.q 21 (.q 22 (.q 23 (.q 24 (.q 25 (.l 26 (.q 27 (.q 28 .nil))))))))))))))))))))))))))))) (by kernel_rfl) (by kernel_rfl) ?_
          simp only [pickT, nthO_zero, nthO_succ]
          iterate 26 (first
            | (refine wpM_skipK ?_ (fun K hK => ?_); (focus (rfl)); go_simp; refine hK _ ?_; clear hK K)
            | (refine wpM_valK ?_ (fun K hK => ?_); (focus (rfl)); apply Exists.intro; refine ⟨fun W hW => ?_, ?_⟩; (focus (obtain ⟨a1, a2, a3, a4, a5, a6⟩ := KF.out W (E0.out.trans (butf_ext hW)); go_simp; (try rfl); done)); go_simp; refine hK _ ?_; clear hK K))
          refine wpM_skipK' ?_ (fun W hW K hK => ?_)
          · rfl
          go_simp
          refine hK _ ?_
          clear hK K
          have E1 := hideP (E0.out.trans hW)
          clear hW
          iterate 2 (first
            | (refine wpM_skipK ?_ (fun K hK => ?_); (focus (rfl)); go_simp; refine hK _ ?_; clear hK K)
            | (refine wpM_valK ?_ (fun K hK => ?_); (focus (rfl)); apply Exists.intro; refine ⟨fun W hW => ?_, ?_⟩; (focus (obtain ⟨a1, a2, a3, a4, a5, a6⟩ := KF.out W (E1.out.trans (butf_ext hW)); go_simp; (try rfl); done)); go_simp; refine hK _ ?_; clear hK K))
          refine wpM_nil (fun W9 hW9 => ?_)
          simp only [List.drop_succ_cons, List.drop_zero, List.drop_nil]
          have B9 := hideP (below_ext B1.out (E1.out.trans hW9))
          clear hW9
          go_wp2_with fail
          go_ret
          exact ⟨by rw [hr.out]; rfl, B9.out⟩
    · obtain rfl : i = nr := by omega
      have i1 : ¬ ((i : Int) < (i : Int)) := by omega
      have Hrows := hideP (show n.rows = m.rows by have := hV.out.1; rwa [F1.out, List.take_length, ← F1.out, G1'.out, List.take_length] at this)
      clear hV
      go_upto_region 9 with fail
      clear c0 c1 c2 d0 d1 d2 i1
      go_loopw [6] (fun v6 wr => ∃ (j : Nat), j ≤ nk ∧ v6 = .int .i64 (j : Nat) ∧ Hid (n.kids.take j = m.kids.take j ∧ Below w.heap.size w wr ∧ Row wr g 27 [.int .u8 (kd : Nat), .slice pr i p.rc, .slice pk nk p.kc] ∧ Row wr g' 27 [.int .u8 (md : Nat), .slice qr mr q.rc, .slice qk mk q.kc])) (fun v6 _ => nk - (intOf v6).toNat)
      case atStart => exact ⟨0, Nat.zero_le _, rfl, rfl, B1.out, T1.out, U1.out⟩
      case round =>
        obtain ⟨j, hj, rfl, hV⟩ := hrel
        clear B1 T1 U1
        have B1 := hideP hV.out.2.1
        have T1 := hideP hV.out.2.2.1
        have U1 := hideP hV.out.2.2.2
        obtain ⟨c0, c1, c2⟩ := nrow3 T1.out
        obtain ⟨d0, d1, d2⟩ := nrow3 U1.out
        by_cases hlt : j < nk
        · have i1 : (j : Int) < (nk : Int) := by omega
          have j1 : (j : Int) < (mk : Int) := by have := F2.out; have := G2'.out; have := G2.out; omega
          have m2 := wrap_succ hlt (by rw [F2.out]; exact hN.out.kids)
          have hjl : j < n.kids.length := by have := F2.out; omega
          have hjl' : j < m.kids.length := by have := G2'.out; omega
          obtain ⟨b0, off, hA, hB0, hc⟩ := KN.out.kids (by omega)
          obtain ⟨b1, of1, hA', hB1, hc'⟩ := KM.out.kids (by omega)
          rw [← Hpk.out] at hA
          rw [← Hqk.out] at hA'
          subst hA hA'
          have hst := fun h => take_nextG hjl hjl' hV.out.1 h
          have hno := fun h => no5.out j h
          have hok := hN.out.kid j hjl
          have hok' := hM.out.kid j hjl'
          have hsm := fun W (hW : Below w.heap.size w W) => rnsame_any (n.kids.getD j default) (m.kids.getD j default) (p.kp j) (q.kp j) W hok hok' (((KN.out.kid j hjl).below hW).more hW.size) (((KM.out.kid j hjl').below hW).more hW.size)
          have hr1 := fun W (hW : Ext wr W) => show W.rangeAt b0 (off + j * 37) (kidC (n.kids.getD j default) (p.kp j)) from fun x y hxy => hW.cell ((B1.out.cell (p := ⟨b0, off + j * 37 + x, none⟩) hB0).trans (hc j hjl x y hxy))
          have hr2 := fun W (hW : Ext wr W) => show W.rangeAt b1 (of1 + j * 37) (kidC (m.kids.getD j default) (q.kp j)) from fun x y hxy => hW.cell ((B1.out.cell (p := ⟨b1, of1 + j * 37 + x, none⟩) hB1).trans (hc' j hjl' x y hxy))
          have hs1 := hideP (size_k37 (hok.cells (p.kp j)))
          have hs2 := hideP (size_k37 (hok'.cells (q.kp j)))
          have hdec := hideP (fun R (h : R = decide (n.kids.getD j default = m.kids.getD j default)) => h)
          obtain ⟨R, hR⟩ : ∃ R, R = decide (n.kids.getD j default = m.kids.getD j default) := ⟨_, rfl⟩
          rw [← hR] at hsm
          have HR := hideP hR
          obtain ⟨C, e1⟩ : ∃ x, x = kidC (n.kids.getD j default) (p.kp j) := ⟨_, rfl⟩
          obtain ⟨C', e2⟩ : ∃ x, x = kidC (m.kids.getD j default) (q.kp j) := ⟨_, rfl⟩
          rw [← e1] at hsm hr1 hs1
          rw [← e2] at hsm hr2 hs2
          have hsm := hideP hsm; have hr1 := hideP hr1; have hr2 := hideP hr2; have Hst := hideP hst; have Hno := hideP hno
          have KF := hideP (fun W (hW : Ext wr W) => And.intro (hW.cell c2) (hW.cell d2))
          clear hR e1 e2 hst hno hok hok' hc hc' hjl hjl' hdec
          go_upto_region 11 with fail
          clear c0 c1 c2 d0 d1 d2
          have hdrew := (Ext.refl wr.drew).drew_left
          have E0 := hideP hdrew
          clear hdrew
          refine wp_region_mut (S := fun _ => False) 12 (.q 0 (.q 1 (.q 2 (.q 3 (.q 4 (.q 5 (.q 6 (.q 7 (.q 8 (.q 9 (.l 10 (.q 11 .nil)))))))))))) (by kernel_rfl) (by kernel_rfl) ?_
          simp only [pickT, nthO_zero, nthO_succ]
          iterate 10 (first
            | (refine wpM_valK ?_ (fun K hK => ?_); (focus (rfl)); refine ⟨.agg C.toArray, fun W hW => exec_load_mid 43 (.tmp 76) ?_ b0 (off + j * 37) ?_ C _ (hr1.out W (E0.out.trans (butf_ext hW))) Try.underlying43 rfl hs1.out, ?_⟩; (focus (rfl)); (focus (rfl)); go_simp; refine hK _ ?_; clear hK K)
            | (refine wpM_valK ?_ (fun K hK => ?_); (focus (rfl)); refine ⟨.agg C'.toArray, fun W hW => exec_load_mid 43 (.tmp 81) ?_ b1 (of1 + j * 37) ?_ C' _ (hr2.out W (E0.out.trans (butf_ext hW))) Try.underlying43 rfl hs2.out, ?_⟩; (focus (rfl)); (focus (rfl)); go_simp; refine hK _ ?_; clear hK K)
            | (refine wpM_valK ?_ (fun K hK => ?_); (focus (rfl)); apply Exists.intro; refine ⟨fun W hW => ?_, ?_⟩; (focus (obtain ⟨a1, a2⟩ := KF.out W (E0.out.trans (butf_ext hW)); go_simp; (try rfl); done)); go_simp; refine hK _ ?_; clear hK K))
          refine wpM_loudS 23 #[.agg C.toArray, .agg C'.toArray] (by rfl) (fun W => by go_simp) (fun W hW => (hsm.out W (below_ext B1.out (E0.out.trans hW))).mono ?_)
          rintro e_ w2 ⟨rfl, b_⟩
          refine ⟨_, rfl, But.of_below b_, fun K hK => ?_⟩
          go_simp
          refine hK _ ?_
          clear hK K
          have E1 := hideP (E0.out.trans (hW.trans (Ext.of_below b_)))
          clear b_ hW
          iterate 1 (first
            | (refine wpM_valK ?_ (fun K hK => ?_); (focus (rfl)); refine ⟨.agg C.toArray, fun W hW => exec_load_mid 43 (.tmp 76) ?_ b0 (off + j * 37) ?_ C _ (hr1.out W (E1.out.trans (butf_ext hW))) Try.underlying43 rfl hs1.out, ?_⟩; (focus (rfl)); (focus (rfl)); go_simp; refine hK _ ?_; clear hK K)
            | (refine wpM_valK ?_ (fun K hK => ?_); (focus (rfl)); refine ⟨.agg C'.toArray, fun W hW => exec_load_mid 43 (.tmp 81) ?_ b1 (of1 + j * 37) ?_ C' _ (hr2.out W (E1.out.trans (butf_ext hW))) Try.underlying43 rfl hs2.out, ?_⟩; (focus (rfl)); (focus (rfl)); go_simp; refine hK _ ?_; clear hK K)
            | (refine wpM_valK ?_ (fun K hK => ?_); (focus (rfl)); apply Exists.intro; refine ⟨fun W hW => ?_, ?_⟩; (focus (obtain ⟨a1, a2⟩ := KF.out W (E1.out.trans (butf_ext hW)); go_simp; (try rfl); done)); go_simp; refine hK _ ?_; clear hK K))
          refine wpM_nil (fun W9 hW9 => ?_)
          simp only [List.drop_succ_cons, List.drop_zero, List.drop_nil]
          have hx := E1.out.trans hW9
          have B9 := hideP (below_ext B1.out hx)
          have T9 := hideP (Row.ext T1.out hx)
          have U9 := hideP (Row.ext U1.out hx)
          clear hW9 hx
          rcases R with _ | _
          · have hr := hideP (Hno.out (fun e => by have := HR.out; rw [decide_eq_true e] at this; cases this))
            go_wp2_with fail
            go_ret
            exact ⟨by rw [hr.out]; rfl, B9.out⟩
          · have hn := hideP (Hst.out (of_decide_eq_true HR.out.symm))
            go_wp2_with fail
            go_roundw
            case rel => exact ⟨j + 1, by omega, by go_num, hn.out, B9.out, T9.out, U9.out⟩
            case measure => rw [m2]; simp [intOf]; omega
        · obtain rfl : j = nk := by omega
          have i1 : ¬ ((j : Int) < (j : Int)) := by omega
          have hr := hideP (yes2.out Hrows.out (by have := hV.out.1; rwa [F2.out, List.take_length, ← F2.out, G2'.out, List.take_length] at this))
          clear hV
          go_wp2_with fail
          go_ret
          exact ⟨by rw [hr.out]; rfl, B1.out⟩
end Go.Proofs.Ytgcbodpjidoanaa
