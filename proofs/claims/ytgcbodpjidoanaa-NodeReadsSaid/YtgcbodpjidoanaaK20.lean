/- Contract of block.Right. Contract of the reference's Right at a change. -/
import Derived.Deep.DeepCutAuto
import Derived.Test.YtgcbodpjidoanaaK9
import Derived.Test.YtgcbodpjidoanaaK19
set_option linter.unusedVariables false
set_option linter.unusedSimpArgs false
namespace Go.Proofs.Ytgcbodpjidoanaa
open Go.RowKit
theorem oprB_name {o : OpD} (h : nameB (nb o.table) = false) : oprB o = false := by unfold oprB; rw [h]; rfl
theorem oprB_1 {o : OpD} (h : nameB (nb o.table) = true) (hk : o.kind = 1) : oprB o = (colsB o.cols && decide (o.row.length = 0)) := by unfold oprB; rw [h, if_pos hk]; rfl
theorem oprB_2 {o : OpD} (h : nameB (nb o.table) = true) (hk : o.kind = 2) : oprB o = (decide (o.cols.length = 0) && decide (o.row.length = 0)) := by unfold oprB; rw [h, if_neg (by omega), if_pos hk]; rfl
theorem oprB_3 {o : OpD} (h : nameB (nb o.table) = true) (hk : o.kind = 3 ∨ o.kind = 4) : oprB o = (decide (o.cols.length = 0) && (decide (2 ≤ o.row.length) && decide (o.row.length ≤ 8))) := by unfold oprB; rw [h, if_neg (by omega), if_neg (by omega), if_pos hk]; rfl
theorem oprB_5 {o : OpD} (h1 : o.kind ≠ 1) (h2 : o.kind ≠ 2) (h3 : o.kind ≠ 3) (h4 : o.kind ≠ 4) : oprB o = false := by unfold oprB; rw [if_neg h1, if_neg h2, if_neg (by omega)]; simp
/-- a change as a value -/
def opV (k : Nat) (t : ByteArray) (AC : Option Addr) (nc cc : Nat) (AR : Option Addr) (nr cr : Nat) : List Value := [.int .u8 k, .string t, .slice AC nc cc, .slice AR nr cr]
set_option maxRecDepth 100000 in
set_option maxHeartbeats 2000000 in
theorem bright_any (o : OpD) (k nc nr : Nat) (t : ByteArray) (AC AR : Option Addr) (cc cr : Nat) (w : World) (hk : k = o.kind) (ht : t = o.table) (hnc : nc = o.cols.length) (hnr : nr = o.row.length)
    (hC : Arr w w.heap.size AC nc (strs o.cols)) (hs : ∀ i, (o.cols.getD i default).size ≤ 140737488351232) (hts : t.size ≤ 140737488351232) (hn : nc ≤ 1000000000) (hc : nc ≤ cc) (hrn : nr ≤ 1000000000) :
    Calls Try.prog 183 #[.agg #[.int .u8 (k : Nat), .string t, .slice AC nc cc, .slice AR nr cr]] w fun e w' => e = .returned (.bool (oprB o)) ∧ Below w.heap.size w w' := by
  obtain ⟨RS, hRS⟩ : ∃ RS, RS = oprB o := ⟨_, rfl⟩
  rw [← hRS]
  obtain ⟨v, hv⟩ : ∃ v, v = w.alloc (.cells (opV k t AC nc cc AR nr cr).toArray 132) := ⟨_, rfl⟩
  have hR := hideP (show Row v w.heap.size 132 (opV k t AC nc cc AR nr cr) by rw [hv]; exact Row.new _ _ _)
  have hB := hideP (show Below w.heap.size w v by rw [hv]; exact below_new _ _)
  have hCv := hideP (hB.out |> hC.after)
  have hNm := hideP (isname_any t v hts)
  have hz := hideP (show w.heap.size < v.heap.size from hR.out.lt)
  have hCols := fun W (h : Below v.heap.size v W) => arecols_any AC o.cols nc cc W hnc (hCv.out.after h) hs hn hc
  have HCols := hideP hCols
  have bad := hideP (fun (h : nameB (nb t) = false) => hRS.trans (oprB_name (by rw [← ht]; exact h)))
  have r1 := hideP (fun (h : nameB (nb t) = true) (h2 : k = 1) => hRS.trans (oprB_1 (by rw [← ht]; exact h) (by rw [← hk]; exact h2)))
  have r2 := hideP (fun (h : nameB (nb t) = true) (h2 : k = 2) => hRS.trans (oprB_2 (by rw [← ht]; exact h) (by rw [← hk]; exact h2)))
  have r3 := hideP (fun (h : nameB (nb t) = true) (h2 : k = 3 ∨ k = 4) => hRS.trans (oprB_3 (by rw [← ht]; exact h) (by rw [← hk]; exact h2)))
  have r5 := hideP (fun (h1 : k ≠ 1) (h2 : k ≠ 2) (h3 : k ≠ 3) (h4 : k ≠ 4) => hRS.trans (oprB_5 (o := o) (by omega) (by omega) (by omega) (by omega)))
  rw [← hnc, ← hnr] at r2 r3
  rw [← hnr] at r1
  obtain ⟨q, hq⟩ : ∃ q, q = nameB (nb t) := ⟨_, rfl⟩
  rw [← hq] at hNm bad r1 r2 r3
  clear hCols hRS hk ht hnc hnr hC hs hq
  have hv' := hideP hv
  clear hv
  go_enter Try.func183, Try.ntmps183
  go_upto_region 1 with fail
  rw [show (w.alloc (.cells #[.int .u8 (k : Nat), .string t, .slice AC nc cc, .slice AR nr cr] 132)) = v from hv'.out.symm]
  have k0 := hR.out.cell 0; have k1 := hR.out.cell 1; have k2 := hR.out.cell 2; have k3 := hR.out.cell 3
  simp only [opV, List.getElem?_cons_zero, List.getElem?_cons_succ] at k0 k1 k2 k3
  rcases hqb : q with _ | _
  · subst hqb
    have hb := hideP (bad.out rfl)
    clear bad r1 r2 r3
    go_wp2_with (first
      | (go_at_call 226; refine hNm.out.mono ?_; rintro e1 w1 ⟨rfl, b1⟩; have R1 := hideP (hR.out.after b1); have B1 := hideP b1; clear b1 k0 k1 k2 k3; have k0 := R1.out.cell 0; have k1 := R1.out.cell 1; have k2 := R1.out.cell 2; have k3 := R1.out.cell 3; simp only [opV, List.getElem?_cons_zero, List.getElem?_cons_succ] at k0 k1 k2 k3)
      )
    go_ret
    exact ⟨ret_bool hb.out.symm, (hB.out.trans (B1.out.mono hB.out.size))⟩
  · subst hqb
    by_cases h1 : k = 1
    · subst h1
      have hb := hideP (r1.out rfl rfl)
      clear bad r1 r2 r3 r5
      obtain ⟨p, hp⟩ : ∃ p, p = colsB o.cols := ⟨_, rfl⟩
      rw [← hp] at HCols hb
      clear hp
      rcases hpb : p with _ | _
      · subst hpb
        go_wp2_with (first
          | (go_at_call 226; refine hNm.out.mono ?_; rintro e1 w1 ⟨rfl, b1⟩; have R1 := hideP (hR.out.after b1); have B1 := hideP b1; clear b1 k0 k1 k2 k3; have k0 := R1.out.cell 0; have k1 := R1.out.cell 1; have k2 := R1.out.cell 2; have k3 := R1.out.cell 3; simp only [opV, List.getElem?_cons_zero, List.getElem?_cons_succ] at k0 k1 k2 k3)
          | (go_at_call 227; refine (HCols.out _ B1.out).mono ?_; rintro e1 w2 ⟨rfl, b1⟩; have R2 := hideP (R1.out.after b1); have B2 := hideP (bstep B1.out b1); clear b1 k0 k1 k2 k3; have k0 := R2.out.cell 0; have k1 := R2.out.cell 1; have k2 := R2.out.cell 2; have k3 := R2.out.cell 3; simp only [opV, List.getElem?_cons_zero, List.getElem?_cons_succ] at k0 k1 k2 k3)
          )
        go_ret
        exact ⟨ret_bool (by rw [hb.out]; rfl), (hB.out.trans (B2.out.mono hB.out.size))⟩
      · subst hpb
        by_cases h0 : nr = 0
        · subst h0
          go_wp2_with (first
            | (go_at_call 226; refine hNm.out.mono ?_; rintro e1 w1 ⟨rfl, b1⟩; have R1 := hideP (hR.out.after b1); have B1 := hideP b1; clear b1 k0 k1 k2 k3; have k0 := R1.out.cell 0; have k1 := R1.out.cell 1; have k2 := R1.out.cell 2; have k3 := R1.out.cell 3; simp only [opV, List.getElem?_cons_zero, List.getElem?_cons_succ] at k0 k1 k2 k3)
            | (go_at_call 227; refine (HCols.out _ B1.out).mono ?_; rintro e1 w2 ⟨rfl, b1⟩; have R2 := hideP (R1.out.after b1); have B2 := hideP (bstep B1.out b1); clear b1 k0 k1 k2 k3; have k0 := R2.out.cell 0; have k1 := R2.out.cell 1; have k2 := R2.out.cell 2; have k3 := R2.out.cell 3; simp only [opV, List.getElem?_cons_zero, List.getElem?_cons_succ] at k0 k1 k2 k3)
            )
          go_ret
          exact ⟨ret_bool (by rw [hb.out]; rfl), (hB.out.trans (B2.out.mono hB.out.size))⟩
        · have h0' : ((nr : Int) == 0) = false := by simpa using h0
          have hf := hideP (show RS = false by rw [hb.out]; simp [h0])
          clear h0
          go_wp2_with (first
            | (go_at_call 226; refine hNm.out.mono ?_; rintro e1 w1 ⟨rfl, b1⟩; have R1 := hideP (hR.out.after b1); have B1 := hideP b1; clear b1 k0 k1 k2 k3; have k0 := R1.out.cell 0; have k1 := R1.out.cell 1; have k2 := R1.out.cell 2; have k3 := R1.out.cell 3; simp only [opV, List.getElem?_cons_zero, List.getElem?_cons_succ] at k0 k1 k2 k3)
            | (go_at_call 227; refine (HCols.out _ B1.out).mono ?_; rintro e1 w2 ⟨rfl, b1⟩; have R2 := hideP (R1.out.after b1); have B2 := hideP (bstep B1.out b1); clear b1 k0 k1 k2 k3; have k0 := R2.out.cell 0; have k1 := R2.out.cell 1; have k2 := R2.out.cell 2; have k3 := R2.out.cell 3; simp only [opV, List.getElem?_cons_zero, List.getElem?_cons_succ] at k0 k1 k2 k3)
            )
          go_ret
          exact ⟨ret_bool hf.out.symm, (hB.out.trans (B2.out.mono hB.out.size))⟩
    · have h1' : ((k : Int) == 1) = false := by simp; omega
      by_cases h2 : k = 2
      · subst h2
        have hb := hideP (r2.out rfl rfl)
        clear bad r1 r2 r3 r5 h1 HCols
        by_cases h0 : nc = 0
        · subst h0
          by_cases h3 : nr = 0
          · subst h3
            go_wp2_with (first
              | (go_at_call 226; refine hNm.out.mono ?_; rintro e1 w1 ⟨rfl, b1⟩; have R1 := hideP (hR.out.after b1); have B1 := hideP b1; clear b1 k0 k1 k2 k3; have k0 := R1.out.cell 0; have k1 := R1.out.cell 1; have k2 := R1.out.cell 2; have k3 := R1.out.cell 3; simp only [opV, List.getElem?_cons_zero, List.getElem?_cons_succ] at k0 k1 k2 k3)
              )
            go_ret
            exact ⟨ret_bool (by rw [hb.out]; rfl), (hB.out.trans (B1.out.mono hB.out.size))⟩
          · have h3' : ((nr : Int) == 0) = false := by simpa using h3
            have hf := hideP (show RS = false by rw [hb.out]; simp [h3])
            clear h3
            go_wp2_with (first
              | (go_at_call 226; refine hNm.out.mono ?_; rintro e1 w1 ⟨rfl, b1⟩; have R1 := hideP (hR.out.after b1); have B1 := hideP b1; clear b1 k0 k1 k2 k3; have k0 := R1.out.cell 0; have k1 := R1.out.cell 1; have k2 := R1.out.cell 2; have k3 := R1.out.cell 3; simp only [opV, List.getElem?_cons_zero, List.getElem?_cons_succ] at k0 k1 k2 k3)
              )
            go_ret
            exact ⟨ret_bool hf.out.symm, (hB.out.trans (B1.out.mono hB.out.size))⟩
        · have h0' : ((nc : Int) == 0) = false := by simpa using h0
          have hf := hideP (show RS = false by rw [hb.out]; simp [h0])
          clear h0
          go_wp2_with (first
            | (go_at_call 226; refine hNm.out.mono ?_; rintro e1 w1 ⟨rfl, b1⟩; have R1 := hideP (hR.out.after b1); have B1 := hideP b1; clear b1 k0 k1 k2 k3; have k0 := R1.out.cell 0; have k1 := R1.out.cell 1; have k2 := R1.out.cell 2; have k3 := R1.out.cell 3; simp only [opV, List.getElem?_cons_zero, List.getElem?_cons_succ] at k0 k1 k2 k3)
            )
          go_ret
          exact ⟨ret_bool hf.out.symm, (hB.out.trans (B1.out.mono hB.out.size))⟩
      · have h2' : ((k : Int) == 2) = false := by simp; omega
        by_cases h34 : k = 3 ∨ k = 4
        · have hb := hideP (r3.out rfl h34)
          clear bad r1 r2 r3 r5 h1 h2 HCols
          by_cases h0 : nc = 0
          · subst h0
            by_cases h3 : 2 ≤ nr
            · have h3' : (2 : Int) ≤ (nr : Int) := by omega
              by_cases h4 : nr ≤ 8
              · have h4' : (nr : Int) ≤ 8 := by omega
                have hf := hideP (show RS = true by rw [hb.out]; simp [h3, h4])
                rcases h34 with rfl | rfl
                all_goals
                  go_wp2_with (first
                    | (go_at_call 226; refine hNm.out.mono ?_; rintro e1 w1 ⟨rfl, b1⟩; have R1 := hideP (hR.out.after b1); have B1 := hideP b1; clear b1 k0 k1 k2 k3; have k0 := R1.out.cell 0; have k1 := R1.out.cell 1; have k2 := R1.out.cell 2; have k3 := R1.out.cell 3; simp only [opV, List.getElem?_cons_zero, List.getElem?_cons_succ] at k0 k1 k2 k3)
                    )
                  go_ret
                  exact ⟨ret_bool hf.out.symm, (hB.out.trans (B1.out.mono hB.out.size))⟩
              · have h4' : ¬ (nr : Int) ≤ 8 := by omega
                have hf := hideP (show RS = false by rw [hb.out]; simp [h4])
                rcases h34 with rfl | rfl
                all_goals
                  go_wp2_with (first
                    | (go_at_call 226; refine hNm.out.mono ?_; rintro e1 w1 ⟨rfl, b1⟩; have R1 := hideP (hR.out.after b1); have B1 := hideP b1; clear b1 k0 k1 k2 k3; have k0 := R1.out.cell 0; have k1 := R1.out.cell 1; have k2 := R1.out.cell 2; have k3 := R1.out.cell 3; simp only [opV, List.getElem?_cons_zero, List.getElem?_cons_succ] at k0 k1 k2 k3)
                    )
                  all_goals (go_ret; exact ⟨ret_bool (hf.out.symm ▸ (by simp; try omega)), (hB.out.trans (B1.out.mono hB.out.size))⟩)
            · have h3' : ¬ (2 : Int) ≤ (nr : Int) := by omega
              have hf := hideP (show RS = false by rw [hb.out]; simp [h3])
              rcases h34 with rfl | rfl
              all_goals
                go_wp2_with (first
                  | (go_at_call 226; refine hNm.out.mono ?_; rintro e1 w1 ⟨rfl, b1⟩; have R1 := hideP (hR.out.after b1); have B1 := hideP b1; clear b1 k0 k1 k2 k3; have k0 := R1.out.cell 0; have k1 := R1.out.cell 1; have k2 := R1.out.cell 2; have k3 := R1.out.cell 3; simp only [opV, List.getElem?_cons_zero, List.getElem?_cons_succ] at k0 k1 k2 k3)
                  )
                all_goals (go_ret; exact ⟨ret_bool (hf.out.symm ▸ (by simp; try omega)), (hB.out.trans (B1.out.mono hB.out.size))⟩)
          · have h0' : ((nc : Int) == 0) = false := by simpa using h0
            have hf := hideP (show RS = false by rw [hb.out]; simp [h0])
            clear h0
            rcases h34 with rfl | rfl
            all_goals
              go_wp2_with (first
                | (go_at_call 226; refine hNm.out.mono ?_; rintro e1 w1 ⟨rfl, b1⟩; have R1 := hideP (hR.out.after b1); have B1 := hideP b1; clear b1 k0 k1 k2 k3; have k0 := R1.out.cell 0; have k1 := R1.out.cell 1; have k2 := R1.out.cell 2; have k3 := R1.out.cell 3; simp only [opV, List.getElem?_cons_zero, List.getElem?_cons_succ] at k0 k1 k2 k3)
                )
              go_ret
              exact ⟨ret_bool hf.out.symm, (hB.out.trans (B1.out.mono hB.out.size))⟩
        · have h3' : ((k : Int) == 3) = false := by simp; omega
          have h4' : ((k : Int) == 4) = false := by simp; omega
          have hb := hideP (r5.out h1 h2 (fun h => h34 (.inl h)) (fun h => h34 (.inr h)))
          clear bad r1 r2 r3 r5 h1 h2 h34 HCols
          go_wp2_with (first
            | (go_at_call 226; refine hNm.out.mono ?_; rintro e1 w1 ⟨rfl, b1⟩; have R1 := hideP (hR.out.after b1); have B1 := hideP b1; clear b1 k0 k1 k2 k3; have k0 := R1.out.cell 0; have k1 := R1.out.cell 1; have k2 := R1.out.cell 2; have k3 := R1.out.cell 3; simp only [opV, List.getElem?_cons_zero, List.getElem?_cons_succ] at k0 k1 k2 k3)
            )
          go_ret
          exact ⟨ret_bool hb.out.symm, (hB.out.trans (B1.out.mono hB.out.size))⟩
end Go.Proofs.Ytgcbodpjidoanaa
namespace Go.Proofs.Ytgcbodpjidoanaa
open Go.RowKit
set_option maxRecDepth 100000 in
set_option maxHeartbeats 4000000 in
theorem rright_any (o : OpD) (k nc nr : Nat) (t : ByteArray) (AC AR : Option Addr) (cc cr : Nat) (w : World) (hk : k = o.kind) (ht : t = o.table) (hnc : nc = o.cols.length) (hnr : nr = o.row.length)
    (hC : Arr w w.heap.size AC nc (strs o.cols)) (hs : ∀ i, (o.cols.getD i default).size ≤ 140737488351232) (hts : t.size ≤ 140737488351232) (hn : nc ≤ 1000000000) (hrn : nr ≤ 1000000000) :
    Calls Try.prog 79 #[.agg #[.int .u8 (k : Nat), .string t, .slice AC nc cc, .slice AR nr cr]] w fun e w' => e = .returned (.bool (oprB o)) ∧ Below w.heap.size w w' := by
  obtain ⟨RS, hRS⟩ : ∃ RS, RS = oprB o := ⟨_, rfl⟩
  rw [← hRS]
  obtain ⟨v, hv⟩ : ∃ v, v = w.alloc (.cells (opV k t AC nc cc AR nr cr).toArray 132) := ⟨_, rfl⟩
  have hR := hideP (show Row v w.heap.size 132 (opV k t AC nc cc AR nr cr) by rw [hv]; exact Row.new _ _ _)
  have hB := hideP (show Below w.heap.size w v by rw [hv]; exact below_new _ _)
  have hCv := hideP (hB.out |> hC.after)
  have hNm := hideP (rname_any t v hts)
  have hz := hideP (show w.heap.size < v.heap.size from hR.out.lt)
  have bad := hideP (fun (h : nameB (nb t) = false) => hRS.trans (oprB_name (by rw [← ht]; exact h)))
  have r1 := hideP (fun (h : nameB (nb t) = true) (h2 : k = 1) => hRS.trans (oprB_1 (by rw [← ht]; exact h) (by rw [← hk]; exact h2)))
  have r2 := hideP (fun (h : nameB (nb t) = true) (h2 : k = 2) => hRS.trans (oprB_2 (by rw [← ht]; exact h) (by rw [← hk]; exact h2)))
  have r3 := hideP (fun (h : nameB (nb t) = true) (h2 : k = 3 ∨ k = 4) => hRS.trans (oprB_3 (by rw [← ht]; exact h) (by rw [← hk]; exact h2)))
  have r5 := hideP (fun (h1 : k ≠ 1) (h2 : k ≠ 2) (h3 : k ≠ 3) (h4 : k ≠ 4) => hRS.trans (oprB_5 (o := o) (by omega) (by omega) (by omega) (by omega)))
  rw [← hnc, ← hnr] at r2 r3
  rw [← hnr] at r1
  obtain ⟨q, hq⟩ : ∃ q, q = nameB (nb t) := ⟨_, rfl⟩
  rw [← hq] at hNm bad r1 r2 r3
  obtain ⟨L, hL⟩ : ∃ L, L = o.cols := ⟨_, rfl⟩
  rw [← hL] at hCv hs r1 hnc
  have hcb := hideP (show colsB L = (colsTo L nc && (decide (0 < nc) && decide (nc ≤ 7))) by rw [hnc]; rfl)
  have Hs := hideP hs
  clear hRS hk ht hnc hnr hC hq hL hs
  have hv' := hideP hv
  clear hv
  go_enter Try.func79, Try.ntmps79
  go_upto_region 1 with fail
  rw [show (w.alloc (.cells #[.int .u8 (k : Nat), .string t, .slice AC nc cc, .slice AR nr cr] 132)) = v from hv'.out.symm]
  have Rv := hideP (hR.out.after (Below.refl _ _))
  have k0 := Rv.out.cell 0; have k1 := Rv.out.cell 1; have k2 := Rv.out.cell 2; have k3 := Rv.out.cell 3
  simp only [opV, List.getElem?_cons_zero, List.getElem?_cons_succ] at k0 k1 k2 k3
  rcases hqb : q with _ | _
  · subst hqb
    have hb := hideP (bad.out rfl)
    clear bad r1 r2 r3
    go_wp2_with (first
      | (go_at_call 156; refine hNm.out.mono ?_; rintro e1 w1 ⟨rfl, rfl⟩)
      )
    go_ret
    exact ⟨ret_bool hb.out.symm, hB.out⟩
  · subst hqb
    by_cases h1 : k = 1
    · subst h1
      have hb := hideP (r1.out rfl rfl)
      clear bad r1 r2 r3 r5
      go_wp2_with (first
        | (go_at_call 156; refine hNm.out.mono ?_; rintro e1 w1 ⟨rfl, rfl⟩)
        )
      clear k0 k1 k2 k3 Rv
      go_loopw [3] (fun v3 wr => ∃ i : Nat, i ≤ nc ∧ v3 = .int .i64 (i : Nat) ∧ Hid (colsTo L i = true ∧ Below v.heap.size v wr)) (fun v3 _ => nc - (intOf v3).toNat)
      case atStart => exact ⟨0, Nat.zero_le _, rfl, rfl, Below.refl _ _⟩
      case round =>
        obtain ⟨i, hi, rfl, hV⟩ := hrel
        have Rr := hideP (hR.out.after hV.out.2)
        have k0 := Rr.out.cell 0; have k1 := Rr.out.cell 1; have k2 := Rr.out.cell 2; have k3 := Rr.out.cell 3
        simp only [opV, List.getElem?_cons_zero, List.getElem?_cons_succ] at k0 k1 k2 k3
        by_cases hlt : i < nc
        · have i1 : (i : Int) < (nc : Int) := by omega
          obtain ⟨b0, off, hA, hB0, hc⟩ := hCv.out (by omega)
          subst hA
          have c0 := (hV.out.2.cell (p := ⟨b0, off + i, none⟩) hB0).trans (hc i hlt)
          unfold strs at c0
          have hcol := hasTo_col L i
          have hx := Hs.out i
          obtain ⟨x, hxx⟩ : ∃ x, x = L.getD i default := ⟨_, rfl⟩
          rw [← hxx] at c0 hx hcol
          have Hcol := hideP hcol
          have Hc := hideP hc
          have hN2 := fun W => rname_any x W hx
          obtain ⟨p, hp⟩ : ∃ p, p = nameB (nb x) := ⟨_, rfl⟩
          rw [← hp] at Hcol hN2
          have HN2 := hideP hN2
          have Hx := hideP hxx.symm
          clear hp hxx hc hcol hx hN2
          have Hbad := hideP (show colB L i = false → RS = false from fun h => by rw [hb.out, hcb.out, colsTo_false L hlt h]; rfl)
          rcases hpb : p with _ | _
          · subst hpb
            go_wp2_with (go_at_call 156; refine (HN2.out _).mono ?_; rintro e1 w1 ⟨rfl, rfl⟩)
            go_ret
            exact ⟨ret_bool (Hbad.out (by rw [Hcol.out]; rfl)).symm, hB.out.trans (hV.out.2.mono hB.out.size)⟩
          · subst hpb
            by_cases hid : x = idS
            · have e2 := id_eq hid
              have E2 := hideP hid
              clear hid
              go_wp2_with (go_at_call 156; refine (HN2.out _).mono ?_; rintro e1 w1 ⟨rfl, rfl⟩)
              go_ret
              exact ⟨ret_bool (Hbad.out (by rw [Hcol.out, E2.out]; simp)).symm, hB.out.trans (hV.out.2.mono hB.out.size)⟩
            · have e2 := id_ne hid
              have E2 := hideP hid
              clear hid
              go_wp2_with (go_at_call 156; refine (HN2.out _).mono ?_; rintro e1 w1 ⟨rfl, rfl⟩)
              obtain ⟨wo, hwo⟩ : ∃ wo : World, wo = wr := ⟨_, rfl⟩
              rw [← hwo] at hV c0 k0 k1 k2 k3 Rr ⊢
              clear hwo k0 k1 k2 k3 c0
              go_loopw [4] (fun v4 wq => ∃ j : Nat, j ≤ i ∧ v4 = .int .i64 (j : Nat) ∧ Hid (hasTo L x j = true ∧ Below v.heap.size v wq)) (fun v4 _ => i - (intOf v4).toNat)
              case atStart => exact ⟨0, Nat.zero_le _, rfl, rfl, hV.out.2⟩
              case round =>
                obtain ⟨j, hj, rfl, hU⟩ := hrel
                have Rq := hideP (hR.out.after hU.out.2)
                have k0 := Rq.out.cell 0; have k1 := Rq.out.cell 1; have k2 := Rq.out.cell 2; have k3 := Rq.out.cell 3
                simp only [opV, List.getElem?_cons_zero, List.getElem?_cons_succ] at k0 k1 k2 k3
                by_cases hjl : j < i
                · have i2 : (j : Int) < (i : Int) := by omega
                  have i3 : (j : Int) < (nc : Int) := by omega
                  have c0 := (hU.out.2.cell (p := ⟨b0, off + i, none⟩) hB0).trans (Hc.out i hlt)
                  have c1 := (hU.out.2.cell (p := ⟨b0, off + j, none⟩) hB0).trans (Hc.out j (by omega))
                  unfold strs at c0 c1
                  have hcj := hasTo_succ L x j
                  have Hbj := hideP (fun h => Hbad.out (by rw [Hcol.out, hasTo_false L x hjl h]; simp) : L.getD j default = x → RS = false)
                  have hxi := hideP (show L.getD i default = x from Hx.out)
                  rw [hxi.out] at c0
                  obtain ⟨y, hy⟩ : ∃ y, y = L.getD j default := ⟨_, rfl⟩
                  rw [← hy] at c1 hcj Hbj
                  have Hcj := hideP hcj
                  clear hcj hy
                  by_cases hyx : y = x
                  · have hf := hideP (Hbj.out hyx)
                    subst hyx
                    go_wp2_with fail
                    go_quiet (fail)
                    go_wp2_with fail
                    go_ret
                    exact ⟨ret_bool hf.out.symm, hB.out.trans ((below_drewN hU.out.2 _).mono hB.out.size)⟩
                  · have e3 := str_ne hyx
                    have hok := hideP (show hasTo L x (j + 1) = true by rw [Hcj.out, hU.out.1]; simp [hyx])
                    clear hyx
                    go_wp2_with fail
                    go_quiet (fail)
                    go_wp2_with fail
                    go_roundw
                    case rel => exact ⟨j + 1, by omega, by go_num, hok.out, below_drewN hU.out.2 _⟩
                    case measure => simp [intOf]; omega
                · have hji : j = i := by omega
                  subst hji
                  have i2 : ¬ ((j : Int) < (j : Int)) := by omega
                  have hok := hideP (show colsTo L (j + 1) = true by rw [colsTo_succ, hV.out.1, Hcol.out, hU.out.1]; simp [E2.out])
                  go_wp2_with fail
                  go_roundw
                  case rel => exact ⟨j + 1, by omega, by go_num, hok.out, hU.out.2⟩
                  case measure => simp [intOf]; omega
        · have hin : i = nc := by omega
          subst hin
          have i1 : ¬ ((i : Int) < (i : Int)) := by omega
          have hE := hideP (show RS = ((decide (0 < i) && decide (i ≤ 7)) && decide (nr = 0)) by rw [hb.out, hcb.out, hV.out.1]; rfl)
          have hW := hideP (hB.out.trans (hV.out.2.mono hB.out.size))
          clear hV hi hlt
          by_cases h0 : 0 < i
          · have h0' : (0 : Int) < (i : Int) := by omega
            by_cases h1 : i ≤ 7
            · have h1' : (i : Int) < 8 := by omega
              by_cases h2 : nr = 0
              · have hf := hideP (show RS = true by rw [hE.out]; simp [h0, h1, h2])
                subst h2
                go_wp2_with fail
                go_ret
                exact ⟨ret_bool hf.out.symm, hW.out⟩
              · have h2' : ((nr : Int) == 0) = false := by simpa using h2
                have hf := hideP (show RS = false by rw [hE.out]; simp [h2])
                clear h2
                go_wp2_with fail
                go_ret
                exact ⟨ret_bool hf.out.symm, hW.out⟩
            · have h1' : decide ((i : Int) < 8) = false := by simp; omega
              have hf := hideP (show RS = false by rw [hE.out]; simp [h1])
              clear h1
              go_wp2_with fail
              all_goals (go_ret; exact ⟨ret_bool (hf.out.symm ▸ (by simp; try omega)), hW.out⟩)
          · have h0' : decide ((0 : Int) < (i : Int)) = false := by simp; omega
            have hf := hideP (show RS = false by rw [hE.out]; simp [h0])
            clear h0
            go_wp2_with fail
            all_goals (go_ret; exact ⟨ret_bool (hf.out.symm ▸ (by first | (simp; done) | (exfalso; simp at h0'; omega) | (simp; omega))), hW.out⟩)
    · have h1' : ((k : Int) == 1) = false := by simp; omega
      by_cases h2 : k = 2
      · subst h2
        have hb := hideP (r2.out rfl rfl)
        clear bad r1 r2 r3 r5 h1
        by_cases h0 : nc + nr = 0
        · have h3 : (((nc : Int) + (nr : Int)) == 0) = true := by simp; omega
          have hf := hideP (show RS = true by rw [hb.out]; simp; omega)
          go_wp2_with (first
            | (go_at_call 156; refine hNm.out.mono ?_; rintro e1 w1 ⟨rfl, rfl⟩)
            )
          go_ret
          exact ⟨ret_bool (by rw [hf.out] <;> first | rfl | simpa using h3 | exact h3), hB.out⟩
        · have h3 : (((nc : Int) + (nr : Int)) == 0) = false := by simp; omega
          have hf := hideP (show RS = false by rw [hb.out]; simp; omega)
          go_wp2_with (first
            | (go_at_call 156; refine hNm.out.mono ?_; rintro e1 w1 ⟨rfl, rfl⟩)
            )
          go_ret
          exact ⟨ret_bool (by rw [hf.out] <;> first | rfl | simpa using h3 | exact h3), hB.out⟩
      · have h2' : ((k : Int) == 2) = false := by simp; omega
        by_cases h34 : k = 3 ∨ k = 4
        · have hb := hideP (r3.out rfl h34)
          clear bad r1 r2 r3 r5 h1 h2
          by_cases h0 : nc = 0
          · subst h0
            by_cases h3 : 2 ≤ nr
            · have h3' : (1 : Int) < (nr : Int) := by omega
              by_cases h4 : nr ≤ 8
              · have h4' : (nr : Int) < 9 := by omega
                have hf := hideP (show RS = true by rw [hb.out]; simp [h3, h4])
                rcases h34 with rfl | rfl
                all_goals
                  go_wp2_with (first
                    | (go_at_call 156; refine hNm.out.mono ?_; rintro e1 w1 ⟨rfl, rfl⟩)
                    )
                  go_ret
                  exact ⟨ret_bool hf.out.symm, hB.out⟩
              · have h4' : ¬ (nr : Int) < 9 := by omega
                have hf := hideP (show RS = false by rw [hb.out]; simp [h4])
                rcases h34 with rfl | rfl
                all_goals
                  go_wp2_with (first
                    | (go_at_call 156; refine hNm.out.mono ?_; rintro e1 w1 ⟨rfl, rfl⟩)
                    )
                  all_goals (go_ret; exact ⟨ret_bool (hf.out.symm ▸ (by simp; try omega)), hB.out⟩)
            · have h3' : ¬ (1 : Int) < (nr : Int) := by omega
              have hf := hideP (show RS = false by rw [hb.out]; simp [h3])
              rcases h34 with rfl | rfl
              all_goals
                go_wp2_with (first
                  | (go_at_call 156; refine hNm.out.mono ?_; rintro e1 w1 ⟨rfl, rfl⟩)
                  )
                all_goals (go_ret; exact ⟨ret_bool (hf.out.symm ▸ (by simp; try omega)), hB.out⟩)
          · have h0' : ((nc : Int) == 0) = false := by simpa using h0
            have hf := hideP (show RS = false by rw [hb.out]; simp [h0])
            clear h0
            rcases h34 with rfl | rfl
            all_goals
              go_wp2_with (first
                | (go_at_call 156; refine hNm.out.mono ?_; rintro e1 w1 ⟨rfl, rfl⟩)
                )
              go_ret
              exact ⟨ret_bool hf.out.symm, hB.out⟩
        · have h3' : ((k : Int) == 3) = false := by simp; omega
          have h4' : ((k : Int) == 4) = false := by simp; omega
          have hb := hideP (r5.out h1 h2 (fun h => h34 (.inl h)) (fun h => h34 (.inr h)))
          clear bad r1 r2 r3 r5 h1 h2 h34
          go_wp2_with (first
            | (go_at_call 156; refine hNm.out.mono ?_; rintro e1 w1 ⟨rfl, rfl⟩)
            )
          go_ret
          exact ⟨ret_bool hb.out.symm, hB.out⟩
end Go.Proofs.Ytgcbodpjidoanaa
