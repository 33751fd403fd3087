/- Contract of block.Right. -/
import Derived.Test.YtiicdnbhphgieaaK4
import Derived.Test.YtiicdnbhphgieaaK21
set_option linter.unusedVariables false
set_option linter.unusedSimpArgs false
namespace Go.Proofs.Ytiicdnbhphgieaa
open Go.RowKit
theorem oprB_name {o : OpD} (h : nameB (nb o.table) = false) : oprB o = false := by unfold oprB; rw [h]; rfl
theorem oprB_1 {o : OpD} (h : nameB (nb o.table) = true) (hk : o.kind = 1) : oprB o = (colsB o.cols && decide (o.row.length = 0)) := by unfold oprB; rw [h, if_pos hk]; rfl
theorem oprB_2 {o : OpD} (h : nameB (nb o.table) = true) (hk : o.kind = 2) : oprB o = (decide (o.cols.length = 0) && decide (o.row.length = 0)) := by unfold oprB; rw [h, if_neg (by omega), if_pos hk]; rfl
theorem oprB_3 {o : OpD} (h : nameB (nb o.table) = true) (hk : o.kind = 3 ∨ o.kind = 4) : oprB o = (decide (o.cols.length = 0) && (decide (2 ≤ o.row.length) && decide (o.row.length ≤ 8))) := by unfold oprB; rw [h, if_neg (by omega), if_neg (by omega), if_pos hk]; rfl
theorem oprB_5 {o : OpD} (h1 : o.kind ≠ 1) (h2 : o.kind ≠ 2) (h3 : o.kind ≠ 3) (h4 : o.kind ≠ 4) : oprB o = false := by unfold oprB; rw [if_neg h1, if_neg h2, if_neg (by omega)]; simp
/-- a change as a value -/
def opV (k : Nat) (t : ByteArray) (AC : Option Addr) (nc cc : Nat) (AR : Option Addr) (nr cr : Nat) : List Value := [.int .u8 k, .string t, .slice AC nc cc, .slice AR nr cr]
set_option maxRecDepth 100000 in
set_option maxHeartbeats 2000000 in
theorem bright_any (o : OpD) (k nc nr : Nat) (t : ByteArray) (AC AR : Option Addr) (cc cr : Nat) (w : World) (hk : k = o.kind) (ht : t = o.table) (hnc : nc = o.cols.length) (hnr : nr = o.row.length)
    (hC : Arr w w.heap.size AC nc (strs o.cols)) (hs : ∀ i, (o.cols.getD i default).size ≤ 140737488351232) (hts : t.size ≤ 140737488351232) (hn : nc ≤ 1000000000) (hc : nc ≤ cc) (hrn : nr ≤ 1000000000) :
    Calls Try.prog 14 #[.agg #[.int .u8 (k : Nat), .string t, .slice AC nc cc, .slice AR nr cr]] w fun e w' => e = .returned (.bool (oprB o)) ∧ Below w.heap.size w w' := by
  obtain ⟨RS, hRS⟩ : ∃ RS, RS = oprB o := ⟨_, rfl⟩
  rw [← hRS]
  obtain ⟨v, hv⟩ : ∃ v, v = w.alloc (.cells (opV k t AC nc cc AR nr cr).toArray 30) := ⟨_, rfl⟩
  have hR := hideP (show Row v w.heap.size 30 (opV k t AC nc cc AR nr cr) by rw [hv]; exact Row.new _ _ _)
  have hB := hideP (show Below w.heap.size w v by rw [hv]; exact below_new _ _)
  have hCv := hideP (hB.out |> hC.after)
  have hNm := hideP (isname_any t v hts)
  have hz := hideP (show w.heap.size < v.heap.size from hR.out.lt)
  have hCols := fun W (h : Below v.heap.size v W) => arecols_any AC o.cols nc cc W hnc (hCv.out.after h) hs hn hc
  have HCols := hideP hCols
  have bad := hideP (fun (h : nameB (nb t) = false) => hRS.trans (oprB_name (by rw [← ht]; exact h)))
  have r1 := hideP (fun (h : nameB (nb t) = true) (h2 : k = 1) => hRS.trans (oprB_1 (by rw [← ht]; exact h) (by rw [← hk]; exact h2)))
  have r2 := hideP (fun (h : nameB (nb t) = true) (h2 : k = 2) => hRS.trans (oprB_2 (by rw [← ht]; exact h) (by rw [← hk]; exact h2)))
  have r3 := hideP (fun (h : nameB (nb t) = true) (h2 : k = 3 ∨ k = 4) => hRS.trans (oprB_3 (by rw [← ht]; exact h) (by rw [← hk]; exact h2)))
  have r5 := hideP (fun (h1 : k ≠ 1) (h2 : k ≠ 2) (h3 : k ≠ 3) (h4 : k ≠ 4) => hRS.trans (oprB_5 (o := o) (by omega) (by omega) (by omega) (by omega)))
  rw [← hnc, ← hnr] at r2 r3
  rw [← hnr] at r1
  obtain ⟨q, hq⟩ : ∃ q, q = nameB (nb t) := ⟨_, rfl⟩
  rw [← hq] at hNm bad r1 r2 r3
  clear hCols hRS hk ht hnc hnr hC hs hq
  have hv' := hideP hv
  clear hv
  go_enter Try.func14, Try.ntmps14
  go_upto_region 1 with fail
  rw [show (w.alloc (.cells #[.int .u8 (k : Nat), .string t, .slice AC nc cc, .slice AR nr cr] 30)) = v from hv'.out.symm]
  have k0 := hR.out.cell 0; have k1 := hR.out.cell 1; have k2 := hR.out.cell 2; have k3 := hR.out.cell 3
  simp only [opV, List.getElem?_cons_zero, List.getElem?_cons_succ] at k0 k1 k2 k3
  rcases hqb : q with _ | _
  · subst hqb
    have hb := hideP (bad.out rfl)
    clear bad r1 r2 r3
    go_wp2_with (first
      | (go_at_call 17; refine hNm.out.mono ?_; rintro e1 w1 ⟨rfl, b1⟩; have R1 := hideP (hR.out.after b1); have B1 := hideP b1; clear b1 k0 k1 k2 k3; have k0 := R1.out.cell 0; have k1 := R1.out.cell 1; have k2 := R1.out.cell 2; have k3 := R1.out.cell 3; simp only [opV, List.getElem?_cons_zero, List.getElem?_cons_succ] at k0 k1 k2 k3)
      )
    go_ret
    exact ⟨ret_bool hb.out.symm, (hB.out.trans (B1.out.mono hB.out.size))⟩
  · subst hqb
    by_cases h1 : k = 1
    · subst h1
      have hb := hideP (r1.out rfl rfl)
      clear bad r1 r2 r3 r5
      obtain ⟨p, hp⟩ : ∃ p, p = colsB o.cols := ⟨_, rfl⟩
      rw [← hp] at HCols hb
      clear hp
      rcases hpb : p with _ | _
      · subst hpb
        go_wp2_with (first
          | (go_at_call 17; refine hNm.out.mono ?_; rintro e1 w1 ⟨rfl, b1⟩; have R1 := hideP (hR.out.after b1); have B1 := hideP b1; clear b1 k0 k1 k2 k3; have k0 := R1.out.cell 0; have k1 := R1.out.cell 1; have k2 := R1.out.cell 2; have k3 := R1.out.cell 3; simp only [opV, List.getElem?_cons_zero, List.getElem?_cons_succ] at k0 k1 k2 k3)
          | (go_at_call 57; refine (HCols.out _ B1.out).mono ?_; rintro e1 w2 ⟨rfl, b1⟩; have R2 := hideP (R1.out.after b1); have B2 := hideP (bstep B1.out b1); clear b1 k0 k1 k2 k3; have k0 := R2.out.cell 0; have k1 := R2.out.cell 1; have k2 := R2.out.cell 2; have k3 := R2.out.cell 3; simp only [opV, List.getElem?_cons_zero, List.getElem?_cons_succ] at k0 k1 k2 k3)
          )
        go_ret
        exact ⟨ret_bool (by rw [hb.out]; rfl), (hB.out.trans (B2.out.mono hB.out.size))⟩
      · subst hpb
        by_cases h0 : nr = 0
        · subst h0
          go_wp2_with (first
            | (go_at_call 17; refine hNm.out.mono ?_; rintro e1 w1 ⟨rfl, b1⟩; have R1 := hideP (hR.out.after b1); have B1 := hideP b1; clear b1 k0 k1 k2 k3; have k0 := R1.out.cell 0; have k1 := R1.out.cell 1; have k2 := R1.out.cell 2; have k3 := R1.out.cell 3; simp only [opV, List.getElem?_cons_zero, List.getElem?_cons_succ] at k0 k1 k2 k3)
            | (go_at_call 57; refine (HCols.out _ B1.out).mono ?_; rintro e1 w2 ⟨rfl, b1⟩; have R2 := hideP (R1.out.after b1); have B2 := hideP (bstep B1.out b1); clear b1 k0 k1 k2 k3; have k0 := R2.out.cell 0; have k1 := R2.out.cell 1; have k2 := R2.out.cell 2; have k3 := R2.out.cell 3; simp only [opV, List.getElem?_cons_zero, List.getElem?_cons_succ] at k0 k1 k2 k3)
            )
          go_ret
          exact ⟨ret_bool (by rw [hb.out]; rfl), (hB.out.trans (B2.out.mono hB.out.size))⟩
        · have h0' : ((nr : Int) == 0) = false := by simpa using h0
          have hf := hideP (show RS = false by rw [hb.out]; simp [h0])
          clear h0
          go_wp2_with (first
            | (go_at_call 17; refine hNm.out.mono ?_; rintro e1 w1 ⟨rfl, b1⟩; have R1 := hideP (hR.out.after b1); have B1 := hideP b1; clear b1 k0 k1 k2 k3; have k0 := R1.out.cell 0; have k1 := R1.out.cell 1; have k2 := R1.out.cell 2; have k3 := R1.out.cell 3; simp only [opV, List.getElem?_cons_zero, List.getElem?_cons_succ] at k0 k1 k2 k3)
            | (go_at_call 57; refine (HCols.out _ B1.out).mono ?_; rintro e1 w2 ⟨rfl, b1⟩; have R2 := hideP (R1.out.after b1); have B2 := hideP (bstep B1.out b1); clear b1 k0 k1 k2 k3; have k0 := R2.out.cell 0; have k1 := R2.out.cell 1; have k2 := R2.out.cell 2; have k3 := R2.out.cell 3; simp only [opV, List.getElem?_cons_zero, List.getElem?_cons_succ] at k0 k1 k2 k3)
            )
          go_ret
          exact ⟨ret_bool hf.out.symm, (hB.out.trans (B2.out.mono hB.out.size))⟩
    · have h1' : ((k : Int) == 1) = false := by simp; omega
      by_cases h2 : k = 2
      · subst h2
        have hb := hideP (r2.out rfl rfl)
        clear bad r1 r2 r3 r5 h1 HCols
        by_cases h0 : nc = 0
        · subst h0
          by_cases h3 : nr = 0
          · subst h3
            go_wp2_with (first
              | (go_at_call 17; refine hNm.out.mono ?_; rintro e1 w1 ⟨rfl, b1⟩; have R1 := hideP (hR.out.after b1); have B1 := hideP b1; clear b1 k0 k1 k2 k3; have k0 := R1.out.cell 0; have k1 := R1.out.cell 1; have k2 := R1.out.cell 2; have k3 := R1.out.cell 3; simp only [opV, List.getElem?_cons_zero, List.getElem?_cons_succ] at k0 k1 k2 k3)
              )
            go_ret
            exact ⟨ret_bool (by rw [hb.out]; rfl), (hB.out.trans (B1.out.mono hB.out.size))⟩
          · have h3' : ((nr : Int) == 0) = false := by simpa using h3
            have hf := hideP (show RS = false by rw [hb.out]; simp [h3])
            clear h3
            go_wp2_with (first
              | (go_at_call 17; refine hNm.out.mono ?_; rintro e1 w1 ⟨rfl, b1⟩; have R1 := hideP (hR.out.after b1); have B1 := hideP b1; clear b1 k0 k1 k2 k3; have k0 := R1.out.cell 0; have k1 := R1.out.cell 1; have k2 := R1.out.cell 2; have k3 := R1.out.cell 3; simp only [opV, List.getElem?_cons_zero, List.getElem?_cons_succ] at k0 k1 k2 k3)
              )
            go_ret
            exact ⟨ret_bool hf.out.symm, (hB.out.trans (B1.out.mono hB.out.size))⟩
        · have h0' : ((nc : Int) == 0) = false := by simpa using h0
          have hf := hideP (show RS = false by rw [hb.out]; simp [h0])
          clear h0
          go_wp2_with (first
            | (go_at_call 17; refine hNm.out.mono ?_; rintro e1 w1 ⟨rfl, b1⟩; have R1 := hideP (hR.out.after b1); have B1 := hideP b1; clear b1 k0 k1 k2 k3; have k0 := R1.out.cell 0; have k1 := R1.out.cell 1; have k2 := R1.out.cell 2; have k3 := R1.out.cell 3; simp only [opV, List.getElem?_cons_zero, List.getElem?_cons_succ] at k0 k1 k2 k3)
            )
          go_ret
          exact ⟨ret_bool hf.out.symm, (hB.out.trans (B1.out.mono hB.out.size))⟩
      · have h2' : ((k : Int) == 2) = false := by simp; omega
        by_cases h34 : k = 3 ∨ k = 4
        · have hb := hideP (r3.out rfl h34)
          clear bad r1 r2 r3 r5 h1 h2 HCols
          by_cases h0 : nc = 0
          · subst h0
            by_cases h3 : 2 ≤ nr
            · have h3' : (2 : Int) ≤ (nr : Int) := by omega
              by_cases h4 : nr ≤ 8
              · have h4' : (nr : Int) ≤ 8 := by omega
                have hf := hideP (show RS = true by rw [hb.out]; simp [h3, h4])
                rcases h34 with rfl | rfl
                all_goals
                  go_wp2_with (first
                    | (go_at_call 17; refine hNm.out.mono ?_; rintro e1 w1 ⟨rfl, b1⟩; have R1 := hideP (hR.out.after b1); have B1 := hideP b1; clear b1 k0 k1 k2 k3; have k0 := R1.out.cell 0; have k1 := R1.out.cell 1; have k2 := R1.out.cell 2; have k3 := R1.out.cell 3; simp only [opV, List.getElem?_cons_zero, List.getElem?_cons_succ] at k0 k1 k2 k3)
                    )
                  go_ret
                  exact ⟨ret_bool hf.out.symm, (hB.out.trans (B1.out.mono hB.out.size))⟩
              · have h4' : ¬ (nr : Int) ≤ 8 := by omega
                have hf := hideP (show RS = false by rw [hb.out]; simp [h4])
                rcases h34 with rfl | rfl
                all_goals
                  go_wp2_with (first
                    | (go_at_call 17; refine hNm.out.mono ?_; rintro e1 w1 ⟨rfl, b1⟩; have R1 := hideP (hR.out.after b1); have B1 := hideP b1; clear b1 k0 k1 k2 k3; have k0 := R1.out.cell 0; have k1 := R1.out.cell 1; have k2 := R1.out.cell 2; have k3 := R1.out.cell 3; simp only [opV, List.getElem?_cons_zero, List.getElem?_cons_succ] at k0 k1 k2 k3)
                    )
                  all_goals (go_ret; exact ⟨ret_bool (hf.out.symm ▸ (by simp; try omega)), (hB.out.trans (B1.out.mono hB.out.size))⟩)
            · have h3' : ¬ (2 : Int) ≤ (nr : Int) := by omega
              have hf := hideP (show RS = false by rw [hb.out]; simp [h3])
              rcases h34 with rfl | rfl
              all_goals
                go_wp2_with (first
                  | (go_at_call 17; refine hNm.out.mono ?_; rintro e1 w1 ⟨rfl, b1⟩; have R1 := hideP (hR.out.after b1); have B1 := hideP b1; clear b1 k0 k1 k2 k3; have k0 := R1.out.cell 0; have k1 := R1.out.cell 1; have k2 := R1.out.cell 2; have k3 := R1.out.cell 3; simp only [opV, List.getElem?_cons_zero, List.getElem?_cons_succ] at k0 k1 k2 k3)
                  )
                all_goals (go_ret; exact ⟨ret_bool (hf.out.symm ▸ (by simp; try omega)), (hB.out.trans (B1.out.mono hB.out.size))⟩)
          · have h0' : ((nc : Int) == 0) = false := by simpa using h0
            have hf := hideP (show RS = false by rw [hb.out]; simp [h0])
            clear h0
            rcases h34 with rfl | rfl
            all_goals
              go_wp2_with (first
                | (go_at_call 17; refine hNm.out.mono ?_; rintro e1 w1 ⟨rfl, b1⟩; have R1 := hideP (hR.out.after b1); have B1 := hideP b1; clear b1 k0 k1 k2 k3; have k0 := R1.out.cell 0; have k1 := R1.out.cell 1; have k2 := R1.out.cell 2; have k3 := R1.out.cell 3; simp only [opV, List.getElem?_cons_zero, List.getElem?_cons_succ] at k0 k1 k2 k3)
                )
              go_ret
              exact ⟨ret_bool hf.out.symm, (hB.out.trans (B1.out.mono hB.out.size))⟩
        · have h3' : ((k : Int) == 3) = false := by simp; omega
          have h4' : ((k : Int) == 4) = false := by simp; omega
          have hb := hideP (r5.out h1 h2 (fun h => h34 (.inl h)) (fun h => h34 (.inr h)))
          clear bad r1 r2 r3 r5 h1 h2 h34 HCols
          go_wp2_with (first
            | (go_at_call 17; refine hNm.out.mono ?_; rintro e1 w1 ⟨rfl, b1⟩; have R1 := hideP (hR.out.after b1); have B1 := hideP b1; clear b1 k0 k1 k2 k3; have k0 := R1.out.cell 0; have k1 := R1.out.cell 1; have k2 := R1.out.cell 2; have k3 := R1.out.cell 3; simp only [opV, List.getElem?_cons_zero, List.getElem?_cons_succ] at k0 k1 k2 k3)
            )
          go_ret
          exact ⟨ret_bool hb.out.symm, (hB.out.trans (B1.out.mono hB.out.size))⟩
end Go.Proofs.Ytiicdnbhphgieaa
