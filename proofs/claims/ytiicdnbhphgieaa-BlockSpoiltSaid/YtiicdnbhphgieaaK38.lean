/- Digests and heads are compared. Contract of block.Block. -/
import Derived.Stop.BytesEq
import Derived.Test.YtiicdnbhphgieaaK37
set_option linter.unusedVariables false
set_option linter.unusedSimpArgs false
namespace Go.Proofs.Ytiicdnbhphgieaa
open Go.RowKit
theorem sizeU8e (w : World) : (sizeOf 5).run Try.prog w = .ok 1 w := by kernel_rfl
theorem cells_b8e {l : List Nat} (h : IsB l) : l.map b8 = (l.map UInt8.ofNat).map Extern.Stop.cell := by
  rw [List.map_map]
  refine List.map_congr_left fun x hx => ?_
  obtain ⟨i, hi, rfl⟩ := List.getElem_of_mem hx
  have := h i
  simp only [List.getD, List.getElem?_eq_getElem hi, Option.getD_some] at this
  simp only [Function.comp_apply, b8, Extern.Stop.cell, Value.int.injEq, true_and]
  rw [UInt8.toNat_ofNat', Nat.mod_eq_of_lt this]
  rfl
theorem ofNat_beq {l m : List Nat} (bl : IsB l) (bm : IsB m) : (l.map UInt8.ofNat == m.map UInt8.ofNat) = decide (l = m) := by
  rw [Bool.eq_iff_iff]
  simp only [beq_iff_eq, decide_eq_true_eq]
  exact ⟨fun h => map_ofNat_inj l m bl bm h, fun h => by rw [h]⟩
theorem run_equalIn_dg (d : Nat) (l m : List Nat) (hl : l.length = 32) (hm : m.length = 32) (bl : IsB l) (bm : IsB m) (w : World) :
    (Op.equalIn (d + 2) 41 (.agg (l.map b8).toArray) (.agg (m.map b8).toArray)).run Try.prog w = .ok (decide (l = m)) w := by
  rw [cells_b8e bl, cells_b8e bm, run_equalIn_bytes w d 41 5 32 Try.underlying41 Try.underlying5 sizeU8e _ _ (by simpa using hl) (by simpa using hm), ofNat_beq bl bm]
theorem run_eql_dge (l m : List Nat) (hl : l.length = 32) (hm : m.length = 32) (bl : IsB l) (bm : IsB m) (w : World) :
    (binOp .eql 41 (.agg (l.map b8).toArray) (.agg (m.map b8).toArray)).run Try.prog w = .ok (.bool (decide (l = m))) w := by
  rw [run_eql_struct, run_equalIn_dg 9998 l m hl hm bl bm w]; rfl
theorem run_neq_dge (l m : List Nat) (hl : l.length = 32) (hm : m.length = 32) (bl : IsB l) (bm : IsB m) (w : World) :
    (binOp .neq 41 (.agg (l.map b8).toArray) (.agg (m.map b8).toArray)).run Try.prog w = .ok (.bool (!decide (l = m))) w := by
  rw [run_neq_struct, run_equalIn_dg 9998 l m hl hm bl bm w]; rfl
theorem ext_mid (a b c : List Value) : (a ++ (b ++ c)).toArray.extract a.length (a.length + b.length) = b.toArray := by
  apply Array.toList_inj.1
  simp [List.extract_eq_take_drop]
theorem part_row (w : World) (xs : Array Value) (off : Nat) (a b c : List Value) (e : xs = (a ++ (b ++ c)).toArray) (ha : a.length = off) (hb : b.length = 32) : (part 41 xs off).run Try.prog w = .ok (.agg b.toArray) w := by
  have hs : (sizeOf 41).run Try.prog w = .ok 32 w := by kernel_rfl
  have hi : (isAgg 41).run Try.prog w = .ok true w := by kernel_rfl
  unfold part
  simp only [Sem.run_bind, hi, Result.andThen_ok, if_true, hs, Sem.run_pure]
  subst ha e
  rw [← hb, ext_mid]
theorem part_num (w : World) (xs : Array Value) (v : Value) (h : xs[32]? = some v) : (part 3 xs 32).run Try.prog w = .ok v w := by
  have hi : (isAgg 3).run Try.prog w = .ok false w := by kernel_rfl
  unfold part
  simp only [Sem.run_bind, hi, Result.andThen_ok, Bool.false_eq_true, if_false, h, Sem.run_pure]
theorem eqF_cons {P : Program} {d : Nat} {xs ys : Array Value} {f : Field} {fs : List Field} {w : World} {a b : Value} {r q : Bool} (hn : f.name ≠ "_") (pa : (part f.type xs f.offset).run P w = .ok a w) (pb : (part f.type ys f.offset).run P w = .ok b w)
    (he : (Op.equalIn d f.type a b).run P w = .ok r w) (hr : (Op.eqFields d xs ys fs).run P w = .ok q w) : (Op.eqFields d xs ys (f :: fs)).run P w = .ok (r && q) w := by
  unfold Op.eqFields
  rw [if_pos hn]
  simp only [Sem.run_bind, pa, pb, he, Result.andThen_ok, Sem.run_ite]
  cases r
  · rfl
  · exact hr
theorem eqF_last {P : Program} {d : Nat} {xs ys : Array Value} {f : Field} {w : World} {a b : Value} {r : Bool} (hn : f.name ≠ "_") (pa : (part f.type xs f.offset).run P w = .ok a w) (pb : (part f.type ys f.offset).run P w = .ok b w)
    (he : (Op.equalIn d f.type a b).run P w = .ok r w) : (Op.eqFields d xs ys [f]).run P w = .ok r w := by
  have := eqF_cons (fs := []) (q := true) hn pa pb he (by unfold Op.eqFields; rfl)
  rwa [Bool.and_true] at this
theorem run_equalIn_head (d : Nat) (h k : HeadD) (a : HeadOk h) (b : HeadOk k) (w : World) :
    (Op.equalIn (d + 3) 48 (.agg (headC h).toArray) (.agg (headC k).toArray)).run Try.prog w = .ok (decide (h.prev = k.prev) && (decide (h.num = k.num) && (decide (h.ops = k.ops) && decide (h.tabs = k.tabs)))) w := by
  have ht : Try.prog.underlying 48 = some (.struct (Try.prog.fieldsOf 48)) := by kernel_rfl
  rw [run_equalIn_struct w (d + 2) 48 _ _ ht (by kernel_rfl)]
  have p0 := fun (x : HeadD) (k : HeadOk x) => part_row w (headC x).toArray 0 [] (x.prev.map b8) (.int .i64 x.num :: (x.ops.map b8 ++ x.tabs.map b8)) rfl rfl (by simp [k.p])
  have p1 := fun (x : HeadD) (k : HeadOk x) => part_num w (headC x).toArray (.int .i64 x.num) (by simp [headC, k.p])
  have p2 := fun (x : HeadD) (k : HeadOk x) => part_row w (headC x).toArray 33 (x.prev.map b8 ++ [.int .i64 x.num]) (x.ops.map b8) (x.tabs.map b8) (by simp [headC]) (by simp [k.p]) (by simp [k.o])
  have p3 := fun (x : HeadD) (k : HeadOk x) => part_row w (headC x).toArray 65 (x.prev.map b8 ++ ([.int .i64 x.num] ++ x.ops.map b8)) (x.tabs.map b8) [] (by simp [headC]) (by simp [k.p, k.o]) (by simp [k.t])
  have e0 := run_equalIn_dg d h.prev k.prev a.p b.p a.pB b.pB w
  have e1 : (Op.equalIn (d + 2) 3 (.int .i64 h.num) (.int .i64 k.num)).run Try.prog w = .ok (decide (h.num = k.num)) w := (run_equalIn_int (P := Try.prog) w (d + 1) 3 .i64 .i64 h.num k.num Try.underlying3)
  have e2 := run_equalIn_dg d h.ops k.ops a.o b.o a.oB b.oB w
  have e3 := run_equalIn_dg d h.tabs k.tabs a.t b.t a.tB b.tB w
  simp only [Program.fieldsOf, Try.underlying48]
  exact eqF_cons (by decide) (p0 h a) (p0 k b) e0 (eqF_cons (by decide) (p1 h a) (p1 k b) e1 (eqF_cons (by decide) (p2 h a) (p2 k b) e2 (eqF_last (by decide) (p3 h a) (p3 k b) e3)))
theorem headD_eq (h k : HeadD) : (decide (h.prev = k.prev) && (decide (h.num = k.num) && (decide (h.ops = k.ops) && decide (h.tabs = k.tabs)))) = true ↔ h = k := by
  simp only [Bool.and_eq_true, decide_eq_true_eq]
  constructor
  · rintro ⟨a, b, c, d⟩; cases h; cases k; simp_all
  · rintro rfl; exact ⟨rfl, rfl, rfl, rfl⟩
def eqH (h k : HeadD) : Bool := decide (h.prev = k.prev) && (decide (h.num = k.num) && (decide (h.ops = k.ops) && decide (h.tabs = k.tabs)))
theorem eqH_iff (h k : HeadD) : eqH h k = true ↔ h = k := headD_eq h k
theorem eqH_refl (h : HeadD) : eqH h h = true := (eqH_iff h h).2 rfl
theorem run_eql_head (h k : HeadD) (a : HeadOk h) (b : HeadOk k) (w : World) : (binOp .eql 48 (.agg (headC h).toArray) (.agg (headC k).toArray)).run Try.prog w = .ok (.bool (eqH h k)) w := by
  rw [run_eql_struct, run_equalIn_head 9997 h k a b w]; rfl
theorem run_neq_head (h k : HeadD) (a : HeadOk h) (b : HeadOk k) (w : World) : (binOp .neq 48 (.agg (headC h).toArray) (.agg (headC k).toArray)).run Try.prog w = .ok (.bool (!eqH h k)) w := by
  rw [run_neq_struct, run_equalIn_head 9997 h k a b w]; rfl
end Go.Proofs.Ytiicdnbhphgieaa
namespace Go.Proofs.Ytiicdnbhphgieaa
open Go.RowKit
theorem opsB_small {l : List OpD} (h : allB l = true) : (opsB l).length ≤ 1048576 := by
  simp only [allB, Bool.and_eq_true, decide_eq_true_eq, List.all_eq_true] at h
  have key : ∀ m : List OpD, (∀ o ∈ m, oprB o = true) → ((m.map opB).flatten).length ≤ m.length * 300 := by
    intro m
    induction m with
    | nil => intro _; simp
    | cons o m ih =>
      intro hm
      have := ih fun x hx => hm x (by simp [hx])
      have ho := oprB_facts (hm o (by simp))
      have e1 : (if o.kind = 1 then [o.cols.length] ++ textsB o.cols else []).length ≤ 1 + 7 * 19 := by
        split
        · have := texts_len_gen o.cols 16 (fun i => by
            unfold List.getD
            rcases Nat.lt_or_ge i o.cols.length with hi | hi
            · rw [List.getElem?_eq_getElem hi]; exact ho.2.2.2.2 _ (List.getElem_mem _)
            · rw [List.getElem?_eq_none hi]; decide) o.cols.length
          rw [List.take_length] at this
          simp; omega
        · simp
      have e2 : (if o.kind = 3 ∨ o.kind = 4 then rowB o.row else []).length ≤ 1 + 8 * 8 := by
        split
        · unfold rowB; rw [List.length_append, rows_len]; simp; omega
        · simp
      have e3 : (opB o).length ≤ 300 := by
        unfold opB
        rw [List.length_append, List.length_append, List.length_append, textB_len]
        have h16 := ho.2.1
        rw [nb_len] at h16
        have : ([o.kind] : List Nat).length = 1 := rfl
        omega
      simp only [List.map_cons, List.flatten_cons, List.length_append, List.length_cons]
      omega
  have := key l h.1
  unfold opsB
  rw [List.length_append]
  have h3 : (be3 l.length).length = 3 := rfl
  omega
theorem bops_any (A : Option Addr) (l : List OpD) (ps : Nat → OpP) (n c : Nat) (w : World) (hn : n = l.length) (hA : OpsL w w.heap.size A l ps) (hl : n ≤ 1000000) :
    Calls Try.prog 16 #[.slice A n c] w fun e w' => ∃ R m d f, e = .returned (.tuple #[.slice R m d, .int .i64 f]) ∧ Below w.heap.size w w' ∧ ((allB l = true ∧ f = 0 ∧ m = (opsB l).length ∧ OwnB w' w.heap.size R d (opsB l)) ∨ (allB l = false ∧ f = 1)) := by
  rcases Bool.eq_false_or_eq_true (allB l) with h | h
  · refine (bops_ok A l ps n c w hn hA h).mono ?_
    rintro e w' ⟨R, d, h1, h2, h3⟩
    exact ⟨R, _, d, 0, h1, h3, .inl ⟨h, rfl, rfl, h2⟩⟩
  · refine (bops_no A l ps n c w hn hA hl h).mono ?_
    rintro e w' ⟨h1, h2⟩
    exact ⟨_, _, _, 1, h1, h2, .inr ⟨h, rfl⟩⟩
/-- a block's bytes -/
def blockB (h : HeadD) (l : List OpD) : List Nat := textB (headB h) ++ textB (opsB l)
def blockR (h : HeadD) (l : List OpD) : Bool := headR h && (allB l && decide (h.ops = tagD 79 (opsB l)))
theorem isB_tagD (tag : Nat) (t : List Nat) : IsB (tagD tag t) := fun i => by
  unfold tagD dig
  rcases Nat.lt_or_ge i 32 with h | h
  · simp only [List.getD, List.getElem?_map, List.getElem?_range h, Option.map_some, Option.getD_some]
    exact Nat.mod_lt _ (by decide)
  · rw [getD_out _ _ _ (by simp; exact h)]; decide
def BlockGot (w : World) (ok : Bool) (Z : List Nat) (e : Ending) (w' : World) : Prop :=
  Below w.heap.size w w' ∧ ((ok = true ∧ ∃ R m d, m = Z.length ∧ e = .returned (.tuple #[.slice R m d, .int .i64 0]) ∧ OwnB w' w.heap.size R d Z) ∨ (ok = false ∧ e = .returned (.tuple #[.slice none 0 0, .int .i64 1])))
set_option maxRecDepth 100000 in
set_option maxHeartbeats 4000000 in
theorem bblock_any (h : HeadD) (hk : HeadOk h) (A : Option Addr) (l : List OpD) (ps : Nat → OpP) (n c : Nat) (w : World) (hn : n = l.length) (hA : OpsL w w.heap.size A l ps) (hl : n ≤ 1000000) :
    Calls Try.prog 26 #[.agg (headC h).toArray, .slice A n c] w (BlockGot w (blockR h l) (blockB h l)) := by
  obtain ⟨RS, hRS⟩ : ∃ RS, RS = blockR h l := ⟨_, rfl⟩
  rw [← hRS]
  have hs := hideP (size_h97 hk.cells)
  have r0 := hideP (Row.new w 48 (headC h))
  have hb := hideP (below_new w (.cells (headC h).toArray 48))
  have hO := hideP (fun W (hW : Below w.heap.size w W) => bops_any A l ps n c W hn (hA.after hW) hl)
  rcases Bool.eq_false_or_eq_true (headR h) with c1 | c1
  · have hH := hideP (fun W => bhead_ok h hk c1 W)
    rcases Bool.eq_false_or_eq_true (allB l) with c2 | c2
    · have hO1 := hideP (fun W (hW : Below w.heap.size w W) => bops_ok A l ps n c W hn (hA.after hW) c2)
      have hXs := hideP (opsB_small c2)
      have hXB := hideP (isB_opsB c2)
      have hHl := hideP hk.len
      have hHB := hideP hk.isB
      have hE := hideP (show RS = decide (h.ops = tagD 79 (opsB l)) by rw [hRS, blockR, c1, c2]; rfl)
      have hbl := hideP (show blockB h l = (be3 104 ++ headB h) ++ (be3 (opsB l).length ++ opsB l) by unfold blockB textB; rw [hk.len])
      have hop := hideP (show (w.alloc (.cells (headC h).toArray 48)).rangeAt w.heap.size 33 (h.ops.map b8) from head_ops hk r0.out)
      have hdo := hideP (fun W => run_neq_dge (tagD 79 (opsB l)) h.ops (by simp [tagD, dig]) hk.o (isB_tagD _ _) hk.oB W)
      have ls := hideP (size_d32 hk.o)
      obtain ⟨O, hOO⟩ : ∃ O, O = h.ops := ⟨_, rfl⟩
      obtain ⟨C, hC⟩ : ∃ C, C = headC h := ⟨_, rfl⟩
      obtain ⟨X, hX⟩ : ∃ X, X = opsB l := ⟨_, rfl⟩
      obtain ⟨H, hHH⟩ : ∃ H, H = headB h := ⟨_, rfl⟩
      obtain ⟨Z, hZ⟩ : ∃ Z, Z = blockB h l := ⟨_, rfl⟩
      rw [← hOO] at hop hdo hE ls
      rw [← hC] at hs r0 hb hH hop ⊢
      rw [← hX] at hO1 hXs hXB hE hbl hdo
      rw [← hHH] at hH hHl hHB hbl
      rw [← hZ] at hbl ⊢
      clear hO hC hRS hk hA hn hl c1 c2 hX hHH hZ hOO
      go_enter Try.func26, Try.ntmps26
      go_upto_region 3 with (first
        | (refine wpList_load_row rfl 48 (.tmp 2) rfl w.heap.size rfl 48 C.toArray (0, 0) _ r0.out Try.underlying48 rfl hs.out ?_)
        | (go_at_call 34; refine (hH.out _).mono ?_; rintro e1 w2 ⟨R2, d2, rfl, o2_, b2_⟩; have B2 := hideP (bstep hb.out b2_); have O2 := hideP (OwnB.monoR o2_ hb.out.size); have p2 := hideP (cells_after hop.out b2_ (by simp)); have hzw := hideP (show w.heap.size < w2.heap.size from Nat.lt_of_lt_of_le (by simp) b2_.size); clear b2_ o2_)
        | (go_at_call 16; refine (hO1.out w2 B2.out).mono ?_; rintro e1 w3 ⟨R3, d3, rfl, o3_, b3_⟩; have B3 := hideP (bstep B2.out b3_); have O3 := hideP (OwnB.monoR o3_ B2.out.size); have Q2 := hideP (O2.out.after b3_); have p3 := hideP (cells_after p2.out b3_ hzw.out); clear b3_ o3_))
      have hSum := hideP (fun W (hW : Ext w3 W) => bopssum_any R3 X X.length d3 W rfl (O3.out.ext hW).arr hXB.out (by have := hXs.out; omega))
      have hn1 := hdo.out
      obtain ⟨T, hT⟩ : ∃ T, T = tagD 79 X := ⟨_, rfl⟩
      rw [← hT] at hSum hn1 hE
      clear hT hdo hO1
      rcases Decidable.em (O = T) with c3 | c3
      · have hE1 := hideP (show RS = true by rw [hE.out]; exact decide_eq_true c3)
        rw [show (!decide (T = O)) = false by simp [c3]] at hn1
        subst c3
        refine wp_region_eager 13 [(true, 0), (true, 1), (true, 2), (true, 3), (true, 4), (true, 5), (true, 6), (true, 7), (true, 8), (true, 9), (true, 10), (true, 11), (true, 12)] (by kernel_rfl) (by kernel_rfl) ?_
        simp only [pick, List.map_cons, List.map_nil, nthO_zero, nthO_succ]
        repeat (first
          | (refine wpPlan_skipK (by rfl) (fun K hK => ?_); go_simp; refine hK _ ?_; clear hK K)
          | (refine wpPlan_valK (by rfl) (fun K hK => ?_); refine ⟨.agg (O.map b8).toArray, fun W hW => exec_load_mid 41 (.tmp 30) rfl w.heap.size 33 rfl (O.map b8) _ (fun j v hv => hW.drew_left.cell (p3.out j v hv)) Try.underlying41 rfl ls.out, ?_⟩; go_simp; refine hK _ ?_; clear hK K)
          | (refine wpPlan_valK (by rfl) (fun K hK => ?_); apply Exists.intro; refine ⟨fun W hW => ?_, ?_⟩; (focus (go_simp; (try rfl); done)); go_simp; refine hK _ ?_; clear hK K)
          | (refine wpPlan_callK (.agg (O.map b8).toArray) 23 #[.slice R3 X.length d3] (by rfl) ?_ (fun W hW => (hSum.out W hW.drew_left).mono fun e w' h => ⟨h.1, Ext.of_below h.2⟩) (fun K hK => ?_); (focus (intro W; go_simp; done)); go_simp; refine hK _ ?_; clear hK K))
        refine wpPlan_nil (fun w4 hW0 => ?_)
        simp only [List.drop_succ_cons, List.drop_zero, List.drop_nil]
        replace B3 := hideP (below_ext B3.out hW0.drew_left)
        replace O3 := hideP (O3.out.ext hW0.drew_left)
        replace Q2 := hideP (Q2.out.ext hW0.drew_left)
        clear hW0 hn1 hSum p2 p3 O2 hb r0 hop
        go_upto_region 6 with fail
        obtain ⟨v5, hv5⟩ : ∃ v, v = w4.alloc (.cells #[.slice none 0 0, .int .i64 0] 100) := ⟨_, rfl⟩
        obtain ⟨g, hg⟩ : ∃ g, g = w4.heap.size := ⟨_, rfl⟩
        rw [← hv5, ← hg]
        have V := hideP (Wr.new_at hv5 hg)
        have P0 := hideP (WrP.refl V.out)
        have hb5 : Below w4.heap.size w4 v5 := by rw [hv5]; exact below_new _ _
        have B5 := hideP (bstep B3.out hb5)
        have hgw := hideP (show w.heap.size ≤ g by rw [hg]; exact B3.out.size)
        have Q5 := hideP (show Arr v5 g R2 104 (u8s H) by rw [hg, ← hHl.out]; exact Q2.out.arr.below hb5)
        have O5 := hideP (show Arr v5 g R3 X.length (u8s X) by rw [hg]; exact O3.out.arr.below hb5)
        clear hv5 hb5 hg
        go_upto_region 7 with (go_at_call 81; refine (wtextP H R2 104 d2 g V.out P0.out hHl.out.symm Q5.out (Nat.le_refl _) hHB.out (by decide) (by simp)).mono ?_; rintro e1 w6 ⟨rfl, p1_⟩; have P1 := hideP p1_; clear p1_)
        have O6 := hideP (O5.out.below (WrP.below V.out P1.out))
        go_upto_region 8 with (go_at_call 81; refine (wtextP X R3 X.length d3 g V.out P1.out rfl O6.out (Nat.le_refl _) hXB.out hXs.out (by have := hHl.out; simp [be3]; omega)).mono ?_; rintro e1 w7 ⟨rfl, p1_⟩; have P2 := hideP p1_; clear p1_)
        rw [List.nil_append, ← hbl.out] at P2
        have B7 := hideP (B5.out.trans ((WrP.below V.out P2.out).mono hgw.out))
        have hbs := hideP (wbytesP P2.out (by rw [hbl.out]; have := hHl.out; have := hXs.out; simp [be3]; omega))
        go_wp2_with (first
          | (go_at_call 62; refine hbs.out.mono ?_; rintro e1 w8 ⟨R8, d8, rfl, o8_, b8_, p8_⟩; have O8 := hideP (OwnB.monoR o8_ B7.out.size); have P8 := hideP p8_; have B8 := hideP (bstep B7.out b8_); clear o8_ b8_ p8_)
          | (go_at_call 63; refine (werrP P8.out).mono ?_; rintro e1 w9 ⟨rfl, rfl⟩))
        go_ret2
        exact ⟨B8.out, Or.inl ⟨hE1.out, R8, _, d8, rfl, rfl, O8.out⟩⟩
      · have hE1 := hideP (show RS = false by rw [hE.out]; exact decide_eq_false c3)
        rw [show (!decide (T = O)) = true by simp; exact fun h => c3 h.symm] at hn1
        clear c3
        refine wp_region_eager 13 [(true, 0), (true, 1), (true, 2), (true, 3), (true, 4), (true, 5), (true, 6), (true, 7), (true, 8), (true, 9), (true, 10), (true, 11), (true, 12)] (by kernel_rfl) (by kernel_rfl) ?_
        simp only [pick, List.map_cons, List.map_nil, nthO_zero, nthO_succ]
        repeat (first
          | (refine wpPlan_skipK (by rfl) (fun K hK => ?_); go_simp; refine hK _ ?_; clear hK K)
          | (refine wpPlan_valK (by rfl) (fun K hK => ?_); refine ⟨.agg (O.map b8).toArray, fun W hW => exec_load_mid 41 (.tmp 30) rfl w.heap.size 33 rfl (O.map b8) _ (fun j v hv => hW.drew_left.cell (p3.out j v hv)) Try.underlying41 rfl ls.out, ?_⟩; go_simp; refine hK _ ?_; clear hK K)
          | (refine wpPlan_valK (by rfl) (fun K hK => ?_); apply Exists.intro; refine ⟨fun W hW => ?_, ?_⟩; (focus (go_simp; (try rfl); done)); go_simp; refine hK _ ?_; clear hK K)
          | (refine wpPlan_callK (.agg (T.map b8).toArray) 23 #[.slice R3 X.length d3] (by rfl) ?_ (fun W hW => (hSum.out W hW.drew_left).mono fun e w' h => ⟨h.1, Ext.of_below h.2⟩) (fun K hK => ?_); (focus (intro W; go_simp; done)); go_simp; refine hK _ ?_; clear hK K))
        refine wpPlan_nil (fun w4 hW0 => ?_)
        simp only [List.drop_succ_cons, List.drop_zero, List.drop_nil]
        replace B3 := hideP (below_ext B3.out hW0.drew_left)
        clear hW0 hn1
        go_wp2_with fail
        go_ret2
        exact ⟨B3.out, Or.inr ⟨hE1.out, rfl⟩⟩
    · have hO0 := hideP (fun W (hW : Below w.heap.size w W) => bops_no A l ps n c W hn (hA.after hW) hl c2)
      have hf := hideP (show RS = false by rw [hRS, blockR, c1, c2]; rfl)
      obtain ⟨C, hC⟩ : ∃ C, C = headC h := ⟨_, rfl⟩
      rw [← hC] at hs r0 hb hH ⊢
      clear hC hRS hk hA hn hl c1 c2 hO
      go_enter Try.func26, Try.ntmps26
      go_upto_region 3 with (first
        | (refine wpList_load_row rfl 48 (.tmp 2) rfl w.heap.size rfl 48 C.toArray (0, 0) _ r0.out Try.underlying48 rfl hs.out ?_)
        | (go_at_call 34; refine (hH.out _).mono ?_; rintro e1 w2 ⟨R2, d2, rfl, o2_, b2_⟩; have B2 := hideP (bstep hb.out b2_); clear b2_ o2_)
        | (go_at_call 16; refine (hO0.out w2 B2.out).mono ?_; rintro e1 w3 ⟨rfl, b3_⟩; have B3 := hideP (bstep B2.out b3_); clear b3_))
      refine wp_region_eager 13 [(true, 0), (true, 1), (true, 2), (true, 3), (true, 4), (true, 5), (true, 6), (true, 7), (true, 8), (true, 9), (true, 10), (true, 11), (true, 12)] (by kernel_rfl) (by kernel_rfl) ?_
      simp only [pick, List.map_cons, List.map_nil, nthO_zero, nthO_succ]
      repeat (first
        | (refine wpPlan_skipK (by rfl) (fun K hK => ?_); go_simp; refine hK _ ?_; clear hK K)
        | (refine wpPlan_valK (by rfl) (fun K hK => ?_); apply Exists.intro; refine ⟨fun W hW => ?_, ?_⟩; (focus (go_simp; (try rfl); done)); go_simp; refine hK _ ?_; clear hK K))
      refine wpPlan_nil (fun w4 hW0 => ?_)
      simp only [List.drop_succ_cons, List.drop_zero, List.drop_nil]
      replace B3 := hideP (below_ext B3.out hW0.drew_left)
      clear hW0
      go_wp2_with fail
      go_ret2
      exact ⟨B3.out, Or.inr ⟨hf.out, rfl⟩⟩
  · have hH := hideP (fun W => bhead_no h hk c1 W)
    have hf := hideP (show RS = false by rw [hRS, blockR, c1]; rfl)
    obtain ⟨C, hC⟩ : ∃ C, C = headC h := ⟨_, rfl⟩
    rw [← hC] at hs r0 hb hH ⊢
    clear hC hRS hk hA hn hl c1
    go_enter Try.func26, Try.ntmps26
    go_upto_region 3 with (first
      | (refine wpList_load_row rfl 48 (.tmp 2) rfl w.heap.size rfl 48 C.toArray (0, 0) _ r0.out Try.underlying48 rfl hs.out ?_)
      | (go_at_call 34; refine (hH.out _).mono ?_; rintro e1 w2 ⟨rfl, b2_⟩; have B2 := hideP (bstep hb.out b2_); clear b2_)
      | (go_at_call 16; refine (hO.out w2 B2.out).mono ?_; rintro e1 w3 ⟨R3, m3, d3, f3, rfl, b3_, _⟩; have B3 := hideP (bstep B2.out b3_); clear b3_))
    refine wp_region_eager 13 [(true, 0), (true, 1), (true, 2), (true, 3), (true, 4), (true, 5), (true, 6), (true, 7), (true, 8), (true, 9), (true, 10), (true, 11), (true, 12)] (by kernel_rfl) (by kernel_rfl) ?_
    simp only [pick, List.map_cons, List.map_nil, nthO_zero, nthO_succ]
    repeat (first
      | (refine wpPlan_skipK (by rfl) (fun K hK => ?_); go_simp; refine hK _ ?_; clear hK K)
      | (refine wpPlan_valK (by rfl) (fun K hK => ?_); apply Exists.intro; refine ⟨fun W hW => ?_, ?_⟩; (focus (go_simp; (try rfl); done)); go_simp; refine hK _ ?_; clear hK K))
    refine wpPlan_nil (fun w4 hW0 => ?_)
    simp only [List.drop_succ_cons, List.drop_zero, List.drop_nil]
    replace B3 := hideP (below_ext B3.out hW0.drew_left)
    clear hW0
    go_wp2_with fail
    go_ret2
    exact ⟨B3.out, Or.inr ⟨hf.out, rfl⟩⟩
end Go.Proofs.Ytiicdnbhphgieaa
