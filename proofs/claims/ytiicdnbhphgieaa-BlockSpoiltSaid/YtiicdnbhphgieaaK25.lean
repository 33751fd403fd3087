/- Contract of block.Ops. -/
import Derived.Test.YtiicdnbhphgieaaK24
set_option linter.unusedVariables false
set_option linter.unusedSimpArgs false
namespace Go.Proofs.Ytiicdnbhphgieaa
open Go.RowKit
/-- where the parts of a change lie -/
abbrev OpP := Option Addr × Nat × Option Addr × Nat
def opC (o : OpD) (p : OpP) : List Value := opV o.kind o.table p.1 o.cols.length p.2.1 p.2.2.1 o.row.length p.2.2.2
structure OpMem (w : World) (B : Nat) (o : OpD) (p : OpP) : Prop where
  cols : Arr w B p.1 o.cols.length (strs o.cols)
  row : Arr w B p.2.2.1 o.row.length (i64s o.row)
  cap : o.cols.length ≤ p.2.1
structure OpOk (o : OpD) : Prop where
  kind : o.kind < 256
  table : o.table.size ≤ 1048576
  col : ∀ i, (o.cols.getD i default).size ≤ 1048576
  cols : o.cols.length ≤ 1000
  row : o.row.length ≤ 1000
  num : IsI o.row
theorem OpMem.below {w w' : World} {B : Nat} {o : OpD} {p : OpP} (h : OpMem w B o p) (hb : Below B w w') : OpMem w' B o p := ⟨h.cols.below hb, h.row.below hb, h.cap⟩
theorem OpMem.more {w : World} {B B' : Nat} {o : OpD} {p : OpP} (h : OpMem w B o p) (hB : B ≤ B') : OpMem w B' o p := ⟨h.cols.more hB, h.row.more hB, h.cap⟩
/-- a slice of changes -/
def OpsL (w : World) (B : Nat) (A : Option Addr) (l : List OpD) (ps : Nat → OpP) : Prop :=
  ArrC w B A l.length 4 (fun i => opC (l.getD i default) (ps i)) ∧ ∀ i, i < l.length → OpMem w B (l.getD i default) (ps i) ∧ OpOk (l.getD i default)
section
variable {w w' : World} {B B' : Nat} {A : Option Addr} {l : List OpD} {ps : Nat → OpP}
theorem OpsL.below (h : OpsL w B A l ps) (hb : Below B w w') : OpsL w' B A l ps := ⟨h.1.below hb, fun i hi => ⟨(h.2 i hi).1.below hb, (h.2 i hi).2⟩⟩
theorem OpsL.more (h : OpsL w B A l ps) (hB : B ≤ B') : OpsL w B' A l ps := ⟨h.1.more hB, fun i hi => ⟨(h.2 i hi).1.more hB, (h.2 i hi).2⟩⟩
theorem OpsL.after (h : OpsL w w.heap.size A l ps) (hb : Below w.heap.size w w') : OpsL w' w'.heap.size A l ps := (h.below hb).more hb.size
end
theorem Wr.new (w : World) : Wr (w.alloc (.cells #[.slice none 0 0, .int .i64 0] 100)) (fun b => b = w.heap.size) w.heap.size [] 0 :=
  ⟨none, 0, Two.new w _ _ _, OwnB.nil _ _, fun i => by simp, rfl, (fun b off s h => by cases h), (fun b hb => by subst hb; exact ⟨Nat.le_refl _, by simp⟩)⟩
theorem opB_len {o : OpD} (h : OpOk o) : (opB o).length ≤ 2000000000 := by
  have h1 := texts_len_le o.cols h.col o.cols.length
  rw [List.take_length] at h1
  have h2 := h.table
  have h3 := h.cols
  have h4 := h.row
  have e1 : (if o.kind = 1 then [o.cols.length] ++ textsB o.cols else []).length ≤ 1 + (textsB o.cols).length := by
    split
    · simp; omega
    · simp
  have e2 : (if o.kind = 3 ∨ o.kind = 4 then rowB o.row else []).length ≤ 1 + 8 * o.row.length := by
    split
    · unfold rowB; rw [List.length_append, rows_len]; exact Nat.le_refl _
    · simp
  unfold opB
  rw [List.length_append, List.length_append, List.length_append, textB_len]
  have : ([o.kind] : List Nat).length = 1 := rfl
  omega
theorem ops_len {l : List OpD} (h : ∀ i, i < l.length → OpOk (l.getD i default)) : ∀ k, k ≤ l.length → (((l.take k).map opB).flatten).length ≤ k * 2000000000 := by
  intro k hk
  induction k with
  | zero => simp
  | succ k ih =>
    rw [opsB_succ l k (by omega), List.length_append, Nat.succ_mul]
    have := opB_len (h k (by omega))
    have := ih (by omega)
    omega
theorem isB_flat : ∀ (L : List (List Nat)), (∀ x ∈ L, IsB x) → IsB L.flatten
  | [], _ => fun i => by simp
  | x :: L, h => by
    rw [List.flatten_cons]
    exact isB_append (h x (by simp)) (isB_flat L fun y hy => h y (by simp [hy]))
theorem isB_textB (t : List Nat) (h : IsB t) : IsB (textB t) := isB_append (isB_be3 _) h
theorem isB_textsB (L : List ByteArray) : IsB (textsB L) := by
  refine isB_flat _ fun x hx => ?_
  obtain ⟨s, _, rfl⟩ := List.mem_map.1 hx
  exact isB_textB _ (isB_nb s)
theorem isB_rowB (r : List Int) (h : r.length < 256) : IsB (rowB r) := by
  refine isB_append (isB_one h) (isB_flat _ fun x hx => ?_)
  obtain ⟨n, _, rfl⟩ := List.mem_map.1 hx
  exact isB_be8 _
theorem oprB_facts {o : OpD} (h : oprB o = true) : o.kind < 5 ∧ (nb o.table).length ≤ 16 ∧ o.cols.length ≤ 7 ∧ o.row.length ≤ 8 ∧ ∀ s ∈ o.cols, s.size ≤ 16 := by
  unfold oprB at h
  simp only [Bool.and_eq_true] at h
  obtain ⟨h1, h2⟩ := h
  have h16 := nameB_len h1
  split at h2
  · simp only [Bool.and_eq_true, decide_eq_true_eq] at h2
    have := colsB_len h2.1
    exact ⟨by omega, h16, this.1, by omega, this.2⟩
  · have nil_ : o.cols.length = 0 → ∀ s ∈ o.cols, s.size ≤ 16 := fun h0 s hs => by
      rw [List.eq_nil_of_length_eq_zero h0] at hs; cases hs
    split at h2
    · simp only [Bool.and_eq_true, decide_eq_true_eq] at h2
      exact ⟨by omega, h16, by omega, by omega, nil_ h2.1⟩
    · split at h2
      · simp only [Bool.and_eq_true, decide_eq_true_eq] at h2
        exact ⟨by omega, h16, by omega, by omega, nil_ h2.1⟩
      · cases h2
theorem isB_opB {o : OpD} (h : oprB o = true) : IsB (opB o) := by
  obtain ⟨h1, _, h3, h4, _⟩ := oprB_facts h
  unfold opB
  refine isB_append (isB_append (isB_append (isB_one (by omega)) (isB_textB _ (isB_nb _))) ?_) ?_
  · split
    · exact isB_append (isB_one (by omega)) (isB_textsB _)
    · exact fun i => by simp
  · split
    · exact isB_rowB _ (by omega)
    · exact fun i => by simp
theorem isB_opsB {l : List OpD} (h : allB l = true) : IsB (opsB l) := by
  simp only [allB, Bool.and_eq_true, List.all_eq_true] at h
  refine isB_append (isB_be3 _) (isB_flat _ fun x hx => ?_)
  obtain ⟨o, ho, rfl⟩ := List.mem_map.1 hx
  exact isB_opB (h.1 o ho)
set_option maxRecDepth 100000 in
set_option maxHeartbeats 400000 in
theorem bopsfn_any (o : OpD) (p : OpP) (w : World) (h : OpMem w w.heap.size o p) (hk : OpOk o) :
    Calls Try.prog 59 #[.agg (opC o p).toArray] w fun e w' => e = .returned (.bool (!oprB o)) ∧ Below w.heap.size w w' := by
  have hT := hideP (fun W (hW : Below w.heap.size w W) => bright_any o o.kind o.cols.length o.row.length o.table p.1 p.2.2.1 p.2.1 p.2.2.2 W rfl rfl rfl rfl ((h.below hW).more hW.size).cols (fun i => Nat.le_trans (hk.col i) (by decide)) (Nat.le_trans hk.table (by decide)) (Nat.le_trans hk.cols (by decide)) h.cap (Nat.le_trans hk.row (by decide)))
  have hb := hideP (below_new w (.cells (opC o p).toArray 30))
  obtain ⟨k, e1⟩ : ∃ k, k = o.kind := ⟨_, rfl⟩
  obtain ⟨t, e2⟩ : ∃ k, k = o.table := ⟨_, rfl⟩
  obtain ⟨nc, e3⟩ : ∃ k, k = o.cols.length := ⟨_, rfl⟩
  obtain ⟨nr, e4⟩ : ∃ k, k = o.row.length := ⟨_, rfl⟩
  obtain ⟨AC, cc, AR, cr⟩ := p
  obtain ⟨q, e5⟩ : ∃ q, q = oprB o := ⟨_, rfl⟩
  unfold opC at hb ⊢
  rw [← e5] at hT ⊢
  rw [← e1, ← e2, ← e3, ← e4] at hT hb ⊢
  clear e1 e2 e3 e4 e5 h hk
  show Calls Try.prog 59 #[.agg #[.int .u8 (k : Nat), .string t, .slice AC nc cc, .slice AR nr cr]] w _
  go_enter Try.func59, Try.ntmps59
  go_wp2_with (go_at_call 14; refine (hT.out _ hb.out).mono ?_; rintro e1 w1 ⟨rfl, b1⟩)
  go_ret
  exact ⟨rfl, hb.out.trans (b1.mono hb.out.size)⟩
theorem anyTo_all (l : List OpD) : anyTo (fun i => !oprB (l.getD i default)) l.length = !(l.all oprB) := by
  have h : ∀ k, k ≤ l.length → anyTo (fun i => !oprB (l.getD i default)) k = !((l.take k).all oprB) := by
    intro k
    induction k with
    | zero => intro _; rfl
    | succ k ih =>
      intro hk
      rw [anyTo_succ, ih (by omega), List.take_add_one, List.all_append, List.getElem?_eq_getElem (by omega)]
      simp [List.getD, List.getElem?_eq_getElem (show k < l.length by omega), Bool.not_and]
  rw [h l.length (Nat.le_refl _), List.take_length]
set_option maxRecDepth 100000 in
set_option maxHeartbeats 1000000 in
theorem bops_no (A : Option Addr) (l : List OpD) (ps : Nat → OpP) (n c : Nat) (w : World) (hn : n = l.length) (hA : OpsL w w.heap.size A l ps) (hl : n ≤ 1000000) (h : allB l = false) :
    Calls Try.prog 16 #[.slice A n c] w fun e w' => e = .returned (.tuple #[.slice none 0 0, .int .i64 1]) ∧ Below w.heap.size w w' := by
  by_cases h6 : n ≤ 256
  · have h1 : decide (256 < (n : Int)) = false := by simp; omega
    have hq : (!l.all oprB) = true := by
      unfold allB at h
      rw [← hn, show decide (n ≤ 256) = true by simpa using h6, Bool.and_true] at h
      rw [h]; rfl
    have hT := hideP (opco_any A n c 4 (fun i => opC (l.getD i default) (ps i)) (fun i => !oprB (l.getD i default)) _ 59 #[] rfl w (by rw [hn]; exact hA.1) (fun i _ => rfl) (by omega) (enter_fn Try.func59 rfl rfl) (fun i W hi hW => bopsfn_any (l.getD i default) (ps i) W (((hA.below hW).more hW.size).2 i (by omega)).1 (hA.2 i (by omega)).2))
    rw [hn, anyTo_all l, hq, ← hn] at hT
    clear hq hA h hn
    go_enter Try.func16, Try.ntmps16
    go_wp2_with (go_at_call 58; refine hT.out.mono ?_; rintro e1 w1 ⟨rfl, b1⟩)
    go_ret2
    exact ⟨rfl, b1⟩
  · have h1 : 256 < (n : Int) := by omega
    clear hA h hn
    go_enter Try.func16, Try.ntmps16
    go_wp2_with fail
    go_ret2
    exact ⟨rfl, Below.refl _ _⟩
set_option maxRecDepth 100000 in
set_option maxHeartbeats 2000000 in
theorem bops_ok (A : Option Addr) (l : List OpD) (ps : Nat → OpP) (n c : Nat) (w : World) (hn : n = l.length) (hA : OpsL w w.heap.size A l ps) (h : allB l = true) :
    Calls Try.prog 16 #[.slice A n c] w fun e w' => ∃ R d, e = .returned (.tuple #[.slice R (opsB l).length d, .int .i64 0]) ∧ OwnB w' w.heap.size R d (opsB l) ∧ Below w.heap.size w w' := by
  have hall := h
  simp only [allB, Bool.and_eq_true, decide_eq_true_eq] at hall
  obtain ⟨ha1, ha2⟩ := hall
  have h6 : n ≤ 256 := by omega
  have h1 : decide (256 < (n : Int)) = false := by simp; omega
  have hT := hideP (opco_any A n c 4 (fun i => opC (l.getD i default) (ps i)) (fun i => !oprB (l.getD i default)) _ 59 #[] rfl w (by rw [hn]; exact hA.1) (fun i _ => rfl) (by omega) (enter_fn Try.func59 rfl rfl) (fun i W hi hW => bopsfn_any (l.getD i default) (ps i) W (((hA.below hW).more hW.size).2 i (by omega)).1 (hA.2 i (by omega)).2))
  rw [hn, anyTo_all l, ha1, ← hn] at hT
  simp only [Bool.not_true] at hT
  have hAA := hideP hA
  have hr := hideP (fun i (hi : i < n) => oprB_facts (List.all_eq_true.1 ha1 (l.getD i default) (by unfold List.getD; rw [List.getElem?_eq_getElem (by omega)]; exact List.getElem_mem _)))
  have hlen := hideP (fun k (hk : k ≤ n) => ops_len (fun i hi => (hA.2 i hi).2) k (by omega))
  have hend := hideP (show be3 n ++ ((l.take n).map opB).flatten = opsB l by rw [hn, List.take_length]; rfl)
  have hsz := hideP (show (Try.prog.info? 30).map (·.size) = some 4 by kernel_rfl)
  have hn' := hideP hn
  obtain ⟨RS, hRS⟩ : ∃ RS, RS = opsB l := ⟨_, rfl⟩
  have hRL := hideP (show RS.length ≤ 140737488351232 by
    rw [hRS]; unfold opsB
    rw [List.length_append]
    have := ops_len (fun i hi => (hA.2 i hi).2) l.length (Nat.le_refl _)
    rw [List.take_length] at this
    have h3 : (be3 l.length).length = 3 := rfl
    omega)
  rw [← hRS] at hend ⊢
  clear hA h hn ha1 ha2 hRS
  go_enter Try.func16, Try.ntmps16
  go_upto_region 3 with (go_at_call 58; refine hT.out.mono ?_; rintro e1 w1 ⟨rfl, b1⟩; have B1 := hideP b1; clear b1)
  go_upto_region 4 with fail
  obtain ⟨v, hv⟩ : ∃ v, v = w1.alloc (.cells #[.slice none 0 0, .int .i64 0] 100) := ⟨_, rfl⟩
  obtain ⟨g, hg⟩ : ∃ g, g = w1.heap.size := ⟨_, rfl⟩
  rw [← hv, ← hg]
  have V := hideP (show Wr v (fun b => b = g) g [] 0 by rw [hv, hg]; exact Wr.new _)
  have Bv := hideP (show Below w.heap.size w v by rw [hv]; exact B1.out.trans ((below_new _ _).mono B1.out.size))
  have hgw := hideP (show w.heap.size ≤ g by rw [hg]; exact B1.out.size)
  obtain ⟨S, hS⟩ : ∃ S : Nat → Prop, S = (fun b => b = g) := ⟨_, rfl⟩
  rw [← hS] at V
  clear hv hg hS B1
  go_upto_region 6 with (go_at_call 60; refine (wcount_any S g [] n 0 _ V.out (by omega) (by simp)).mono ?_; rintro e1 w2 ⟨rfl, s1_⟩; have V1 := hideP s1_; clear s1_)
  go_loopw [22] (fun v22 wr => ∃ i : Nat, i ≤ n ∧ v22 = .int .i64 (i : Nat) ∧ Hid (WrP S v wr g (be3 n ++ ((l.take i).map opB).flatten) 0)) (fun v22 _ => n - (intOf v22).toNat)
  case atStart => exact ⟨0, Nat.zero_le _, rfl, hideP (by simpa using V1.out)⟩
  case round =>
    obtain ⟨i, hi, rfl, hV⟩ := hrel
    obtain ⟨S4, m4, v4⟩ := hV.out
    have M4 := hideP m4
    have V4 := hideP v4
    have B4 := hideP (Bv.out.trans ((WrP.below V.out hV.out).mono hgw.out))
    clear m4 v4
    by_cases hlt : i < n
    · have i1 : (i : Int) < (n : Int) := by omega
      obtain ⟨b0, off, hA, hB0, hc⟩ := hAA.out.1 (by have := hn'.out; omega)
      subst hA
      have hmem := (hAA.out.2 i (by have := hn'.out; omega)).1
      have hok := hideP (hAA.out.2 i (by have := hn'.out; omega)).2
      have hrg : wr.rangeAt b0 (off + i * 4) (opC (l.getD i default) (ps i)) := fun j v hv => (B4.out.cell (p := ⟨b0, off + i * 4 + j, none⟩) hB0).trans (hc i (by have := hn'.out; omega) j v hv)
      have hro := hideP (hr.out i hlt)
      have hst := opsB_succ l i (by have := hn'.out; omega)
      obtain ⟨o, ho⟩ : ∃ o, o = l.getD i default := ⟨_, rfl⟩
      obtain ⟨p, hp⟩ : ∃ p, p = ps i := ⟨_, rfl⟩
      rw [← ho] at hmem hok hrg hro hst
      rw [← hp] at hmem hrg
      have hC := hideP (hmem.below B4.out)
      have hst' := hideP (show be3 n ++ ((l.take i).map opB).flatten ++ opB o = be3 n ++ ((l.take (i + 1)).map opB).flatten by rw [hst, List.append_assoc])
      have hll := hideP (show (be3 n ++ ((l.take i).map opB).flatten).length ≤ 140737000000000 by
        rw [List.length_append]
        have h1 := hlen.out i hi
        have h3 : (be3 n).length = 3 := rfl
        omega)
      clear ho hp hmem hst hV hc
      obtain ⟨AC, cc, AR, cr⟩ := p
      have hop := fun W S' (hW : Wr W S' g (be3 n ++ ((l.take i).map opB).flatten) 0) (bW : Below w.heap.size wr W) => bop_any S' g _ 0 o o.kind o.cols.length o.row.length o.table AC AR cc cr W hW rfl rfl rfl rfl (ArrN.of_low (hC.out.cols.below bW) (Nat.le_trans B4.out.size bW.size) fun b hb => Nat.le_trans hgw.out (hW.low b hb)) (ArrN.of_low (hC.out.row.below bW) (Nat.le_trans B4.out.size bW.size) fun b hb => Nat.le_trans hgw.out (hW.low b hb)) hok.out.num hok.out.table hok.out.col (by have := hro.out.2.2.1; omega) (by have := hro.out.2.2.2.1; omega) hok.out.kind hll.out
      have Hop := hideP hop
      clear hop
      unfold opC opV at hrg
      obtain ⟨k, e1⟩ : ∃ k, k = o.kind := ⟨_, rfl⟩
      obtain ⟨t, e2⟩ : ∃ k, k = o.table := ⟨_, rfl⟩
      obtain ⟨nc, e3⟩ : ∃ k, k = o.cols.length := ⟨_, rfl⟩
      obtain ⟨nr, e4⟩ : ∃ k, k = o.row.length := ⟨_, rfl⟩
      rw [← e1, ← e2, ← e3, ← e4] at hrg Hop
      have Hrg := hideP hrg
      clear e1 e2 e3 e4 hrg
      go_wp2_with (refine wpList_load_mid rfl 30 (.tmp 24) rfl b0 (off + i * 4) rfl [.int .u8 (k : Nat), .string t, .slice AC nc cc, .slice AR nr cr] _ Hrg.out Try.underlying30 rfl hsz.out ?_)
      refine (Hop.out _ S4 (V4.out.ext (Ext.alloc _ _)) ((below_new _ _).mono B4.out.size)).mono ?_
      rintro e1 w5 ⟨rfl, s5_⟩
      have V5 := hideP (WrP.then (M4.out.trans (Mv.alloc S4 _ _)) s5_)
      clear s5_
      rw [hst'.out] at V5
      go_wp2_with fail
      go_roundw
      case rel => exact ⟨i + 1, by omega, by go_num, V5.out⟩
      case measure => simp [intOf]; omega
    · have hin : i = n := by omega
      subst hin
      have i1 : ¬ ((i : Int) < (i : Int)) := by omega
      rw [hend.out] at V4
      clear hV
      go_wp2_with (first
        | (go_at_call 62; refine (wbytes_ok S4 g RS _ V4.out hRL.out).mono ?_; rintro e1 w5 ⟨R5, d5, rfl, o5_, b5_⟩; have O5 := hideP (OwnB.monoR o5_ B4.out.size); have V5 := hideP (V4.out.after b5_); have B5 := hideP (B4.out.trans (b5_.mono B4.out.size)); clear o5_ b5_)
        | (go_at_call 63; refine (werr_any S4 g RS 0 _ V5.out).mono ?_; rintro e1 w6 ⟨rfl, rfl⟩))
      go_ret2
      exact ⟨R5, d5, rfl, O5.out, B5.out⟩
end Go.Proofs.Ytiicdnbhphgieaa
