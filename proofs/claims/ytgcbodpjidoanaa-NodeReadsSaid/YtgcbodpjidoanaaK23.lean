/- Contract of package sha's Sum. Contracts of page's Preimage and Sum, of the document's page Sum. Contracts of slices.Equal at bytes and of block.OpsSum. Contracts of sha.Hash, block.OpsSum and the document's OpsSum. Rows of structs that a call owns, whatever their size. A list of changes under way; contract of block.ReadOps. -/
import Derived.Test.YtgcbodpjidoanaaK21
import Derived.Test.YtgcbodpjidoanaaK22
set_option linter.unusedVariables false
set_option linter.unusedSimpArgs false
namespace Go.Proofs.Ytgcbodpjidoanaa
open Go.RowKit
set_option maxRecDepth 100000 in
set_option maxHeartbeats 1000000 in
theorem ssum_any (A : Option Addr) (t : List Nat) (c : Nat) (w : World) (hA : Arr w w.heap.size A t.length (u8s t)) (ht : IsB t) (hn : t.length ≤ 1000000000) :
    Calls Try.prog 125 #[.slice A t.length c] w fun e w' => e = .returned (.agg ((dig (sumW t)).map b8).toArray) ∧ Below w.heap.size w w' := by
  have HhA := hideP hA; have Hht := hideP ht; have Hhn := hideP hn; clear hA ht hn
  obtain ⟨DD, hDD⟩ : ∃ D, D = (dig (sumW t)).map b8 := ⟨_, rfl⟩
  have hDl := hideP (show DD.length = 32 by rw [hDD]; simp [dig])
  have hDa := hideP (show DD.toArray.all (·.oneCell') = true by rw [hDD]; exact all_b8 _)
  rw [← hDD]
  have HhDD := hideP hDD; clear hDD
  go_enter Try.func125, Try.ntmps125
  go_upto_region 1 with fail
  obtain ⟨w1, hw1⟩ : ∃ w1, w1 = w.alloc (Obj.cells #[.int .u8 0, .int .u8 0, .int .u8 0, .int .u8 0, .int .u8 0, .int .u8 0, .int .u8 0, .int .u8 0, .int .u8 0, .int .u8 0, .int .u8 0, .int .u8 0, .int .u8 0, .int .u8 0, .int .u8 0, .int .u8 0, .int .u8 0, .int .u8 0, .int .u8 0, .int .u8 0, .int .u8 0, .int .u8 0, .int .u8 0, .int .u8 0, .int .u8 0, .int .u8 0, .int .u8 0, .int .u8 0, .int .u8 0, .int .u8 0, .int .u8 0, .int .u8 0] 37) := ⟨_, rfl⟩
  have c1 := hideP (show Row w1 w.heap.size 37 z32 by rw [hw1]; exact Row.new w _ z32)
  have cb := hideP (show Below w.heap.size w w1 by rw [hw1]; exact below_new _ _)
  rw [← hw1]
  clear hw1
  have hds := hideP (show (Try.prog.info? 37).map (·.size) = some DD.toArray.size by rw [size_dig]; simp [hDl.out])
  have hdo := hideP (show z32.toArray.size = DD.toArray.size by simp [hDl.out, z32])
  have A1 := hideP (HhA.out.after cb.out)
  go_wp2_with (first
    | (go_at_call 191; refine (new_any _).mono ?_; rintro e w2 ⟨g, rfl, hb2, hg2, s2⟩; have A2 := hideP (A1.out.below hb2); have c2 := hideP (Row.after c1.out hb2); have cb2 := hideP (cb.out.trans (hb2.mono cb.out.size)); have s2' := hideP s2)
    | (go_at_call 192; refine (write_any w1.heap.size g A t _ _ hg2 s2'.out A2.out Hht.out Hhn.out).mono ?_; rintro e w3 ⟨rfl, hb3, A', c', r, hr, s3, a3⟩; have c3 := hideP (Row.below c2.out hb3 (Row.lt c1.out)); have cb3 := hideP (cb2.out.trans (hb3.mono cb.out.size)); have s3' := hideP s3; have a3' := hideP a3)
    | (go_at_call 193; refine (done_any g _ A' r t c' _ s3'.out a3'.out rfl hr Hht.out Hhn.out).mono ?_; rintro e w4 ⟨rfl, hb4⟩; rw [← HhDD.out]; have c4 := hideP (Row.after c3.out hb4); have cb4 := hideP (cb3.out.trans (hb4.mono cb3.out.size)))
    | (refine wpList_store_row rfl 37 (.tmp 2) (.tmp 9) rfl w.heap.size DD.toArray rfl rfl 37 z32.toArray c4.out hds.out hdo.out hDa.out ?_))
  refine ret_row rfl rfl (Row.setRow c4.out DD) Try.underlying37 (by rw [size_dig, hDl.out]) rfl ⟨rfl, ?_⟩
  exact below_setRow' cb4.out (Nat.le_refl _) _
end Go.Proofs.Ytgcbodpjidoanaa
namespace Go.Proofs.Ytgcbodpjidoanaa
open Go.RowKit
/-- one text in a row of texts -/
theorem arr_one (w : World) (v : Value) (T : TypeId) : Arr (w.alloc (.cells #[v] T)) (w.alloc (.cells #[v] T)).heap.size (some ⟨w.heap.size, 0, none⟩) 1 (fun _ => v) := fun _ =>
  ⟨w.heap.size, 0, rfl, by simp, fun i hi => by
    obtain rfl : i = 0 := by omega
    exact (One.new w _ _).c0⟩
theorem OwnB.mono {w : World} {base base' : Nat} {A : Option Addr} {c : Nat} {l : List Nat} (h : OwnB w base A c l) (hb : base' ≤ base) : OwnB w base' A c l := by
  refine ⟨h.1, ?_⟩
  rcases h.2 with e | ⟨g, cap, cur, hv, hg, hr⟩
  · exact Or.inl e
  · exact Or.inr ⟨g, cap, cur, hv, Nat.le_trans hb hg, hr⟩
set_option maxRecDepth 100000 in
set_option maxHeartbeats 1000000 in
theorem ppre_any (A : Option Addr) (t : List Nat) (c : Nat) (w : World) (hA : Arr w w.heap.size A t.length (u8s t)) (hn : t.length ≤ 1000000000) :
    Calls Try.prog 181 #[.slice A t.length c] w fun e w' => ∃ A' c', e = .returned (.slice A' (preN 80 [t]).length c') ∧ Below w.heap.size w w' ∧ OwnB w' w.heap.size A' c' (preN 80 [t]) := by
  have hP := hideP (show (preN 80 [t]).length ≤ 1000000000000 by unfold preN; simp [prePart, be8_len]; omega)
  have hA1 := hideP (hA.after (below_new w (Obj.cells #[.slice A t.length c] 22)))
  have hR1 := hideP ((arr_one w (.slice A t.length c) 22).congr (g := fun i => .slice A ([t].getD i []).length c) (fun i (hi : i < 1) => by cases (show i = 0 by omega); rfl))
  have hall := hideP (show ∀ i, i < [t].length → Arr (w.alloc (Obj.cells #[.slice A t.length c] 22)) (w.alloc (Obj.cells #[.slice A t.length c] 22)).heap.size A ([t].getD i []).length (u8s ([t].getD i [])) from fun i hi => by
    obtain rfl : i = 0 := by simpa using hi
    exact hA1.out)
  have HhA := hideP hA; clear hA
  go_enter Try.func181, Try.ntmps181
  go_wp2_with (go_at_call 127; refine (pre_any 80 _ _ [t] (fun _ => A) (fun _ => c) _ hR1.out hall.out hP.out (by simp)).mono ?_; rintro e w2 ⟨A2, c2, rfl, hb2, h2⟩)
  go_ret
  refine ⟨A2, c2, rfl, (below_new w (Obj.cells #[.slice A t.length c] 22)).trans (hb2.mono (by simp)), ?_⟩
  exact h2.mono (by simp)
/-- the sum of a page -/
def pageD (t : List Nat) : List Value := (dig (sumW (preN 80 [t]))).map b8
set_option maxRecDepth 100000 in
set_option maxHeartbeats 1000000 in
theorem psum_any (A : Option Addr) (t : List Nat) (c : Nat) (w : World) (hA : Arr w w.heap.size A t.length (u8s t)) (ht : IsB t) (hn : t.length ≤ 100000000) :
    Calls Try.prog 105 #[.slice A t.length c] w fun e w' => e = .returned (.agg (pageD t).toArray) ∧ Below w.heap.size w w' := by
  have hPB := hideP (show IsB (preN 80 [t]) from isB_prePart (by decide) (fun i => by cases i with
    | zero => exact ht
    | succ i => intro j; simp) _)
  have hPn := hideP (show (preN 80 [t]).length ≤ 1000000000 by unfold preN; simp [prePart, be8_len]; omega)
  have hP := hideP (show (preN 80 [t]).length ≤ 1000000000000 by have := hPn.out; omega)
  have HhA := hideP hA; have Hht := hideP ht; have Hhn := hideP hn; clear hA ht hn
  obtain ⟨DD, hDD⟩ : ∃ D, D = pageD t := ⟨_, rfl⟩
  have hDl := hideP (show DD.length = 32 by rw [hDD]; simp [pageD, dig])
  have hDa := hideP (show DD.toArray.all (·.oneCell') = true by rw [hDD]; exact all_b8 _)
  have hDe := hideP (show (dig (sumW (preN 80 [t]))).map b8 = DD from hDD.symm)
  rw [← hDD]
  clear hDD
  go_enter Try.func105, Try.ntmps105
  go_upto_region 1 with fail
  obtain ⟨w1, hw1⟩ : ∃ w1, w1 = w.alloc (Obj.cells #[.int .u8 0, .int .u8 0, .int .u8 0, .int .u8 0, .int .u8 0, .int .u8 0, .int .u8 0, .int .u8 0, .int .u8 0, .int .u8 0, .int .u8 0, .int .u8 0, .int .u8 0, .int .u8 0, .int .u8 0, .int .u8 0, .int .u8 0, .int .u8 0, .int .u8 0, .int .u8 0, .int .u8 0, .int .u8 0, .int .u8 0, .int .u8 0, .int .u8 0, .int .u8 0, .int .u8 0, .int .u8 0, .int .u8 0, .int .u8 0, .int .u8 0, .int .u8 0] 37) := ⟨_, rfl⟩
  have c1 := hideP (show Row w1 w.heap.size 37 z32 by rw [hw1]; exact Row.new w _ z32)
  have cb := hideP (show Below w.heap.size w w1 by rw [hw1]; exact below_new _ _)
  rw [← hw1]
  clear hw1
  have hds := hideP (show (Try.prog.info? 37).map (·.size) = some DD.toArray.size by rw [size_dig]; simp [hDl.out])
  have hdo := hideP (show z32.toArray.size = DD.toArray.size by simp [hDl.out, z32])
  have A1 := hideP (HhA.out.after cb.out)
  go_wp2_with (first
    | (go_at_call 181; refine (ppre_any A t c _ A1.out (by have := Hhn.out; omega)).mono ?_; rintro e w2 ⟨A2, c2, rfl, hb2, h2⟩; have x2 := hideP (h2.arr); have d2 := hideP (Row.after c1.out hb2); have cb2 := hideP (cb.out.trans (hb2.mono cb.out.size)))
    | (go_at_call 125; refine (ssum_any A2 (preN 80 [t]) c2 _ x2.out hPB.out hPn.out).mono ?_; rintro e w4 ⟨rfl, hb4⟩; rw [hDe.out]; have c4 := hideP (Row.after d2.out hb4); have cb4 := hideP (cb2.out.trans (hb4.mono cb2.out.size)))
    | (refine wpList_store_row rfl 37 (.tmp 2) (.tmp 5) rfl w.heap.size DD.toArray rfl rfl 37 z32.toArray c4.out hds.out hdo.out hDa.out ?_))
  refine ret_row rfl rfl (Row.setRow c4.out DD) Try.underlying37 (by rw [size_dig, hDl.out]) rfl ⟨rfl, ?_⟩
  exact below_setRow' cb4.out (Nat.le_refl _) _
set_option maxRecDepth 100000 in
set_option maxHeartbeats 1000000 in
theorem r9sum_any (A : Option Addr) (t : List Nat) (c : Nat) (w : World) (hA : Arr w w.heap.size A t.length (u8s t)) (ht : IsB t) (hn : t.length ≤ 100000000) :
    Calls Try.prog 109 #[.slice A t.length c] w fun e w' => e = .returned (.agg (pageD t).toArray) ∧ Below w.heap.size w w' := by
  have hPB := hideP (show IsB (preN 80 [t]) from isB_prePart (by decide) (fun i => by cases i with
    | zero => exact ht
    | succ i => intro j; simp) _)
  have hPn := hideP (show (preN 80 [t]).length ≤ 1000000000 by unfold preN; simp [prePart, be8_len]; omega)
  have hP := hideP (show (preN 80 [t]).length ≤ 1000000000000 by have := hPn.out; omega)
  have HhA := hideP hA; have Hht := hideP ht; have Hhn := hideP hn; clear hA ht hn
  obtain ⟨DD, hDD⟩ : ∃ D, D = pageD t := ⟨_, rfl⟩
  have hDl := hideP (show DD.length = 32 by rw [hDD]; simp [pageD, dig])
  have hDa := hideP (show DD.toArray.all (·.oneCell') = true by rw [hDD]; exact all_b8 _)
  have hDe := hideP (show (dig (sumW (preN 80 [t]))).map b8 = DD from hDD.symm)
  rw [← hDD]
  clear hDD
  go_enter Try.func109, Try.ntmps109
  go_upto_region 1 with fail
  obtain ⟨w1, hw1⟩ : ∃ w1, w1 = w.alloc (Obj.cells #[.int .u8 0, .int .u8 0, .int .u8 0, .int .u8 0, .int .u8 0, .int .u8 0, .int .u8 0, .int .u8 0, .int .u8 0, .int .u8 0, .int .u8 0, .int .u8 0, .int .u8 0, .int .u8 0, .int .u8 0, .int .u8 0, .int .u8 0, .int .u8 0, .int .u8 0, .int .u8 0, .int .u8 0, .int .u8 0, .int .u8 0, .int .u8 0, .int .u8 0, .int .u8 0, .int .u8 0, .int .u8 0, .int .u8 0, .int .u8 0, .int .u8 0, .int .u8 0] 37) := ⟨_, rfl⟩
  have c1 := hideP (show Row w1 w.heap.size 37 z32 by rw [hw1]; exact Row.new w _ z32)
  have cb := hideP (show Below w.heap.size w w1 by rw [hw1]; exact below_new _ _)
  rw [← hw1]
  clear hw1
  have hds := hideP (show (Try.prog.info? 37).map (·.size) = some DD.toArray.size by rw [size_dig]; simp [hDl.out])
  have hdo := hideP (show z32.toArray.size = DD.toArray.size by simp [hDl.out, z32])
  have A1 := hideP (HhA.out.after cb.out)
  have hA2 := hideP (A1.out.after (below_new w1 (Obj.cells #[.slice A t.length c] 22)))
  have d1 := hideP (Row.after c1.out (below_new w1 (Obj.cells #[.slice A t.length c] 22)))
  have cb1 := hideP (cb.out.alloc cb.out.size (Obj.cells #[.slice A t.length c] 22))
  have hR1 := hideP ((arr_one w1 (.slice A t.length c) 22).congr (g := fun i => .slice A ([t].getD i []).length c) (fun i (hi : i < 1) => by cases (show i = 0 by omega); rfl))
  have hall := hideP (show ∀ i, i < [t].length → Arr (w1.alloc (Obj.cells #[.slice A t.length c] 22)) (w1.alloc (Obj.cells #[.slice A t.length c] 22)).heap.size A ([t].getD i []).length (u8s ([t].getD i [])) from fun i hi => by
    obtain rfl : i = 0 := by simpa using hi
    exact hA2.out)
  go_wp2_with (first
    | (go_at_call 128; refine (rpre_any 80 _ _ [t] (fun _ => A) (fun _ => c) _ hR1.out hall.out hP.out (by simp)).mono ?_; rintro e w2 ⟨A2, c2, rfl, hb2, h2⟩; have x2 := hideP (h2.arr); have d2 := hideP (Row.after d1.out hb2); have cb2 := hideP (cb1.out.trans (hb2.mono cb1.out.size)))
    | (go_at_call 126; refine (rsum_any A2 (preN 80 [t]) c2 _ x2.out hPB.out hPn.out).mono ?_; rintro e w4 ⟨rfl, hb4⟩; rw [hDe.out]; have c4 := hideP (Row.after d2.out hb4); have cb4 := hideP (cb2.out.trans (hb4.mono cb2.out.size)))
    | (refine wpList_store_row rfl 37 (.tmp 2) (.tmp 6) rfl w.heap.size DD.toArray rfl rfl 37 z32.toArray c4.out hds.out hdo.out hDa.out ?_))
  refine ret_row rfl rfl (Row.setRow c4.out DD) Try.underlying37 (by rw [size_dig, hDl.out]) rfl ⟨rfl, ?_⟩
  exact below_setRow' cb4.out (Nat.le_refl _) _
end Go.Proofs.Ytgcbodpjidoanaa
namespace Go.Proofs.Ytgcbodpjidoanaa
open Go.RowKit
theorem take_next {l m : List Nat} {k : Nat} (hl : k < l.length) (hm : k < m.length) (h : l.take k = m.take k) (e : l.getD k 0 = m.getD k 0) : l.take (k + 1) = m.take (k + 1) := by
  rw [List.take_add_one, List.take_add_one, h, List.getElem?_eq_getElem hl, List.getElem?_eq_getElem hm]
  simp only [List.getD, List.getElem?_eq_getElem hl, List.getElem?_eq_getElem hm, Option.getD_some] at e
  rw [e]
set_option maxRecDepth 100000 in
set_option maxHeartbeats 1000000 in
theorem bsequal_any (A B : Option Addr) (l m : List Nat) (n k c d : Nat) (w : World) (hn : n = l.length) (hk : k = m.length) (hA : Arr w w.heap.size A n (u8s l)) (hB : Arr w w.heap.size B k (u8s m)) (h1 : n ≤ 140737488351232) :
    Calls Try.prog 93 #[.slice A n c, .slice B k d] w fun e w' => e = .returned (.bool (decide (l = m))) ∧ Below w.heap.size w w' := by
  obtain ⟨RS, hRS⟩ : ∃ RS, RS = decide (l = m) := ⟨_, rfl⟩
  rw [← hRS]
  by_cases hnk : n = k
  · have hnk' : ((n : Int) != (k : Int)) = false := by simp; omega
    subst hnk
    have HhRS := hideP hRS; have HhA := hideP hA; have HhB := hideP hB; have Hhn := hideP hn; have Hhk := hideP hk; clear hRS hA hB hn hk
    clear hnk'
    go_enter Try.func93, Try.ntmps93
    go_wp2_with fail
    go_loopw [13] (fun v13 wr => ∃ i : Nat, i ≤ n ∧ v13 = .int .i64 (i : Nat) ∧ Hid (l.take i = m.take i ∧ Below w.heap.size w wr)) (fun v13 _ => n - (intOf v13).toNat)
    case atStart => exact ⟨0, Nat.zero_le _, rfl, rfl, Below.refl _ _⟩
    case round =>
      obtain ⟨i, hi, rfl, hV⟩ := hrel
      by_cases hlt : i < n
      · have i1 : (i : Int) < (n : Int) := by omega
        obtain ⟨b0, off, hA, hB0, hc⟩ := HhA.out (by omega)
        obtain ⟨b1, of1, hB, hB1, hd⟩ := HhB.out (by omega)
        subst hA hB
        have c0 := (hV.out.2.cell (p := ⟨b0, off + i, none⟩) hB0).trans (hc i hlt)
        have c1 := (hV.out.2.cell (p := ⟨b1, of1 + i, none⟩) hB1).trans (hd i hlt)
        unfold u8s at c0 c1
        have hst := hideP (take_next (l := l) (m := m) (k := i) (by have := Hhn.out; omega) (by have := Hhk.out; omega) hV.out.1)
        have hne : l.getD i 0 ≠ m.getD i 0 → RS = false := fun h => by
          rw [HhRS.out]; simp; intro e; exact h (by rw [e])
        have Hne := hideP hne
        obtain ⟨x, hx⟩ : ∃ x, x = l.getD i 0 := ⟨_, rfl⟩
        obtain ⟨y, hy⟩ : ∃ x, x = m.getD i 0 := ⟨_, rfl⟩
        rw [← hx] at c0 hst Hne
        rw [← hy] at c1 hst Hne
        clear hx hy hc hd hne
        by_cases hxy : x = y
        · have hok := hideP (hst.out hxy)
          subst hxy
          go_wp2_with fail
          go_quiet (fail)
          go_wp2_with fail
          go_roundw
          case rel => exact ⟨i + 1, by omega, by go_num, hok.out, below_drewN hV.out.2 _⟩
          case measure => simp [intOf]; omega
        · have hf := hideP (Hne.out hxy)
          have e1 : ((x : Int) != (y : Int)) = true := by simp; omega
          clear hxy
          go_wp2_with fail
          go_quiet (fail)
          go_wp2_with fail
          go_ret
          exact ⟨ret_bool hf.out.symm, below_drewN hV.out.2 _⟩
      · obtain rfl : n = i := by omega
        have i1 : ¬ ((n : Int) < (n : Int)) := by omega
        have hf := hideP (show RS = true by
          rw [HhRS.out]; have := hV.out.1; rw [List.take_of_length_le (by have := Hhn.out; omega), List.take_of_length_le (by have := Hhk.out; omega)] at this; simpa using this)
        go_wp2_with fail
        go_ret
        exact ⟨ret_bool hf.out.symm, hV.out.2⟩
  · have hnk' : ((n : Int) != (k : Int)) = true := by simp; omega
    have hf := hideP (show RS = false by rw [hRS]; simp; intro e; exact hnk (by rw [hn, hk, e]))
    clear hRS hA hB hn hk hnk
    go_enter Try.func93, Try.ntmps93
    go_wp2_with fail
    go_ret
    exact ⟨ret_bool hf.out.symm, Below.refl _ _⟩
end Go.Proofs.Ytgcbodpjidoanaa
namespace Go.Proofs.Ytgcbodpjidoanaa
open Go.RowKit
/-- the sum of one text behind a tag -/
def tagD (tag : Nat) (t : List Nat) : List Nat := dig (sumW (preN tag [t]))
theorem pre1_len (tag : Nat) (t : List Nat) (hn : t.length ≤ 100000000) : (preN tag [t]).length ≤ 1000000000 := by unfold preN; simp [prePart, be8_len]; omega
theorem isB_one1 {t : List Nat} (ht : IsB t) : ∀ i, IsB (([t] : List (List Nat)).getD i []) := fun i => by
  cases i with
  | zero => exact ht
  | succ i => intro j; simp
/-- a row that holds one text -/
theorem row1 (w : World) (A : Option Addr) (t : List Nat) (c : Nat) (hA : Arr w w.heap.size A t.length (u8s t)) :
    Arr (w.alloc (.cells #[.slice A t.length c] 22)) (w.alloc (.cells #[.slice A t.length c] 22)).heap.size (some ⟨w.heap.size, 0, none⟩) [t].length (fun i => .slice A ([t].getD i []).length c) ∧
    ∀ i, i < [t].length → Arr (w.alloc (.cells #[.slice A t.length c] 22)) (w.alloc (.cells #[.slice A t.length c] 22)).heap.size A ([t].getD i []).length (u8s ([t].getD i [])) :=
  ⟨(arr_one w (.slice A t.length c) 22).congr (g := fun i => .slice A ([t].getD i []).length c) (fun i (hi : i < 1) => by cases (show i = 0 by omega); rfl), fun i hi => by
    obtain rfl : i = 0 := by simpa using hi
    exact hA.after (below_new _ _)⟩
end Go.Proofs.Ytgcbodpjidoanaa
namespace Go.Proofs.Ytgcbodpjidoanaa
open Go.RowKit
theorem flat_get {s : Nat} : ∀ (L : List (List Value)), (∀ x ∈ L, x.length = s) → ∀ (i j : Nat), j < s → L.flatten[i * s + j]? = (L[i]?).bind (fun x => x[j]?)
  | [], _, i, j, _ => by simp
  | x :: L, h, i, j, hj => by
    have hx := h x (by simp)
    rw [List.flatten_cons]
    rcases i with _ | i
    · rw [List.getElem?_append_left (by omega)]; simp
    · rw [List.getElem?_append_right (by rw [hx, Nat.succ_mul]; omega), hx, show (i + 1) * s + j - s = i * s + j by rw [Nat.succ_mul]; omega, flat_get L (fun y hy => h y (by simp [hy])) i j hj]
      simp
/-- a row of structs of type E, s cells each, that the call owns -/
def OwnC (E s : Nat) (w : World) (base : Nat) (A : Option Addr) (c : Nat) (L : List (List Value)) : Prop :=
  w.ownsRow base E s (.slice A L.length c) L.length L.flatten ∧ ∀ x ∈ L, x.length = s
section
variable {E s : Nat} {w W : World} {base c : Nat} {A : Option Addr} {L : List (List Value)} {S : Nat → Prop}
theorem OwnC.nil (E s : Nat) (w : World) (base : Nat) : OwnC E s w base none 0 [] := ⟨World.ownsRow_nil w base _ _, by simp⟩
theorem OwnC.ext (h : OwnC E s w base A c L) (hW : Ext w W) : OwnC E s W base A c L := by
  refine ⟨⟨h.1.1, h.1.2.imp id ?_⟩, h.2⟩
  rintro ⟨g, cap, cur, hv, hg, hh, r⟩
  exact ⟨g, cap, cur, hv, hg, (hW.block g (Array.getElem?_eq_some_iff.1 hh).1).trans hh, r⟩
theorem OwnC.but (h : OwnC E s w base A c L) (b : But S w W) (hS : ∀ k, base ≤ k → ¬ S k) : OwnC E s W base A c L := by
  refine ⟨⟨h.1.1, h.1.2.imp id ?_⟩, h.2⟩
  rintro ⟨g, cap, cur, hv, hg, hh, r⟩
  exact ⟨g, cap, cur, hv, hg, (b.block g (Array.getElem?_eq_some_iff.1 hh).1 (hS g hg)).trans hh, r⟩
theorem OwnC.arrC (h : OwnC E s w base A c L) (hs : 0 < s) : ArrC w w.heap.size A L.length s (fun i => L.getD i []) := fun hn => by
  rcases h.1.2 with ⟨he, h0⟩ | ⟨r, cap, cur, hv, hb, hh, hcap, hm, hsz, ht⟩
  · omega
  · injection hv with hA _ _
    subst hA
    refine ⟨r, 0, rfl, (Array.getElem?_eq_some_iff.1 hh).1, fun i hi j v hj => ?_⟩
    rw [Nat.zero_add, cell_of_row w r (i * s + j) cur E (0, 0) hh]
    have hx : (L.getD i []).length = s := by
      rw [List.getD, List.getElem?_eq_getElem hi]; exact h.2 _ (List.getElem_mem hi)
    have hjs : j < s := by rw [← hx]; exact (List.getElem?_eq_some_iff.1 hj).1
    have h1 := flat_get L h.2 i j hjs
    rw [List.getElem?_eq_getElem hi] at h1
    have h2 : L[i][j]? = some v := by simpa [List.getD, List.getElem?_eq_getElem hi] using hj
    simp only [Option.bind_some, h2] at h1
    have hlt : i * s + j < L.length * s := by
      have : (i + 1) * s ≤ L.length * s := Nat.mul_le_mul_right s hi
      rw [Nat.succ_mul] at this; omega
    rw [← ht, List.getElem?_take, if_pos hlt] at h1
    simpa using h1
theorem OwnC.block (h : OwnC E s w base A c L) {b off : Nat} {q : _} (hA : A = some ⟨b, off, q⟩) : base ≤ b ∧ b < w.heap.size := by
  rcases h.1.2 with ⟨hv, _⟩ | ⟨g, cap, cur, hv, hg, hh, _⟩
  · injection hv with h1 _ _; rw [hA] at h1; cases h1
  · injection hv with h1 _ _
    rw [hA] at h1
    injection h1 with h1
    injection h1 with h1 _ _
    rw [h1]
    exact ⟨hg, (Array.getElem?_eq_some_iff.1 hh).1⟩
end
/-- one struct more -/
theorem exec_append_C {o : Oper} {a : Act} {w : World} (T E s by_ : Nat) (i0 : TypeInfo) (z : Value) (hT : Try.prog.underlying T = some (.slice E)) (hi : Try.prog.info? E = some i0) (hz : i0.zero = some z) (hsz : i0.size = s) (hby : i0.bytes = by_) (hzs : z.cells.size = s) (hs0 : 0 < s) (hb0 : by_ ≤ 1000)
    (x y : Operand) (ho : o.op = .call { callee := .builtin .append, args := #[x, y], argTypes := #[T, T] })
    (base : Nat) (A : Option Addr) (c n : Nat) (L : List (List Value)) (hl : n = L.length) (hs : a.eval x = .slice A n c) (hown : OwnC E s w base A c L) (b off cap : Nat) (cs : List Value) (hx : a.eval y = .slice (some ⟨b, off, none⟩) 1 cap) (hr : w.rangeAt b off cs) (hc : cs.length = s) (h1 : ∀ u ∈ cs, u.oneCell' = true)
    (hn : n ≤ 1000000000) (hbase : base ≤ w.heap.size) :
    ∃ g c' w', (execOp a.eval o).run Try.prog w = .ok (.value (.slice (some ⟨g, 0, none⟩) (n + 1) c')) w' ∧ OwnC E s w' base (some ⟨g, 0, none⟩) c' (L ++ [cs]) ∧ Below base w w' ∧ But (fun b => ∃ off s, A = some ⟨b, off, s⟩) w w' ∧ ((∃ off s, A = some ⟨g, off, s⟩) ∨ w.heap.size = g) := by
  subst hl
  have hmul : (L.length + 1) * by_ ≤ 140737488355328 := Nat.le_trans (Nat.mul_le_mul (Nat.succ_le_succ hn) hb0) (by decide)
  obtain ⟨g, c', w', h2, h3, h4, h5⟩ := exec_append_rng (P := Try.prog) x y T ho base E i0 z s by_ hT hi hz hsz hby hzs hs0 _ L.length L.flatten hs hown.1 b off cap 1 cs hx (by omega) hr h1 (by decide) (by unfold maxLen; omega) hmul hbase
  refine ⟨g, c', w', h2, ⟨?_, fun u hu => ?_⟩, below_own hown.1 h4 (Nat.le_refl _) hbase, butA h4, h5.imp (fun h => ?_) id⟩
  · rw [List.length_append, List.flatten_append, List.flatten_singleton]
    exact h3
  · rcases List.mem_append.1 hu with hu | hu
    · exact hown.2 u hu
    · rw [List.mem_singleton.1 hu]; exact hc
  · rcases A with _ | ⟨b', off', s'⟩
    · simp [Value.ownBlock] at h
    · simp [Value.ownBlock] at h
      exact ⟨off', s', by rw [h]⟩
theorem wpList_append_C {ops : Array Oper} {rest : List Oper} {Q : Exit → Act → World → Prop} {o : Oper} {a : Act} {w : World} (hgd : o.guard = none) (T E s by_ : Nat) (i0 : TypeInfo) (z : Value) (hT : Try.prog.underlying T = some (.slice E)) (hi : Try.prog.info? E = some i0) (hz : i0.zero = some z) (hsz : i0.size = s) (hby : i0.bytes = by_) (hzs : z.cells.size = s) (hs0 : 0 < s) (hb0 : by_ ≤ 1000)
    (x y : Operand) (ho : o.op = .call { callee := .builtin .append, args := #[x, y], argTypes := #[T, T] })
    (base : Nat) (A : Option Addr) (c n : Nat) (L : List (List Value)) (hl : n = L.length) (hs : a.eval x = .slice A n c) (hown : OwnC E s w base A c L) (b off cap : Nat) (cs : List Value) (hx : a.eval y = .slice (some ⟨b, off, none⟩) 1 cap) (hr : w.rangeAt b off cs) (hc : cs.length = s) (h1 : ∀ u ∈ cs, u.oneCell' = true)
    (hn : n ≤ 1000000000) (hbase : base ≤ w.heap.size)
    (h : ∀ g c' w', OwnC E s w' base (some ⟨g, 0, none⟩) c' (L ++ [cs]) → Below base w w' → But (fun b => ∃ off s, A = some ⟨b, off, s⟩) w w' → ((∃ off s, A = some ⟨g, off, s⟩) ∨ w.heap.size = g) → wpList Try.prog ops Q rest (a.put o.dst (.slice (some ⟨g, 0, none⟩) (n + 1) c')) w') : wpList Try.prog ops Q (o :: rest) a w := by
  obtain ⟨g, c', w', h2, h3, h4, h5, h6⟩ := exec_append_C T E s by_ i0 z hT hi hz hsz hby hzs hs0 hb0 x y ho base A c n L hl hs hown b off cap cs hx hr hc h1 hn hbase
  refine wpList_plain hgd fun K hK => ?_
  unfold Oper.wp
  rw [h2]
  exact hK _ _ (h g c' w' h3 h4 h5 h6)
/-- the same as a step of a region that draws -/
theorem turn_append_C {S : Nat → Prop} {o : Oper} {a : Act} {w : World} {Kk : Value → World → Prop} (T E s by_ : Nat) (i0 : TypeInfo) (z : Value) (hT : Try.prog.underlying T = some (.slice E)) (hi : Try.prog.info? E = some i0) (hz : i0.zero = some z) (hsz : i0.size = s) (hby : i0.bytes = by_) (hzs : z.cells.size = s) (hs0 : 0 < s) (hb0 : by_ ≤ 1000)
    (x y : Operand) (ho : o.op = .call { callee := .builtin .append, args := #[x, y], argTypes := #[T, T] })
    (base : Nat) (A : Option Addr) (c n : Nat) (L : List (List Value)) (hl : n = L.length) (hs : a.eval x = .slice A n c) (hown : OwnC E s w base A c L) (b off cap : Nat) (cs : List Value) (hx : a.eval y = .slice (some ⟨b, off, none⟩) 1 cap) (hr : w.rangeAt b off cs) (hc : cs.length = s) (h1 : ∀ u ∈ cs, u.oneCell' = true)
    (hn : n ≤ 1000000000) (hbase : base ≤ w.heap.size) (hS : ∀ b, base ≤ b → S b)
    (h : ∀ g c' w', OwnC E s w' base (some ⟨g, 0, none⟩) c' (L ++ [cs]) → Below base w w' → But S w w' → But (fun b => ∃ off s, A = some ⟨b, off, s⟩) w w' → ((∃ off s, A = some ⟨g, off, s⟩) ∨ w.heap.size = g) → Kk (.slice (some ⟨g, 0, none⟩) (n + 1) c') w') :
    ∃ v w', ((execOp a.eval o).run Try.prog w = .ok (.value v) w' ∧ But S w w') ∧ Kk v w' := by
  obtain ⟨g, c', w', h2, h3, h4, h5, h6⟩ := exec_append_C T E s by_ i0 z hT hi hz hsz hby hzs hs0 hb0 x y ho base A c n L hl hs hown b off cap cs hx hr hc h1 hn hbase
  have hb : But S w w' := ⟨h4.size, fun k hk hn => h4.block k (Nat.lt_of_not_le fun hh => hn (hS k hh)), h4.os, h4.tape, h4.output⟩
  exact ⟨_, w', ⟨h2, hb⟩, h g c' w' h3 h4 hb h5 h6⟩
end Go.Proofs.Ytgcbodpjidoanaa
namespace Go.Proofs.Ytgcbodpjidoanaa
open Go.RowKit
theorem info_opr : (Try.prog.info? 132).map (fun i => (i.zero, i.size, i.bytes)) = some (some (.agg #[.int .u8 0, .string ByteArray.empty, .slice none 0 0, .slice none 0 0]), 4, 72) := by kernel_rfl
abbrev OpQ := OpD × OpP
/-- a row of changes that the call owns; its parts lie apart from it, and from the block g -/
structure OpsOwn (w : World) (base g : Nat) (A : Option Addr) (c : Nat) (qs : List OpQ) : Prop where
  own : OwnC 132 4 w base A c (qs.map fun q => opC q.1 q.2)
  low : g < base
  mem : ∀ q ∈ qs, OpMemN (fun b => b < base ∨ ∃ off s, A = some ⟨b, off, s⟩) w q.1 q.2
section
variable {w W : World} {base g c : Nat} {A : Option Addr} {qs : List OpQ}
theorem OpsOwn.nil (w : World) {base g : Nat} (h : g < base) : OpsOwn w base g none 0 [] := ⟨OwnC.nil _ _ _ _, h, by simp⟩
theorem OpMemN.block {S : Nat → Prop} {o : OpD} {p : OpP} (h : OpMemN S w o p) (b : But S w W) : OpMemN S W o p := ⟨h.cols.block b, h.row.block b, h.cap⟩
theorem OpMemN.mono {S S' : Nat → Prop} {o : OpD} {p : OpP} (h : OpMemN S w o p) (hS : ∀ b, S' b → S b) : OpMemN S' w o p := ⟨h.cols.mono hS, h.row.mono hS, h.cap⟩
theorem OpsOwn.but (h : OpsOwn w base g A c qs) (b : But (fun b => b = g) w W) : OpsOwn W base g A c qs :=
  ⟨h.own.but b fun k hk e => by have := h.low; omega, h.low, fun q hq => (h.mem q hq).block (b.mono fun k hk => .inl (by have := h.low; omega))⟩
theorem OpsOwn.ext (h : OpsOwn w base g A c qs) (b : Ext w W) : OpsOwn W base g A c qs := h.but (But.of_ext b)
theorem OpsOwn.opsL (h : OpsOwn w base g A c qs) (hk : ∀ q ∈ qs, OpOk q.1) : OpsL w w.heap.size A (qs.map Prod.fst) (fun i => (qs.getD i default).2) := by
  have hg : ∀ i, i < qs.length → ((qs.map Prod.fst).getD i default = (qs.getD i default).1 ∧ qs.getD i default ∈ qs) := fun i hi => by
    simp only [List.getD, List.getElem?_map, List.getElem?_eq_getElem hi, Option.map_some, Option.getD_some, true_and]
    exact List.getElem_mem _
  refine ⟨?_, fun i hi => ?_⟩
  · have := h.own.arrC (by decide)
    rw [List.length_map] at this ⊢
    refine this.congr fun i hi => ?_
    rw [(hg i hi).1]
    simp only [List.getD, List.getElem?_map, List.getElem?_eq_getElem hi, Option.map_some, Option.getD_some]
  · rw [List.length_map] at hi
    rw [(hg i hi).1]
    have := h.mem _ (hg i hi).2
    exact ⟨⟨this.cols.arr, this.row.arr, this.cap⟩, hk _ (hg i hi).2⟩
end
/-- a slice of changes that lie, as do their parts, from the block lo on -/
def OpsH (w : World) (lo : Nat) (A : Option Addr) (l : List OpD) (ps : Nat → OpP) : Prop :=
  (0 < l.length → ∃ b off, A = some ⟨b, off, none⟩ ∧ lo ≤ b ∧ b < w.heap.size ∧ ∀ i, i < l.length → w.rangeAt b (off + i * 4) (opC (l.getD i default) (ps i))) ∧
  ∀ i, i < l.length → OpMemN (fun b => b < lo) w (l.getD i default) (ps i) ∧ OpOk (l.getD i default)
section
variable {w W : World} {lo : Nat} {A : Option Addr} {l : List OpD} {ps : Nat → OpP} {S : Nat → Prop}
theorem OpsH.opsL (h : OpsH w lo A l ps) : OpsL w w.heap.size A l ps :=
  ⟨fun hn => by obtain ⟨b, off, e, _, hb, hc⟩ := h.1 hn; exact ⟨b, off, e, hb, hc⟩, fun i hi => ⟨⟨(h.2 i hi).1.cols.arr, (h.2 i hi).1.row.arr, (h.2 i hi).1.cap⟩, (h.2 i hi).2⟩⟩
theorem OpsH.but (h : OpsH w lo A l ps) (b : But S w W) (hS : ∀ k, S k → k < lo) : OpsH W lo A l ps :=
  ⟨fun hn => by
    obtain ⟨k, off, e, hlo, hb, hc⟩ := h.1 hn
    exact ⟨k, off, e, hlo, Nat.lt_of_lt_of_le hb b.size, fun i hi j v hv => b.cell (p := ⟨k, off + i * 4 + j, none⟩) (hc i hi j v hv) fun hs => by have := hS k hs; omega⟩, fun i hi => ⟨⟨(h.2 i hi).1.cols.block (b.mono hS), (h.2 i hi).1.row.block (b.mono hS), (h.2 i hi).1.cap⟩, (h.2 i hi).2⟩⟩
theorem OpsH.after (h : OpsH w lo A l ps) (b : Below w.heap.size w W) : OpsH W lo A l ps := h.but (S := fun _ => False) (But.of_below b) fun _ h => h.elim
theorem OpsH.mono {lo' : Nat} (h : OpsH w lo A l ps) (hl : lo' ≤ lo) : OpsH w lo' A l ps :=
  ⟨fun hn => by obtain ⟨b, off, e, h1, hb, hc⟩ := h.1 hn; exact ⟨b, off, e, Nat.le_trans hl h1, hb, hc⟩, fun i hi => ⟨⟨(h.2 i hi).1.cols.mono fun b hb => by omega, (h.2 i hi).1.row.mono fun b hb => by omega, (h.2 i hi).1.cap⟩, (h.2 i hi).2⟩⟩
theorem OpsOwn.opsH {base g c : Nat} {qs : List OpQ} (h : OpsOwn w base g A c qs) (hk : ∀ q ∈ qs, OpOk q.1) : OpsH w base A (qs.map Prod.fst) (fun i => (qs.getD i default).2) := by
  have hg : ∀ i, i < qs.length → ((qs.map Prod.fst).getD i default = (qs.getD i default).1 ∧ qs.getD i default ∈ qs) := fun i hi => by
    simp only [List.getD, List.getElem?_map, List.getElem?_eq_getElem hi, Option.map_some, Option.getD_some, true_and]
    exact List.getElem_mem _
  refine ⟨fun hn => ?_, fun i hi => ?_⟩
  · obtain ⟨b, off, e, hb, hc⟩ := (h.opsL hk).1 hn
    exact ⟨b, off, e, (h.own.block e).1, hb, hc⟩
  · have hi' := hi
    rw [List.length_map] at hi'
    rw [(hg i hi').1]
    have := h.mem _ (hg i hi').2
    exact ⟨⟨this.cols.mono fun b hb => .inl hb, this.row.mono fun b hb => .inl hb, this.cap⟩, hk _ (hg i hi').2⟩
end
theorem ArrN.to {S S' : Nat → Prop} {w W : World} {A : Option Addr} {n : Nat} {f : Nat → Value} (h : ArrN S w A n f) (b : But S w W) (hS : ∀ b, b < w.heap.size → ¬ S b → ¬ S' b) : ArrN S' W A n f := fun hn => by
  obtain ⟨k, off, e, hk, hs, hc⟩ := h hn
  exact ⟨k, off, e, Nat.lt_of_lt_of_le hk b.size, hS k hk hs, fun i hi => b.cell (hc i hi) hs⟩
theorem OpMemN.to {S S' : Nat → Prop} {w W : World} {o : OpD} {p : OpP} (h : OpMemN S w o p) (b : But S w W) (hS : ∀ b, b < w.heap.size → ¬ S b → ¬ S' b) : OpMemN S' W o p := ⟨h.cols.to b hS, h.row.to b hS, h.cap⟩
/-- one change more -/
theorem wpList_append_op {ops : Array Oper} {rest : List Oper} {Q : Exit → Act → World → Prop} {o : Oper} {a : Act} {w : World} (hgd : o.guard = none)
    (x y : Operand) (ho : o.op = .call { callee := .builtin .append, args := #[x, y], argTypes := #[122, 122] })
    (base g : Nat) (A : Option Addr) (c n : Nat) (qs : List OpQ) (hl : n = qs.length) (hs : a.eval x = .slice A n c) (hown : OpsOwn w base g A c qs) (b cap : Nat) (q : OpQ) (z : Nat) (hx : a.eval y = .slice (some ⟨b, 0, none⟩) 1 cap)
    (hr : w.rangeAt b 0 (opC q.1 q.2)) (hq : OpMemN (fun b => b < z) w q.1 q.2) (hz : base ≤ z) (hzA : ∀ b off s, A = some ⟨b, off, s⟩ → b < z) (hn : n ≤ 1000000000) (hbase : base ≤ w.heap.size)
    (h : ∀ g' c' w', OpsOwn w' base g (some ⟨g', 0, none⟩) c' (qs ++ [q]) → Below base w w' → wpList Try.prog ops Q rest (a.put o.dst (.slice (some ⟨g', 0, none⟩) (n + 1) c')) w') : wpList Try.prog ops Q (o :: rest) a w := by
  obtain ⟨i0, hi0, hz0, hz1, hz2⟩ := info_parts info_opr
  refine wpList_append_C hgd 122 132 4 72 i0 _ Try.underlying122 hi0 hz0 hz1 hz2 rfl (by decide) (by decide) x y ho base A c n (qs.map fun q => opC q.1 q.2) (by rw [List.length_map]; exact hl) hs hown.own b 0 cap (opC q.1 q.2) hx hr rfl ?_ hn hbase ?_
  · intro u hu
    simp only [opC, opV, List.mem_cons, List.not_mem_nil, or_false] at hu
    rcases hu with rfl | rfl | rfl | rfl <;> rfl
  · intro g' c' w' o1 b1 b2 hat
    refine h g' c' w' ⟨?_, hown.low, fun r hr => ?_⟩ b1
    · rw [List.map_append]; exact o1
    · rcases List.mem_append.1 hr with hr | hr
      · refine (hown.mem r hr).to (b2.mono fun _ h => .inr h) fun b hb hn => ?_
        rintro (e | ⟨off, s, e⟩)
        · exact hn (.inl e)
        · injection e with e; injection e with e _ _
          rcases hat with ⟨off, s, e2⟩ | e2
          · exact hn (.inr ⟨off, s, e ▸ e2⟩)
          · omega
      · rw [List.mem_singleton.1 hr]
        refine hq.to (b2.mono fun b => by rintro ⟨off, s, e⟩; exact hzA b off s e) fun b hb hn => ?_
        rintro (e | ⟨off, s, e⟩)
        · exact hn (Nat.lt_of_lt_of_le e hz)
        · injection e with e; injection e with e _ _
          rcases hat with ⟨off, s, e2⟩ | e2
          · exact hn (e ▸ hzA _ _ _ e2)
          · omega
theorem rText_len (most : Nat) (l : List Nat) (e : Int) : (rText most l e).1.length ≤ 1048576 := by
  have h3 := (rCount_le most l e).1
  unfold rText
  dsimp only
  unfold rTake
  split
  · simp
  · split
    · simp
    · simp; omega
theorem rRow_len (most : Nat) (l : List Nat) (e : Int) : (rRow most l e).1.length ≤ rByte l e := by
  have := rNums_len (rByte l e) (rTake 1 l e).2.1 (rRowE most l e)
  unfold rRow
  dsimp only
  split <;> first | exact this | simp
/-- what is read may be a change's parts -/
theorem rTexts_size : ∀ (k : Nat) (l : List Nat) (e : Int) (i : Nat), ((rTexts k l e).1.getD i default).size ≤ 1048576
  | 0, l, e, i => by simp only [rTexts, List.getD_nil]; decide
  | k + 1, l, e, i => by
    have ih := rTexts_size k l e i
    simp only [rTexts]
    rcases Nat.lt_or_ge i (rTexts k l e).1.length with hi | hi
    · unfold List.getD at ih ⊢; rwa [List.getElem?_append_left hi]
    · rcases Nat.lt_or_ge (rTexts k l e).1.length i with h2 | h2
      · unfold List.getD; rw [List.getElem?_eq_none (by simp; omega)]; decide
      · obtain rfl : i = (rTexts k l e).1.length := by omega
        unfold List.getD; rw [List.getElem?_append_right (Nat.le_refl _), Nat.sub_self]
        simp only [List.getElem?_cons_zero, Option.getD_some, bstr_size]
        exact rText_len _ _ _
theorem rOp_ok (l : List Nat) (hl : IsB l) : OpOk (rOp 8 l 0).1 := by
  have hI := (op_suf 8 l 0).2 hl
  have hk := rByte_lt l 0 hl
  have hb := (take_suf 1 l 0).isB hl
  have ht := (text_suf 16 (rTake 1 l 0).2.1 (rTake 1 l 0).2.2).isB hb
  have hs := rText_len 16 (rTake 1 l 0).2.1 (rTake 1 l 0).2.2
  unfold rOp at hI ⊢
  dsimp only at hI ⊢
  split
  · refine ⟨hk, by simpa [bstr_size] using hs, fun i => rTexts_size _ _ _ _, by rw [rTexts_len]; omega, by simp, fun i => by simp⟩
  · split
    · rename_i h1 h2
      rw [if_neg h1, if_pos h2] at hI
      refine ⟨hk, by simpa [bstr_size] using hs, fun i => by simp only [List.getD_nil]; decide, by simp, ?_, hI⟩
      exact Nat.le_trans (rRow_len _ _ _) (by have := rByte_lt _ (rText 16 (rTake 1 l 0).2.1 (rTake 1 l 0).2.2).2.2 ht; omega)
    · exact ⟨hk, by simpa [bstr_size] using hs, fun i => by simp only [List.getD_nil]; decide, by simp, by simp, fun i => by simp⟩
end Go.Proofs.Ytgcbodpjidoanaa
