/- Contract of package sha's Sum. Contracts of page's Preimage and Sum, of the document's page Sum. Digests as a map's keys. The page store, in the new way: New, Len, Get, Put, Clash. -/
import Derived.DeepKeys4
import Derived.Test.YtedokpgkjcnoiaaGreatQ7
import Derived.Test.YtedokpgkjcnoiaaGreatQ22
import Derived.Test.YtedokpgkjcnoiaaGreatQ28
import Derived.Test.YtedokpgkjcnoiaaGreatQ32
import Derived.Test.YtedokpgkjcnoiaaGreatQ36
set_option linter.unusedVariables false
set_option linter.unusedSimpArgs false
namespace Go.Proofs.YtedokpgkjcnoiaaGreat
open Go.RowKit
set_option maxRecDepth 100000 in
set_option maxHeartbeats 1000000 in
theorem ssum_any (A : Option Addr) (t : List Nat) (c : Nat) (w : World) (hA : Arr w w.heap.size A t.length (u8s t)) (ht : IsB t) (hn : t.length ≤ 1000000000) :
    Calls Tryz.prog 124 #[.slice A t.length c] w fun e w' => e = .returned (.agg ((dig (sumW t)).map b8).toArray) ∧ Below w.heap.size w w' := by
  have HhA := hideP hA; have Hht := hideP ht; have Hhn := hideP hn; clear hA ht hn
  obtain ⟨DD, hDD⟩ : ∃ D, D = (dig (sumW t)).map b8 := ⟨_, rfl⟩
  have hDl := hideP (show DD.length = 32 by rw [hDD]; simp [dig])
  have hDa := hideP (show DD.toArray.all (·.oneCell') = true by rw [hDD]; exact all_b8 _)
  rw [← hDD]
  have HhDD := hideP hDD; clear hDD
  go_enter Tryz.func124, Tryz.ntmps124
  go_upto_region 1 with fail
  obtain ⟨w1, hw1⟩ : ∃ w1, w1 = w.alloc (Obj.cells #[.int .u8 0, .int .u8 0, .int .u8 0, .int .u8 0, .int .u8 0, .int .u8 0, .int .u8 0, .int .u8 0, .int .u8 0, .int .u8 0, .int .u8 0, .int .u8 0, .int .u8 0, .int .u8 0, .int .u8 0, .int .u8 0, .int .u8 0, .int .u8 0, .int .u8 0, .int .u8 0, .int .u8 0, .int .u8 0, .int .u8 0, .int .u8 0, .int .u8 0, .int .u8 0, .int .u8 0, .int .u8 0, .int .u8 0, .int .u8 0, .int .u8 0, .int .u8 0] 32) := ⟨_, rfl⟩
  have c1 := hideP (show Row w1 w.heap.size 32 z32 by rw [hw1]; exact Row.new w _ z32)
  have cb := hideP (show Below w.heap.size w w1 by rw [hw1]; exact below_new _ _)
  rw [← hw1]
  clear hw1
  have hds := hideP (show (Tryz.prog.info? 32).map (·.size) = some DD.toArray.size by rw [size_dig]; simp [hDl.out])
  have hdo := hideP (show z32.toArray.size = DD.toArray.size by simp [hDl.out, z32])
  have A1 := hideP (HhA.out.after cb.out)
  go_wp2_with (first
    | (go_at_call 143; refine (new_any _).mono ?_; rintro e w2 ⟨g, rfl, hb2, hg2, s2⟩; have A2 := hideP (A1.out.below hb2); have c2 := hideP (Row.after c1.out hb2); have cb2 := hideP (cb.out.trans (hb2.mono cb.out.size)); have s2' := hideP s2)
    | (go_at_call 144; refine (write_any w1.heap.size g A t _ _ hg2 s2'.out A2.out Hht.out Hhn.out).mono ?_; rintro e w3 ⟨rfl, hb3, A', c', r, hr, s3, a3⟩; have c3 := hideP (Row.below c2.out hb3 (Row.lt c1.out)); have cb3 := hideP (cb2.out.trans (hb3.mono cb.out.size)); have s3' := hideP s3; have a3' := hideP a3)
    | (go_at_call 145; refine (done_any g _ A' r t c' _ s3'.out a3'.out rfl hr Hht.out Hhn.out).mono ?_; rintro e w4 ⟨rfl, hb4⟩; rw [← HhDD.out]; have c4 := hideP (Row.after c3.out hb4); have cb4 := hideP (cb3.out.trans (hb4.mono cb3.out.size)))
    | (refine wpList_store_row rfl 32 (.tmp 2) (.tmp 9) rfl w.heap.size DD.toArray rfl rfl 32 z32.toArray c4.out hds.out hdo.out hDa.out ?_))
  refine ret_row rfl rfl (Row.setRow c4.out DD) Tryz.underlying32 (by rw [size_dig, hDl.out]) rfl ⟨rfl, ?_⟩
  exact below_setRow' cb4.out (Nat.le_refl _) _
end Go.Proofs.YtedokpgkjcnoiaaGreat
namespace Go.Proofs.YtedokpgkjcnoiaaGreat
open Go.RowKit
/-- one text in a row of texts -/
theorem arr_one (w : World) (v : Value) (T : TypeId) : Arr (w.alloc (.cells #[v] T)) (w.alloc (.cells #[v] T)).heap.size (some ⟨w.heap.size, 0, none⟩) 1 (fun _ => v) := fun _ =>
 ⟨w.heap.size, 0, rfl, by simp, fun i hi => by
  obtain rfl : i = 0 := by omega
  exact (One.new w _ _).c0⟩
theorem OwnB.mono {w : World} {base base' : Nat} {A : Option Addr} {c : Nat} {l : List Nat} (h : OwnB w base A c l) (hb : base' ≤ base) : OwnB w base' A c l := by
 refine ⟨h.1, ?_⟩
 rcases h.2 with e | ⟨g, cap, cur, hv, hg, hr⟩
 ·exact Or.inl e
 ·exact Or.inr ⟨g, cap, cur, hv, Nat.le_trans hb hg, hr⟩
set_option maxRecDepth 100000 in
set_option maxHeartbeats 1000000 in
theorem ppre_any (A : Option Addr) (t : List Nat) (c : Nat) (w : World) (hA : Arr w w.heap.size A t.length (u8s t)) (hn : t.length ≤ 1000000000) :
    Calls Tryz.prog 125 #[.slice A t.length c] w fun e w' => ∃ A' c', e = .returned (.slice A' (preN 80 [t]).length c') ∧ Below w.heap.size w w' ∧ OwnB w' w.heap.size A' c' (preN 80 [t]) := by
  have hP := hideP (show (preN 80 [t]).length ≤ 1000000000000 by unfold preN; simp [prePart, be8_len]; omega)
  have hA1 := hideP (hA.after (below_new w (Obj.cells #[.slice A t.length c] 42)))
  have hR1 := hideP ((arr_one w (.slice A t.length c) 42).congr (g := fun i => .slice A ([t].getD i []).length c) (fun i (hi : i < 1) => by cases (show i = 0 by omega); rfl))
  have hall := hideP (show ∀ i, i < [t].length → Arr (w.alloc (Obj.cells #[.slice A t.length c] 42)) (w.alloc (Obj.cells #[.slice A t.length c] 42)).heap.size A ([t].getD i []).length (u8s ([t].getD i [])) from fun i hi => by
    obtain rfl : i = 0 := by simpa using hi
    exact hA1.out)
  have HhA := hideP hA; clear hA
  go_enter Tryz.func125, Tryz.ntmps125
  go_wp2_with (go_at_call 146; refine (pre_any 80 _ _ [t] (fun _ => A) (fun _ => c) _ hR1.out hall.out hP.out (by simp)).mono ?_; rintro e w2 ⟨A2, c2, rfl, hb2, h2⟩)
  go_ret
  refine ⟨A2, c2, rfl, (below_new w (Obj.cells #[.slice A t.length c] 42)).trans (hb2.mono (by simp)), ?_⟩
  exact h2.mono (by simp)
/-- the sum of a page -/
def pageD (t : List Nat) : List Value := (dig (sumW (preN 80 [t]))).map b8
set_option maxRecDepth 100000 in
set_option maxHeartbeats 1000000 in
theorem psum_any (A : Option Addr) (t : List Nat) (c : Nat) (w : World) (hA : Arr w w.heap.size A t.length (u8s t)) (ht : IsB t) (hn : t.length ≤ 100000000) :
    Calls Tryz.prog 79 #[.slice A t.length c] w fun e w' => e = .returned (.agg (pageD t).toArray) ∧ Below w.heap.size w w' := by
  have hPB := hideP (show IsB (preN 80 [t]) from isB_prePart (by decide) (fun i => by cases i with
    | zero => exact ht
    | succ i => intro j; simp) _)
  have hPn := hideP (show (preN 80 [t]).length ≤ 1000000000 by unfold preN; simp [prePart, be8_len]; omega)
  have hP := hideP (show (preN 80 [t]).length ≤ 1000000000000 by have := hPn.out; omega)
  have HhA := hideP hA; have Hht := hideP ht; have Hhn := hideP hn; clear hA ht hn
  obtain ⟨DD, hDD⟩ : ∃ D, D = pageD t := ⟨_, rfl⟩
  have hDl := hideP (show DD.length = 32 by rw [hDD]; simp [pageD, dig])
  have hDa := hideP (show DD.toArray.all (·.oneCell') = true by rw [hDD]; exact all_b8 _)
  have hDe := hideP (show (dig (sumW (preN 80 [t]))).map b8 = DD from hDD.symm)
  rw [← hDD]
  clear hDD
  go_enter Tryz.func79, Tryz.ntmps79
  go_upto_region 1 with fail
  obtain ⟨w1, hw1⟩ : ∃ w1, w1 = w.alloc (Obj.cells #[.int .u8 0, .int .u8 0, .int .u8 0, .int .u8 0, .int .u8 0, .int .u8 0, .int .u8 0, .int .u8 0, .int .u8 0, .int .u8 0, .int .u8 0, .int .u8 0, .int .u8 0, .int .u8 0, .int .u8 0, .int .u8 0, .int .u8 0, .int .u8 0, .int .u8 0, .int .u8 0, .int .u8 0, .int .u8 0, .int .u8 0, .int .u8 0, .int .u8 0, .int .u8 0, .int .u8 0, .int .u8 0, .int .u8 0, .int .u8 0, .int .u8 0, .int .u8 0] 32) := ⟨_, rfl⟩
  have c1 := hideP (show Row w1 w.heap.size 32 z32 by rw [hw1]; exact Row.new w _ z32)
  have cb := hideP (show Below w.heap.size w w1 by rw [hw1]; exact below_new _ _)
  rw [← hw1]
  clear hw1
  have hds := hideP (show (Tryz.prog.info? 32).map (·.size) = some DD.toArray.size by rw [size_dig]; simp [hDl.out])
  have hdo := hideP (show z32.toArray.size = DD.toArray.size by simp [hDl.out, z32])
  have A1 := hideP (HhA.out.after cb.out)
  go_wp2_with (first
    | (go_at_call 125; refine (ppre_any A t c _ A1.out (by have := Hhn.out; omega)).mono ?_; rintro e w2 ⟨A2, c2, rfl, hb2, h2⟩; have x2 := hideP (h2.arr); have d2 := hideP (Row.after c1.out hb2); have cb2 := hideP (cb.out.trans (hb2.mono cb.out.size)))
    | (go_at_call 124; refine (ssum_any A2 (preN 80 [t]) c2 _ x2.out hPB.out hPn.out).mono ?_; rintro e w4 ⟨rfl, hb4⟩; rw [hDe.out]; have c4 := hideP (Row.after d2.out hb4); have cb4 := hideP (cb2.out.trans (hb4.mono cb2.out.size)))
    | (refine wpList_store_row rfl 32 (.tmp 2) (.tmp 5) rfl w.heap.size DD.toArray rfl rfl 32 z32.toArray c4.out hds.out hdo.out hDa.out ?_))
  refine ret_row rfl rfl (Row.setRow c4.out DD) Tryz.underlying32 (by rw [size_dig, hDl.out]) rfl ⟨rfl, ?_⟩
  exact below_setRow' cb4.out (Nat.le_refl _) _
set_option maxRecDepth 100000 in
set_option maxHeartbeats 1000000 in
theorem r9sum_any (A : Option Addr) (t : List Nat) (c : Nat) (w : World) (hA : Arr w w.heap.size A t.length (u8s t)) (ht : IsB t) (hn : t.length ≤ 100000000) :
    Calls Tryz.prog 67 #[.slice A t.length c] w fun e w' => e = .returned (.agg (pageD t).toArray) ∧ Below w.heap.size w w' := by
  have hPB := hideP (show IsB (preN 80 [t]) from isB_prePart (by decide) (fun i => by cases i with
    | zero => exact ht
    | succ i => intro j; simp) _)
  have hPn := hideP (show (preN 80 [t]).length ≤ 1000000000 by unfold preN; simp [prePart, be8_len]; omega)
  have hP := hideP (show (preN 80 [t]).length ≤ 1000000000000 by have := hPn.out; omega)
  have HhA := hideP hA; have Hht := hideP ht; have Hhn := hideP hn; clear hA ht hn
  obtain ⟨DD, hDD⟩ : ∃ D, D = pageD t := ⟨_, rfl⟩
  have hDl := hideP (show DD.length = 32 by rw [hDD]; simp [pageD, dig])
  have hDa := hideP (show DD.toArray.all (·.oneCell') = true by rw [hDD]; exact all_b8 _)
  have hDe := hideP (show (dig (sumW (preN 80 [t]))).map b8 = DD from hDD.symm)
  rw [← hDD]
  clear hDD
  go_enter Tryz.func67, Tryz.ntmps67
  go_upto_region 1 with fail
  obtain ⟨w1, hw1⟩ : ∃ w1, w1 = w.alloc (Obj.cells #[.int .u8 0, .int .u8 0, .int .u8 0, .int .u8 0, .int .u8 0, .int .u8 0, .int .u8 0, .int .u8 0, .int .u8 0, .int .u8 0, .int .u8 0, .int .u8 0, .int .u8 0, .int .u8 0, .int .u8 0, .int .u8 0, .int .u8 0, .int .u8 0, .int .u8 0, .int .u8 0, .int .u8 0, .int .u8 0, .int .u8 0, .int .u8 0, .int .u8 0, .int .u8 0, .int .u8 0, .int .u8 0, .int .u8 0, .int .u8 0, .int .u8 0, .int .u8 0] 32) := ⟨_, rfl⟩
  have c1 := hideP (show Row w1 w.heap.size 32 z32 by rw [hw1]; exact Row.new w _ z32)
  have cb := hideP (show Below w.heap.size w w1 by rw [hw1]; exact below_new _ _)
  rw [← hw1]
  clear hw1
  have hds := hideP (show (Tryz.prog.info? 32).map (·.size) = some DD.toArray.size by rw [size_dig]; simp [hDl.out])
  have hdo := hideP (show z32.toArray.size = DD.toArray.size by simp [hDl.out, z32])
  have A1 := hideP (HhA.out.after cb.out)
  have hA2 := hideP (A1.out.after (below_new w1 (Obj.cells #[.slice A t.length c] 42)))
  have d1 := hideP (Row.after c1.out (below_new w1 (Obj.cells #[.slice A t.length c] 42)))
  have cb1 := hideP (cb.out.alloc cb.out.size (Obj.cells #[.slice A t.length c] 42))
  have hR1 := hideP ((arr_one w1 (.slice A t.length c) 42).congr (g := fun i => .slice A ([t].getD i []).length c) (fun i (hi : i < 1) => by cases (show i = 0 by omega); rfl))
  have hall := hideP (show ∀ i, i < [t].length → Arr (w1.alloc (Obj.cells #[.slice A t.length c] 42)) (w1.alloc (Obj.cells #[.slice A t.length c] 42)).heap.size A ([t].getD i []).length (u8s ([t].getD i [])) from fun i hi => by
    obtain rfl : i = 0 := by simpa using hi
    exact hA2.out)
  go_wp2_with (first
    | (go_at_call 98; refine (rpre_any 80 _ _ [t] (fun _ => A) (fun _ => c) _ hR1.out hall.out hP.out (by simp)).mono ?_; rintro e w2 ⟨A2, c2, rfl, hb2, h2⟩; have x2 := hideP (h2.arr); have d2 := hideP (Row.after d1.out hb2); have cb2 := hideP (cb1.out.trans (hb2.mono cb1.out.size)))
    | (go_at_call 97; refine (rsum_any A2 (preN 80 [t]) c2 _ x2.out hPB.out hPn.out).mono ?_; rintro e w4 ⟨rfl, hb4⟩; rw [hDe.out]; have c4 := hideP (Row.after d2.out hb4); have cb4 := hideP (cb2.out.trans (hb4.mono cb2.out.size)))
    | (refine wpList_store_row rfl 32 (.tmp 2) (.tmp 6) rfl w.heap.size DD.toArray rfl rfl 32 z32.toArray c4.out hds.out hdo.out hDa.out ?_))
  refine ret_row rfl rfl (Row.setRow c4.out DD) Tryz.underlying32 (by rw [size_dig, hDl.out]) rfl ⟨rfl, ?_⟩
  exact below_setRow' cb4.out (Nat.le_refl _) _
end Go.Proofs.YtedokpgkjcnoiaaGreat
namespace Go.Proofs.YtedokpgkjcnoiaaGreat
open Go.RowKit
open Go.Maps (Keyed)
theorem laidOutP : laidOutB Tryz.prog = true := by kernel_rfl
theorem keyD : Keyed Tryz.prog 32 :=
 Keyed.of_law (deep_law_laid laidOutP (m := 2) (by omega) (of_decide_eq_true (by kernel_rfl)) (by kernel_rfl) (by rw [Tryz.underlying32]))
theorem mapM_some {α β : Type} (f : α → Option β) (g : α → β) : ∀ l : List α, (∀ x ∈ l, f x = some (g x)) → l.mapM f = some (l.map g)
 | [], _ => rfl
 | x :: l, h => by rw [List.mapM_cons, h x (by simp), mapM_some f g l fun y hy => h y (by simp [hy])]; rfl
/-- a digest -/
def dg (l : List Nat) : Value := .agg (l.map b8).toArray
theorem b8_inj {x y : Nat} (h : b8 x = b8 y) : x = y := by
 simp only [b8, Value.int.injEq, true_and] at h
 omega
theorem dg_inj {l m : List Nat} (h : dg l = dg m) : l = m := by
 have h1 : (l.map b8).toArray = (m.map b8).toArray := Value.agg.inj h
 exact (List.map_inj_right (fun _ _ => b8_inj)).1 (List.toArray_inj h1)
theorem key_dg (l : List Nat) (hl : l.length = 32) (hb : IsB l) : ∃ kl, keyOf Tryz.prog 32 (dg l) = some kl := by
 have h1 : Tryz.prog.keyType 32 = true := by kernel_rfl
 have h2 : Tryz.prog.cellsOf 32 = 32 := by kernel_rfl
 have h3 : Tryz.prog.cellsOf 5 = 1 := by kernel_rfl
 have h4 : 2 ≤ Tryz.prog.types.size := of_decide_eq_true (by kernel_rfl)
 obtain ⟨m, hm⟩ : ∃ m, Tryz.prog.types.size = m + 1 := ⟨Tryz.prog.types.size - 1, by omega⟩
 have hlen : (l.map b8).toArray.toList.length = 32 := by simp [hl]
 have hM : (List.range 32).mapM (fun i => Tryz.prog.keyLits (m + 1) 5 (((dg l).cells.toList.drop (i * Tryz.prog.cellsOf 5)).take (Tryz.prog.cellsOf 5))) = some ((List.range 32).map fun i => [Lit.int .u8 (l.getD i 0)]) := by
  refine mapM_some _ _ _ fun i hi => ?_
  have hi' : i < 32 := List.mem_range.1 hi
  rw [h3, Nat.mul_one]
  have e1 : ((dg l).cells.toList.drop i).take 1 = [b8 (l.getD i 0)] := by
   show ((l.map b8).toArray.toList.drop i).take 1 = _
   rw [List.drop_eq_getElem_cons (by omega)]
   simp [List.getD, List.getElem?_eq_getElem (show i < l.length by omega)]
  have hx := hb i
  have hwf : (Lit.int .u8 ((l.getD i 0 : Nat) : Int)).wf = true := WalkArith.wf_u8 (by omega)
  rw [e1]
  unfold Program.keyLits
  simp only [Tryz.underlying5, b8]
  simp only [true_and]
  rw [if_pos hwf]
 refine ⟨Lit.string (keyBytes (((List.range 32).map fun i => [Lit.int .u8 (l.getD i 0)]).flatten)), ?_⟩
 ·unfold keyOf
  simp only [Tryz.underlying32]
  rw [if_pos (by simp [h1, dg, Value.formed, Tryz.underlying32, h2, hl]), hm]
  unfold Program.keyLits
  simp only [Tryz.underlying32]
  rw [if_pos (by rw [h2]; exact hlen), hM]
  rfl
end Go.Proofs.YtedokpgkjcnoiaaGreat
namespace Go.Proofs.YtedokpgkjcnoiaaGreat
open Go.RowKit
open Go.Maps (Keyed)
set_option maxRecDepth 100000
set_option maxHeartbeats 4000000
/-- a page's sum -/
def pgD (t : List Nat) : List Nat := dig (sumW (preN 80 [t]))
def b32V (f : Nat → Value) : List Value := [f 0, f 1, f 2, f 3, f 4, f 5, f 6, f 7, f 8, f 9, f 10, f 11, f 12, f 13, f 14, f 15, f 16, f 17, f 18, f 19, f 20, f 21, f 22, f 23, f 24, f 25, f 26, f 27, f 28, f 29, f 30, f 31]
def dgK (s : List Nat) : Value := .agg (b32V fun i => .int .u8 (s.getD i 0 : Nat)).toArray
theorem dgK_eq {s : List Nat} (h : s.length = 32) : dgK s = dg s := by
 unfold dgK dg
 congr 2
 rw [show (b32V fun i => Value.int .u8 (s.getD i 0 : Nat)) = (List.range 32).map fun i => .int .u8 (s.getD i 0 : Nat) from rfl]
 apply List.ext_getElem (by simp [h])
 intro i h1 h2
 simp only [List.getElem_map, List.getElem_range]
 unfold b8
 have h1 : i < s.length := by simpa using h2
 rw [List.getD_eq_getElem?_getD, List.getElem?_eq_getElem h1]; rfl
theorem pgD_len (t : List Nat) : (pgD t).length = 32 := by simp [pgD, dig]
theorem pgD_B (t : List Nat) : Pl.IsB (pgD t) := fun i => by
 unfold pgD dig
 rcases Nat.lt_or_ge i 32 with q | q
 ·rw [List.getD_eq_getElem?_getD, List.getElem?_map, List.getElem?_range q]
  exact Nat.mod_lt _ (by decide)
 ·rw [List.getD_eq_getElem?_getD, List.getElem?_eq_none (by simp; omega)]; decide
theorem dgK_ok {s : List Nat} (h : s.length = 32) (hB : Pl.IsB s) : okK Tryz.prog 32 (dgK s) := by rw [dgK_eq h]; exact key_dg s h hB
theorem dgK_inj {s r : List Nat} (h : s.length = 32) (k : r.length = 32) (e : dgK s = dgK r) : s = r := by rw [dgK_eq h, dgK_eq k] at e; exact dg_inj e
/-- what the store holds -/
def pgL (L : List (List Nat)) : List (Value × DV) := L.map fun t => (dgK (pgD t), byteL t)
def stH (o m : Nat) (L : List (List Nat)) (a b : DV) (one : Bool) : OH := [(m, .mp (okK Tryz.prog 32) (pgL L)), (o, .box 80 [.own m 0, .d a, .d b, exB one])]
theorem cpnew_ok : ACall Tryz.prog 11 [] [] (.ptr 3 0 0 0) (stH 3 1 [] (byteL []) (byteL []) false) := by
 refine acall_on (mu := [3]) [] [] mixed Tryz.func11 rfl rfl rfl ?_
 conv => whnf
 repeat' ((first
 | refine ob ?_
 | (refine And.intro (fun hq => ?_) (fun hq => ?_) <;> first | exact cl1 | ((try simp only [bl] at hq); (try dsimp only at hq); first | exact cl2 | skip))
 | refine fun hq => ?_ | refine ob2 ?_ | fail) <;> conv => whnf)
 all_goals (repeat' (first | exact sm | apply And.intro))
theorem pgL_mem {L : List (List Nat)} {t : List Nat} (h : t ∈ L) : (dgK (pgD t), byteL t) ∈ pgL L := List.mem_map.2 ⟨t, h, rfl⟩
theorem pgL_no {L : List (List Nat)} {s : List Nat} (hs : s.length = 32) (h : ∀ t ∈ L, pgD t ≠ s) : ∀ x ∈ pgL L, x.1 ≠ dgK s := fun x hx e => by
 obtain ⟨t, ht, rfl⟩ := List.mem_map.1 hx
 exact h t ht (dgK_inj (pgD_len t) hs e)
theorem pgL_app (L : List (List Nat)) (t : List Nat) : pgL L ++ [(dgK (pgD t), byteL t)] = pgL (L ++ [t]) := by simp [pgL]
theorem bsclone (n : Nat) (f : Nat → List DV) (hl : n ≤ 100000000000) : ACall Tryz.prog 40 [.d (.sl 1 n f)] [] (.d (.sl 1 n f)) [] := by
 rcases n with _ | n
 ·refine ACall.none0 (pre := []) (post := []) fun A c => ?_
  refine acall_on (mu := [5]) [] [] mixed Tryz.func40 rfl rfl rfl ?_
  conv => whnf
  repeat' ((first
  | refine ob ?_
  | (refine And.intro (fun hq => ?_) (fun hq => ?_) <;> first | exact cl1 | exact cl3 | skip)
  | refine ob2 ?_ | refine ob4 ?_ | refine fun hq => ?_ | fail) <;> conv => whnf)
  all_goals (repeat' (first | exact sm | apply And.intro))
 ·have h0 : 0 < n + 1 := by omega
  refine acall_on (mu := [5]) [] [] mixed Tryz.func40 rfl rfl rfl ?_
  conv => whnf
  repeat' ((first
  | refine ob ?_
  | (refine And.intro (fun hq => ?_) (fun hq => ?_) <;> first | exact cl1 | exact cl3 | skip)
  | refine ob2 ?_ | refine ob4 ?_ | refine fun hq => ?_ | fail) <;> conv => whnf)
  all_goals (repeat' (first | exact trivial | (exact fun k _ => app_ge (Nat.zero_le k)) | (exact Nat.zero_add _) | exact sm | apply And.intro))
abbrev nilX : DV := .v (.slice none 0 0)
theorem cpget_in9 (L : List (List Nat)) (x y : List Nat) (one : Bool) (t : List Nat) (ht : t ∈ L) (hl : t.length ≤ 1000000000) : ACall Tryz.prog 56 [.ptr 900 0 0 0, agD (digL (pgD t))] (stH 900 901 L (byteL x) (byteL y) one) (.tup [.d (byteL t), exI .i64 0]) (stH 900 901 L (byteL x) (byteL y) one) := by
 refine acall_on (mu := []) [] [] mixed Tryz.func56 rfl rfl rfl ?_
 conv => whnf
 repeat' ((first
 | refine ob ?_
 | (refine And.intro (fun hq => ?_) (fun hq => ?_) <;> first | exact cl1 | ((try simp only [bl] at hq); (try dsimp only at hq); first | exact cl2 | skip))
 | refine fun hq => ?_ | refine ob2 ?_ | fail) <;> conv => whnf)
 refine ⟨.found (byteL t), ?_⟩
 conv => whnf
 refine And.intro (pgL_mem ht) ?_
 conv => whnf
 refine And.intro (dgK_ok (pgD_len t) (pgD_B t)) ?_
 conv => whnf
 refine And.intro keyD ?_
 conv => whnf
 refine And.intro (fun v h => h) ?_
 conv => whnf
 repeat' ((first
 | refine ob ?_
 | refine ⟨_, _, _, .gen [] _ _ _ rfl (bsclone t.length (byF t) (by omega)) rfl rfl rfl rfl rfl, ?_⟩
 | ((refine ⟨_, _, _, .gen [] _ _ _ rfl (.arg ?harg (bsclone t.length (byF t) (by omega))) rfl rfl rfl rfl rfl, ?_⟩); case harg => (repeat' (first | exact sm | apply And.intro))) | (refine And.intro (fun hq => ?_) (fun hq => ?_) <;> first | exact cl1 | ((try simp only [bl] at hq); (try dsimp only at hq); first | exact cl2 | skip))
 | refine fun hq => ?_ | refine ob2 ?_ | fail) <;> conv => whnf)
 all_goals (repeat' (first | exact sm | apply And.intro))
theorem cpget_no9 (L : List (List Nat)) (x y : List Nat) (one : Bool) (s : List Nat) (hs : s.length = 32) (hB : Pl.IsB s) (hn : ∀ t ∈ L, pgD t ≠ s) : ACall Tryz.prog 56 [.ptr 900 0 0 0, agD (digL s)] (stH 900 901 L (byteL x) (byteL y) one) (.tup [.d (.v (.slice none 0 0)), exI .i64 9]) (stH 900 901 L (byteL x) (byteL y) one) := by
 refine acall_on (mu := []) [] [] mixed Tryz.func56 rfl rfl rfl ?_
 conv => whnf
 repeat' ((first
 | refine ob ?_
 | (refine And.intro (fun hq => ?_) (fun hq => ?_) <;> first | exact cl1 | ((try simp only [bl] at hq); (try dsimp only at hq); first | exact cl2 | skip))
 | refine fun hq => ?_ | refine ob2 ?_ | fail) <;> conv => whnf)
 refine ⟨.absent, ?_⟩
 conv => whnf
 refine And.intro (pgL_no hs hn) ?_
 conv => whnf
 refine And.intro (dgK_ok hs hB) ?_
 conv => whnf
 refine And.intro keyD ?_
 conv => whnf
 refine And.intro (fun v h => h) ?_
 conv => whnf
 repeat' ((first
 | refine ob ?_
 | (refine And.intro (fun hq => ?_) (fun hq => ?_) <;> first | exact cl1 | ((try simp only [bl] at hq); (try dsimp only at hq); first | exact cl2 | skip))
 | refine fun hq => ?_ | refine ob2 ?_ | fail) <;> conv => whnf)
 all_goals (repeat' (first | exact sm | apply And.intro))
theorem cplen9 (L : List (List Nat)) (x y : List Nat) (one : Bool) : ACall Tryz.prog 14 [.ptr 900 0 0 0] (stH 900 901 L (byteL x) (byteL y) one) (exI .i64 L.length) (stH 900 901 L (byteL x) (byteL y) one) := by
 have e : (pgL L).length = L.length := by simp [pgL]
 refine acall_on (mu := []) [] [] mixed Tryz.func14 rfl rfl rfl ?_
 conv => whnf
 repeat' ((first
 | refine ob ?_
 | (refine And.intro (fun hq => ?_) (fun hq => ?_) <;> first | exact cl1 | ((try simp only [bl] at hq); (try dsimp only at hq); first | exact cl2 | skip))
 | refine fun hq => ?_ | refine ob2 ?_ | fail) <;> conv => whnf)
 refine And.intro (fun v h => h) ?_
 conv => whnf
 repeat' ((first
 | refine ob ?_
 | (refine And.intro (fun hq => ?_) (fun hq => ?_) <;> first | exact cl1 | ((try simp only [bl] at hq); (try dsimp only at hq); first | exact cl2 | skip))
 | refine fun hq => ?_ | refine ob2 ?_ | fail) <;> conv => whnf)
 rw [e]
 all_goals (repeat' (first | exact sm | apply And.intro))
/-! ### Put -/
theorem acall_arr1 {P : Program} {f : FuncId} (hE : Enters P f) (b S : List Nat) (hS : S.length = 32)
    (h : ∀ A c w, Arr w w.heap.size A b.length (u8s b) → Calls P f #[.slice A b.length c] w fun e w' => e = .returned (.agg (S.map b8).toArray) ∧ Below w.heap.size w w') :
    ACall P f [.d (byteL b)] [] (agD (digL S)) [] := by
  refine ⟨hE, fun A W vl vs G hl hv => ?_⟩
  obtain ⟨v, rfl⟩ : ∃ v, vs = [v] := by
    match vs, hl with
    | [v], _ => exact ⟨v, rfl⟩
  have h0 := hv 0 (by simp)
  replace h0 : RD _ _ (byteL b) v := h0
  generalize hd : byteL b = d at h0
  cases h0 with
  | v x => cases hd
  | p cs b off u hb hu hr => cases hd
  | fn f cs us hl hr => cases hd
  | sl sz n f A0 b0 off c u hA hc hl2 hu hr =>
    cases hd
    refine (h A0 c W ?_).mono ?_
    · intro hn
      obtain ⟨e1, e2⟩ := hA hn
      refine ⟨b0, off, e1, e2.2.1, fun i hi => ?_⟩
      have q1 := (hu i 0 hi (by decide)).1
      have q2 := hr i 0 hi (by decide)
      have q3 : u i 0 = u8s b i := by
        generalize u i 0 = y at q2
        cases q2; rfl
      rw [q3] at q1
      rw [← q1]
      congr 1
      simp
    · rintro e W' ⟨rfl, K⟩
      obtain ⟨g1, g2, g3⟩ := G.grow (W' := W') K.size (fun k hk => K.block k hk) K.os K.tape K.output
      refine ⟨.agg (S.map b8).toArray, ⟨_, W', [], vl⟩, rfl, rfl, rfl, rfl, g1, g2, ⟨S.map b8, rfl, by simp [hS, digL, b32], fun j hj => ?_⟩⟩
      have hj : j < 32 := by simpa [digL, b32] using hj
      have e1 : ((digL S).map AV.d).getD j .any = .d (.v (.int .u8 (S.getD j 0 : Nat))) := by
        rw [show digL S = (List.range 32).map fun i => .v (.int .u8 (S.getD i 0 : Nat)) from rfl, List.map_map, List.getD_eq_getElem?_getD, List.getElem?_map, List.getElem?_range hj]; rfl
      have e2 : (S.map b8).getD j undef = .int .u8 (S.getD j 0 : Nat) := by
        rw [List.getD_eq_getElem?_getD, List.getElem?_map, List.getD_eq_getElem?_getD, List.getElem?_eq_getElem (by omega)]; rfl
      rw [e1, e2]
      exact rv_ex _
theorem cpsum_d (b : List Nat) (hB : Pl.IsB b) (hn : b.length ≤ 100000000) : ACall Tryz.prog 79 [.d (byteL b)] [] (agD (digL (pgD b))) [] :=
 acall_arr1 (enters_of Tryz.func79 rfl rfl) b (pgD b) (pgD_len b) fun A c w hA => psum_any A b c w hA hB hn
theorem strB_eq (t : List Nat) : strD t.length (byF t) = ⟨(t.map fun n => UInt8.ofNat n).toArray⟩ := by
 unfold strD strOfNums
 congr 2
 apply List.ext_getElem?
 intro i
 simp only [List.getElem?_map]
 rcases Nat.lt_or_ge i t.length with h | h
 ·rw [List.getElem?_range h, List.getElem?_eq_getElem h]
  simp [byF, byteI, List.getD_eq_getElem?_getD, List.getElem?_eq_getElem h]
 ·rw [List.getElem?_eq_none (by simpa using h), List.getElem?_eq_none h]; rfl
theorem strB_inj {s t : List Nat} (hs : Pl.IsB s) (ht : Pl.IsB t) (h : strD s.length (byF s) = strD t.length (byF t)) : s = t := by
 rw [strB_eq, strB_eq] at h
 have h2 : s.map (fun n => UInt8.ofNat n) = t.map fun n => UInt8.ofNat n := by
  have := congrArg (fun b : ByteArray => b.data.toList) h
  simpa using this
 have hl : s.length = t.length := by simpa using congrArg List.length h2
 apply List.ext_getElem hl
 intro i h3 h4
 have q := congrArg (fun l => l[i]?) h2
 simp only [List.getElem?_map, List.getElem?_eq_getElem h3, List.getElem?_eq_getElem h4, Option.map_some, Option.some.injEq] at q
 have a1 := hs i
 have a2 := ht i
 rw [List.getD_eq_getElem?_getD, List.getElem?_eq_getElem h3] at a1
 rw [List.getD_eq_getElem?_getD, List.getElem?_eq_getElem h4] at a2
 have q2 := congrArg UInt8.toNat q
 simp only [UInt8.toNat_ofNat'] at q2
 simp only [Option.getD_some] at a1 a2
 omega
theorem bseq_ok (s t : List Nat) (hs : Pl.IsB s) (ht : Pl.IsB t) : ACall Tryz.prog 150 [.d (byteL s), .d (byteL t)] [] (exB (decide (s = t))) [] := by
 refine acall_of (mu := []) mixed Tryz.func150 rfl rfl rfl ?_
 have e : decide (s = t) = decide (strD s.length (byF s) = strD t.length (byF t)) := by
  rw [decide_eq_decide]
  exact ⟨fun h => by rw [h], strB_inj hs ht⟩
 rw [e]
 conv => whnf
 repeat' ((first
 | refine ob ?_
 | (refine And.intro (fun hq => ?_) (fun hq => ?_) <;> first | exact cl1 | ((try simp only [bl] at hq); (try dsimp only at hq); first | exact cl2 | skip))
 | refine fun hq => ?_ | refine ob2 ?_ | fail) <;> conv => whnf)
 all_goals (repeat' (first | exact sm | apply And.intro))
/-- a page that isn't there -/
theorem cpput_new9 (L : List (List Nat)) (x y : List Nat) (one : Bool) (t : List Nat) (hB : Pl.IsB t) (hl : t.length ≤ 100000000) (hn : ∀ u ∈ L, pgD u ≠ pgD t) : ACall Tryz.prog 133 [.ptr 900 0 0 0, .d (byteL t)] (stH 900 901 L (byteL x) (byteL y) one) (agD (digL (pgD t))) (stH 900 901 (L ++ [t]) (byteL x) (byteL y) one) := by
 refine acall_on (mu := []) [] [] mixed Tryz.func133 rfl rfl rfl ?_
 have q := cpsum_d t hB hl
 conv => whnf
 repeat' ((first
 | refine ob ?_
 | refine ⟨_, _, _, .flat _ _ rfl (q) rfl, ?_⟩
 | ((refine ⟨_, _, _, .flat _ _ rfl (.arg ?harg (q)) rfl, ?_⟩); case harg => (repeat' (first | exact sm | apply And.intro))) | (refine And.intro (fun hq => ?_) (fun hq => ?_) <;> first | exact cl1 | ((try simp only [bl] at hq); (try dsimp only at hq); first | exact cl2 | skip))
 | refine fun hq => ?_ | refine ob2 ?_ | fail) <;> conv => whnf)
 refine ⟨.absent, ?_⟩
 conv => whnf
 refine And.intro (pgL_no (pgD_len t) hn) ?_
 conv => whnf
 refine And.intro (dgK_ok (pgD_len t) (pgD_B t)) ?_
 conv => whnf
 refine And.intro keyD ?_
 conv => whnf
 refine And.intro (fun v h => h) ?_
 conv => whnf
 repeat' ((first
 | refine ob ?_
 | refine ⟨_, _, _, .gen [] _ _ _ rfl (bsclone t.length (byF t) (by omega)) rfl rfl rfl rfl rfl, ?_⟩
 | ((refine ⟨_, _, _, .gen [] _ _ _ rfl (.arg ?harg (bsclone t.length (byF t) (by omega))) rfl rfl rfl rfl rfl, ?_⟩); case harg => (repeat' (first | exact sm | apply And.intro))) | (refine And.intro (fun hq => ?_) (fun hq => ?_) <;> first | exact cl1 | ((try simp only [bl] at hq); (try dsimp only at hq); first | exact cl2 | skip))
 | refine fun hq => ?_ | refine ob2 ?_ | fail) <;> conv => whnf)
 refine ⟨.absent, ?_⟩
 conv => whnf
 refine And.intro (pgL_no (pgD_len t) hn) ?_
 conv => whnf
 refine And.intro (dgK_ok (pgD_len t) (pgD_B t)) ?_
 conv => whnf
 refine And.intro keyD ?_
 conv => whnf
 refine And.intro (fun v h => h) ?_
 conv => whnf
 repeat' ((first
 | refine ob ?_
 | (refine And.intro (fun hq => ?_) (fun hq => ?_) <;> first | exact cl1 | ((try simp only [bl] at hq); (try dsimp only at hq); first | exact cl2 | skip))
 | refine fun hq => ?_ | refine ob2 ?_ | fail) <;> conv => whnf)
 all_goals (repeat' (first | exact trivial | (exact pgL_app _ _) | exact sm | apply And.intro))
theorem pgL_memD {L : List (List Nat)} {u t : List Nat} (h : u ∈ L) (e : pgD u = pgD t) : (dgK (pgD t), byteL u) ∈ pgL L := by rw [← e]; exact pgL_mem h
theorem cpput_same0 (L : List (List Nat)) (x y t : List Nat) (hB : Pl.IsB t) (hl : t.length ≤ 100000000) (hu : t ∈ L) : ACall Tryz.prog 133 [.ptr 900 0 0 0, .d (byteL t)] (stH 900 901 L (byteL x) (byteL y) false) (agD (digL (pgD t))) (stH 900 901 L (byteL x) (byteL y) false) := by
 refine acall_on (mu := []) [] [] mixed Tryz.func133 rfl rfl rfl ?_
 have q := cpsum_d t hB hl
 have q2 := bseq_ok t t hB hB
 rw [decide_eq_true rfl] at q2
 conv => whnf
 repeat' ((first
 | refine ob ?_
 | refine ⟨_, _, _, .flat _ _ rfl (q) rfl, ?_⟩
 | ((refine ⟨_, _, _, .flat _ _ rfl (.arg ?harg (q)) rfl, ?_⟩); case harg => (repeat' (first | exact sm | apply And.intro))) | (refine And.intro (fun hq => ?_) (fun hq => ?_) <;> first | exact cl1 | ((try simp only [bl] at hq); (try dsimp only at hq); first | exact cl2 | skip))
 | refine fun hq => ?_ | refine ob2 ?_ | fail) <;> conv => whnf)
 refine ⟨.found (byteL t), ?_⟩
 conv => whnf
 refine And.intro (pgL_mem hu) ?_
 conv => whnf
 refine And.intro (dgK_ok (pgD_len t) (pgD_B t)) ?_
 conv => whnf
 refine And.intro keyD ?_
 conv => whnf
 refine And.intro (fun v h => h) ?_
 conv => whnf
 repeat' ((first
 | refine ob ?_
 | refine ⟨_, _, _, .flat _ _ rfl (q2) rfl, ?_⟩
 | ((refine ⟨_, _, _, .flat _ _ rfl (.arg ?harg (q2)) rfl, ?_⟩); case harg => (repeat' (first | exact sm | apply And.intro))) | (refine And.intro (fun hq => ?_) (fun hq => ?_) <;> first | exact cl1 | ((try simp only [bl] at hq); (try dsimp only at hq); first | exact cl2 | skip))
 | refine fun hq => ?_ | refine ob2 ?_ | fail) <;> conv => whnf)
 all_goals (repeat' (first | exact sm | apply And.intro))
theorem cpput_same1 (L : List (List Nat)) (x y t u : List Nat) (hB : Pl.IsB t) (hl : t.length ≤ 100000000) (hu : u ∈ L) (he : pgD u = pgD t) : ACall Tryz.prog 133 [.ptr 900 0 0 0, .d (byteL t)] (stH 900 901 L (byteL x) (byteL y) true) (agD (digL (pgD t))) (stH 900 901 L (byteL x) (byteL y) true) := by
 refine acall_on (mu := []) [] [] mixed Tryz.func133 rfl rfl rfl ?_
 have q := cpsum_d t hB hl
 conv => whnf
 repeat' ((first
 | refine ob ?_
 | refine ⟨_, _, _, .flat _ _ rfl (q) rfl, ?_⟩
 | ((refine ⟨_, _, _, .flat _ _ rfl (.arg ?harg (q)) rfl, ?_⟩); case harg => (repeat' (first | exact sm | apply And.intro))) | (refine And.intro (fun hq => ?_) (fun hq => ?_) <;> first | exact cl1 | ((try simp only [bl] at hq); (try dsimp only at hq); first | exact cl2 | skip))
 | refine fun hq => ?_ | refine ob2 ?_ | fail) <;> conv => whnf)
 refine ⟨.found (byteL u), ?_⟩
 conv => whnf
 refine And.intro (pgL_memD hu he) ?_
 conv => whnf
 refine And.intro (dgK_ok (pgD_len t) (pgD_B t)) ?_
 conv => whnf
 refine And.intro keyD ?_
 conv => whnf
 refine And.intro (fun v h => h) ?_
 conv => whnf
 repeat' ((first
 | refine ob ?_
 | (refine And.intro (fun hq => ?_) (fun hq => ?_) <;> first | exact cl1 | ((try simp only [bl] at hq); (try dsimp only at hq); first | exact cl2 | skip))
 | refine fun hq => ?_ | refine ob2 ?_ | fail) <;> conv => whnf)
 all_goals (repeat' (first | exact sm | apply And.intro))
/-- two unlike pages of one sum -/
theorem cpput_clash (L : List (List Nat)) (x y t u : List Nat) (hB : Pl.IsB t) (hl : t.length ≤ 100000000) (huB : Pl.IsB u) (hu : u ∈ L) (he : pgD u = pgD t) (hne : u ≠ t) : ACall Tryz.prog 133 [.ptr 900 0 0 0, .d (byteL t)] (stH 900 901 L (byteL x) (byteL y) false) (agD (digL (pgD t))) (stH 900 901 L (byteL u) (byteL t) true) := by
 refine acall_on (mu := []) [] [] mixed Tryz.func133 rfl rfl rfl ?_
 have q := cpsum_d t hB hl
 have q2 := bseq_ok u t huB hB
 rw [decide_eq_false hne] at q2
 conv => whnf
 repeat' ((first
 | refine ob ?_
 | refine ⟨_, _, _, .flat _ _ rfl (q) rfl, ?_⟩
 | ((refine ⟨_, _, _, .flat _ _ rfl (.arg ?harg (q)) rfl, ?_⟩); case harg => (repeat' (first | exact sm | apply And.intro))) | (refine And.intro (fun hq => ?_) (fun hq => ?_) <;> first | exact cl1 | ((try simp only [bl] at hq); (try dsimp only at hq); first | exact cl2 | skip))
 | refine fun hq => ?_ | refine ob2 ?_ | fail) <;> conv => whnf)
 refine ⟨.found (byteL u), ?_⟩
 conv => whnf
 refine And.intro (pgL_memD hu he) ?_
 conv => whnf
 refine And.intro (dgK_ok (pgD_len t) (pgD_B t)) ?_
 conv => whnf
 refine And.intro keyD ?_
 conv => whnf
 refine And.intro (fun v h => h) ?_
 conv => whnf
 repeat' ((first
 | refine ob ?_
 | refine ⟨_, _, _, .flat _ _ rfl (q2) rfl, ?_⟩
 | refine ⟨_, _, _, .gen [] _ _ _ rfl (bsclone t.length (byF t) (by omega)) rfl rfl rfl rfl rfl, ?_⟩
 | ((refine ⟨_, _, _, .flat _ _ rfl (.arg ?harg (q2)) rfl, ?_⟩); case harg => (repeat' (first | exact sm | apply And.intro)))
 | ((refine ⟨_, _, _, .gen [] _ _ _ rfl (.arg ?harg (bsclone t.length (byF t) (by omega))) rfl rfl rfl rfl rfl, ?_⟩); case harg => (repeat' (first | exact sm | apply And.intro))) | (refine And.intro (fun hq => ?_) (fun hq => ?_) <;> first | exact cl1 | ((try simp only [bl] at hq); (try dsimp only at hq); first | exact cl2 | skip))
 | refine fun hq => ?_ | refine ob2 ?_ | fail) <;> conv => whnf)
 all_goals (repeat' (first | exact sm | apply And.intro))
end Go.Proofs.YtedokpgkjcnoiaaGreat
