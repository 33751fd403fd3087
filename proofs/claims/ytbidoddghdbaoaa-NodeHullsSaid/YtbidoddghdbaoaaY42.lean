/- Contract of package sha's Sum. Contracts of page's Preimage and Sum, of the document's page Sum. Digests as a map's keys. -/
import Derived.DeepKeys4
import Derived.Test.YtbidoddghdbaoaaY10
import Derived.Test.YtbidoddghdbaoaaY37
import Derived.Test.YtbidoddghdbaoaaY41
set_option linter.unusedVariables false
set_option linter.unusedSimpArgs false
namespace Go.Proofs.Ytbidoddghdbaoaa
open Go.RowKit
set_option maxRecDepth 100000 in
set_option maxHeartbeats 1000000 in
theorem ssum_any (A : Option Addr) (t : List Nat) (c : Nat) (w : World) (hA : Arr w w.heap.size A t.length (u8s t)) (ht : IsB t) (hn : t.length ≤ 1000000000) :
    Calls Try.prog 66 #[.slice A t.length c] w fun e w' => e = .returned (.agg ((dig (sumW t)).map b8).toArray) ∧ Below w.heap.size w w' := by
  have HhA := hideP hA; have Hht := hideP ht; have Hhn := hideP hn; clear hA ht hn
  obtain ⟨DD, hDD⟩ : ∃ D, D = (dig (sumW t)).map b8 := ⟨_, rfl⟩
  have hDl := hideP (show DD.length = 32 by rw [hDD]; simp [dig])
  have hDa := hideP (show DD.toArray.all (·.oneCell') = true by rw [hDD]; exact all_b8 _)
  rw [← hDD]
  have HhDD := hideP hDD; clear hDD
  go_enter Try.func66, Try.ntmps66
  go_upto_region 1 with fail
  obtain ⟨w1, hw1⟩ : ∃ w1, w1 = w.alloc (Obj.cells #[.int .u8 0, .int .u8 0, .int .u8 0, .int .u8 0, .int .u8 0, .int .u8 0, .int .u8 0, .int .u8 0, .int .u8 0, .int .u8 0, .int .u8 0, .int .u8 0, .int .u8 0, .int .u8 0, .int .u8 0, .int .u8 0, .int .u8 0, .int .u8 0, .int .u8 0, .int .u8 0, .int .u8 0, .int .u8 0, .int .u8 0, .int .u8 0, .int .u8 0, .int .u8 0, .int .u8 0, .int .u8 0, .int .u8 0, .int .u8 0, .int .u8 0, .int .u8 0] 29) := ⟨_, rfl⟩
  have c1 := hideP (show Row w1 w.heap.size 29 z32 by rw [hw1]; exact Row.new w _ z32)
  have cb := hideP (show Below w.heap.size w w1 by rw [hw1]; exact below_new _ _)
  rw [← hw1]
  clear hw1
  have hds := hideP (show (Try.prog.info? 29).map (·.size) = some DD.toArray.size by rw [size_dig]; simp [hDl.out])
  have hdo := hideP (show z32.toArray.size = DD.toArray.size by simp [hDl.out, z32])
  have A1 := hideP (HhA.out.after cb.out)
  go_wp2_with (first
    | (go_at_call 102; refine (new_any _).mono ?_; rintro e w2 ⟨g, rfl, hb2, hg2, s2⟩; have A2 := hideP (A1.out.below hb2); have c2 := hideP (Row.after c1.out hb2); have cb2 := hideP (cb.out.trans (hb2.mono cb.out.size)); have s2' := hideP s2)
    | (go_at_call 103; refine (write_any w1.heap.size g A t _ _ hg2 s2'.out A2.out Hht.out Hhn.out).mono ?_; rintro e w3 ⟨rfl, hb3, A', c', r, hr, s3, a3⟩; have c3 := hideP (Row.below c2.out hb3 (Row.lt c1.out)); have cb3 := hideP (cb2.out.trans (hb3.mono cb.out.size)); have s3' := hideP s3; have a3' := hideP a3)
    | (go_at_call 104; refine (done_any g _ A' r t c' _ s3'.out a3'.out rfl hr Hht.out Hhn.out).mono ?_; rintro e w4 ⟨rfl, hb4⟩; rw [← HhDD.out]; have c4 := hideP (Row.after c3.out hb4); have cb4 := hideP (cb3.out.trans (hb4.mono cb3.out.size)))
    | (refine wpList_store_row rfl 29 (.tmp 2) (.tmp 9) rfl w.heap.size DD.toArray rfl rfl 29 z32.toArray c4.out hds.out hdo.out hDa.out ?_))
  refine ret_row rfl rfl (Row.setRow c4.out DD) Try.underlying29 (by rw [size_dig, hDl.out]) rfl ⟨rfl, ?_⟩
  exact below_setRow' cb4.out (Nat.le_refl _) _
end Go.Proofs.Ytbidoddghdbaoaa
namespace Go.Proofs.Ytbidoddghdbaoaa
open Go.RowKit
/-- one text in a row of texts -/
theorem arr_one (w : World) (v : Value) (T : TypeId) : Arr (w.alloc (.cells #[v] T)) (w.alloc (.cells #[v] T)).heap.size (some ⟨w.heap.size, 0, none⟩) 1 (fun _ => v) := fun _ =>
  ⟨w.heap.size, 0, rfl, by simp, fun i hi => by
    obtain rfl : i = 0 := by omega
    exact (One.new w _ _).c0⟩
theorem OwnB.mono {w : World} {base base' : Nat} {A : Option Addr} {c : Nat} {l : List Nat} (h : OwnB w base A c l) (hb : base' ≤ base) : OwnB w base' A c l := by
  refine ⟨h.1, ?_⟩
  rcases h.2 with e | ⟨g, cap, cur, hv, hg, hr⟩
  · exact Or.inl e
  · exact Or.inr ⟨g, cap, cur, hv, Nat.le_trans hb hg, hr⟩
set_option maxRecDepth 100000 in
set_option maxHeartbeats 1000000 in
theorem ppre_any (A : Option Addr) (t : List Nat) (c : Nat) (w : World) (hA : Arr w w.heap.size A t.length (u8s t)) (hn : t.length ≤ 1000000000) :
    Calls Try.prog 67 #[.slice A t.length c] w fun e w' => ∃ A' c', e = .returned (.slice A' (preN 80 [t]).length c') ∧ Below w.heap.size w w' ∧ OwnB w' w.heap.size A' c' (preN 80 [t]) := by
  have hP := hideP (show (preN 80 [t]).length ≤ 1000000000000 by unfold preN; simp [prePart, be8_len]; omega)
  have hA1 := hideP (hA.after (below_new w (Obj.cells #[.slice A t.length c] 54)))
  have hR1 := hideP ((arr_one w (.slice A t.length c) 54).congr (g := fun i => .slice A ([t].getD i []).length c) (fun i (hi : i < 1) => by cases (show i = 0 by omega); rfl))
  have hall := hideP (show ∀ i, i < [t].length → Arr (w.alloc (Obj.cells #[.slice A t.length c] 54)) (w.alloc (Obj.cells #[.slice A t.length c] 54)).heap.size A ([t].getD i []).length (u8s ([t].getD i [])) from fun i hi => by
    obtain rfl : i = 0 := by simpa using hi
    exact hA1.out)
  have HhA := hideP hA; clear hA
  go_enter Try.func67, Try.ntmps67
  go_wp2_with (go_at_call 105; refine (pre_any 80 _ _ [t] (fun _ => A) (fun _ => c) _ hR1.out hall.out hP.out (by simp)).mono ?_; rintro e w2 ⟨A2, c2, rfl, hb2, h2⟩)
  go_ret
  refine ⟨A2, c2, rfl, (below_new w (Obj.cells #[.slice A t.length c] 54)).trans (hb2.mono (by simp)), ?_⟩
  exact h2.mono (by simp)
/-- the sum of a page -/
def pageD (t : List Nat) : List Value := (dig (sumW (preN 80 [t]))).map b8
set_option maxRecDepth 100000 in
set_option maxHeartbeats 1000000 in
theorem psum_any (A : Option Addr) (t : List Nat) (c : Nat) (w : World) (hA : Arr w w.heap.size A t.length (u8s t)) (ht : IsB t) (hn : t.length ≤ 100000000) :
    Calls Try.prog 34 #[.slice A t.length c] w fun e w' => e = .returned (.agg (pageD t).toArray) ∧ Below w.heap.size w w' := by
  have hPB := hideP (show IsB (preN 80 [t]) from isB_prePart (by decide) (fun i => by cases i with
    | zero => exact ht
    | succ i => intro j; simp) _)
  have hPn := hideP (show (preN 80 [t]).length ≤ 1000000000 by unfold preN; simp [prePart, be8_len]; omega)
  have hP := hideP (show (preN 80 [t]).length ≤ 1000000000000 by have := hPn.out; omega)
  have HhA := hideP hA; have Hht := hideP ht; have Hhn := hideP hn; clear hA ht hn
  obtain ⟨DD, hDD⟩ : ∃ D, D = pageD t := ⟨_, rfl⟩
  have hDl := hideP (show DD.length = 32 by rw [hDD]; simp [pageD, dig])
  have hDa := hideP (show DD.toArray.all (·.oneCell') = true by rw [hDD]; exact all_b8 _)
  have hDe := hideP (show (dig (sumW (preN 80 [t]))).map b8 = DD from hDD.symm)
  rw [← hDD]
  clear hDD
  go_enter Try.func34, Try.ntmps34
  go_upto_region 1 with fail
  obtain ⟨w1, hw1⟩ : ∃ w1, w1 = w.alloc (Obj.cells #[.int .u8 0, .int .u8 0, .int .u8 0, .int .u8 0, .int .u8 0, .int .u8 0, .int .u8 0, .int .u8 0, .int .u8 0, .int .u8 0, .int .u8 0, .int .u8 0, .int .u8 0, .int .u8 0, .int .u8 0, .int .u8 0, .int .u8 0, .int .u8 0, .int .u8 0, .int .u8 0, .int .u8 0, .int .u8 0, .int .u8 0, .int .u8 0, .int .u8 0, .int .u8 0, .int .u8 0, .int .u8 0, .int .u8 0, .int .u8 0, .int .u8 0, .int .u8 0] 29) := ⟨_, rfl⟩
  have c1 := hideP (show Row w1 w.heap.size 29 z32 by rw [hw1]; exact Row.new w _ z32)
  have cb := hideP (show Below w.heap.size w w1 by rw [hw1]; exact below_new _ _)
  rw [← hw1]
  clear hw1
  have hds := hideP (show (Try.prog.info? 29).map (·.size) = some DD.toArray.size by rw [size_dig]; simp [hDl.out])
  have hdo := hideP (show z32.toArray.size = DD.toArray.size by simp [hDl.out, z32])
  have A1 := hideP (HhA.out.after cb.out)
  go_wp2_with (first
    | (go_at_call 67; refine (ppre_any A t c _ A1.out (by have := Hhn.out; omega)).mono ?_; rintro e w2 ⟨A2, c2, rfl, hb2, h2⟩; have x2 := hideP (h2.arr); have d2 := hideP (Row.after c1.out hb2); have cb2 := hideP (cb.out.trans (hb2.mono cb.out.size)))
    | (go_at_call 66; refine (ssum_any A2 (preN 80 [t]) c2 _ x2.out hPB.out hPn.out).mono ?_; rintro e w4 ⟨rfl, hb4⟩; rw [hDe.out]; have c4 := hideP (Row.after d2.out hb4); have cb4 := hideP (cb2.out.trans (hb4.mono cb2.out.size)))
    | (refine wpList_store_row rfl 29 (.tmp 2) (.tmp 5) rfl w.heap.size DD.toArray rfl rfl 29 z32.toArray c4.out hds.out hdo.out hDa.out ?_))
  refine ret_row rfl rfl (Row.setRow c4.out DD) Try.underlying29 (by rw [size_dig, hDl.out]) rfl ⟨rfl, ?_⟩
  exact below_setRow' cb4.out (Nat.le_refl _) _
end Go.Proofs.Ytbidoddghdbaoaa
namespace Go.Proofs.Ytbidoddghdbaoaa
open Go.RowKit
open Go.Maps (Keyed)
theorem laidOutP : laidOutB Try.prog = true := by kernel_rfl
theorem keyD : Keyed Try.prog 29 :=
  Keyed.of_law (deep_law_laid laidOutP (m := 2) (by omega) (of_decide_eq_true (by kernel_rfl)) (by kernel_rfl) (by rw [Try.underlying29]))
theorem mapM_some {α β : Type} (f : α → Option β) (g : α → β) : ∀ l : List α, (∀ x ∈ l, f x = some (g x)) → l.mapM f = some (l.map g)
  | [], _ => rfl
  | x :: l, h => by rw [List.mapM_cons, h x (by simp), mapM_some f g l fun y hy => h y (by simp [hy])]; rfl
/-- a digest -/
def dg (l : List Nat) : Value := .agg (l.map b8).toArray
theorem b8_inj {x y : Nat} (h : b8 x = b8 y) : x = y := by
  simp only [b8, Value.int.injEq, true_and] at h
  omega
theorem dg_inj {l m : List Nat} (h : dg l = dg m) : l = m := by
  have h1 : (l.map b8).toArray = (m.map b8).toArray := Value.agg.inj h
  exact (List.map_inj_right (fun _ _ => b8_inj)).1 (List.toArray_inj h1)
theorem key_dg (l : List Nat) (hl : l.length = 32) (hb : IsB l) : ∃ kl, keyOf Try.prog 29 (dg l) = some kl := by
  have h1 : Try.prog.keyType 29 = true := by kernel_rfl
  have h2 : Try.prog.cellsOf 29 = 32 := by kernel_rfl
  have h3 : Try.prog.cellsOf 5 = 1 := by kernel_rfl
  have h4 : 2 ≤ Try.prog.types.size := of_decide_eq_true (by kernel_rfl)
  obtain ⟨m, hm⟩ : ∃ m, Try.prog.types.size = m + 1 := ⟨Try.prog.types.size - 1, by omega⟩
  have hlen : (l.map b8).toArray.toList.length = 32 := by simp [hl]
  have hM : (List.range 32).mapM (fun i => Try.prog.keyLits (m + 1) 5 (((dg l).cells.toList.drop (i * Try.prog.cellsOf 5)).take (Try.prog.cellsOf 5))) = some ((List.range 32).map fun i => [Lit.int .u8 (l.getD i 0)]) := by
    refine mapM_some _ _ _ fun i hi => ?_
    have hi' : i < 32 := List.mem_range.1 hi
    rw [h3, Nat.mul_one]
    have e1 : ((dg l).cells.toList.drop i).take 1 = [b8 (l.getD i 0)] := by
      show ((l.map b8).toArray.toList.drop i).take 1 = _
      rw [List.drop_eq_getElem_cons (by omega)]
      simp [List.getD, List.getElem?_eq_getElem (show i < l.length by omega)]
    have hx := hb i
    have hwf : (Lit.int .u8 ((l.getD i 0 : Nat) : Int)).wf = true := WalkArith.wf_u8 (by omega)
    rw [e1]
    unfold Program.keyLits
    simp only [Try.underlying5, b8]
    simp only [true_and]
    rw [if_pos hwf]
  refine ⟨Lit.string (keyBytes (((List.range 32).map fun i => [Lit.int .u8 (l.getD i 0)]).flatten)), ?_⟩
  · unfold keyOf
    simp only [Try.underlying29]
    rw [if_pos (by simp [h1, dg, Value.formed, Try.underlying29, h2, hl]), hm]
    unfold Program.keyLits
    simp only [Try.underlying29]
    rw [if_pos (by rw [h2]; exact hlen), hM]
    rfl
end Go.Proofs.Ytbidoddghdbaoaa
