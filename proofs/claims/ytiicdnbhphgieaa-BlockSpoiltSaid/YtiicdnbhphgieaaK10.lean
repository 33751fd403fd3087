/- Digests as a map's keys. Contracts of codec.Writer's Row, Digest, Bytes. Contract of codec.Writer's Digest. -/
import Derived.DeepKeys4
import Derived.Test.YtiicdnbhphgieaaK4
import Derived.Test.YtiicdnbhphgieaaK8
import Derived.Test.YtiicdnbhphgieaaK9
set_option linter.unusedVariables false
set_option linter.unusedSimpArgs false
namespace Go.Proofs.Ytiicdnbhphgieaa
open Go.RowKit
open Go.Maps (Keyed)
theorem laidOutP : laidOutB Try.prog = true := by kernel_rfl
theorem keyD : Keyed Try.prog 41 :=
  Keyed.of_law (deep_law_laid laidOutP (m := 2) (by omega) (of_decide_eq_true (by kernel_rfl)) (by kernel_rfl) (by rw [Try.underlying41]))
theorem mapM_some {α β : Type} (f : α → Option β) (g : α → β) : ∀ l : List α, (∀ x ∈ l, f x = some (g x)) → l.mapM f = some (l.map g)
  | [], _ => rfl
  | x :: l, h => by rw [List.mapM_cons, h x (by simp), mapM_some f g l fun y hy => h y (by simp [hy])]; rfl
/-- a digest -/
def dg (l : List Nat) : Value := .agg (l.map b8).toArray
theorem b8_inj {x y : Nat} (h : b8 x = b8 y) : x = y := by
  simp only [b8, Value.int.injEq, true_and] at h
  omega
theorem dg_inj {l m : List Nat} (h : dg l = dg m) : l = m := by
  have h1 : (l.map b8).toArray = (m.map b8).toArray := Value.agg.inj h
  exact (List.map_inj_right (fun _ _ => b8_inj)).1 (List.toArray_inj h1)
theorem key_dg (l : List Nat) (hl : l.length = 32) (hb : IsB l) : ∃ kl, keyOf Try.prog 41 (dg l) = some kl := by
  have h1 : Try.prog.keyType 41 = true := by kernel_rfl
  have h2 : Try.prog.cellsOf 41 = 32 := by kernel_rfl
  have h3 : Try.prog.cellsOf 5 = 1 := by kernel_rfl
  have h4 : 2 ≤ Try.prog.types.size := of_decide_eq_true (by kernel_rfl)
  obtain ⟨m, hm⟩ : ∃ m, Try.prog.types.size = m + 1 := ⟨Try.prog.types.size - 1, by omega⟩
  have hlen : (l.map b8).toArray.toList.length = 32 := by simp [hl]
  have hM : (List.range 32).mapM (fun i => Try.prog.keyLits (m + 1) 5 (((dg l).cells.toList.drop (i * Try.prog.cellsOf 5)).take (Try.prog.cellsOf 5))) = some ((List.range 32).map fun i => [Lit.int .u8 (l.getD i 0)]) := by
    refine mapM_some _ _ _ fun i hi => ?_
    have hi' : i < 32 := List.mem_range.1 hi
    rw [h3, Nat.mul_one]
    have e1 : ((dg l).cells.toList.drop i).take 1 = [b8 (l.getD i 0)] := by
      show ((l.map b8).toArray.toList.drop i).take 1 = _
      rw [List.drop_eq_getElem_cons (by omega)]
      simp [List.getD, List.getElem?_eq_getElem (show i < l.length by omega)]
    have hx := hb i
    have hwf : (Lit.int .u8 ((l.getD i 0 : Nat) : Int)).wf = true := WalkArith.wf_u8 (by omega)
    rw [e1]
    unfold Program.keyLits
    simp only [Try.underlying5, b8]
    simp only [true_and]
    rw [if_pos hwf]
  refine ⟨Lit.string (keyBytes (((List.range 32).map fun i => [Lit.int .u8 (l.getD i 0)]).flatten)), ?_⟩
  · unfold keyOf
    simp only [Try.underlying41]
    rw [if_pos (by simp [h1, dg, Value.formed, Try.underlying41, h2, hl]), hm]
    unfold Program.keyLits
    simp only [Try.underlying41]
    rw [if_pos (by rw [h2]; exact hlen), hM]
    rfl
end Go.Proofs.Ytiicdnbhphgieaa
namespace Go.Proofs.Ytiicdnbhphgieaa
open Go.RowKit
/-- a row's bytes -/
def rowB (r : List Int) : List Nat := [r.length] ++ (r.map num8).flatten
theorem rowB_succ (r : List Int) (k : Nat) (hk : k < r.length) : [r.length] ++ ((r.take k).map num8).flatten ++ num8 (r.getD k 0) = [r.length] ++ ((r.take (k + 1)).map num8).flatten := by
  rw [List.take_add_one, List.map_append, List.flatten_append, List.getElem?_eq_getElem hk]
  simp [List.getD, List.getElem?_eq_getElem hk]
theorem rows_len (r : List Int) : ((r.map num8).flatten).length = 8 * r.length := by
  induction r with
  | nil => rfl
  | cons x r ih => simp only [List.map_cons, List.flatten_cons, List.length_append, num8_len, ih, List.length_cons]; omega
set_option maxRecDepth 100000 in
set_option maxHeartbeats 1000000 in
theorem wrow_any (S : Nat → Prop) (g : Nat) (l : List Nat) (r : List Int) (R : Option Addr) (c : Nat) (e : Int) (w : World) (hS : Wr w S g l e) (hR : ArrN S w R r.length (i64s r)) (hI : IsI r) (hr : r.length ≤ 255) (hn : l.length ≤ 140737488000000) :
    Calls Try.prog 119 #[.pointer (some ⟨g, 0, none⟩), .slice R r.length c] w fun e' w' => e' = .returned (.tuple #[]) ∧ WrP S w w' g (l ++ rowB r) e := by
  obtain ⟨n, hN⟩ : ∃ n, n = r.length := ⟨_, rfl⟩
  rw [← hN] at hR hr ⊢
  have t1 : (n : Int) ≤ 255 := by omega
  have m1 : (n : Int) % 256 = (n : Int) := by omega
  have hb : n < 256 := by omega
  have HhS := hideP hS; have HhR := hideP hR; have HhI := hideP hI; have HhN := hideP hN; have Hhb := hideP hb; clear hS hR hI hN hb
  go_enter Try.func119, Try.ntmps119
  go_wp2_with (go_at_call 118; refine (wbyte_any S g l n e _ HhS.out Hhb.out (by omega)).mono ?_; rintro e1 w1 ⟨rfl, s1⟩)
  have S1 := hideP s1
  clear s1
  go_loopw [5, 19] (fun _ v19 wr => ∃ (k : Nat), k ≤ n ∧ v19 = .int .i64 (k : Nat) ∧ Hid (WrP S w wr g (l ++ ([n] ++ ((r.take k).map num8).flatten)) e)) (fun _ v19 _ => n - (intOf v19).toNat)
  case atStart => exact ⟨0, by omega, rfl, hideP (by simpa using S1.out)⟩
  case round =>
    obtain ⟨k, hk, rfl, hV⟩ := hrel
    by_cases hlt : k < n
    · have i1 : (k : Int) < (n : Int) := by omega
      have m2 : IntKind.i64.wrap ((k : Int) + 1) = (k : Int) + 1 := IntWalk.i64_in _ (by omega)
      obtain ⟨b0, off, hA, hB0, hns, hc⟩ := HhR.out (by omega)
      subst hA
      obtain ⟨S2, m2, v2⟩ := hV.out
      have M2 := hideP m2
      have V2 := hideP v2
      clear m2 v2
      have c0 := M2.out.cell (p := ⟨b0, off + k, none⟩) hns (hc k hlt)
      unfold i64s at c0
      obtain ⟨x, hx⟩ : ∃ x, x = r.getD k 0 := ⟨_, rfl⟩
      have hxb := hideP (HhI.out k)
      have hE := hideP (rowB_succ r k (by have := HhN.out; omega))
      rw [← hx] at c0 hxb hE
      rw [← HhN.out] at hE
      have hl := hideP (show (l ++ ([n] ++ ((r.take k).map num8).flatten)).length ≤ 140737488353000 by
        rw [List.length_append, List.length_append, rows_len, List.length_take]; simp only [List.length_cons, List.length_nil]; omega)
      clear hx hc hns
      go_wp2_with (go_at_call 83; refine (wnum_any S2 g _ x e _ V2.out hxb.out.1 hxb.out.2 hl.out).mono ?_; rintro e1 w1 ⟨rfl, s1⟩)
      rw [List.append_assoc, hE.out] at s1
      have ho := hideP (WrP.then M2.out s1)
      clear hV s1
      go_roundw
      case rel => exact ⟨k + 1, by omega, by rw [show ((k + 1 : Nat) : Int) = (k : Int) + 1 by omega], ho.out⟩
      case measure => simp [intOf]; omega
    · have i1 : ¬ ((k : Int) < (n : Int)) := by omega
      have hkn : k = n := by omega
      have ho := hideP hV.out
      rw [hkn, show r.take n = r from by rw [HhN.out]; exact List.take_length, show [n] ++ (r.map num8).flatten = rowB r by rw [HhN.out]; rfl] at ho
      clear hV hlt hk
      go_wp2_with fail
      exact bodyPost_end (results_none rfl _ _ _) rfl ⟨rfl, ho.out⟩
theorem sclone_any (A : Option Addr) (l : List Nat) (c : Nat) (w : World) (hA : Arr w w.heap.size A l.length (u8s l)) (hn : l.length ≤ 140737488351232) :
    Calls Try.prog 120 #[.slice A l.length c] w fun e w' => ∃ R d, e = .returned (.slice R l.length d) ∧ OwnB w' w.heap.size R d l ∧ Below w.heap.size w w' := by
  obtain ⟨i0, hi0, hz0, hz1, hz2⟩ := info_parts info_b8
  rcases A with _ | ad
  · have h0 : l.length = 0 := by
      rcases Nat.eq_zero_or_pos l.length with h | h
      · exact h
      · obtain ⟨_, _, h, _⟩ := hA h; cases h
    obtain rfl : l = [] := List.length_eq_zero_iff.1 h0
    have h1 := Lib.run_eql_slice_nil (P := Try.prog) w 31 5 none 0 c 0 0 Try.underlying31
    simp only [Option.isNone_none] at h1
    clear hA h0
    go_enter Try.func120, Try.ntmps120
    go_wp2
    go_ret
    exact ⟨none, 0, rfl, OwnB.nil _ _, Below.refl _ _⟩
  · have h1 := Lib.run_eql_slice_nil (P := Try.prog) w 31 5 (some ad) l.length c 0 0 Try.underlying31
    simp only [Option.isNone_some] at h1
    have HA := hideP hA
    clear hA
    go_enter Try.func120, Try.ntmps120
    go_wp2_with (at_builtin; refine wpList_append_arr _ rfl (.tmp 5) (.tmp 6) 31 rfl w.heap.size 5 i0 _ 1 Try.underlying31 hi0 hz0 hz1 hz2 rfl (.slice (some ⟨w.heap.size, 0, none⟩) 0 0) 0 [] rfl (World.ownsRow_lit w #[] 0 (Nat.le_refl _) (by unfold maxLen; omega) (by simp)) w.heap.size (some ad) l.length c (u8s l) rfl (HA.out.keep fun p hp => World.cell?_alloc_lt w _ p hp) (fun _ => rfl) (by unfold maxLen; omega) (by omega) (by simp) ?_; intro A3 c3 w3 hown3 hg3 hat3)
    simp only [Nat.zero_add, List.nil_append] at hown3
    rw [map_u8s] at hown3
    have HO := hideP hown3
    clear hown3
    go_ret
    refine ⟨A3, c3, by simp, HO.out, ?_⟩
    refine Below.trans ((Below.refl _ _).alloc (Nat.le_refl _) _) ((Below.refl _ _).grown hg3 (by simp) fun k hk => ?_)
    simp [Value.ownBlock] at hk
    omega
set_option maxRecDepth 100000 in
set_option maxHeartbeats 1000000 in
theorem wbytes_ok (S : Nat → Prop) (g : Nat) (l : List Nat) (w : World) (hS : Wr w S g l 0) (hn : l.length ≤ 140737488351232) :
    Calls Try.prog 62 #[.pointer (some ⟨g, 0, none⟩)] w fun e w' => ∃ R d, e = .returned (.slice R l.length d) ∧ OwnB w' w.heap.size R d l ∧ Below w.heap.size w w' := by
  obtain ⟨A, d, hT, hO, hl, _⟩ := hS
  have c0 := hT.c0
  have c1 := hT.c1
  have ha := hideP hO.arr
  have HhT := hideP hT; have HhO := hideP hO; have Hhl := hideP hl; have Hhn := hideP hn; clear hT hO hl hn
  go_enter Try.func62, Try.ntmps62
  go_wp2_with (go_at_call 120; refine (sclone_any A l d _ ha.out Hhn.out).mono ?_; rintro e1 w1 ⟨R, d1, rfl, o1, b1⟩)
  go_ret
  exact ⟨R, d1, rfl, o1, b1⟩
set_option maxRecDepth 100000 in
set_option maxHeartbeats 1000000 in
theorem wbytes_err (S : Nat → Prop) (g : Nat) (l : List Nat) (e : Int) (he : e ≠ 0) (w : World) (hS : Wr w S g l e) :
    Calls Try.prog 62 #[.pointer (some ⟨g, 0, none⟩)] w fun e' w' => e' = .returned (.slice none 0 0) ∧ w' = w := by
  obtain ⟨A, d, hT, hO, hl, _⟩ := hS
  have c1 := hT.c1
  have HhT := hideP hT; have HhO := hideP hO; have Hhl := hideP hl; clear hT hO hl
  go_enter Try.func62, Try.ntmps62
  go_wp2
  go_ret
  exact ⟨rfl, rfl⟩
end Go.Proofs.Ytiicdnbhphgieaa
namespace Go.Proofs.Ytiicdnbhphgieaa
open Go.RowKit
set_option maxRecDepth 100000 in
set_option maxHeartbeats 400000 in
theorem wdigest_any (S : Nat → Prop) (g : Nat) (l d : List Nat) (e : Int) (w : World) (hS : Wr w S g l e) (hd : d.length = 32) (hI : IsB d) (hn : l.length ≤ 140737488000000) :
    Calls Try.prog 89 #[.pointer (some ⟨g, 0, none⟩), dg d] w fun e' w' => e' = .returned (.tuple #[]) ∧ WrP S w w' g (l ++ d) e := by
  unfold dg
  have hz := hideP (Nat.le_of_lt hS.lt)
  have HhS := hideP hS; have Hhd := hideP hd; have HhI := hideP hI; clear hS hd hI
  go_enter Try.func89, Try.ntmps89
  have hX := hideP (show Arr (w.alloc (.cells (d.map b8).toArray 41)) _ (some ⟨w.heap.size, 0, none⟩) 32 (u8s d) from Arr.of_new w (d.map b8).toArray 41 32 (u8s d) (by simp [Hhd.out]) (fun i hi => by
    simp [u8s, b8, List.getD, List.getElem?_eq_getElem (show i < d.length by rw [Hhd.out]; exact hi)]))
  have h1 := hideP (show Wr (w.alloc (.cells (d.map b8).toArray 41)) S g l e from HhS.out.ext (Ext.alloc _ _))
  go_wp2_with (go_at_call 117; refine (put_trueK S g l d e _ _ 32 32 _ Hhd.out.symm h1.out hX.out HhI.out (by rw [Hhd.out]; omega)).mono ?_; rintro e1 w1 ⟨rfl, s1⟩)
  exact bodyPost_end (results_none rfl _ _ _) rfl ⟨rfl, WrP.then (Mv.alloc _ _ _) s1⟩
end Go.Proofs.Ytiicdnbhphgieaa
