/- Contract of the reference's Same, for lists that are the same. The example of chapter 19 comes true. -/
import Derived.Test.YtiicdnbhphgieaaK40
import Derived.Test.YtiicdnbhphgieaaK41
set_option linter.unusedVariables false
set_option linter.unusedSimpArgs false
namespace Go.Proofs.Ytiicdnbhphgieaa
open Go.RowKit
/-- the cells of a change in a slice, in any later world -/
theorem ops_cells {w : World} {B : Nat} {b0 off : Nat} (i k nc cc nr cr : Nat) (t : ByteArray) (AC AR : Option Addr) (hB0 : b0 < B) (hrg : w.rangeAt b0 (off + i * 4) (opV k t AC nc cc AR nr cr)) :
    ∀ W, Below B w W → (W.cell? ⟨b0, off + i * 4, none⟩ = some (.int .u8 (k : Nat)) ∧ W.cell? ⟨b0, off + i * 4 + 1, none⟩ = some (.string t) ∧ W.cell? ⟨b0, off + i * 4 + 2, none⟩ = some (.slice AC nc cc) ∧ W.cell? ⟨b0, off + i * 4 + 3, none⟩ = some (.slice AR nr cr)) := fun W hW =>
  ⟨(hW.cell (p := ⟨b0, off + i * 4, none⟩) hB0).trans (hrg 0 _ rfl), (hW.cell (p := ⟨b0, off + i * 4 + 1, none⟩) hB0).trans (hrg 1 _ rfl), (hW.cell (p := ⟨b0, off + i * 4 + 2, none⟩) hB0).trans (hrg 2 _ rfl), (hW.cell (p := ⟨b0, off + i * 4 + 3, none⟩) hB0).trans (hrg 3 _ rfl)⟩
set_option maxRecDepth 100000 in
set_option maxHeartbeats 4000000 in
theorem rsame_eq (A A' : Option Addr) (l : List OpD) (ps ps' : Nat → OpP) (n c c' : Nat) (w : World) (hn : n = l.length) (hA : OpsL w w.heap.size A l ps) (hA' : OpsL w w.heap.size A' l ps') (hl : n ≤ 10000) :
    Calls Try.prog 22 #[.slice A n c, .slice A' n c'] w fun e w' => e = .returned (.bool true) ∧ Below w.heap.size w w' := by
  have hAA := hideP hA
  have hAB := hideP hA'
  have hn' := hideP hn
  clear hA hA' hn
  go_enter Try.func22, Try.ntmps22
  go_wp2_with fail
  go_loopw [5] (fun v5 wr => ∃ i : Nat, i ≤ n ∧ v5 = .int .i64 (i : Nat) ∧ Hid (Below w.heap.size w wr)) (fun v5 _ => n - (intOf v5).toNat)
  case atStart => exact ⟨0, Nat.zero_le _, rfl, Below.refl _ _⟩
  case round =>
    obtain ⟨i, hi, rfl, hV⟩ := hrel
    by_cases hlt : i < n
    · have i1 : (i : Int) < (n : Int) := by omega
      obtain ⟨b0, off, hA, hB0, hc⟩ := hAA.out.1 (by have := hn'.out; omega)
      obtain ⟨b1, of1, hA1, hB1, hc1⟩ := hAB.out.1 (by have := hn'.out; omega)
      subst hA hA1
      have hm := (hAA.out.2 i (by have := hn'.out; omega)).1
      have hm1 := (hAB.out.2 i (by have := hn'.out; omega)).1
      have hok := hideP (hAA.out.2 i (by have := hn'.out; omega)).2
      have hrg : w.rangeAt b0 (off + i * 4) (opC (l.getD i default) (ps i)) := hc i (by have := hn'.out; omega)
      have hrg1 : w.rangeAt b1 (of1 + i * 4) (opC (l.getD i default) (ps' i)) := hc1 i (by have := hn'.out; omega)
      obtain ⟨o, ho⟩ : ∃ o, o = l.getD i default := ⟨_, rfl⟩
      obtain ⟨⟨AC, cc, AR, cr⟩, hp⟩ : ∃ p, p = ps i := ⟨_, rfl⟩
      obtain ⟨⟨AC1, cc1, AR1, cr1⟩, hp1⟩ : ∃ p, p = ps' i := ⟨_, rfl⟩
      rw [← ho] at hm hm1 hok hrg hrg1
      rw [← hp] at hm hrg
      rw [← hp1] at hm1 hrg1
      have hC := hideP (fun W (hW : Below w.heap.size w W) => (hm.below hW).cols)
      have hC1 := hideP (fun W (hW : Below w.heap.size w W) => (hm1.below hW).cols)
      have hR := hideP (fun W (hW : Below w.heap.size w W) => (hm.below hW).row.more hW.size)
      have hR1 := hideP (fun W (hW : Below w.heap.size w W) => (hm1.below hW).row.more hW.size)
      clear hc hc1 hm hm1 hp hp1 ho
      unfold opC at hrg hrg1
      obtain ⟨k, e1⟩ : ∃ k, k = o.kind := ⟨_, rfl⟩
      obtain ⟨t, e2⟩ : ∃ k, k = o.table := ⟨_, rfl⟩
      obtain ⟨nc, e3⟩ : ∃ k, k = o.cols.length := ⟨_, rfl⟩
      obtain ⟨nr, e4⟩ : ∃ k, k = o.row.length := ⟨_, rfl⟩
      have hr2 := hideP (show o.row.length ≤ 1000 from hok.out.row)
      have hcl := hideP (show nc ≤ 1000 by rw [e3]; exact hok.out.cols)
      rw [← e1, ← e2, ← e3, ← e4] at hrg hrg1
      rw [← e3] at hC hC1
      have hQ := hideP (ops_cells i k nc cc nr cr t AC AR hB0 hrg)
      have hQ1 := hideP (ops_cells i k nc cc1 nr cr1 t AC1 AR1 hB1 hrg1)
      have hS := hideP (fun W (hW : Below w.heap.size w W) => sameRow_any AR AR1 o.row o.row cr cr1 W (hR.out W hW) (hR1.out W hW) (by have := hr2.out; omega))
      rw [← e4] at hS
      obtain ⟨r, hr⟩ : ∃ r, r = o.row := ⟨_, rfl⟩
      rw [← hr] at hS
      rw [show decide (r = r) = true by simp] at hS
      obtain ⟨L, hL⟩ : ∃ L, L = o.cols := ⟨_, rfl⟩
      rw [← hL] at hC hC1
      clear e1 e2 e3 e4 hr hL hrg hrg1 hR hR1 hr2 hok
      go_upto_region 6 with fail
      obtain ⟨k0, k1, k2, k3⟩ := hQ.out _ hV.out
      obtain ⟨q0, q1, q2, q3⟩ := hQ1.out _ hV.out
      refine wp_region_eager 53 [(true, 0), (true, 1), (true, 2), (true, 3), (true, 4), (true, 5), (true, 6), (true, 7), (true, 8), (true, 9), (true, 10), (true, 11), (true, 12), (true, 13), (true, 14), (true, 15), (true, 16), (true, 17), (true, 18), (true, 19), (true, 20), (true, 21), (true, 22), (true, 23), (true, 24), (true, 25), (true, 26), (true, 27), (true, 28), (true, 29), (true, 30), (true, 31), (true, 32), (true, 33), (true, 34), (true, 35), (true, 36), (true, 37), (true, 38), (true, 39), (true, 40), (true, 41), (true, 42), (true, 43), (true, 44), (true, 45), (true, 46), (true, 47), (true, 48), (true, 49), (true, 50), (true, 51), (true, 52)] (by kernel_rfl) (by kernel_rfl) ?_
      simp only [pick, List.map_cons, List.map_nil, nthO_zero, nthO_succ]
      repeat (first
        | (refine wpPlan_skipK (by rfl) (fun K hK => ?_); go_simp; refine hK _ ?_; clear hK K)
        | (refine wpPlan_valK (by rfl) (fun K hK => ?_); apply Exists.intro; refine ⟨fun W hW => ?_, ?_⟩; (focus (have hs0 := hW.cell k0; have hs1 := hW.cell k1; have hs2 := hW.cell k2; have hs3 := hW.cell k3; have hs4 := hW.cell q0; have hs5 := hW.cell q1; have hs6 := hW.cell q2; have hs7 := hW.cell q3; go_simp; (try rfl); done)); go_simp; refine hK _ ?_; clear hK K)
        | (refine wpPlan_callK (.bool true) 73 #[.slice AR nr cr, .slice AR1 nr cr1] (by rfl) ?_ (fun W hW => (hS.out W (hV.out.trans (hW.drew_left.below.mono hV.out.size))).mono fun e w' h => ⟨h.1, Ext.of_below h.2⟩) (fun K hK => ?_); (focus (intro W; go_simp; done)); go_simp; refine hK _ ?_; clear hK K))
      refine wpPlan_nil (fun w4 hW0 => ?_)
      simp only [List.drop_succ_cons, List.drop_zero, List.drop_nil]
      have B4 := hideP (below_ext hV.out hW0.drew_left)
      clear hW0 k0 k1 k2 k3 q0 q1 q2 q3 hS hV
      go_wp2_with fail
      go_loopw [6] (fun v6 W => ∃ j : Nat, j ≤ nc ∧ v6 = .int .i64 (j : Nat) ∧ Hid (Below w.heap.size w W)) (fun v6 _ => nc - (intOf v6).toNat)
      case atStart => exact ⟨0, Nat.zero_le _, rfl, B4.out⟩
      case round =>
        obtain ⟨j, hj, rfl, hW⟩ := hrel
        have hj2 : j ≤ 1000 := Nat.le_trans hj hcl.out
        obtain ⟨k0, k1, k2, k3⟩ := hQ.out _ hW.out
        obtain ⟨q0, q1, q2, q3⟩ := hQ1.out _ hW.out
        by_cases hjl : j < nc
        · have j1 : (j : Int) < (nc : Int) := by omega
          obtain ⟨b9, of9, hA9, hB9, hc9⟩ := (hC.out _ hW.out) (by omega)
          obtain ⟨b8, of8, hA8, hB8, hc8⟩ := (hC1.out _ hW.out) (by omega)
          subst hA9 hA8
          have c9 := hc9 j hjl
          have c8 := hc8 j hjl
          unfold strs at c9 c8
          obtain ⟨x, hxx⟩ : ∃ x, x = L.getD j default := ⟨_, rfl⟩
          rw [← hxx] at c9 c8
          clear hxx hc9 hc8
          go_upto_region 11 with fail
          refine wp_region_eager 17 [(true, 0), (true, 1), (true, 2), (true, 3), (true, 4), (true, 5), (true, 6), (true, 7), (true, 8), (true, 9), (true, 10), (true, 11), (true, 12), (true, 13), (true, 14), (true, 15), (true, 16)] (by kernel_rfl) (by kernel_rfl) ?_
          simp only [pick, List.map_cons, List.map_nil, nthO_zero, nthO_succ]
          repeat (first
            | (refine wpPlan_skipK (by rfl) (fun K hK => ?_); go_simp; refine hK _ ?_; clear hK K)
            | (refine wpPlan_valK (by rfl) (fun K hK => ?_); apply Exists.intro; refine ⟨fun W hW => ?_, ?_⟩; (focus (have hs0 := hW.cell k2; have hs1 := hW.cell q2; have hs2 := hW.cell c9; have hs3 := hW.cell c8; go_simp; (try rfl); done)); go_simp; refine hK _ ?_; clear hK K))
          refine wpPlan_nil (fun w5 hW0 => ?_)
          simp only [List.drop_succ_cons, List.drop_zero, List.drop_nil]
          have B5 := hideP (below_ext hW.out hW0.drew_left)
          clear hW0 k0 k1 k2 k3 q0 q1 q2 q3 hW
          go_wp2_with fail
          go_roundw
          case rel => exact ⟨j + 1, by omega, by go_num, B5.out⟩
          case measure => simp [intOf]; omega
        · obtain rfl : nc = j := by omega
          have j1 : ¬ ((nc : Int) < (nc : Int)) := by omega
          go_wp2_with fail
          go_roundw
          case rel => exact ⟨i + 1, by omega, by go_num, hW.out⟩
          case measure => simp [intOf]; omega
    · obtain rfl : n = i := by omega
      have i1 : ¬ ((n : Int) < (n : Int)) := by omega
      go_wp2_with fail
      go_ret
      exact ⟨rfl, hV.out⟩
end Go.Proofs.Ytiicdnbhphgieaa
namespace Go.Proofs.Ytiicdnbhphgieaa
open Go.RowKit
def exO : OpD := ⟨2, ⟨#[116]⟩, [], []⟩
theorem exO_all : allB [exO] = true := by decide
theorem exO_B : opsB [exO] = [0, 0, 1, 2, 0, 0, 1, 116] := by decide
theorem exO_ok : OpOk exO := ⟨by decide, by decide, fun i => by simp only [exO, List.getD_nil]; decide, by decide, by decide, fun i => by simp [exO]⟩
theorem exO_I : ∀ o ∈ [exO], IsI o.row := fun o ho => by
  rw [List.mem_singleton.1 ho]; exact fun i => by simp [exO]
def exH : HeadD := ⟨List.replicate 32 0, 3, tagD 79 (opsB [exO]), List.replicate 32 0⟩
theorem exH_ok : HeadOk exH := ⟨rfl, by simp [exH, tagD, dig], rfl, fun i => by unfold exH List.getD; rw [List.getElem?_replicate]; split <;> decide, isB_tagD _ _, fun i => by unfold exH List.getD; rw [List.getElem?_replicate]; split <;> decide, by decide, by decide⟩
theorem exH_r : headR exH = true := by decide
theorem exB_r : blockR exH [exO] = true := blockR_of exH_r exO_all rfl
theorem exB_read : rBlock (blockB exH [exO]) = some (exH, [exO]) := rBlock_app exH_ok exB_r exO_I
theorem exO_read : readP (opsB [exO]) = some [exO] := readP_app [exO] exO_all exO_I
theorem nm1 : nameB (nb ⟨#[97, 95, 49]⟩) = true := by decide
theorem nm2 : nameB (nb ⟨#[49, 97]⟩) = false := by decide
theorem nm3 : nameB (nb ⟨#[]⟩) = false := by decide
theorem nm4 : nameB (nb ⟨#[65]⟩) = false := by decide
/-- one change in a slice -/
theorem ops_one (w : World) : OpsL (w.alloc (.cells #[.int .u8 2, .string ⟨#[116]⟩, .slice none 0 0, .slice none 0 0] 30)) (w.alloc (.cells #[.int .u8 2, .string ⟨#[116]⟩, .slice none 0 0, .slice none 0 0] 30)).heap.size (some ⟨w.heap.size, 0, none⟩) [exO] (fun _ => (none, 0, none, 0)) := by
  have r := Row.new w 30 [.int .u8 2, .string ⟨#[116]⟩, .slice none 0 0, .slice none 0 0]
  refine ⟨fun _ => ⟨w.heap.size, 0, rfl, by simp, fun i hi => ?_⟩, fun i hi => ?_⟩
  · obtain rfl : i = 0 := by simpa using hi
    exact Row.range r
  · obtain rfl : i = 0 := by simpa using hi
    exact ⟨⟨fun h => absurd h (by simp [exO]), fun h => absurd h (by simp [exO]), Nat.zero_le _⟩, exO_ok⟩
theorem fold_ops32 (a0 a1 a2 a3 a4 a5 a6 a7 a8 a9 a10 a11 a12 a13 a14 a15 a16 a17 a18 a19 a20 a21 a22 a23 a24 a25 a26 a27 a28 a29 a30 a31 : Nat) : List.foldl (fun cs (x : Value × Nat) => Array.setIfInBounds cs (33 + x.2) x.1) (Array.setIfInBounds Try.zeroCells48 32 (.int .i64 3)) ([a0, a1, a2, a3, a4, a5, a6, a7, a8, a9, a10, a11, a12, a13, a14, a15, a16, a17, a18, a19, a20, a21, a22, a23, a24, a25, a26, a27, a28, a29, a30, a31].map b8).zipIdx = (headC ⟨List.replicate 32 0, 3, [a0, a1, a2, a3, a4, a5, a6, a7, a8, a9, a10, a11, a12, a13, a14, a15, a16, a17, a18, a19, a20, a21, a22, a23, a24, a25, a26, a27, a28, a29, a30, a31], List.replicate 32 0⟩).toArray := by kernel_rfl
theorem fold_ops (p : List Nat) (hp : p.length = 32) : List.foldl (fun cs (x : Value × Nat) => Array.setIfInBounds cs (33 + x.2) x.1) (Array.setIfInBounds Try.zeroCells48 32 (.int .i64 3)) (p.map b8).zipIdx = (headC ⟨List.replicate 32 0, 3, p, List.replicate 32 0⟩).toArray := by
  match p, hp with
  | [a0, a1, a2, a3, a4, a5, a6, a7, a8, a9, a10, a11, a12, a13, a14, a15, a16, a17, a18, a19, a20, a21, a22, a23, a24, a25, a26, a27, a28, a29, a30, a31], _ => exact fold_ops32 a0 a1 a2 a3 a4 a5 a6 a7 a8 a9 a10 a11 a12 a13 a14 a15 a16 a17 a18 a19 a20 a21 a22 a23 a24 a25 a26 a27 a28 a29 a30 a31
set_option maxRecDepth 100000 in
set_option maxHeartbeats 4000000 in
theorem alive19_any (w : World) : Calls Try.prog 12 #[] w fun e w' => e = .returned (.bool true) ∧ Below w.heap.size w w' := by
  obtain ⟨v, hv⟩ : ∃ v, v = w.alloc (.cells #[.int .u8 2, .string ⟨#[116]⟩, .slice none 0 0, .slice none 0 0] 30) := ⟨_, rfl⟩
  obtain ⟨z, hz⟩ : ∃ z, z = w.heap.size := ⟨_, rfl⟩
  have O0 := hideP (show OpsL v v.heap.size (some ⟨z, 0, none⟩) [exO] (fun _ => (none, 0, none, 0)) by rw [hv, hz]; exact ops_one w)
  have B0 := hideP (show Below w.heap.size w v by rw [hv]; exact below_new _ _)
  have Hv := hideP hv
  have Hz := hideP hz
  have hX := hideP (bops_ok (some ⟨z, 0, none⟩) [exO] (fun _ => (none, 0, none, 0)) 1 1 v rfl O0.out exO_all)
  have hXl := hideP (show (opsB [exO]).length = 8 by rw [exO_B]; rfl)
  have hXB := hideP (isB_opsB exO_all)
  have hXe := hideP exO_B
  have hR := hideP (fun W A n c (hn : n = (opsB [exO]).length) hA => breadops_any A (opsB [exO]) n c W hn hA hXB.out (by rw [hn, hXl.out]; decide))
  rw [exO_read] at hR
  have hS := hideP (fun W A n c (hn : n = (opsB [exO]).length) hA => bopssum_any A (opsB [exO]) n c W hn hA hXB.out (by rw [hn, hXl.out]; decide))
  have hBk := hideP (fun W A ps c hA => bblock_any exH exH_ok A [exO] ps 1 c W rfl hA (by decide))
  rw [exB_r] at hBk
  have hZB := hideP (show IsB (blockB exH [exO]) from isB_append (isB_textB _ exH_ok.isB) (isB_textB _ hXB.out))
  have hZl := hideP (show (blockB exH [exO]).length ≤ 1000000 by unfold blockB textB; rw [exH_ok.len, hXl.out]; simp [exH_ok.len, hXl.out, be3])
  have hRB := hideP (fun W A n c (hn : n = (blockB exH [exO]).length) hA => breadblock_any A (blockB exH [exO]) n c W hn hA hZB.out (by rw [hn]; have := hZl.out; omega))
  rw [exB_read] at hRB
  have hSm := hideP (fun W A A' ps ps' c c' hA hA' => rsame_eq A A' [exO] ps ps' 1 c c' W rfl hA hA' (by decide))
  have heq := run_eql_head exH exH exH_ok exH_ok
  rw [eqH_refl] at heq
  have Heq := hideP heq
  have hl97 := hideP exH_ok.cells
  obtain ⟨X, hXX⟩ : ∃ X, X = opsB [exO] := ⟨_, rfl⟩
  obtain ⟨Z, hZZ⟩ : ∃ X, X = blockB exH [exO] := ⟨_, rfl⟩
  have hT : tagD 79 (opsB [exO]) = exH.ops := rfl
  rw [hT] at hS
  rw [← hXX] at hX hXl hXB hXe hR hS
  rw [← hZZ] at hBk hZB hZl hRB
  obtain ⟨L, hL⟩ : ∃ L, L = [exO] := ⟨_, rfl⟩
  have hLl := hideP (show L.length = 1 by rw [hL]; rfl)
  rw [← hL] at O0 hR hBk hRB hSm
  have HX := hideP hXX
  have hF := fold_ops exH.ops exH_ok.o
  rw [show headC ⟨List.replicate 32 0, 3, exH.ops, List.replicate 32 0⟩ = headC exH from rfl] at hF
  have hC1 := hideP (headC_one exH)
  have h32 := exH_ok.o
  have hsz := hideP (size_h97 hl97.out)
  obtain ⟨O, hO⟩ : ∃ O, O = exH.ops := ⟨_, rfl⟩
  obtain ⟨C, hC⟩ : ∃ C, C = headC exH := ⟨_, rfl⟩
  rw [← hO] at hS hF h32
  rw [← hC] at Heq hl97 hBk hF hC1 hsz
  have h97 := hl97.out
  have hso := hideP (show (headC headZ).toArray.size = C.toArray.size by rw [List.size_toArray, List.size_toArray, h97]; rfl)
  have HC := hideP hC
  clear hO hC
  clear hv hz heq hXX hZZ hL hT
  go_enter Try.func12, Try.ntmps12
  go_upto_region 3 with (first
    | (go_at_call 16; rw [← Hz.out, ← Hv.out]; refine hX.out.mono ?_; rintro e1 w1 ⟨R1, d1, rfl, o1_, b1_⟩; have O1 := hideP o1_; have B1 := hideP (bstep B0.out b1_); clear o1_ b1_)
    | (go_at_call 20; refine (hR.out w1 R1 X.length d1 rfl O1.out.arr).mono ?_; rintro e1 w2 ⟨b2_, (⟨hc_, _⟩ | ⟨m2, R2, d2, ps2, n2, hc_, hn_, rfl, ol_⟩)⟩; (focus (exact absurd hc_ (by simp))); injection hc_ with hc_; subst hc_; rw [hLl.out] at hn_; subst hn_; have O2 := hideP (O1.out.after b2_); have B2 := hideP (bstep B1.out b2_); have L2 := hideP ol_; clear ol_ b2_))
  go_upto_region 4 with (first
    | (go_at_call 23; refine (hS.out w2 R1 X.length d1 rfl O2.out.arr).mono ?_; rintro e1 w3 ⟨rfl, b3_⟩; have O3 := hideP (O2.out.after b3_); have B3 := hideP (bstep B2.out b3_); have L3 := hideP (L2.out.after b3_); clear b3_)
    | (refine wpList_store_row rfl 48 (.tmp 5) (.tmp 24) rfl w3.heap.size C.toArray rfl rfl 48 (headC headZ).toArray (Row.new w3 48 (headC headZ)) hsz.out hso.out hC1.out ?_))
  obtain ⟨u, hu⟩ : ∃ u, u = w3.heap.size := ⟨_, rfl⟩
  obtain ⟨v4, hv4⟩ : ∃ v, v = (w3.alloc (.cells Try.zeroCells48 48)).setRow u C.toArray := ⟨_, rfl⟩
  rw [← hu, ← hv4]
  have hb4 : Below w3.heap.size w3 v4 := by rw [hv4, hu]; exact below_setRow' (below_new w3 _) (Nat.le_refl _) _
  have Y4 := hideP (show Row v4 u 48 C by rw [hv4, hu]; exact Row.setRow (Row.new w3 48 (headC headZ)) C)
  have B4 := hideP (bstep B3.out hb4)
  have O4 := hideP (O3.out.after hb4)
  have L4 := hideP (L3.out.after hb4)
  clear hv4 hb4 hu hF O3 L3 O2 L2 O1 B1 B2 B3 hX hR hS h32 h97
  go_upto_region 6 with (first
    | (refine wpList_load_row rfl 48 (.tmp 5) rfl u rfl 48 C.toArray (0, 0) _ Y4.out Try.underlying48 rfl hsz.out ?_)
    | (go_at_call 26; refine (hBk.out v4 R2 ps2 d2 L4.out.opsL).mono ?_; rintro e1 w5 ⟨b5_, (⟨_, R5, n5, d5, hn_, rfl, o5_⟩ | ⟨hc_, _⟩)⟩; rotate_left; (focus (cases hc_)); subst hn_; have Y5 := hideP (Row.after Y4.out b5_); have B5 := hideP (bstep B4.out b5_); have O5 := hideP (O4.out.after b5_); have L5 := hideP (L4.out.after b5_); have Z5 := hideP o5_; clear b5_ o5_)
    | (go_at_call 28; refine (hRB.out w5 R5 Z.length d5 rfl Z5.out.arr).mono ?_; rintro e1 w6 ⟨b6_, (⟨hc_, _⟩ | ⟨h6, l6, R6, d6, ps6, n6, hc_, hn_, rfl, ol_⟩)⟩; (focus (exact absurd hc_ (by simp))); injection hc_ with hc_; injection hc_ with hc1_ hc2_; subst hc1_ hc2_; rw [hLl.out] at hn_; subst hn_; rw [← HC.out]; have Y6 := hideP (Row.after Y5.out b6_); have B6 := hideP (bstep B5.out b6_); have O6 := hideP (O5.out.after b6_); have L6 := hideP (L5.out.after b6_); have M6 := hideP ol_; clear b6_ ol_)
    | (refine wpList_store_row rfl 48 (.tmp 8) (.tmp 34) rfl w6.heap.size C.toArray rfl rfl 48 (headC headZ).toArray (Row.new w6 48 (headC headZ)) hsz.out hso.out hC1.out ?_))
  obtain ⟨x, hx⟩ : ∃ u, u = w6.heap.size := ⟨_, rfl⟩
  obtain ⟨v7, hv7⟩ : ∃ v, v = (w6.alloc (.cells Try.zeroCells48 48)).setRow x C.toArray := ⟨_, rfl⟩
  rw [← hx, ← hv7]
  have hb7 : Below w6.heap.size w6 v7 := by rw [hv7, hx]; exact below_setRow' (below_new w6 _) (Nat.le_refl _) _
  have X7 := hideP (show Row v7 x 48 C by rw [hv7, hx]; exact Row.setRow (Row.new w6 48 (headC headZ)) C)
  have Y7 := hideP (Row.after Y6.out hb7)
  have B7 := hideP (bstep B6.out hb7)
  have O7 := hideP (O6.out.after hb7)
  have L7 := hideP (L6.out.after hb7)
  have M7 := hideP (M6.out.after hb7)
  clear hv7 hb7 hx O6 L6 M6 Y6 B6 O5 L5 Z5 Y5 B5 Y4 B4 O4 L4 hBk hRB
  have cv := run_str (P := Try.prog) v7 31 5 Try.underlying31 Try.underlying5 (c := d1) O7.out.arr rfl 9 Try.underlying9
  rw [show bstr X = ⟨#[0, 0, 1, 2, 0, 0, 1, 116]⟩ by rw [hXe.out]; rfl] at cv
  have hq := Heq.out
  go_wp2_with fail
  refine wp_load_row 48 (.tmp 8) rfl x rfl 48 C.toArray (0, 0) _ X7.out Try.underlying48 rfl hsz.out ?_
  go_wp2_with fail
  refine wp_load_row 48 (.tmp 5) rfl u rfl 48 C.toArray (0, 0) _ Y7.out Try.underlying48 rfl hsz.out ?_
  go_wp2_with (first
    | (go_at_call 22; refine (hSm.out v7 R6 R2 ps6 ps2 d6 d2 M7.out.opsL L7.out.opsL).mono ?_; rintro e1 w8 ⟨rfl, b8_⟩; have B8 := hideP (bstep B7.out b8_); clear b8_)
    | (go_at_call 17; refine (isname_any _ w8 (by decide)).mono ?_; rintro e1 w9 ⟨rfl, b9_⟩; rw [nm1]; have B9 := hideP (bstep B8.out b9_); clear b9_)
    | (go_at_call 17; refine (isname_any _ w9 (by decide)).mono ?_; rintro e1 w10 ⟨rfl, b10_⟩; rw [nm2]; have B10 := hideP (bstep B9.out b10_); clear b10_)
    | (go_at_call 17; refine (isname_any _ w10 (by decide)).mono ?_; rintro e1 w11 ⟨rfl, b11_⟩; rw [nm3]; have B11 := hideP (bstep B10.out b11_); clear b11_)
    | (go_at_call 17; refine (isname_any _ w11 (by decide)).mono ?_; rintro e1 w12 ⟨rfl, b12_⟩; rw [nm4]; have B12 := hideP (bstep B11.out b12_); clear b12_))
  go_ret
  exact ⟨rfl, B12.out⟩
end Go.Proofs.Ytiicdnbhphgieaa
