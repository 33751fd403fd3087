/- Contract of node.Say. -/
import Derived.Test.YtgcbodpjidoanaaQ3
import Derived.Test.YtgcbodpjidoanaaQ22
import Derived.Test.YtgcbodpjidoanaaQ34
import Derived.Test.YtgcbodpjidoanaaQ36
import Derived.Test.YtgcbodpjidoanaaQ37
set_option linter.unusedVariables false
set_option linter.unusedSimpArgs false
namespace Go.Proofs.Ytgcbodpjidoanaa
open Go.RowKit
def SayGot (w : World) (n : NodeD) (e : Ending) (w' : World) : Prop :=
  Below w.heap.size w w' ∧ ((1048576 < (sayN n).size ∧ e = .returned (.tuple #[.agg kidL13.toArray, .int .i64 1])) ∨ ((sayN n).size ≤ 1048576 ∧ ∃ q, e = .returned (.tuple #[.agg (kidC (sayN n) q).toArray, .int .i64 0]) ∧ KidN (fun b => b < w.heap.size) w' (sayN n, q)))
theorem kidL13_one : kidL13.toArray.all (·.oneCell') = true := by have := kidC_one kidZ kidPZ; exact this
theorem size_kL : (Try.prog.info? 43).map (·.size) = some kidL13.length := by kernel_rfl
theorem size_kLA : (Try.prog.info? 43).map (·.size) = some kidL13.toArray.size := by kernel_rfl
set_option maxRecDepth 100000 in
set_option maxHeartbeats 2000000 in
theorem nsay_no (n : NodeD) (p : NodeP) (d : Int) (w : World) (hn : NodeOk n) (hm : NodeMem w w.heap.size n p) (hr : nodeR n d = false) :
    Calls Try.prog 26 #[.agg (nodeC n p).toArray, .int .i64 d] w fun e w' => e = .returned (.tuple #[.agg kidL13.toArray, .int .i64 1]) ∧ Below w.heap.size w w' := by
  have hEn := fun W (hW : Below w.heap.size w W) => nencode_no n p d W hn (hm.after hW) hr
  unfold nodeC at hEn ⊢
  obtain ⟨nr, f1⟩ : ∃ b, b = n.rows.length := ⟨_, rfl⟩
  obtain ⟨nk, f2⟩ : ∃ b, b = n.kids.length := ⟨_, rfl⟩
  obtain ⟨kd, f3⟩ : ∃ b, b = n.kind := ⟨_, rfl⟩
  obtain ⟨rA, f4⟩ : ∃ a, a = p.rA := ⟨_, rfl⟩
  obtain ⟨kA, f5⟩ : ∃ a, a = p.kA := ⟨_, rfl⟩
  rw [← f1, ← f2, ← f3, ← f4, ← f5] at hEn ⊢
  have F1 := hideP f1; have F2 := hideP f2; have F3 := hideP f3; have F4 := hideP f4; have F5 := hideP f5
  clear f1 f2 f3 f4 f5
  have hEn := hideP hEn
  clear hn hm hr
  obtain ⟨v0, hv0⟩ : ∃ v, v = w.alloc (.cells #[.int .u8 (kd : Nat), .slice rA nr p.rc, .slice kA nk p.kc] 27) := ⟨_, rfl⟩
  obtain ⟨z, hz⟩ : ∃ g, g = w.heap.size := ⟨_, rfl⟩
  obtain ⟨v1, hv1⟩ : ∃ v, v = v0.alloc (.cells kidL13.toArray 43) := ⟨_, rfl⟩
  obtain ⟨r, hr0⟩ : ∃ g, g = z + 1 := ⟨_, rfl⟩
  have Z := hideP (show Row v1 z 27 [.int .u8 (kd : Nat), .slice rA nr p.rc, .slice kA nk p.kc] by rw [hv1]; exact Row.alloc (by rw [hv0, hz]; exact Row.new w _ _) _)
  have R := hideP (show Row v1 r 43 kidL13 by rw [hv1]; exact Row.new' v0 _ _ _ (by rw [hv0, hr0, hz]; simp))
  have B := hideP (show Below w.heap.size w v1 by rw [hv1]; exact bstep (by rw [hv0]; exact below_new _ _) (below_new _ _))
  have hwr := hideP (show w.heap.size ≤ r by rw [hr0, hz]; omega)
  have hzr := hideP (show z < r by rw [hr0]; omega)
  have Hv0 := hideP hv0; have Hv1 := hideP hv1; have Hz := hideP hz; have Hr := hideP hr0
  clear hv0 hv1 hz hr0
  go_enter Try.func26, Try.ntmps26
  go_upto_region 1 with fail
  rw [← Hz.out, ← Hv0.out, ← Hr.out, show (v0.alloc (Obj.cells #[.int .u8 0, .int .u8 0, .int .u8 0, .int .u8 0, .int .u8 0, .int .u8 0, .int .u8 0, .int .u8 0, .int .u8 0, .int .u8 0, .int .u8 0, .int .u8 0, .int .u8 0, .int .u8 0, .int .u8 0, .int .u8 0, .int .u8 0, .int .u8 0, .int .u8 0, .int .u8 0, .int .u8 0, .int .u8 0, .int .u8 0, .int .u8 0, .int .u8 0, .int .u8 0, .int .u8 0, .int .u8 0, .int .u8 0, .int .u8 0, .int .u8 0, .int .u8 0, .slice none 0 0, .slice none 0 0, .int .i64 0, .int .i64 0, .slice none 0 0] 43)) = v1 from Hv1.out.symm]
  clear Hv0 Hv1
  have kz := hideP size_kLA
  have kz2 := hideP size_kL
  have k1 := hideP kidL13_one
  obtain ⟨c0, c1, c2⟩ := nrow3 Z.out
  go_wp2_with (first
    | (go_at_call 92; refine (hEn.out _ B.out).mono ?_; rintro e1 w1 ⟨rfl, b_⟩; have B1 := hideP (bstep B.out b_); have R1 := hideP (Row.after R.out b_); clear b_)
    | (refine wpList_store_row rfl 43 (.tmp 4) (.tmp 21) rfl r kidL13.toArray rfl rfl 43 kidL13.toArray R1.out kz.out rfl k1.out ?_))
  refine ret_rowt rfl rfl rfl (Row.setRow R1.out kidL13) Try.underlying43 kz2.out rfl ⟨rfl, below_setRow' B1.out hwr.out _⟩
abbrev S2 (B x r : Nat) : Nat → Prop := fun b => b < B ∨ b = x ∨ b = r
/-- the kid under way -/
def SayTo (v : World) (B x r : Nat) (M : List Value) (s : SayS) (wr : World) : Prop :=
  ∃ A c A' c', Row wr x 43 (M ++ [.slice A s.lo.length c, .slice A' s.hi.length c', .int .i64 s.live, .int .i64 s.size, .slice none 0 0]) ∧ ArrN (S2 B x r) wr A s.lo.length (i64s s.lo) ∧ ArrN (S2 B x r) wr A' s.hi.length (i64s s.hi) ∧ But (fun b => b = x) v wr
set_option maxRecDepth 100000 in
set_option maxHeartbeats 8000000 in
theorem nsay_ok (n : NodeD) (p : NodeP) (D : Nat) (w : World) (hn : NodeOk n) (hm : NodeMem w w.heap.size n p) (hr : nodeR n (D : Int) = true) (ht : NodeRt n D) :
    Calls Try.prog 26 #[.agg (nodeC n p).toArray, .int .i64 (D : Int)] w (SayGot w n) := by
  have hEn := fun W (hW : Below w.heap.size w W) => nencode_ok n p D W hn (hm.after hW) hr
  have hN := hideP hn
  have hM := hideP hm
  have hT := hideP ht
  have hIR := hideP (fun i hi => sayR_i ht hn i hi)
  have hIA := hideP (fun i hi => sayA_i ht hn i hi)
  have hNB := hideP (nodeB_isB ht hn)
  have hNL := hideP (nodeB_len ht hn)
  have hlr := hideP ht.rows
  have hlk := hideP ht.kids
  obtain ⟨NB, eNB⟩ : ∃ b, b = nodeB n := ⟨_, rfl⟩
  rw [← eNB] at hEn hNB hNL
  have ENB := hideP eNB
  obtain ⟨nb, enb⟩ : ∃ b, b = NB.length := ⟨_, rfl⟩
  rw [← enb] at hEn hNL
  have ENb := hideP enb
  unfold nodeC at hEn ⊢
  obtain ⟨nr, f1⟩ : ∃ b, b = n.rows.length := ⟨_, rfl⟩
  obtain ⟨nk, f2⟩ : ∃ b, b = n.kids.length := ⟨_, rfl⟩
  obtain ⟨kd, f3⟩ : ∃ b, b = n.kind := ⟨_, rfl⟩
  obtain ⟨rA, f4⟩ : ∃ a, a = p.rA := ⟨_, rfl⟩
  obtain ⟨kA, f5⟩ : ∃ a, a = p.kA := ⟨_, rfl⟩
  rw [← f1, ← f2, ← f3, ← f4, ← f5] at hEn ⊢
  have F1 := hideP f1; have F2 := hideP f2; have F3 := hideP f3; have F4 := hideP f4; have F5 := hideP f5
  clear f1 f2 f3 f4 f5
  have hEn := hideP hEn
  clear hn hm hr ht eNB enb
  obtain ⟨v0, hv0⟩ : ∃ v, v = w.alloc (.cells #[.int .u8 (kd : Nat), .slice rA nr p.rc, .slice kA nk p.kc] 27) := ⟨_, rfl⟩
  obtain ⟨z, hz⟩ : ∃ g, g = w.heap.size := ⟨_, rfl⟩
  obtain ⟨v1, hv1⟩ : ∃ v, v = v0.alloc (.cells kidL13.toArray 43) := ⟨_, rfl⟩
  obtain ⟨r, hr0⟩ : ∃ g, g = z + 1 := ⟨_, rfl⟩
  have Z := hideP (show Row v1 z 27 [.int .u8 (kd : Nat), .slice rA nr p.rc, .slice kA nk p.kc] by rw [hv1]; exact Row.alloc (by rw [hv0, hz]; exact Row.new w _ _) _)
  have R := hideP (show Row v1 r 43 kidL13 by rw [hv1]; exact Row.new' v0 _ _ _ (by rw [hv0, hr0, hz]; simp))
  have B := hideP (show Below w.heap.size w v1 by rw [hv1]; exact bstep (by rw [hv0]; exact below_new _ _) (below_new _ _))
  have hwr := hideP (show w.heap.size ≤ r by rw [hr0, hz]; omega)
  have hzr := hideP (show z < r by rw [hr0]; omega)
  have Hv0 := hideP hv0; have Hv1 := hideP hv1; have Hz := hideP hz; have Hr := hideP hr0
  clear hv0 hv1 hz hr0
  go_enter Try.func26, Try.ntmps26
  go_upto_region 1 with fail
  rw [← Hz.out, ← Hv0.out, ← Hr.out, show (v0.alloc (Obj.cells #[.int .u8 0, .int .u8 0, .int .u8 0, .int .u8 0, .int .u8 0, .int .u8 0, .int .u8 0, .int .u8 0, .int .u8 0, .int .u8 0, .int .u8 0, .int .u8 0, .int .u8 0, .int .u8 0, .int .u8 0, .int .u8 0, .int .u8 0, .int .u8 0, .int .u8 0, .int .u8 0, .int .u8 0, .int .u8 0, .int .u8 0, .int .u8 0, .int .u8 0, .int .u8 0, .int .u8 0, .int .u8 0, .int .u8 0, .int .u8 0, .int .u8 0, .int .u8 0, .slice none 0 0, .slice none 0 0, .int .i64 0, .int .i64 0, .slice none 0 0] 43)) = v1 from Hv1.out.symm]
  clear Hv0 Hv1
  obtain ⟨c0, c1, c2⟩ := nrow3 Z.out
  go_upto_region 4 with (go_at_call 92; refine (hEn.out _ B.out).mono ?_; rintro e1 w1 ⟨RB, cB, rfl, o_, b_⟩; have B1 := hideP (bstep B.out b_); have R1 := hideP (Row.after R.out b_); have Z1 := hideP (Row.after Z.out b_); have O1 := hideP o_.arr; clear b_ o_)
  clear c0 c1 c2 R Z B hEn
  obtain ⟨c0, c1, c2⟩ := nrow3 Z1.out
  have ns := hideP (show ¬ (w1.heap.size ≤ z) by have := Row.lt Z1.out; omega)
  rw [← ENb.out] at O1
  refine wp_region_float 8 (.q 0 (.q 2 (.q 3 (.q 4 (.l 1 (.q 5 .nil)))))) (.l 7 .nil) (fun k => w1.heap.size ≤ k) [6] (fun _ => .cells kidL13.toArray 43) (by kernel_rfl) (by kernel_rfl) (fun f hf => by
    obtain rfl : f = 6 := by simpa using hf
    exact ⟨rfl, fun ρ W => by simp only [nthO_zero, nthO_succ]; go_simp⟩) ?_
  simp only [pickT, nthO_zero, nthO_succ]
  iterate 4 (refine wpF_valK (by rfl) (fun K hK => ?_); apply Exists.intro; refine ⟨fun W hW => ?_, ?_⟩; (focus (have hs1 := hW.cell c1 ns.out; go_simp; (try rfl); done)); go_simp; refine hK _ ?_; clear hK K)
  refine wpF_loudK 105 #[.slice RB nb cB] (by rfl) (fun W => by go_simp) (fun V1 hV1 => ?_)
  have hps := psum_any RB NB cB V1 (by rw [← ENb.out]; exact O1.out.ext hV1.drew_left) hNB.out (by rw [← ENb.out]; have := hNL.out; omega)
  rw [← ENb.out] at hps
  refine hps.mono ?_
  rintro e V2 ⟨rfl, hb1⟩
  refine ⟨_, rfl, Ext.of_below hb1, fun K hK => ?_⟩
  go_simp
  refine hK _ ?_
  clear hK K hps
  have xV2 := hideP (hV1.drew_left.trans (Ext.of_below hb1))
  clear hb1 hV1
  obtain ⟨M, hM0⟩ : ∃ M, M = sum9 NB := ⟨_, rfl⟩
  have hML0 := (show M.length = 32 by rw [hM0]; exact sum9_len NB)
  rw [show pageD NB = M.map b8 by rw [hM0]; rfl]
  obtain ⟨C0, hC0⟩ : ∃ C, C = M.map b8 ++ [.slice none 0 0, .slice none 0 0, .int .i64 0, .int .i64 (nr : Nat), .slice none 0 0] := ⟨_, rfl⟩
  have hF := fold_kid M hML0
  have hF2 : (M.map b8 ++ ([.slice none 0 0, .slice none 0 0, .int .i64 0, .int .i64 0, .slice none 0 0] : List Value)).toArray.setIfInBounds 35 (.int .i64 (nr : Nat)) = C0.toArray := by
    rw [hC0, List.setIfInBounds_toArray, List.set_append_right _ _ (by simp [hML0])]
    simp [hML0]
  have hs0 := hideP (show (Try.prog.info? 43).map (·.size) = some C0.toArray.size by rw [List.size_toArray]; exact size_k37 (by rw [hC0]; simp [hML0]))
  have hso := hideP (show kidL13.toArray.size = C0.toArray.size by rw [List.size_toArray, List.size_toArray, hC0]; simp [hML0])
  have hone := hideP (show C0.toArray.all (·.oneCell') = true by
    rw [hC0]
    have := kidC_one ⟨M, [], [], 0, (nr : Nat), []⟩ kidPZ
    exact this)
  have HM0 := hideP hM0; have HC0 := hideP hC0; have hML := hideP hML0
  clear hM0 hC0
  refine wpF_valK (by rfl) (fun K hK => ?_)
  refine ⟨.agg C0.toArray, fun W hW => ?_, ?_⟩
  · go_simp
  go_simp
  refine hK _ ?_
  clear hK K hF hF2 hML0
  refine wpF_nil1 (fun W7 x hW7 hp1 hp2 hp3 hp4 => ?_)
  simp only [pickT, nthO_zero, nthO_succ]
  have tp := hideP (show Row W7 x 43 kidL13 from hp3)
  have hxb := hideP (show w1.heap.size ≤ x from hp1)
  have x7 := hideP (xV2.out.trans hW7)
  clear hp1 hp2 hp3 hp4 hW7 xV2
  go_simp
  refine wpM_storeK (by rfl) (fun W hW => ⟨_, ⟨exec_store_row 43 (.tmp 8) (.tmp 28) rfl x C0.toArray rfl rfl 43 kidL13.toArray (Row.ext tp.out hW) hs0.out hso.out hone.out, But.setRow _ _ _ hxb.out⟩, fun K hK => ?_⟩)
  go_simp
  refine hK _ ?_
  clear hK K
  have xW := hideP hW
  obtain ⟨W8, hW8⟩ : ∃ V, V = W.setRow x C0.toArray := ⟨_, rfl⟩
  have X := hideP (show Row W8 x 43 C0 by rw [hW8]; exact Row.setRow (Row.ext tp.out xW.out) C0)
  have B8 := hideP (show Below w1.heap.size w1 W8 by rw [hW8]; exact below_setRow' (x7.out.trans xW.out).below hxb.out _)
  rw [← hW8]
  clear hW8 hW xW tp x7
  refine wpM_nil (fun W9 hW9 => ?_)
  try simp only [List.drop_succ_cons, List.drop_zero, List.drop_nil]
  replace X := hideP (Row.ext X.out hW9)
  replace B8 := hideP (below_ext B8.out hW9)
  have Z := hideP (Row.below Z1.out B8.out (Row.lt Z1.out))
  have R := hideP (Row.below R1.out B8.out (Row.lt R1.out))
  have B := hideP (bstep B1.out B8.out)
  have hzx := hideP (show z < x by have := Row.lt Z1.out; have := hxb.out; omega)
  have hrx := hideP (show r < x by have := Row.lt R1.out; have := hxb.out; omega)
  have hwx := hideP (show w.heap.size ≤ x by have := hzx.out; have := Hz.out; omega)
  clear hW9 B8 Z1 R1 B1 O1 c0 c1 c2 ns hs0 hso hone hxb
  have hMM := hideP (show (M.map b8).length = 32 by simp [hML.out])
  have hST := hideP (show SayTo W9 w.heap.size x r (M.map b8) (sayR n 0) W9 from ⟨none, 0, none, 0, by
    have := X.out
    rw [HC0.out, F1.out] at this
    exact this, fun h => absurd h (by simp [sayR]), fun h => absurd h (by simp [sayR]), But.refl _⟩)
  obtain ⟨c0, c1, c2⟩ := nrow3 Z.out
  clear X HC0
  go_wp2_with fail
  clear c0 c1 c2
  go_loopw [32] (fun v32 wr => ∃ i : Nat, i ≤ nr ∧ v32 = .int .i64 (i : Nat) ∧ Hid (SayTo W9 w.heap.size x r (M.map b8) (sayR n i) wr)) (fun v32 _ => nr - (intOf v32).toNat)
  case atStart => exact ⟨0, Nat.zero_le _, rfl, hST.out⟩
  case round =>
    obtain ⟨i, hi, rfl, hV⟩ := hrel
    clear hST
    by_cases hlt : i < nr
    · have i1 : (i : Int) < (nr : Int) := by omega
      have m3 : wrap64 ((i : Int) + 1) = (i : Int) + 1 := wrap_succ4 hlt (by have := hlr.out; have := F1.out; omega)
      have hil : i < n.rows.length := by have := F1.out; omega
      obtain ⟨b0, off, hA, hB0, hc⟩ := hM.out.rows (by omega)
      rw [← F4.out] at hA
      subst hA
      have hce := hc i hil
      dsimp only at hce
      have hra := hM.out.row i hil
      have hok := hN.out.row i hil
      have hrl := hT.out.row i hil
      have hso := sayR_one n i hil
      have hI := hIR.out i (by omega)
      obtain ⟨⟨rr, lv⟩, he⟩ : ∃ e, e = n.rows.getD i default := ⟨_, rfl⟩
      obtain ⟨⟨A1, cA⟩, hp⟩ : ∃ e, e = p.rp i := ⟨_, rfl⟩
      rw [← he] at hce hra hok hrl hso
      rw [← hp] at hce hra
      dsimp only at hra hok hrl
      unfold entC at hce
      dsimp only at hce
      obtain ⟨s, hs⟩ : ∃ s, s = sayR n i := ⟨_, rfl⟩
      rw [← hs] at hV hso hI
      obtain ⟨SA, Sc, SA', Sc', x0, a0, a0', bb⟩ := hV.out
      have WB := hideP (show Below w.heap.size w wr from B.out.trans (But.low bb (fun k hk => by rw [hk]; exact hwx.out) B.out.size))
      have hrg : wr.rangeAt b0 (off + i * 2) [.slice A1 rr.length cA, .bool lv] := fun a v hv => (WB.out.cell (p := ⟨b0, off + i * 2 + a, none⟩) hB0).trans (hce a v hv)
      obtain ⟨m, hm⟩ : ∃ m, m = rr.length := ⟨_, rfl⟩
      rw [← hm] at hrg hra hrl
      have X := hideP x0; have SAa := hideP a0; have SAb := hideP a0'; have BB := hideP bb; have HRG := hideP hrg; have HRA := hideP hra; have HOK := hideP hok.1; have HRL := hideP hrl; have HSO := hideP hso; have HI := hideP hI; have Hm := hideP hm
      clear x0 a0 a0' bb hV hs he hp hce hc hrg hra hok hrl hso hI hm hil
      have hsz := hideP (show (Try.prog.info? 56).map (·.size) = some ([.slice A1 m cA, .bool lv] : List Value).length by kernel_rfl)
      go_upto_region 8 with (first
        | (refine wpList_load_mid rfl 56 (.tmp 34) rfl b0 (off + i * 2) rfl [.slice A1 m cA, .bool lv] _ HRG.out Try.underlying56 rfl hsz.out ?_)
        | (refine wpList_store_row rfl 56 (.tmp 10) (.tmp 35) rfl wr.heap.size ([.slice A1 m cA, .bool lv]).toArray rfl rfl 56 ([.slice none 0 0, .bool false]).toArray (Row.new wr 56 ([.slice none 0 0, .bool false])) hsz.out rfl rfl ?_)
        | fail)
      obtain ⟨G, hG⟩ : ∃ G, G = wr.heap.size := ⟨_, rfl⟩
      have hX6 := hideP (Ext.alloc wr (.cells #[.slice A1 m cA, .bool lv] 56))
      obtain ⟨v6, hv6⟩ : ∃ v, v = wr.alloc (.cells #[.slice A1 m cA, .bool lv] 56) := ⟨_, rfl⟩
      have R6 := hideP (show Row v6 G 56 [.slice A1 m cA, .bool lv] by rw [hv6, hG]; exact Row.new wr _ _)
      rw [← hv6] at hX6
      rw [← hG, ← hv6]
      have hGx := hideP (show G ≠ x by rw [hG]; have := Row.lt X.out; omega)
      clear hG hv6
      have k1 : v6.cell? ⟨G, 1, none⟩ = some (.bool lv) := Row.cell R6.out 1
      replace X := hideP (Row.ext X.out hX6.out)
      replace SAa := hideP (SAa.out.to (S' := S2 w.heap.size x r) (But.of_ext hX6.out) fun _ _ h => h)
      replace SAb := hideP (SAb.out.to (S' := S2 w.heap.size x r) (But.of_ext hX6.out) fun _ _ h => h)
      replace BB := hideP (BB.out.trans (But.of_ext hX6.out))
      replace WB := hideP (below_ext WB.out hX6.out)
      clear hX6 HRG hsz
      rcases lv with _ | _
      · go_wp2_with fail
        go_roundw
        case rel => exact ⟨i + 1, by omega, by go_num, by rw [HSO.out]; exact ⟨SA, Sc, SA', Sc', X.out, SAa.out, SAb.out, BB.out⟩⟩
        case measure => (try rw [m3]); simp [intOf]; omega
      · have HSO2 := hideP (show sayR n (i + 1) = ⟨s.live + 1, s.size, (hullB (s.lo, s.hi) (rr, rr)).1, (hullB (s.lo, s.hi) (rr, rr)).2⟩ from HSO.out)
        have hb2 := hideP (show boxOk (rr, rr) D from .inl (row_right hT.out.dd.1 hT.out.dd.2 (by rw [← Hm.out]; exact HRL.out)))
        have hr1 := hideP (show 1 ≤ rr.length ∧ rr.length ≤ 8 by have := HRL.out; have := Hm.out; have := hT.out.dd; omega)
        have hlv := hideP (show -9223372036854775808 ≤ s.live + 1 ∧ s.live + 1 ≤ 9223372036854775807 by have := HI.out.l; have := hlr.out; have := F1.out; omega)
        obtain ⟨sl, esl⟩ : ∃ q, q = s.live := ⟨_, rfl⟩
        obtain ⟨sz, esz⟩ : ∃ q, q = s.size := ⟨_, rfl⟩
        obtain ⟨n1, en1⟩ : ∃ q, q = s.lo.length := ⟨_, rfl⟩
        obtain ⟨n2, en2⟩ : ∃ q, q = s.hi.length := ⟨_, rfl⟩
        rw [← esl, ← esz, ← en1, ← en2] at X
        rw [← esl] at hlv HSO2
        rw [← esz] at HSO2
        rw [← en1] at SAa
        rw [← en2] at SAb
        have E1 := hideP en1; have E2 := hideP en2
        clear esl esz en1 en2 HSO
        have e1 : IntKind.i64.wrap (sl + 1) = sl + 1 := IntWalk.i64_in _ hlv.out
        have e2 : wrap64 (sl + 1) = sl + 1 := IntWalk.wrap64_in _ hlv.out
        have fz : v6.frozen? ⟨x, 34, none⟩ = false := Row.fz X.out 34
        obtain ⟨y0, y1, y2, y3, y4⟩ := rowU_cell X.out hMM.out
        go_upto_region 10 with fail
        clear y0 y1 y2 y3 y4 fz e1 e2 k1
        obtain ⟨v7, h_⟩ : ∃ v, v = v6.setCell ⟨x, 34, none⟩ (.int .i64 (sl + 1)) := ⟨_, rfl⟩
        rw [← h_]
        have b_ : But (fun b => b = x) v6 v7 := by rw [h_]; exact But.set _ _ _ rfl
        have X7 := hideP (show Row v7 x 43 (M.map b8 ++ [.slice SA n1 Sc, .slice SA' n2 Sc', .int .i64 (sl + 1), .int .i64 sz, .slice none 0 0]) by rw [h_]; exact rowU_set X.out hMM.out 2 _)
        have R7 := hideP (row_but2 b_ R6.out hGx.out)
        replace SAa := hideP (SAa.out.to (S' := S2 w.heap.size x r) (b_.mono fun _ h => .inr (.inl h)) fun _ _ h => h)
        replace SAb := hideP (SAb.out.to (S' := S2 w.heap.size x r) (b_.mono fun _ h => .inr (.inl h)) fun _ _ h => h)
        replace BB := hideP (BB.out.trans b_)
        replace WB := hideP (show Below w.heap.size w v7 from WB.out.trans (But.low b_ (fun k hk => by rw [hk]; exact hwx.out) WB.out.size))
        clear h_ b_ X R6
        have AA := hideP (HRA.out.after WB.out)
        have g0 : v7.cell? ⟨G, 0, none⟩ = some (.slice A1 m cA) := Row.cell R7.out 0
        obtain ⟨y0, y1, y2, y3, y4⟩ := rowU_cell X7.out hMM.out
        refine wp_region_fork 7 (.q 0 (.q 1 (.q 2 (.q 3 (.l 4 (.l 5 (.q 6 .nil))))))) (by kernel_rfl) (by kernel_rfl) ?_
        simp only [pickT, nthO_zero, nthO_succ]
        iterate 4 (refine wpT_valK (by rfl) (fun K hK => ?_); apply Exists.intro; refine ⟨fun W hW => ?_, ?_⟩; (focus (have h0 := hW.cell y0; have h1 := hW.cell y1; have h2 := hW.cell g0; go_simp; (try rfl); done)); go_simp; refine hK _ ?_; clear hK K)
        clear y0 y1 y2 y3 y4 g0
        refine wpT_loudK 107 #[.slice A1 m cA] (by rfl) (fun W' => by go_simp) (fun W1 hW1 => ?_)
        have hof := of_in A1 rr cA W1 (by have := AA.out.ext hW1.drew_left; rwa [Hm.out] at this) hr1.out.1 hr1.out.2
        rw [← Hm.out] at hof
        refine hof.mono ?_
        rintro e W2 ⟨R1, s1, R2, s2, rfl, hb_, q1, q2⟩
        refine ⟨_, rfl, Ext.of_below hb_, fun K hK => ?_⟩
        go_simp
        refine hK _ ?_
        clear hK K
        have x2 := hideP (hW1.drew_left.trans (Ext.of_below hb_))
        have Q1 := hideP q1; have Q2 := hideP q2
        clear hof hW1 hb_ q1 q2
        refine wpT_loudK 106 #[.agg #[.slice SA n1 Sc, .slice SA' n2 Sc'], .agg #[.slice R1 m s1, .slice R2 m s2]] (by rfl) (fun W' => by go_simp) (fun W3 hW3 => ?_)
        have hhu := hullg_any (s.lo, s.hi) (rr, rr) D HI.out.b hb2.out SA SA' R1 R2 Sc Sc' s1 s2 W3 (by have := SAa.out.arr.ext (x2.out.trans hW3); rwa [E1.out] at this) (by have := SAb.out.arr.ext (x2.out.trans hW3); rwa [E2.out] at this) (by have := Q1.out.ext hW3; rwa [Hm.out] at this) (by have := Q2.out.ext hW3; rwa [Hm.out] at this)
        dsimp only at hhu
        rw [← E1.out, ← E2.out, ← Hm.out] at hhu
        obtain ⟨H1, eh1⟩ : ∃ q, q = (hullB (s.lo, s.hi) (rr, rr)).1 := ⟨_, rfl⟩
        obtain ⟨H2, eh2⟩ : ∃ q, q = (hullB (s.lo, s.hi) (rr, rr)).2 := ⟨_, rfl⟩
        rw [← eh1, ← eh2] at hhu HSO2
        clear eh1 eh2
        refine hhu.mono ?_
        rintro e W4 ⟨R3, s3, R4, s4, rfl, hb_, q1, q2⟩
        refine ⟨_, rfl, Ext.of_below hb_, fun K hK => ?_⟩
        go_simp
        refine hK _ ?_
        clear hK K hhu
        have x4 := hideP (x2.out.trans (hW3.trans (Ext.of_below hb_)))
        have hx3 := hideP (show x < W3.heap.size by have := Row.lt X7.out; have := (x2.out.trans hW3).size; omega)
        have N1 := hideP (OwnI.arrN (S := S2 w.heap.size x r) q1 fun b hb => by have := hx3.out; have := hrx.out; have := hwx.out; rcases hb with hb | rfl | rfl <;> omega)
        have N2 := hideP (OwnI.arrN (S := S2 w.heap.size x r) q2 fun b hb => by have := hx3.out; have := hrx.out; have := hwx.out; rcases hb with hb | rfl | rfl <;> omega)
        clear hW3 hb_ q1 q2 x2 Q1 Q2 hx3
        refine wpT_valK (by rfl) (fun K hK => ?_)
        apply Exists.intro
        refine ⟨fun W hW => ?_, ?_⟩
        · focus (go_simp; (try rfl); done)
        go_simp
        refine hK _ ?_
        clear hK K
        refine wpT_nil (fun W5 hW5 => ?_)
        simp only [List.drop_succ_cons, List.drop_zero, List.drop_nil]
        have x5 := hideP (x4.out.trans hW5)
        have X5 := hideP (Row.ext X7.out x5.out)
        replace N1 := hideP (N1.out.to (S' := S2 w.heap.size x r) (But.of_ext hW5) fun _ _ h => h)
        replace N2 := hideP (N2.out.to (S' := S2 w.heap.size x r) (But.of_ext hW5) fun _ _ h => h)
        replace BB := hideP (BB.out.trans (But.of_ext x5.out))
        clear hW5 x4 x5 X7 R7 SAa SAb AA HRA
        obtain ⟨y0, y1, y2, y3, y4⟩ := rowU_cell X5.out hMM.out
        have fz0 : W5.frozen? ⟨x, 32, none⟩ = false := Row.fz X5.out 32
        have fz1 : W5.frozen? ⟨x, 33, none⟩ = false := Row.fz X5.out 33
        obtain ⟨h1, eh1⟩ : ∃ q, q = H1.length := ⟨_, rfl⟩
        obtain ⟨h2, eh2⟩ : ∃ q, q = H2.length := ⟨_, rfl⟩
        rw [← eh1, ← eh2]
        have EH1 := hideP eh1; have EH2 := hideP eh2
        clear eh1 eh2
        go_wp2_with fail
        go_roundw
        case rel =>
          have b1 : But (fun b => b = x) W5 (W5.setCell ⟨x, 32, none⟩ (.slice R3 h1 s3)) := But.set _ _ _ rfl
          have b2 : But (fun b => b = x) W5 ((W5.setCell ⟨x, 32, none⟩ (.slice R3 h1 s3)).setCell ⟨x, 33, none⟩ (.slice R4 h2 s4)) := b1.trans (But.set _ _ _ rfl)
          refine ⟨i + 1, by omega, by go_num, ?_⟩
          rw [HSO2.out]
          refine ⟨R3, s3, R4, s4, ?_, N1.out.to (b2.mono fun _ h => .inr (.inl h)) fun _ _ h => h, N2.out.to (b2.mono fun _ h => .inr (.inl h)) fun _ _ h => h, BB.out.trans b2⟩
          have := rowU_set (rowU_set X5.out hMM.out 0 (.slice R3 h1 s3)) hMM.out 1 (.slice R4 h2 s4)
          dsimp only
          rw [← EH1.out, ← EH2.out]
          exact this
        case measure => (try rw [m3]); simp [intOf]; omega
    · obtain rfl : i = nr := by omega
      have i1 : ¬ ((i : Int) < (i : Int)) := by omega
      have hST := hideP (show SayTo W9 w.heap.size x r (M.map b8) (sayA n 0) wr by have := hV.out; rwa [show sayR n i = sayA n 0 by rw [F1.out]; rfl] at this)
      have bb := hideP (show But (fun b => b = x) W9 wr by obtain ⟨_, _, _, _, _, _, _, bb⟩ := hV.out; exact bb)
      replace B := hideP (show Below w.heap.size w wr from B.out.trans (But.low bb.out (fun k hk => by rw [hk]; exact hwx.out) B.out.size))
      replace Z := hideP (row_but2 bb.out Z.out (by have := hzx.out; omega))
      replace R := hideP (row_but2 bb.out R.out (by have := hrx.out; omega))
      have hSW := hideP (show SayTo wr w.heap.size x r (M.map b8) (sayA n 0) wr by obtain ⟨a1, a2, a3, a4, a5, a6, a7, _⟩ := hST.out; exact ⟨a1, a2, a3, a4, a5, a6, a7, But.refl _⟩)
      clear hV hST bb
      obtain ⟨W0, hW0⟩ : ∃ W, W = wr := ⟨_, rfl⟩
      rw [← hW0] at B Z R hSW ⊢
      clear hW0
      obtain ⟨c0, c1, c2⟩ := nrow3 Z.out
      go_wp2_with fail
      clear c0 c1 c2
      go_loopw [53] (fun v53 wr => ∃ j : Nat, j ≤ nk ∧ v53 = .int .i64 (j : Nat) ∧ Hid (SayTo W0 w.heap.size x r (M.map b8) (sayA n j) wr)) (fun v53 _ => nk - (intOf v53).toNat)
      case atStart => exact ⟨0, Nat.zero_le _, rfl, hSW.out⟩
      case round =>
        obtain ⟨j, hj, rfl, hV⟩ := hrel
        clear hSW
        by_cases hlt : j < nk
        · have i1 : (j : Int) < (nk : Int) := by omega
          have m3 : wrap64 ((j : Int) + 1) = (j : Int) + 1 := wrap_succ4 hlt (by have := hlk.out; have := F2.out; omega)
          have hil : j < n.kids.length := by have := F2.out; omega
          obtain ⟨b0, off, hA, hB0, hc⟩ := hM.out.kids (by omega)
          rw [← F5.out] at hA
          subst hA
          have hme := hM.out.kid j hil
          have hok := hN.out.kid j hil
          have hkr := hT.out.kid j hil
          have hso := sayA_one n j hil
          have hI := hIA.out j (by omega)
          obtain ⟨s, hs⟩ : ∃ s, s = sayA n j := ⟨_, rfl⟩
          rw [← hs] at hV hso hI
          obtain ⟨SA, Sc, SA', Sc', x0, a0, a0', bb⟩ := hV.out
          have WB := hideP (show Below w.heap.size w wr from B.out.trans (But.low bb (fun k hk => by rw [hk]; exact hwx.out) B.out.size))
          have hrg : wr.rangeAt b0 (off + j * 37) (kidC (n.kids.getD j default) (p.kp j)) := fun a v hv => (WB.out.cell (p := ⟨b0, off + j * 37 + a, none⟩) hB0).trans (hc j hil a v hv)
          obtain ⟨k, hk⟩ : ∃ e, e = n.kids.getD j default := ⟨_, rfl⟩
          obtain ⟨pk, hpk⟩ : ∃ e, e = p.kp j := ⟨_, rfl⟩
          rw [← hk] at hme hok hrg hkr hso
          rw [← hpk] at hme hrg
          obtain ⟨C, hC⟩ : ∃ C, C = kidC k pk := ⟨_, rfl⟩
          have hsz := hideP (size_k37 (hok.cells pk))
          have hso2 := hideP (show kidL13.toArray.size = (kidC k pk).toArray.size by rw [List.size_toArray, List.size_toArray, hok.cells]; rfl)
          have hon := hideP (kidC_one k pk)
          rw [← hC] at hrg hsz hso2 hon
          have HC := hideP hC
          have X := hideP x0; have SAa := hideP a0; have SAb := hideP a0'; have BB := hideP bb; have HRG := hideP hrg; have HME := hideP hme; have HOK := hideP hok; have HKR := hideP (kidR_box hkr); have HSO := hideP hso; have HI := hideP hI
          clear x0 a0 a0' bb hV hs hk hpk hc hrg hme hok hkr hso hI hil hC
          go_upto_region 15 with (first
            | (refine wpList_load_mid rfl 43 (.tmp 55) rfl b0 (off + j * 37) rfl C _ HRG.out Try.underlying43 rfl hsz.out ?_)
            | (refine wpList_store_row rfl 43 (.tmp 12) (.tmp 56) rfl wr.heap.size (C).toArray rfl rfl 43 (kidL13).toArray (Row.new wr 43 (kidL13)) hsz.out hso2.out hon.out ?_)
            | fail)
          obtain ⟨G, hG⟩ : ∃ G, G = wr.heap.size := ⟨_, rfl⟩
          have hX6 := hideP (ext_setNew wr (.cells kidL13.toArray 43) C.toArray)
          obtain ⟨v6, hv6⟩ : ∃ v, v = (wr.alloc (.cells kidL13.toArray 43)).setRow wr.heap.size C.toArray := ⟨_, rfl⟩
          have R6 := hideP (show Row v6 G 43 (kidC k pk) by rw [hv6, hG, HC.out]; exact Row.setRow (Row.new wr 43 kidL13) _)
          rw [← hv6] at hX6
          rw [← hG] at hv6
          rw [← hG, ← hv6]
          have hGx := hideP (show G ≠ x by rw [hG]; have := Row.lt X.out; omega)
          clear hG hv6
          replace X := hideP (Row.ext X.out hX6.out)
          replace SAa := hideP (SAa.out.to (S' := S2 w.heap.size x r) (But.of_ext hX6.out) fun _ _ h => h)
          replace SAb := hideP (SAb.out.to (S' := S2 w.heap.size x r) (But.of_ext hX6.out) fun _ _ h => h)
          replace BB := hideP (BB.out.trans (But.of_ext hX6.out))
          replace WB := hideP (below_ext WB.out hX6.out)
          clear hX6 HRG hsz hso2 hon HC
          have HSO2 := hideP (show sayA n (j + 1) = ⟨s.live + k.live, s.size + k.size, (hullB (s.lo, s.hi) (k.lo, k.hi)).1, (hullB (s.lo, s.hi) (k.lo, k.hi)).2⟩ from HSO.out)
          have hj4 := hideP (show j ≤ 4 by have := hlk.out; have := F2.out; omega)
          have hlv := hideP (show -9223372036854775808 ≤ s.live + k.live ∧ s.live + k.live ≤ 9223372036854775807 by have := HI.out.l; have := hj4.out; have := HKR.out.2.2.1; omega)
          have hzv := hideP (show -9223372036854775808 ≤ s.size + k.size ∧ s.size + k.size ≤ 9223372036854775807 by have := HI.out.z; have := hj4.out; have := HKR.out.2.2.2; omega)
          have KR := hideP (Row.range R6.out)
          have g0 := hideP (show v6.cell? ⟨G, 32, none⟩ = some (.slice pk.lA k.lo.length pk.lc) from kid_at HOK.out KR.out 0 rfl)
          have g1 := hideP (show v6.cell? ⟨G, 33, none⟩ = some (.slice pk.hA k.hi.length pk.hc) from kid_at HOK.out KR.out 1 rfl)
          have g2 := (show v6.cell? ⟨G, 34, none⟩ = some (.int .i64 k.live) from kid_at HOK.out KR.out 2 rfl)
          have g3 := hideP (show v6.cell? ⟨G, 35, none⟩ = some (.int .i64 k.size) from kid_at HOK.out KR.out 3 rfl)
          have AL := hideP (HME.out.lo.after WB.out)
          have AH := hideP (HME.out.hi.after WB.out)
          obtain ⟨sl, esl⟩ : ∃ q, q = s.live := ⟨_, rfl⟩
          obtain ⟨sz, esz⟩ : ∃ q, q = s.size := ⟨_, rfl⟩
          obtain ⟨kl, ekl⟩ : ∃ q, q = k.live := ⟨_, rfl⟩
          obtain ⟨kz, ekz⟩ : ∃ q, q = k.size := ⟨_, rfl⟩
          obtain ⟨n1, en1⟩ : ∃ q, q = s.lo.length := ⟨_, rfl⟩
          obtain ⟨n2, en2⟩ : ∃ q, q = s.hi.length := ⟨_, rfl⟩
          obtain ⟨m1, em1⟩ : ∃ q, q = k.lo.length := ⟨_, rfl⟩
          obtain ⟨m2, em2⟩ : ∃ q, q = k.hi.length := ⟨_, rfl⟩
          rw [← esl, ← esz, ← en1, ← en2] at X
          rw [← esl, ← ekl] at hlv
          rw [← esz, ← ekz] at hzv
          rw [← esl, ← esz, ← ekl, ← ekz] at HSO2
          rw [← ekl] at g2
          rw [← ekz] at g3
          rw [← em1] at g0 AL
          rw [← em2] at g1 AH
          rw [← en1] at SAa
          rw [← en2] at SAb
          have E1 := hideP en1; have E2 := hideP en2; have E3 := hideP em1; have E4 := hideP em2
          clear esl esz en1 en2 ekl ekz em1 em2 HSO KR
          have e1 : IntKind.i64.wrap (sl + kl) = sl + kl := IntWalk.i64_in _ hlv.out
          have e2 : wrap64 (sl + kl) = sl + kl := IntWalk.wrap64_in _ hlv.out
          have fz : v6.frozen? ⟨x, 34, none⟩ = false := Row.fz X.out 34
          obtain ⟨y0, y1, y2, y3, y4⟩ := rowU_cell X.out hMM.out
          go_upto_region 16 with fail
          clear y0 y1 y2 y3 y4 fz e1 e2 g2
          obtain ⟨v7, h_⟩ : ∃ v, v = v6.setCell ⟨x, 34, none⟩ (.int .i64 (sl + kl)) := ⟨_, rfl⟩
          rw [← h_]
          have b_ : But (fun b => b = x) v6 v7 := by rw [h_]; exact But.set _ _ _ rfl
          replace X := hideP (show Row v7 x 43 (M.map b8 ++ [.slice SA n1 Sc, .slice SA' n2 Sc', .int .i64 (sl + kl), .int .i64 sz, .slice none 0 0]) by rw [h_]; exact rowU_set X.out hMM.out 2 _)
          replace g0 := hideP (b_.cell g0.out hGx.out)
          replace g1 := hideP (b_.cell g1.out hGx.out)
          have g3' := b_.cell g3.out hGx.out
          replace SAa := hideP (SAa.out.to (S' := S2 w.heap.size x r) (b_.mono fun _ h => .inr (.inl h)) fun _ _ h => h)
          replace SAb := hideP (SAb.out.to (S' := S2 w.heap.size x r) (b_.mono fun _ h => .inr (.inl h)) fun _ _ h => h)
          replace BB := hideP (BB.out.trans b_)
          replace WB := hideP (show Below w.heap.size w v7 from WB.out.trans (But.low b_ (fun k hk => by rw [hk]; exact hwx.out) WB.out.size))
          clear h_ b_ g3
          have e1 : IntKind.i64.wrap (sz + kz) = sz + kz := IntWalk.i64_in _ hzv.out
          have e2 : wrap64 (sz + kz) = sz + kz := IntWalk.wrap64_in _ hzv.out
          have fz : v7.frozen? ⟨x, 35, none⟩ = false := Row.fz X.out 35
          obtain ⟨y0, y1, y2, y3, y4⟩ := rowU_cell X.out hMM.out
          go_upto_region 17 with fail
          clear y0 y1 y2 y3 y4 fz e1 e2 g3'
          obtain ⟨v8, h_⟩ : ∃ v, v = v7.setCell ⟨x, 35, none⟩ (.int .i64 (sz + kz)) := ⟨_, rfl⟩
          rw [← h_]
          have b_ : But (fun b => b = x) v7 v8 := by rw [h_]; exact But.set _ _ _ rfl
          replace X := hideP (show Row v8 x 43 (M.map b8 ++ [.slice SA n1 Sc, .slice SA' n2 Sc', .int .i64 (sl + kl), .int .i64 (sz + kz), .slice none 0 0]) by rw [h_]; exact rowU_set X.out hMM.out 3 _)
          have g0' := b_.cell g0.out hGx.out
          have g1' := b_.cell g1.out hGx.out
          replace SAa := hideP (SAa.out.to (S' := S2 w.heap.size x r) (b_.mono fun _ h => .inr (.inl h)) fun _ _ h => h)
          replace SAb := hideP (SAb.out.to (S' := S2 w.heap.size x r) (b_.mono fun _ h => .inr (.inl h)) fun _ _ h => h)
          replace BB := hideP (BB.out.trans b_)
          replace WB := hideP (show Below w.heap.size w v8 from WB.out.trans (But.low b_ (fun k hk => by rw [hk]; exact hwx.out) WB.out.size))
          replace AL := hideP (HME.out.lo.after WB.out)
          replace AH := hideP (HME.out.hi.after WB.out)
          clear h_ b_ g0 g1
          have hhu := hullg_any (s.lo, s.hi) (k.lo, k.hi) D HI.out.b HKR.out.1 SA SA' pk.lA pk.hA Sc Sc' pk.lc pk.hc v8 (by have := SAa.out.arr; rwa [E1.out] at this) (by have := SAb.out.arr; rwa [E2.out] at this) (by have := AL.out; exact this) (by have := AH.out; exact this)
          dsimp only at hhu
          rw [← E1.out, ← E2.out, ← E3.out, ← E4.out] at hhu
          obtain ⟨H1, eh1⟩ : ∃ q, q = (hullB (s.lo, s.hi) (k.lo, k.hi)).1 := ⟨_, rfl⟩
          obtain ⟨H2, eh2⟩ : ∃ q, q = (hullB (s.lo, s.hi) (k.lo, k.hi)).2 := ⟨_, rfl⟩
          rw [← eh1, ← eh2] at hhu HSO2
          obtain ⟨h1, el1⟩ : ∃ q, q = H1.length := ⟨_, rfl⟩
          obtain ⟨h2, el2⟩ : ∃ q, q = H2.length := ⟨_, rfl⟩
          rw [← el1, ← el2] at hhu
          have EH1 := hideP el1; have EH2 := hideP el2; have HHU := hideP hhu
          have hx3 := hideP (Row.lt X.out)
          clear eh1 eh2 el1 el2 hhu
          obtain ⟨y0, y1, y2, y3, y4⟩ := rowU_cell X.out hMM.out
          go_wp2_with (go_at_call 106; refine HHU.out.mono ?_; rintro e_ W5 ⟨R3, s3, R4, s4, rfl, hb_, q1, q2⟩; have N1 := hideP (OwnI.arrN (S := S2 w.heap.size x r) q1 fun b hb => by have := hx3.out; have := hrx.out; have := hwx.out; rcases hb with hb | rfl | rfl <;> omega); have N2 := hideP (OwnI.arrN (S := S2 w.heap.size x r) q2 fun b hb => by have := hx3.out; have := hrx.out; have := hwx.out; rcases hb with hb | rfl | rfl <;> omega); have X5 := hideP (Row.after X.out hb_); have BB5 := hideP (BB.out.trans (But.of_below hb_)); clear hb_ q1 q2 y0 y1 y2 y3 y4 g0' g1'; obtain ⟨y0, y1, y2, y3, y4⟩ := rowU_cell X5.out hMM.out; have fz0 : W5.frozen? ⟨x, 32, none⟩ = false := Row.fz X5.out 32; have fz1 : W5.frozen? ⟨x, 33, none⟩ = false := Row.fz X5.out 33)
          go_roundw
          case rel =>
            have b1 : But (fun b => b = x) W5 (W5.setCell ⟨x, 32, none⟩ (.slice R3 h1 s3)) := But.set _ _ _ rfl
            have b2 : But (fun b => b = x) W5 ((W5.setCell ⟨x, 32, none⟩ (.slice R3 h1 s3)).setCell ⟨x, 33, none⟩ (.slice R4 h2 s4)) := b1.trans (But.set _ _ _ rfl)
            refine ⟨j + 1, by omega, by go_num, ?_⟩
            rw [HSO2.out]
            refine ⟨R3, s3, R4, s4, ?_, ?_, ?_, BB5.out.trans b2⟩
            · have := rowU_set (rowU_set X5.out hMM.out 0 (.slice R3 h1 s3)) hMM.out 1 (.slice R4 h2 s4)
              dsimp only
              rw [← EH1.out, ← EH2.out]
              exact this
            · exact N1.out.to (b2.mono fun _ h => .inr (.inl h)) fun _ _ h => h
            · exact N2.out.to (b2.mono fun _ h => .inr (.inl h)) fun _ _ h => h
          case measure => (try rw [m3]); simp [intOf]; omega
        · obtain rfl : j = nk := by omega
          have i1 : ¬ ((j : Int) < (j : Int)) := by omega
          have hI := hideP (hIA.out j (by have := F2.out; omega))
          obtain ⟨s, hs⟩ : ∃ s, s = sayA n j := ⟨_, rfl⟩
          rw [← hs] at hV hI
          have HS := hideP (show sayN n = ⟨M, s.lo, s.hi, s.live, s.size, keyN n⟩ by unfold sayN; rw [← F2.out, ← hs, ← ENB.out, ← HM0.out])
          obtain ⟨SA, Sc, SA', Sc', x0, a0, a0', bb⟩ := hV.out
          replace B := hideP (show Below w.heap.size w wr from B.out.trans (But.low bb (fun k hk => by rw [hk]; exact hwx.out) B.out.size))
          replace Z := hideP (row_but2 bb Z.out (by have := hzx.out; omega))
          replace R := hideP (row_but2 bb R.out (by have := hrx.out; omega))
          have X := hideP x0; have SAa := hideP a0; have SAb := hideP a0'
          clear x0 a0 a0' bb hV hs
          obtain ⟨sl, esl⟩ : ∃ q, q = s.live := ⟨_, rfl⟩
          obtain ⟨sz, esz⟩ : ∃ q, q = s.size := ⟨_, rfl⟩
          obtain ⟨n1, en1⟩ : ∃ q, q = s.lo.length := ⟨_, rfl⟩
          obtain ⟨n2, en2⟩ : ∃ q, q = s.hi.length := ⟨_, rfl⟩
          rw [← esl, ← esz, ← en1, ← en2] at X
          have E1 := hideP en1; have E2 := hideP en2; have E3 := hideP esl; have E4 := hideP esz
          clear en1 en2 esl esz
          obtain ⟨wv, hwv⟩ : ∃ W, W = wr := ⟨_, rfl⟩
          rw [← hwv] at B Z R X SAa SAb ⊢
          clear hwv
          obtain ⟨y0, y1, y2, y3, y4⟩ := rowU_cell X.out hMM.out
          by_cases hbig : 1048576 < sz
          · have kz := hideP size_kLA
            have kz2 := hideP size_kL
            have k1 := hideP kidL13_one
            go_wp2_with (refine wpList_store_row rfl 43 (.tmp 4) (.tmp 79) rfl r kidL13.toArray rfl rfl 43 kidL13.toArray R.out kz.out rfl k1.out ?_)
            refine ret_rowt rfl rfl rfl (Row.setRow R.out kidL13) Try.underlying43 kz2.out rfl ⟨below_setRow' B.out hwr.out _, .inl ⟨by rw [HS.out]; show 1048576 < s.size; rw [← E4.out]; exact hbig, rfl⟩⟩
          · obtain ⟨c0, c1, c2⟩ := nrow3 Z.out
            rcases hT.out.kind with hk | hk | hk
            · obtain rfl : kd = 1 := by rw [F3.out]; exact hk
              have hkey : keyN n = [] := by unfold keyN; rw [if_neg (by omega), if_neg (by omega)]
              have HKey := hideP hkey
              clear hkey hk
              go_upto_region 26 with fail
              clear y0 y1 y2 y3 y4 c0 c1 c2
              obtain ⟨C1, hC1⟩ : ∃ C, C = M.map b8 ++ [.slice SA n1 Sc, .slice SA' n2 Sc', .int .i64 sl, .int .i64 sz, .slice none 0 0] := ⟨_, rfl⟩
              rw [← hC1] at X
              have HC1 := hideP (show kidC (sayN n) ⟨SA, Sc, SA', Sc', none, 0⟩ = C1 by rw [hC1, HS.out]; unfold kidC kidT; dsimp only; rw [← E1.out, ← E2.out, ← E3.out, ← E4.out, HKey.out]; try rfl)
              have l37 : C1.length = 37 := by rw [hC1]; simp [hML.out]
              have t37 := hideP (size_k37 l37)
              have t37A := hideP (show (Try.prog.info? 43).map (·.size) = some C1.toArray.size by rw [List.size_toArray]; exact size_k37 l37)
              have tone := hideP (show C1.toArray.all (·.oneCell') = true by rw [← HC1.out]; exact kidC_one _ _)
              have tso := hideP (show kidL13.toArray.size = C1.toArray.size by rw [List.size_toArray, List.size_toArray, l37]; rfl)
              clear hC1 l37
              go_wp2_with (first
                | (refine wpList_load_row rfl 43 (.tmp 8) rfl x rfl 43 C1.toArray (0, 0) _ X.out Try.underlying43 rfl t37A.out ?_)
                | (refine wpList_store_row rfl 43 (.tmp 4) (.tmp 100) rfl r C1.toArray rfl rfl 43 kidL13.toArray R.out t37A.out tso.out tone.out ?_))
              refine ret_rowt rfl rfl rfl (Row.setRow R.out C1) Try.underlying43 t37.out rfl ⟨below_setRow' B.out hwr.out _, .inr ⟨by rw [HS.out]; show s.size ≤ 1048576; rw [← E4.out]; omega, ⟨SA, Sc, SA', Sc', none, 0⟩, by rw [HC1.out]; rfl, ?_⟩⟩
              rw [HS.out]
              have bs : But (S2 w.heap.size x r) wv ((wv).setRow r C1.toArray) := But.setRow _ _ _ (.inr (.inr rfl))
              exact ⟨(SAa.out.to (S' := S2 w.heap.size x r) bs fun _ _ h => h).mono fun b hb => .inl hb, (SAb.out.to (S' := S2 w.heap.size x r) bs fun _ _ h => h).mono fun b hb => .inl hb, fun h => absurd h (by show ¬ 0 < (keyN n).length; rw [HKey.out]; simp)⟩
            · obtain rfl : kd = 2 := by rw [F3.out]; exact hk
              have h0 := hT.out.leaf hk
              have hkey : keyN n = (n.rows.getD 0 default).row := by unfold keyN; rw [if_pos hk]
              obtain ⟨b0, off, hA, hB0, hc⟩ := hM.out.rows h0
              rw [← F4.out] at hA
              subst hA
              have hce := hc 0 h0
              dsimp only at hce
              have hra := hM.out.row 0 h0
              have hrl := hT.out.row 0 h0
              obtain ⟨⟨rr, lv⟩, he⟩ : ∃ e, e = n.rows.getD 0 default := ⟨_, rfl⟩
              obtain ⟨⟨A1, cA⟩, hp⟩ : ∃ e, e = p.rp 0 := ⟨_, rfl⟩
              rw [← he] at hce hra hrl hkey
              rw [← hp] at hce hra
              dsimp only at hra hrl hkey
              unfold entC at hce
              dsimp only at hce
              have q0 := (B.out.cell (p := ⟨b0, off + 0 * 2 + 0, none⟩) hB0).trans (hce 0 _ rfl)
              simp only [Nat.zero_mul, Nat.add_zero] at q0
              have hcl := clone_any A1 rr cA wv (hra.after B.out) (by have := hT.out.dd; omega)
              have j0 : (0 : Int) < (i : Int) := by have := F1.out; omega
              obtain ⟨m, hm⟩ : ∃ q, q = rr.length := ⟨_, rfl⟩
              rw [← hm] at q0 hcl
              have HKey := hideP hkey; have Hm := hideP hm; have HCL := hideP hcl
              have hxv := hideP (Row.lt X.out)
              clear hkey hk h0 hB0 hc hce hra hrl he hp hm hcl
              go_upto_region 26 with (go_at_call 108; refine HCL.out.mono ?_; rintro e_ W5 ⟨RK, sK, rfl, hb_, o_⟩; have KK := hideP (OwnI.arrN (S := S2 w.heap.size x r) o_ fun b hb => by have := hxv.out; have := hrx.out; have := hwx.out; rcases hb with hb | rfl | rfl <;> omega); clear y0 y1 y2 y3 y4 q0; replace X := hideP (Row.after X.out hb_); replace R := hideP (Row.after R.out hb_); replace B := hideP (bstep B.out hb_); replace SAa := hideP (SAa.out.to (S' := S2 w.heap.size x r) (But.of_below hb_) fun _ _ h => h); replace SAb := hideP (SAb.out.to (S' := S2 w.heap.size x r) (But.of_below hb_) fun _ _ h => h); clear hb_ o_; have fz : W5.frozen? ⟨x, 36, none⟩ = false := Row.fz X.out 36; obtain ⟨y0, y1, y2, y3, y4⟩ := rowU_cell X.out hMM.out)
              clear y0 y1 y2 y3 y4 fz c0 c1 c2
              obtain ⟨v9, h_⟩ : ∃ v, v = W5.setCell ⟨x, 36, none⟩ (.slice RK m sK) := ⟨_, rfl⟩
              rw [← h_]
              have b_ : But (fun b => b = x) W5 v9 := by rw [h_]; exact But.set _ _ _ rfl
              replace X := hideP (show Row v9 x 43 (M.map b8 ++ [.slice SA n1 Sc, .slice SA' n2 Sc', .int .i64 sl, .int .i64 sz, .slice RK m sK]) by rw [h_]; exact rowU_set X.out hMM.out 4 _)
              replace R := hideP (row_but2 b_ R.out (by have := hrx.out; omega))
              replace B := hideP (show Below w.heap.size w v9 from B.out.trans (But.low b_ (fun k hk => by rw [hk]; exact hwx.out) B.out.size))
              replace SAa := hideP (SAa.out.to (S' := S2 w.heap.size x r) (b_.mono fun _ h => .inr (.inl h)) fun _ _ h => h)
              replace SAb := hideP (SAb.out.to (S' := S2 w.heap.size x r) (b_.mono fun _ h => .inr (.inl h)) fun _ _ h => h)
              replace KK := hideP (KK.out.to (S' := S2 w.heap.size x r) (b_.mono fun _ h => .inr (.inl h)) fun _ _ h => h)
              clear h_ b_ HCL hxv
              obtain ⟨C1, hC1⟩ : ∃ C, C = M.map b8 ++ [.slice SA n1 Sc, .slice SA' n2 Sc', .int .i64 sl, .int .i64 sz, .slice RK m sK] := ⟨_, rfl⟩
              rw [← hC1] at X
              have HC1 := hideP (show kidC (sayN n) ⟨SA, Sc, SA', Sc', RK, sK⟩ = C1 by rw [hC1, HS.out]; unfold kidC kidT; dsimp only; rw [← E1.out, ← E2.out, ← E3.out, ← E4.out, HKey.out, ← Hm.out]; try rfl)
              have l37 : C1.length = 37 := by rw [hC1]; simp [hML.out]
              have t37 := hideP (size_k37 l37)
              have t37A := hideP (show (Try.prog.info? 43).map (·.size) = some C1.toArray.size by rw [List.size_toArray]; exact size_k37 l37)
              have tone := hideP (show C1.toArray.all (·.oneCell') = true by rw [← HC1.out]; exact kidC_one _ _)
              have tso := hideP (show kidL13.toArray.size = C1.toArray.size by rw [List.size_toArray, List.size_toArray, l37]; rfl)
              clear hC1 l37
              go_wp2_with (first
                | (refine wpList_load_row rfl 43 (.tmp 8) rfl x rfl 43 C1.toArray (0, 0) _ X.out Try.underlying43 rfl t37A.out ?_)
                | (refine wpList_store_row rfl 43 (.tmp 4) (.tmp 100) rfl r C1.toArray rfl rfl 43 kidL13.toArray R.out t37A.out tso.out tone.out ?_))
              refine ret_rowt rfl rfl rfl (Row.setRow R.out C1) Try.underlying43 t37.out rfl ⟨below_setRow' B.out hwr.out _, .inr ⟨by rw [HS.out]; show s.size ≤ 1048576; rw [← E4.out]; omega, ⟨SA, Sc, SA', Sc', RK, sK⟩, by rw [HC1.out]; rfl, ?_⟩⟩
              rw [HS.out]
              have bs : But (S2 w.heap.size x r) v9 ((v9).setRow r C1.toArray) := But.setRow _ _ _ (.inr (.inr rfl))
              exact ⟨(SAa.out.to (S' := S2 w.heap.size x r) bs fun _ _ h => h).mono fun b hb => .inl hb, (SAb.out.to (S' := S2 w.heap.size x r) bs fun _ _ h => h).mono fun b hb => .inl hb, by show ArrN _ _ RK (keyN n).length (i64s (keyN n)); rw [HKey.out]; exact (KK.out.to (S' := S2 w.heap.size x r) bs fun _ _ h => h).mono fun b hb => .inl hb⟩
            · obtain rfl : kd = 3 := by rw [F3.out]; exact hk
              have h0 := hT.out.inner hk
              have hkey : keyN n = (n.kids.getD 0 default).key := by unfold keyN; rw [if_neg (by omega), if_pos hk]
              obtain ⟨b0, off, hA, hB0, hc⟩ := hM.out.kids h0
              rw [← F5.out] at hA
              subst hA
              have hce : w.rangeAt b0 (off + 0 * 37) (kidC (n.kids.getD 0 default) (p.kp 0)) := hc 0 h0
              have hra := (hM.out.kid 0 h0).key
              have hok := hN.out.kid 0 h0
              have hrl := hT.out.key 0 h0
              obtain ⟨kk, he⟩ : ∃ e, e = n.kids.getD 0 default := ⟨_, rfl⟩
              obtain ⟨pk, hp⟩ : ∃ e, e = p.kp 0 := ⟨_, rfl⟩
              rw [← he] at hce hra hrl hkey hok
              rw [← hp] at hce hra
              have q0 := (B.out.cell (p := ⟨b0, off + 0 * 37 + (32 + 4), none⟩) hB0).trans (kid_at hok hce 4 rfl)
              simp only [Nat.zero_mul, Nat.add_zero, Nat.reduceAdd] at q0
              obtain ⟨rr, hrr⟩ : ∃ e, e = kk.key := ⟨_, rfl⟩
              obtain ⟨A1, hA1⟩ : ∃ e, e = pk.kA := ⟨_, rfl⟩
              obtain ⟨cA, hcA⟩ : ∃ e, e = pk.kc := ⟨_, rfl⟩
              rw [← hrr] at hra hrl hkey q0
              rw [← hA1] at hra q0
              rw [← hcA] at q0
              have hcl := clone_any A1 rr cA wv (hra.after B.out) (by omega)
              have j0 : (0 : Int) < (j : Int) := by have := F2.out; omega
              clear hok hrr hA1 hcA
              obtain ⟨m, hm⟩ : ∃ q, q = rr.length := ⟨_, rfl⟩
              rw [← hm] at q0 hcl
              have HKey := hideP hkey; have Hm := hideP hm; have HCL := hideP hcl
              have hxv := hideP (Row.lt X.out)
              clear hkey hk h0 hB0 hc hce hra hrl he hp hm hcl
              go_upto_region 26 with (go_at_call 108; refine HCL.out.mono ?_; rintro e_ W5 ⟨RK, sK, rfl, hb_, o_⟩; have KK := hideP (OwnI.arrN (S := S2 w.heap.size x r) o_ fun b hb => by have := hxv.out; have := hrx.out; have := hwx.out; rcases hb with hb | rfl | rfl <;> omega); clear y0 y1 y2 y3 y4 q0; replace X := hideP (Row.after X.out hb_); replace R := hideP (Row.after R.out hb_); replace B := hideP (bstep B.out hb_); replace SAa := hideP (SAa.out.to (S' := S2 w.heap.size x r) (But.of_below hb_) fun _ _ h => h); replace SAb := hideP (SAb.out.to (S' := S2 w.heap.size x r) (But.of_below hb_) fun _ _ h => h); clear hb_ o_; have fz : W5.frozen? ⟨x, 36, none⟩ = false := Row.fz X.out 36; obtain ⟨y0, y1, y2, y3, y4⟩ := rowU_cell X.out hMM.out)
              clear y0 y1 y2 y3 y4 fz c0 c1 c2
              obtain ⟨v9, h_⟩ : ∃ v, v = W5.setCell ⟨x, 36, none⟩ (.slice RK m sK) := ⟨_, rfl⟩
              rw [← h_]
              have b_ : But (fun b => b = x) W5 v9 := by rw [h_]; exact But.set _ _ _ rfl
              replace X := hideP (show Row v9 x 43 (M.map b8 ++ [.slice SA n1 Sc, .slice SA' n2 Sc', .int .i64 sl, .int .i64 sz, .slice RK m sK]) by rw [h_]; exact rowU_set X.out hMM.out 4 _)
              replace R := hideP (row_but2 b_ R.out (by have := hrx.out; omega))
              replace B := hideP (show Below w.heap.size w v9 from B.out.trans (But.low b_ (fun k hk => by rw [hk]; exact hwx.out) B.out.size))
              replace SAa := hideP (SAa.out.to (S' := S2 w.heap.size x r) (b_.mono fun _ h => .inr (.inl h)) fun _ _ h => h)
              replace SAb := hideP (SAb.out.to (S' := S2 w.heap.size x r) (b_.mono fun _ h => .inr (.inl h)) fun _ _ h => h)
              replace KK := hideP (KK.out.to (S' := S2 w.heap.size x r) (b_.mono fun _ h => .inr (.inl h)) fun _ _ h => h)
              clear h_ b_ HCL hxv
              obtain ⟨C1, hC1⟩ : ∃ C, C = M.map b8 ++ [.slice SA n1 Sc, .slice SA' n2 Sc', .int .i64 sl, .int .i64 sz, .slice RK m sK] := ⟨_, rfl⟩
              rw [← hC1] at X
              have HC1 := hideP (show kidC (sayN n) ⟨SA, Sc, SA', Sc', RK, sK⟩ = C1 by rw [hC1, HS.out]; unfold kidC kidT; dsimp only; rw [← E1.out, ← E2.out, ← E3.out, ← E4.out, HKey.out, ← Hm.out]; try rfl)
              have l37 : C1.length = 37 := by rw [hC1]; simp [hML.out]
              have t37 := hideP (size_k37 l37)
              have t37A := hideP (show (Try.prog.info? 43).map (·.size) = some C1.toArray.size by rw [List.size_toArray]; exact size_k37 l37)
              have tone := hideP (show C1.toArray.all (·.oneCell') = true by rw [← HC1.out]; exact kidC_one _ _)
              have tso := hideP (show kidL13.toArray.size = C1.toArray.size by rw [List.size_toArray, List.size_toArray, l37]; rfl)
              clear hC1 l37
              go_wp2_with (first
                | (refine wpList_load_row rfl 43 (.tmp 8) rfl x rfl 43 C1.toArray (0, 0) _ X.out Try.underlying43 rfl t37A.out ?_)
                | (refine wpList_store_row rfl 43 (.tmp 4) (.tmp 100) rfl r C1.toArray rfl rfl 43 kidL13.toArray R.out t37A.out tso.out tone.out ?_))
              refine ret_rowt rfl rfl rfl (Row.setRow R.out C1) Try.underlying43 t37.out rfl ⟨below_setRow' B.out hwr.out _, .inr ⟨by rw [HS.out]; show s.size ≤ 1048576; rw [← E4.out]; omega, ⟨SA, Sc, SA', Sc', RK, sK⟩, by rw [HC1.out]; rfl, ?_⟩⟩
              rw [HS.out]
              have bs : But (S2 w.heap.size x r) v9 ((v9).setRow r C1.toArray) := But.setRow _ _ _ (.inr (.inr rfl))
              exact ⟨(SAa.out.to (S' := S2 w.heap.size x r) bs fun _ _ h => h).mono fun b hb => .inl hb, (SAb.out.to (S' := S2 w.heap.size x r) bs fun _ _ h => h).mono fun b hb => .inl hb, by show ArrN _ _ RK (keyN n).length (i64s (keyN n)); rw [HKey.out]; exact (KK.out.to (S' := S2 w.heap.size x r) bs fun _ _ h => h).mono fun b hb => .inl hb⟩
end Go.Proofs.Ytgcbodpjidoanaa
