/- Contract of the reference's Say of a node. -/
import Derived.Deep.DeepCutAuto
import Derived.Test.YtgcbodpjidoanaaQ31
import Derived.Test.YtgcbodpjidoanaaQ38
import Derived.Test.YtgcbodpjidoanaaQ44
import Derived.Test.YtgcbodpjidoanaaQ45
set_option linter.unusedVariables false
set_option linter.unusedSimpArgs false
namespace Go.Proofs.Ytgcbodpjidoanaa
open Go.RowKit
def RSayGot (w : World) (n : NodeD) (e : Ending) (w' : World) : Prop :=
  Below w.heap.size w w' ∧ ((1048576 < (sayN n).size ∧ e = .returned (.tuple #[.agg kidL13.toArray, .bool false])) ∨ ((sayN n).size ≤ 1048576 ∧ ∃ q, e = .returned (.tuple #[.agg (kidC (sayN n) q).toArray, .bool true]) ∧ KidMem w' w'.heap.size (sayN n) q))
/-- the key is laid -/
def KeyTo (v : World) (x r : Nat) (M L : List Value) (l : List Int) (wr : World) : Prop :=
  ∃ A c, Row wr x 43 (M ++ (L ++ [.slice A l.length c])) ∧ ArrN (S2 0 x r) wr A l.length (i64s l) ∧ But (fun b => b = x) v wr
def sayQ (n : NodeD) (i : Nat) : SayS := ⟨(sayR n i).live, (i : Nat), (sayR n i).lo, (sayR n i).hi⟩
theorem arr_lowN {w W : World} {n x r : Nat} {A : Option Addr} {f : Nat → Value} (h : Arr w w.heap.size A n f) (hb : Below w.heap.size w W) (hx : w.heap.size ≤ x) (hr : w.heap.size ≤ r) : ArrN (S2 0 x r) W A n f := fun hn => by
  obtain ⟨b, off, e, h1, h2⟩ := h hn
  exact ⟨b, off, e, Nat.lt_of_lt_of_le h1 hb.size, by rintro (h | h | h) <;> omega, fun i hi => (hb.cell (p := ⟨b, off + i, none⟩) h1).trans (h2 i hi)⟩
set_option maxRecDepth 100000 in
set_option maxHeartbeats 8000000 in
theorem rnsay_ok (n : NodeD) (p : NodeP) (D : Nat) (w : World) (hn : NodeOk n) (hm : NodeMem w w.heap.size n p) (hr : nodeR n (D : Int) = true) (ht : NodeRt n D) :
    Calls Try.prog 28 #[.agg (nodeC n p).toArray] w (RSayGot w n) := by
  have hEn := fun W (hW : Below w.heap.size w W) => rnbytes_any n p (D : Int) W hn (hm.after hW) (nodeR_facts hr)
  have hN := hideP hn
  have hM := hideP hm
  have hT := hideP ht
  have hIR := hideP (fun i hi => sayR_i ht hn i hi)
  have hIA := hideP (fun i hi => sayA_i ht hn i hi)
  have hNB := hideP (nodeB_isB ht hn)
  have hNL := hideP (nodeB_len ht hn)
  have hlr := hideP ht.rows
  have hlk := hideP ht.kids
  obtain ⟨NB, eNB⟩ : ∃ b, b = nodeB n := ⟨_, rfl⟩
  rw [← eNB] at hEn hNB hNL
  have ENB := hideP eNB
  obtain ⟨nb, enb⟩ : ∃ b, b = NB.length := ⟨_, rfl⟩
  rw [← enb] at hEn hNL
  have ENb := hideP enb
  obtain ⟨M, hM0⟩ : ∃ M, M = sum9 NB := ⟨_, rfl⟩
  have hML := hideP (show M.length = 32 by rw [hM0]; exact sum9_len NB)
  have hSum := hideP (fun R c W (h : Arr W W.heap.size R nb (u8s NB)) => show Calls Try.prog 109 #[.slice R nb c] W fun e w' => e = .returned (.agg (M.map b8).toArray) ∧ Below W.heap.size W w' by
    have := r9sum_any R NB c W (by rw [← enb]; exact h) hNB.out (by rw [← enb]; have := hNL.out; omega)
    rw [← enb, show pageD NB = M.map b8 by rw [hM0]; rfl] at this
    exact this)
  have HM0 := hideP hM0
  unfold nodeC at hEn ⊢
  obtain ⟨nr, f1⟩ : ∃ b, b = n.rows.length := ⟨_, rfl⟩
  obtain ⟨nk, f2⟩ : ∃ b, b = n.kids.length := ⟨_, rfl⟩
  obtain ⟨kd, f3⟩ : ∃ b, b = n.kind := ⟨_, rfl⟩
  obtain ⟨rA, f4⟩ : ∃ a, a = p.rA := ⟨_, rfl⟩
  obtain ⟨kA, f5⟩ : ∃ a, a = p.kA := ⟨_, rfl⟩
  rw [← f1, ← f2, ← f3, ← f4, ← f5] at hEn ⊢
  have F1 := hideP f1; have F2 := hideP f2; have F3 := hideP f3; have F4 := hideP f4; have F5 := hideP f5
  clear f1 f2 f3 f4 f5
  have hEn := hideP hEn
  clear hn hm hr ht eNB enb hM0
  obtain ⟨v0, hv0⟩ : ∃ v, v = w.alloc (.cells #[.int .u8 (kd : Nat), .slice rA nr p.rc, .slice kA nk p.kc] 27) := ⟨_, rfl⟩
  obtain ⟨z, hz⟩ : ∃ g, g = w.heap.size := ⟨_, rfl⟩
  obtain ⟨v1, hv1⟩ : ∃ v, v = v0.alloc (.cells kidL13.toArray 43) := ⟨_, rfl⟩
  obtain ⟨r, hr0⟩ : ∃ g, g = z + 1 := ⟨_, rfl⟩
  have Z := hideP (show Row v1 z 27 [.int .u8 (kd : Nat), .slice rA nr p.rc, .slice kA nk p.kc] by rw [hv1]; exact Row.alloc (by rw [hv0, hz]; exact Row.new w _ _) _)
  have R := hideP (show Row v1 r 43 kidL13 by rw [hv1]; exact Row.new' v0 _ _ _ (by rw [hv0, hr0, hz]; simp))
  have B := hideP (show Below w.heap.size w v1 by rw [hv1]; exact bstep (by rw [hv0]; exact below_new _ _) (below_new _ _))
  have hwr := hideP (show w.heap.size ≤ r by rw [hr0, hz]; omega)
  have hzr := hideP (show z < r by rw [hr0]; omega)
  have Hv0 := hideP hv0; have Hv1 := hideP hv1; have Hz := hideP hz; have Hr := hideP hr0
  clear hv0 hv1 hz hr0
  go_enter Try.func28, Try.ntmps28
  go_upto_region 1 with fail
  rw [← Hz.out, ← Hv0.out, ← Hr.out, show (v0.alloc (Obj.cells #[.int .u8 0, .int .u8 0, .int .u8 0, .int .u8 0, .int .u8 0, .int .u8 0, .int .u8 0, .int .u8 0, .int .u8 0, .int .u8 0, .int .u8 0, .int .u8 0, .int .u8 0, .int .u8 0, .int .u8 0, .int .u8 0, .int .u8 0, .int .u8 0, .int .u8 0, .int .u8 0, .int .u8 0, .int .u8 0, .int .u8 0, .int .u8 0, .int .u8 0, .int .u8 0, .int .u8 0, .int .u8 0, .int .u8 0, .int .u8 0, .int .u8 0, .int .u8 0, .slice none 0 0, .slice none 0 0, .int .i64 0, .int .i64 0, .slice none 0 0] 43)) = v1 from Hv1.out.symm]
  clear Hv0 Hv1
  obtain ⟨c0, c1, c2⟩ := nrow3 Z.out
  have hF := fold_kid M hML.out
  obtain ⟨C0, hC0⟩ : ∃ C, C = M.map b8 ++ [.slice none 0 0, .slice none 0 0, .int .i64 0, .int .i64 0, .slice none 0 0] := ⟨_, rfl⟩
  rw [← hC0] at hF
  have hs0 := hideP (show (Try.prog.info? 43).map (·.size) = some C0.toArray.size by rw [List.size_toArray]; exact size_k37 (by rw [hC0]; simp [hML.out]))
  have hso := hideP (show kidL13.toArray.size = C0.toArray.size by rw [List.size_toArray, List.size_toArray, hC0]; simp [hML.out])
  have hone := hideP (show C0.toArray.all (·.oneCell') = true by
    rw [hC0]
    have := kidC_one ⟨M, [], [], 0, 0, []⟩ kidPZ
    exact this)
  have HC0 := hideP hC0
  have hml := hML.out
  clear hC0
  go_upto_region 2 with (first
    | (go_at_call 18; refine (hEn.out _ B.out).mono ?_; rintro e1 w1 ⟨RB, cB, rfl, o_, b_⟩; have O1 := hideP o_.arr; have B1 := hideP (bstep B.out b_); have R1 := hideP (Row.after R.out b_); have Z1 := hideP (Row.after Z.out b_); clear b_ o_ c0 c1 c2)
    | (go_at_call 109; refine (hSum.out RB cB w1 (by rw [ENb.out]; exact O1.out)).mono ?_; rintro e1 w2 ⟨rfl, b_⟩; have B2 := hideP (bstep B1.out b_); have R2 := hideP (Row.after R1.out b_); have Z2 := hideP (Row.after Z1.out b_); clear b_)
    | (refine wpList_store_row rfl 43 (.tmp 4) (.tmp 10) rfl w2.heap.size C0.toArray (by kernel_rfl) (by kernel_rfl) 43 kidL13.toArray (Row.new w2 43 kidL13) hs0.out hso.out hone.out ?_))
  try simp only [Act.put]
  clear hF hml hEn hSum
  obtain ⟨x, hx⟩ : ∃ x, x = w2.heap.size := ⟨_, rfl⟩
  obtain ⟨W9, hv9⟩ : ∃ v, v = (w2.alloc (.cells kidL13.toArray 43)).setRow x C0.toArray := ⟨_, rfl⟩
  rw [← hx, ← hv9]
  have hb9 : Below w2.heap.size w2 W9 := by rw [hv9, hx]; exact below_setRow' (below_new w2 _) (Nat.le_refl _) _
  have hzx := hideP (show z < x by rw [hx]; exact Row.lt Z2.out)
  have hrx := hideP (show r < x by rw [hx]; exact Row.lt R2.out)
  have hwx := hideP (show w.heap.size ≤ x by have := hzx.out; have := Hz.out; omega)
  have hMM := hideP (show (M.map b8).length = 32 by simp [hML.out])
  have hST := hideP (show SayTo W9 0 x r (M.map b8) (sayQ n 0) W9 from ⟨none, 0, none, 0, by
    rw [hv9, hx]
    have := Row.setRow (Row.new w2 43 kidL13) C0
    rw [HC0.out] at this ⊢
    exact this, fun h => absurd h (by simp [sayQ, sayR]), fun h => absurd h (by simp [sayQ, sayR]), But.refl _⟩)
  replace Z := hideP (Row.after Z2.out hb9)
  replace R := hideP (Row.after R2.out hb9)
  replace B := hideP (bstep B2.out hb9)
  clear hx hv9 hb9 Z1 R1 B1 Z2 R2 B2 O1 hs0 hso hone HC0
  go_wp2_with fail
  go_loopw [5] (fun v5 wr => ∃ i : Nat, i ≤ nr ∧ v5 = .int .i64 (i : Nat) ∧ Hid (SayTo W9 0 x r (M.map b8) (sayQ n i) wr)) (fun v5 _ => nr - (intOf v5).toNat)
  case atStart => exact ⟨0, Nat.zero_le _, rfl, hST.out⟩
  case round =>
    obtain ⟨i, hi, rfl, hV⟩ := hrel
    clear hST
    obtain ⟨c0, c1, c2⟩ := nrow3 (row_but2 (show But (fun b => b = x) W9 wr by obtain ⟨_, _, _, _, _, _, _, bb⟩ := hV.out; exact bb) Z.out (by have := hzx.out; omega))
    by_cases hlt : i < nr
    · have i1 : (i : Int) < (nr : Int) := by omega
      have j0 : (0 : Int) ≤ (i : Int) := by omega
      have m3 : wrap64 ((i : Int) + 1) = (i : Int) + 1 := wrap_succ4 hlt (by have := hlr.out; have := F1.out; omega)
      have m4 : IntKind.i64.wrap ((i : Int) + 1) = (i : Int) + 1 := IntWalk.i64_in _ (by have := hlr.out; have := F1.out; omega)
      have hil : i < n.rows.length := by have := F1.out; omega
      obtain ⟨b0, off, hA, hB0, hc⟩ := hM.out.rows (by omega)
      rw [← F4.out] at hA
      subst hA
      have hce := hc i hil
      dsimp only at hce
      have hra := hM.out.row i hil
      have hok := hN.out.row i hil
      have hrl := hT.out.row i hil
      have hso := sayR_one n i hil
      have hI := hIR.out i (by omega)
      obtain ⟨⟨rr, lv⟩, he⟩ : ∃ e, e = n.rows.getD i default := ⟨_, rfl⟩
      obtain ⟨⟨A1, cA⟩, hp⟩ : ∃ e, e = p.rp i := ⟨_, rfl⟩
      rw [← he] at hce hra hok hrl hso
      rw [← hp] at hce hra
      dsimp only at hra hok hrl
      unfold entC at hce
      dsimp only at hce
      obtain ⟨SA, Sc, SA', Sc', x0, a0, a0', bb⟩ := hV.out
      unfold sayQ at x0 a0 a0'
      dsimp only at x0 a0 a0'
      have hsq : sayQ n (i + 1) = ⟨(sayR n (i + 1)).live, ((i + 1 : Nat) : Int), (sayR n (i + 1)).lo, (sayR n (i + 1)).hi⟩ := rfl
      rw [hso] at hsq
      obtain ⟨s, hs⟩ : ∃ s, s = sayR n i := ⟨_, rfl⟩
      rw [← hs] at hsq hI x0 a0 a0'
      have WB := hideP (show Below w.heap.size w wr from B.out.trans (But.low bb (fun k hk => by rw [hk]; exact hwx.out) B.out.size))
      obtain ⟨m, hm⟩ : ∃ m, m = rr.length := ⟨_, rfl⟩
      rw [← hm] at hce hra hrl
      have q0 := hideP (fun W (hW : Below w.heap.size w W) => show W.cell? ⟨b0, off + i * 2, none⟩ = some (.slice A1 m cA) from (hW.cell (p := ⟨b0, off + i * 2 + 0, none⟩) hB0).trans (hce 0 _ rfl))
      have q1 := hideP (fun W (hW : Below w.heap.size w W) => show W.cell? ⟨b0, off + i * 2 + 1, none⟩ = some (.bool lv) from (hW.cell (p := ⟨b0, off + i * 2 + 1, none⟩) hB0).trans (hce 1 _ rfl))
      have X := hideP x0; have SAa := hideP a0; have SAb := hideP a0'; have BB := hideP bb; have HRA := hideP hra; have HRL := hideP hrl; have HI := hideP hI; have Hm := hideP hm; have HSQ := hideP hsq
      have Z0 := Z
      replace Z := hideP (row_but2 bb Z.out (by have := hzx.out; omega))
      clear x0 a0 a0' bb hV hs he hp hce hc hra hok hrl hso hI hm hil hsq
      obtain ⟨sl, esl⟩ : ∃ q, q = s.live := ⟨_, rfl⟩
      obtain ⟨n1, en1⟩ : ∃ q, q = s.lo.length := ⟨_, rfl⟩
      obtain ⟨n2, en2⟩ : ∃ q, q = s.hi.length := ⟨_, rfl⟩
      have hlv := hideP (show -9223372036854775808 ≤ s.live + 1 ∧ s.live + 1 ≤ 9223372036854775807 by have := HI.out.l; have := hlr.out; have := F1.out; omega)
      rw [← esl, ← en1, ← en2] at X
      rw [← esl] at hlv
      rw [← en1] at SAa
      rw [← en2] at SAb
      have E0 := hideP esl; have E1 := hideP en1; have E2 := hideP en2
      clear esl en1 en2
      have fz : wr.frozen? ⟨x, 35, none⟩ = false := Row.fz X.out 35
      obtain ⟨y0, y1, y2, y3, y4⟩ := rowU_cell X.out hMM.out
      go_upto_region 6 with fail
      clear y0 y1 y2 y3 y4 fz c0 c1 c2
      obtain ⟨v5, h_⟩ : ∃ v, v = wr.setCell ⟨x, 35, none⟩ (.int .i64 ((i : Int) + 1)) := ⟨_, rfl⟩
      rw [← h_]
      have b_ : But (fun b => b = x) wr v5 := by rw [h_]; exact But.set _ _ _ rfl
      replace X := hideP (show Row v5 x 43 (M.map b8 ++ [.slice SA n1 Sc, .slice SA' n2 Sc', .int .i64 sl, .int .i64 ((i : Int) + 1), .slice none 0 0]) by rw [h_]; exact rowU_set X.out hMM.out 3 _)
      replace Z := hideP (row_but2 b_ Z.out (by have := hzx.out; omega))
      replace SAa := hideP (SAa.out.to (S' := S2 0 x r) (b_.mono fun _ h => .inr (.inl h)) fun _ _ h => h)
      replace SAb := hideP (SAb.out.to (S' := S2 0 x r) (b_.mono fun _ h => .inr (.inl h)) fun _ _ h => h)
      replace BB := hideP (BB.out.trans b_)
      replace WB := hideP (show Below w.heap.size w v5 from WB.out.trans (But.low b_ (fun k hk => by rw [hk]; exact hwx.out) WB.out.size))
      clear h_ b_
      obtain ⟨c0, c1, c2⟩ := nrow3 Z.out
      have r1 := q1.out v5 WB.out
      rcases lv with _ | _
      · go_wp2_with fail
        go_roundw
        case rel =>
          refine ⟨i + 1, by omega, by go_num, ?_⟩
          have hs2 : sayQ n (i + 1) = ⟨s.live, ((i + 1 : Nat) : Int), s.lo, s.hi⟩ := HSQ.out
          rw [hs2]
          refine ⟨SA, Sc, SA', Sc', ?_, ?_, ?_, BB.out⟩
          · dsimp only; rw [← E0.out, ← E1.out, ← E2.out, show ((i + 1 : Nat) : Int) = (i : Int) + 1 by omega]; exact X.out
          · dsimp only; rw [← E1.out]; exact SAa.out
          · dsimp only; rw [← E2.out]; exact SAb.out
        case measure => (try rw [m3]); simp [intOf]; omega
      · go_upto_region 7 with fail
        clear c0 c1 c2 r1
        have HSO2 := hideP (show sayQ n (i + 1) = ⟨s.live + 1, ((i + 1 : Nat) : Int), (hullB (s.lo, s.hi) (rr, rr)).1, (hullB (s.lo, s.hi) (rr, rr)).2⟩ from HSQ.out)
        rw [← E0.out, show ((i + 1 : Nat) : Int) = (i : Int) + 1 by omega] at HSO2
        have hb2 := hideP (show boxOk (rr, rr) D from .inl (row_right hT.out.dd.1 hT.out.dd.2 (by rw [← Hm.out]; exact HRL.out)))
        have e1 : IntKind.i64.wrap (sl + 1) = sl + 1 := IntWalk.i64_in _ hlv.out
        have e2 : wrap64 (sl + 1) = sl + 1 := IntWalk.wrap64_in _ hlv.out
        have fz : v5.frozen? ⟨x, 34, none⟩ = false := Row.fz X.out 34
        obtain ⟨y0, y1, y2, y3, y4⟩ := rowU_cell X.out hMM.out
        go_upto_region 8 with fail
        clear y0 y1 y2 y3 y4 fz e1 e2 HSQ
        obtain ⟨v6, h_⟩ : ∃ v, v = v5.setCell ⟨x, 34, none⟩ (.int .i64 (sl + 1)) := ⟨_, rfl⟩
        rw [← h_]
        have b_ : But (fun b => b = x) v5 v6 := by rw [h_]; exact But.set _ _ _ rfl
        replace X := hideP (show Row v6 x 43 (M.map b8 ++ [.slice SA n1 Sc, .slice SA' n2 Sc', .int .i64 (sl + 1), .int .i64 ((i : Int) + 1), .slice none 0 0]) by rw [h_]; exact rowU_set X.out hMM.out 2 _)
        replace Z := hideP (row_but2 b_ Z.out (by have := hzx.out; omega))
        replace SAa := hideP (SAa.out.to (S' := S2 0 x r) (b_.mono fun _ h => .inr (.inl h)) fun _ _ h => h)
        replace SAb := hideP (SAb.out.to (S' := S2 0 x r) (b_.mono fun _ h => .inr (.inl h)) fun _ _ h => h)
        replace BB := hideP (BB.out.trans b_)
        replace WB := hideP (show Below w.heap.size w v6 from WB.out.trans (But.low b_ (fun k hk => by rw [hk]; exact hwx.out) WB.out.size))
        clear h_ b_
        have AN := hideP (arr_lowN (x := x) (r := r) HRA.out WB.out hwx.out hwr.out)
        have r0 := q0.out v6 WB.out
        obtain ⟨c0, c1, c2⟩ := nrow3 Z.out
        obtain ⟨y0, y1, y2, y3, y4⟩ := rowU_cell X.out hMM.out
        refine wp_region_fork 17 (.q 0 (.q 1 (.q 2 (.q 3 (.q 4 (.q 5 (.q 6 (.q 7 (.q 8 (.q 9 (.q 10 (.q 11 (.q 12 (.q 13 (.q 14 (.l 15 (.q 16 .nil))))))))))))))))) (by kernel_rfl) (by kernel_rfl) ?_
        simp only [pickT, nthO_zero, nthO_succ]
        iterate 15 (refine wpT_valK (by rfl) (fun K hK => ?_); apply Exists.intro; refine ⟨fun W hW => ?_, ?_⟩; (focus (have h0 := hW.cell y0; have h1 := hW.cell y1; have h2 := hW.cell r0; have h3 := hW.cell c1; go_simp; (try rfl); done)); go_simp; refine hK _ ?_; clear hK K)
        clear y0 y1 y2 y3 y4 r0 c0 c1 c2
        refine wpT_loudK 110 #[.agg #[.slice SA n1 Sc, .slice SA' n2 Sc'], .agg #[.slice A1 m cA, .slice A1 m cA]] (by rfl) (fun W' => by go_simp) (fun W3 hW3 => ?_)
        have xW3 := hideP hW3.drew_left
        have AN3 := hideP (AN.out.to (S' := S2 0 x r) (But.of_ext xW3.out) fun _ _ h => h)
        have hhu := rhullg_any (s.lo, s.hi) (rr, rr) D HI.out.b hb2.out (S2 0 x r) SA SA' A1 A1 Sc Sc' cA cA W3 (by have := SAa.out.to (S' := S2 0 x r) (But.of_ext xW3.out) fun _ _ h => h; rwa [E1.out] at this) (by have := SAb.out.to (S' := S2 0 x r) (But.of_ext xW3.out) fun _ _ h => h; rwa [E2.out] at this) (by have := AN3.out; rwa [Hm.out] at this) (by have := AN3.out; rwa [Hm.out] at this)
        dsimp only at hhu
        rw [← E1.out, ← E2.out, ← Hm.out] at hhu
        obtain ⟨H1, eh1⟩ : ∃ q, q = (hullB (s.lo, s.hi) (rr, rr)).1 := ⟨_, rfl⟩
        obtain ⟨H2, eh2⟩ : ∃ q, q = (hullB (s.lo, s.hi) (rr, rr)).2 := ⟨_, rfl⟩
        rw [← eh1, ← eh2] at hhu HSO2
        obtain ⟨h1, el1⟩ : ∃ q, q = H1.length := ⟨_, rfl⟩
        obtain ⟨h2, el2⟩ : ∃ q, q = H2.length := ⟨_, rfl⟩
        rw [← el1, ← el2] at hhu
        have EH1 := hideP el1; have EH2 := hideP el2
        clear eh1 eh2 el1 el2
        refine hhu.mono ?_
        rintro e W4 ⟨R3, s3, R4, s4, rfl, hb_, q1, q2⟩
        refine ⟨_, rfl, Ext.of_below hb_, fun K hK => ?_⟩
        go_simp
        refine hK _ ?_
        clear hK K hhu
        have x4 := hideP (xW3.out.trans (Ext.of_below hb_))
        have hx3 := hideP (show x < W3.heap.size by have := Row.lt X.out; have := xW3.out.size; omega)
        have N1 := hideP (q1.mono (S' := S2 0 x r) fun b hb => ⟨hb, by have := hx3.out; have := hrx.out; rcases hb with hb | rfl | rfl <;> omega⟩)
        have N2 := hideP (q2.mono (S' := S2 0 x r) fun b hb => ⟨hb, by have := hx3.out; have := hrx.out; rcases hb with hb | rfl | rfl <;> omega⟩)
        clear hW3 hb_ q1 q2 xW3 AN AN3 hx3
        refine wpT_valK (by rfl) (fun K hK => ?_)
        apply Exists.intro
        refine ⟨fun W hW => ?_, ?_⟩
        · focus (go_simp; (try rfl); done)
        go_simp
        refine hK _ ?_
        clear hK K
        refine wpT_nil (fun W5 hW5 => ?_)
        simp only [List.drop_succ_cons, List.drop_zero, List.drop_nil]
        have x5 := hideP (x4.out.trans hW5)
        have X5 := hideP (Row.ext X.out x5.out)
        have Z5 := hideP (Row.ext Z.out x5.out)
        replace N1 := hideP (N1.out.to (S' := S2 0 x r) (But.of_ext hW5) fun _ _ h => h)
        replace N2 := hideP (N2.out.to (S' := S2 0 x r) (But.of_ext hW5) fun _ _ h => h)
        replace BB := hideP (BB.out.trans (But.of_ext x5.out))
        clear hW5 x4 x5 X Z SAa SAb
        obtain ⟨y0, y1, y2, y3, y4⟩ := rowU_cell X5.out hMM.out
        have fz0 : W5.frozen? ⟨x, 32, none⟩ = false := Row.fz X5.out 32
        have fz1 : W5.frozen? ⟨x, 33, none⟩ = false := Row.fz X5.out 33
        go_wp2_with fail
        go_roundw
        case rel =>
          have b1 : But (fun b => b = x) W5 (W5.setCell ⟨x, 32, none⟩ (.slice R3 h1 s3)) := But.set _ _ _ rfl
          have b2 : But (fun b => b = x) W5 ((W5.setCell ⟨x, 32, none⟩ (.slice R3 h1 s3)).setCell ⟨x, 33, none⟩ (.slice R4 h2 s4)) := b1.trans (But.set _ _ _ rfl)
          refine ⟨i + 1, by omega, by go_num, ?_⟩
          rw [HSO2.out]
          refine ⟨R3, s3, R4, s4, ?_, ?_, ?_, BB.out.trans b2⟩
          · have := rowU_set (rowU_set X5.out hMM.out 0 (.slice R3 h1 s3)) hMM.out 1 (.slice R4 h2 s4)
            dsimp only
            rw [← EH1.out, ← EH2.out]
            exact this
          · dsimp only; rw [← EH1.out]; exact N1.out.to (b2.mono fun _ h => .inr (.inl h)) fun _ _ h => h
          · dsimp only; rw [← EH2.out]; exact N2.out.to (b2.mono fun _ h => .inr (.inl h)) fun _ _ h => h
        case measure => (try rw [m3]); simp [intOf]; omega
    · obtain rfl : i = nr := by omega
      have i1 : ¬ ((i : Int) < (i : Int)) := by omega
      have hqa : sayQ n i = sayA n 0 := by
        have h := sayR_size n n.rows.length (Nat.le_refl _)
        rw [F1.out]
        unfold sayQ
        rw [← h]
        rfl
      have hST := hV.out
      rw [hqa] at hST
      have bb := hideP (show But (fun b => b = x) W9 wr by obtain ⟨_, _, _, _, _, _, _, bb⟩ := hST; exact bb)
      replace B := hideP (show Below w.heap.size w wr from B.out.trans (But.low bb.out (fun k hk => by rw [hk]; exact hwx.out) B.out.size))
      replace Z := hideP (row_but2 bb.out Z.out (by have := hzx.out; omega))
      replace R := hideP (row_but2 bb.out R.out (by have := hrx.out; omega))
      have hSW := hideP (show SayTo wr 0 x r (M.map b8) (sayA n 0) wr by obtain ⟨a1, a2, a3, a4, a5, a6, a7, _⟩ := hST; exact ⟨a1, a2, a3, a4, a5, a6, a7, But.refl _⟩)
      clear hV hST bb hqa
      obtain ⟨W0, hW0⟩ : ∃ W, W = wr := ⟨_, rfl⟩
      rw [← hW0] at B Z R hSW c0 c1 c2 ⊢
      clear hW0
      go_wp2_with fail
      clear c0 c1 c2
      go_loopw [6] (fun v6 wr => ∃ j : Nat, j ≤ nk ∧ v6 = .int .i64 (j : Nat) ∧ Hid (SayTo W0 0 x r (M.map b8) (sayA n j) wr)) (fun v6 _ => nk - (intOf v6).toNat)
      case atStart => exact ⟨0, Nat.zero_le _, rfl, hSW.out⟩
      case round =>
        obtain ⟨j, hj, rfl, hV⟩ := hrel
        clear hSW
        have bb := hideP (show But (fun b => b = x) W0 wr by obtain ⟨_, _, _, _, _, _, _, bb⟩ := hV.out; exact bb)
        replace Z := hideP (row_but2 bb.out Z.out (by have := hzx.out; omega))
        obtain ⟨c0, c1, c2⟩ := nrow3 Z.out
        by_cases hlt : j < nk
        · have i1 : (j : Int) < (nk : Int) := by omega
          have j0 : (0 : Int) ≤ (j : Int) := by omega
          have m3 : wrap64 ((j : Int) + 1) = (j : Int) + 1 := wrap_succ4 hlt (by have := hlk.out; have := F2.out; omega)
          have m4 : IntKind.i64.wrap ((j : Int) + 1) = (j : Int) + 1 := IntWalk.i64_in _ (by have := hlk.out; have := F2.out; omega)
          have hil : j < n.kids.length := by have := F2.out; omega
          obtain ⟨b0, off, hA, hB0, hc⟩ := hM.out.kids (by omega)
          rw [← F5.out] at hA
          subst hA
          have hme := hM.out.kid j hil
          have hok := hN.out.kid j hil
          have hkr := hT.out.kid j hil
          have hso := sayA_one n j hil
          have hI := hIA.out j (by omega)
          obtain ⟨s, hs⟩ : ∃ s, s = sayA n j := ⟨_, rfl⟩
          rw [← hs] at hV hso hI
          obtain ⟨SA, Sc, SA', Sc', x0, a0, a0', _⟩ := hV.out
          have WB := hideP (show Below w.heap.size w wr from B.out.trans (But.low bb.out (fun k hk => by rw [hk]; exact hwx.out) B.out.size))
          have KRG := hideP (fun W (hW : Below w.heap.size w W) => show W.rangeAt b0 (off + j * 37) (kidC (n.kids.getD j default) (p.kp j)) from fun a v hv => (hW.cell (p := ⟨b0, off + j * 37 + a, none⟩) hB0).trans (hc j hil a v hv))
          obtain ⟨k, hk⟩ : ∃ e, e = n.kids.getD j default := ⟨_, rfl⟩
          obtain ⟨pk, hpk⟩ : ∃ e, e = p.kp j := ⟨_, rfl⟩
          rw [← hk] at hme hok KRG hkr hso
          rw [← hpk] at hme KRG
          have g0 := hideP (fun W (hW : Below w.heap.size w W) => show W.cell? ⟨b0, off + j * 37 + 32, none⟩ = some (.slice pk.lA k.lo.length pk.lc) from kid_at hok (KRG.out W hW) 0 rfl)
          have g1 := hideP (fun W (hW : Below w.heap.size w W) => show W.cell? ⟨b0, off + j * 37 + 33, none⟩ = some (.slice pk.hA k.hi.length pk.hc) from kid_at hok (KRG.out W hW) 1 rfl)
          have g2 := hideP (fun W (hW : Below w.heap.size w W) => show W.cell? ⟨b0, off + j * 37 + 34, none⟩ = some (.int .i64 k.live) from kid_at hok (KRG.out W hW) 2 rfl)
          have g3 := hideP (fun W (hW : Below w.heap.size w W) => show W.cell? ⟨b0, off + j * 37 + 35, none⟩ = some (.int .i64 k.size) from kid_at hok (KRG.out W hW) 3 rfl)
          have HKR := hideP (kidR_box hkr)
          have HSO2 := hideP (show sayA n (j + 1) = ⟨s.live + k.live, s.size + k.size, (hullB (s.lo, s.hi) (k.lo, k.hi)).1, (hullB (s.lo, s.hi) (k.lo, k.hi)).2⟩ from hso)
          have HI := hideP hI
          have hj4 := hideP (show j ≤ 4 by have := hlk.out; have := F2.out; omega)
          have hlv := hideP (show -9223372036854775808 ≤ s.live + k.live ∧ s.live + k.live ≤ 9223372036854775807 by have := HI.out.l; have := hj4.out; have := HKR.out.2.2.1; omega)
          have hzv := hideP (show -9223372036854775808 ≤ s.size + k.size ∧ s.size + k.size ≤ 9223372036854775807 by have := HI.out.z; have := hj4.out; have := HKR.out.2.2.2; omega)
          have HML := hideP hme.lo; have HMH := hideP hme.hi
          have X := hideP x0; have SAa := hideP a0; have SAb := hideP a0'
          have BB := bb
          clear x0 a0 a0' hV hs hk hpk hc hme hok hkr hso hI hil KRG bb hB0
          obtain ⟨lA, dA1⟩ : ∃ q, q = pk.lA := ⟨_, rfl⟩
          obtain ⟨hAa, dA2⟩ : ∃ q, q = pk.hA := ⟨_, rfl⟩
          obtain ⟨lcc, dA3⟩ : ∃ q, q = pk.lc := ⟨_, rfl⟩
          obtain ⟨hcc, dA4⟩ : ∃ q, q = pk.hc := ⟨_, rfl⟩
          rw [← dA1, ← dA3] at g0
          rw [← dA2, ← dA4] at g1
          rw [← dA1] at HML
          rw [← dA2] at HMH
          clear dA1 dA2 dA3 dA4
          obtain ⟨sl, esl⟩ : ∃ q, q = s.live := ⟨_, rfl⟩
          obtain ⟨sz, esz⟩ : ∃ q, q = s.size := ⟨_, rfl⟩
          obtain ⟨kl, ekl⟩ : ∃ q, q = k.live := ⟨_, rfl⟩
          obtain ⟨kz, ekz⟩ : ∃ q, q = k.size := ⟨_, rfl⟩
          obtain ⟨n1, en1⟩ : ∃ q, q = s.lo.length := ⟨_, rfl⟩
          obtain ⟨n2, en2⟩ : ∃ q, q = s.hi.length := ⟨_, rfl⟩
          obtain ⟨m1, em1⟩ : ∃ q, q = k.lo.length := ⟨_, rfl⟩
          obtain ⟨m2, em2⟩ : ∃ q, q = k.hi.length := ⟨_, rfl⟩
          rw [← esl, ← esz, ← en1, ← en2] at X
          rw [← esl, ← ekl] at hlv
          rw [← esz, ← ekz] at hzv
          rw [← esl, ← esz, ← ekl, ← ekz] at HSO2
          rw [← ekl] at g2
          rw [← ekz] at g3
          rw [← em1] at g0 HML
          rw [← em2] at g1 HMH
          rw [← en1] at SAa
          rw [← en2] at SAb
          have E1 := hideP en1; have E2 := hideP en2; have E3 := hideP em1; have E4 := hideP em2
          clear esl esz en1 en2 ekl ekz em1 em2
          -- the size
          go_upto_region 12 with fail
          clear c0 c1
          have e1 : IntKind.i64.wrap (sz + kz) = sz + kz := IntWalk.i64_in _ hzv.out
          have e2 : wrap64 (sz + kz) = sz + kz := IntWalk.wrap64_in _ hzv.out
          have q3 := g3.out wr WB.out
          obtain ⟨y0, y1, y2, y3, y4⟩ := rowU_cell X.out hMM.out
          refine wp_region_fork 10 (.q 0 (.q 1 (.q 2 (.q 3 (.q 4 (.q 5 (.q 6 (.q 7 (.q 8 (.q 9 .nil)))))))))) (by kernel_rfl) (by kernel_rfl) ?_
          simp only [pickT, nthO_zero, nthO_succ]
          iterate 10 (refine wpT_valK (by rfl) (fun K hK => ?_); apply Exists.intro; refine ⟨fun W hW => ?_, ?_⟩; (focus (have h0 := hW.cell y2; have h1 := hW.cell y3; have h2 := hW.cell q3; have h4 := hW.cell c2; go_simp; (try rfl); done)); go_simp; refine hK _ ?_; clear hK K)
          clear y0 y1 y2 y3 y4 e1 e2 q3 c2
          refine wpT_nil (fun W5 hW5 => ?_)
          simp only [List.drop_succ_cons, List.drop_zero, List.drop_nil]
          have x5 := hideP hW5.drew_left
          replace X := hideP (Row.ext X.out x5.out)
          replace Z := hideP (Row.ext Z.out x5.out)
          replace SAa := hideP (SAa.out.to (S' := S2 0 x r) (But.of_ext x5.out) fun _ _ h => h)
          replace SAb := hideP (SAb.out.to (S' := S2 0 x r) (But.of_ext x5.out) fun _ _ h => h)
          replace BB := hideP (BB.out.trans (But.of_ext x5.out))
          replace WB := hideP (below_ext WB.out x5.out)
          clear hW5 x5
          have fz : W5.frozen? ⟨x, 35, none⟩ = false := Row.fz X.out 35
          obtain ⟨y0, y1, y2, y3, y4⟩ := rowU_cell X.out hMM.out
          go_upto_region 13 with fail
          clear y0 y1 y2 y3 y4 fz
          obtain ⟨v7, h_⟩ : ∃ v, v = W5.setCell ⟨x, 35, none⟩ (.int .i64 (sz + kz)) := ⟨_, rfl⟩
          rw [← h_]
          have b_ : But (fun b => b = x) W5 v7 := by rw [h_]; exact But.set _ _ _ rfl
          replace X := hideP (show Row v7 x 43 (M.map b8 ++ [.slice SA n1 Sc, .slice SA' n2 Sc', .int .i64 sl, .int .i64 (sz + kz), .slice none 0 0]) by rw [h_]; exact rowU_set X.out hMM.out 3 _)
          replace Z := hideP (row_but2 b_ Z.out (by have := hzx.out; omega))
          replace SAa := hideP (SAa.out.to (S' := S2 0 x r) (b_.mono fun _ h => .inr (.inl h)) fun _ _ h => h)
          replace SAb := hideP (SAb.out.to (S' := S2 0 x r) (b_.mono fun _ h => .inr (.inl h)) fun _ _ h => h)
          replace BB := hideP (BB.out.trans b_)
          replace WB := hideP (show Below w.heap.size w v7 from WB.out.trans (But.low b_ (fun k hk => by rw [hk]; exact hwx.out) WB.out.size))
          clear h_ b_
          -- the live ones
          have e1 : IntKind.i64.wrap (sl + kl) = sl + kl := IntWalk.i64_in _ hlv.out
          have e2 : wrap64 (sl + kl) = sl + kl := IntWalk.wrap64_in _ hlv.out
          have q3 := g2.out v7 WB.out
          obtain ⟨c0, c1, c2⟩ := nrow3 Z.out
          clear c0 c1
          obtain ⟨y0, y1, y2, y3, y4⟩ := rowU_cell X.out hMM.out
          refine wp_region_fork 10 (.q 0 (.q 1 (.q 2 (.q 3 (.q 4 (.q 5 (.q 6 (.q 7 (.q 8 (.q 9 .nil)))))))))) (by kernel_rfl) (by kernel_rfl) ?_
          simp only [pickT, nthO_zero, nthO_succ]
          iterate 10 (refine wpT_valK (by rfl) (fun K hK => ?_); apply Exists.intro; refine ⟨fun W hW => ?_, ?_⟩; (focus (have h0 := hW.cell y2; have h1 := hW.cell y3; have h2 := hW.cell q3; have h4 := hW.cell c2; go_simp; (try rfl); done)); go_simp; refine hK _ ?_; clear hK K)
          clear y0 y1 y2 y3 y4 e1 e2 q3 c2
          refine wpT_nil (fun W5 hW5 => ?_)
          simp only [List.drop_succ_cons, List.drop_zero, List.drop_nil]
          have x5 := hideP hW5.drew_left
          replace X := hideP (Row.ext X.out x5.out)
          replace Z := hideP (Row.ext Z.out x5.out)
          replace SAa := hideP (SAa.out.to (S' := S2 0 x r) (But.of_ext x5.out) fun _ _ h => h)
          replace SAb := hideP (SAb.out.to (S' := S2 0 x r) (But.of_ext x5.out) fun _ _ h => h)
          replace BB := hideP (BB.out.trans (But.of_ext x5.out))
          replace WB := hideP (below_ext WB.out x5.out)
          clear hW5 x5
          have fz : W5.frozen? ⟨x, 34, none⟩ = false := Row.fz X.out 34
          obtain ⟨y0, y1, y2, y3, y4⟩ := rowU_cell X.out hMM.out
          go_upto_region 14 with fail
          clear y0 y1 y2 y3 y4 fz
          obtain ⟨v8, h_⟩ : ∃ v, v = W5.setCell ⟨x, 34, none⟩ (.int .i64 (sl + kl)) := ⟨_, rfl⟩
          rw [← h_]
          have b_ : But (fun b => b = x) W5 v8 := by rw [h_]; exact But.set _ _ _ rfl
          replace X := hideP (show Row v8 x 43 (M.map b8 ++ [.slice SA n1 Sc, .slice SA' n2 Sc', .int .i64 (sl + kl), .int .i64 (sz + kz), .slice none 0 0]) by rw [h_]; exact rowU_set X.out hMM.out 2 _)
          replace Z := hideP (row_but2 b_ Z.out (by have := hzx.out; omega))
          replace SAa := hideP (SAa.out.to (S' := S2 0 x r) (b_.mono fun _ h => .inr (.inl h)) fun _ _ h => h)
          replace SAb := hideP (SAb.out.to (S' := S2 0 x r) (b_.mono fun _ h => .inr (.inl h)) fun _ _ h => h)
          replace BB := hideP (BB.out.trans b_)
          replace WB := hideP (show Below w.heap.size w v8 from WB.out.trans (But.low b_ (fun k hk => by rw [hk]; exact hwx.out) WB.out.size))
          clear h_ b_
          -- the box
          have AL := hideP (arr_lowN (x := x) (r := r) HML.out WB.out hwx.out hwr.out)
          have AH := hideP (arr_lowN (x := x) (r := r) HMH.out WB.out hwx.out hwr.out)
          have q0 := g0.out v8 WB.out
          have q1 := g1.out v8 WB.out
          obtain ⟨c0, c1, c2⟩ := nrow3 Z.out
          obtain ⟨y0, y1, y2, y3, y4⟩ := rowU_cell X.out hMM.out
          refine wp_region_fork 10 (.q 0 (.q 1 (.q 2 (.q 3 (.q 4 (.q 5 (.q 6 (.q 7 (.l 8 (.q 9 .nil)))))))))) (by kernel_rfl) (by kernel_rfl) ?_
          simp only [pickT, nthO_zero, nthO_succ]
          iterate 8 (refine wpT_valK (by rfl) (fun K hK => ?_); apply Exists.intro; refine ⟨fun W hW => ?_, ?_⟩; (focus (have h0 := hW.cell y0; have h1 := hW.cell y1; have h2 := hW.cell q0; have h3 := hW.cell q1; have h4 := hW.cell c2; go_simp; (try rfl); done)); go_simp; refine hK _ ?_; clear hK K)
          clear y0 y1 y2 y3 y4 q0 q1 c0 c1 c2
          refine wpT_loudK 110 #[.agg #[.slice SA n1 Sc, .slice SA' n2 Sc'], .agg #[.slice lA m1 lcc, .slice hAa m2 hcc]] (by rfl) (fun W' => by go_simp) (fun W3 hW3 => ?_)
          have xW3 := hideP hW3.drew_left
          have AL3 := hideP (AL.out.to (S' := S2 0 x r) (But.of_ext xW3.out) fun _ _ h => h)
          have AH3 := hideP (AH.out.to (S' := S2 0 x r) (But.of_ext xW3.out) fun _ _ h => h)
          have hhu := rhullg_any (s.lo, s.hi) (k.lo, k.hi) D HI.out.b HKR.out.1 (S2 0 x r) SA SA' lA hAa Sc Sc' lcc hcc W3 (by have := SAa.out.to (S' := S2 0 x r) (But.of_ext xW3.out) fun _ _ h => h; rwa [E1.out] at this) (by have := SAb.out.to (S' := S2 0 x r) (But.of_ext xW3.out) fun _ _ h => h; rwa [E2.out] at this) (by have := AL3.out; rwa [E3.out] at this) (by have := AH3.out; rwa [E4.out] at this)
          dsimp only at hhu
          rw [← E1.out, ← E2.out, ← E3.out, ← E4.out] at hhu
          obtain ⟨H1, eh1⟩ : ∃ q, q = (hullB (s.lo, s.hi) (k.lo, k.hi)).1 := ⟨_, rfl⟩
          obtain ⟨H2, eh2⟩ : ∃ q, q = (hullB (s.lo, s.hi) (k.lo, k.hi)).2 := ⟨_, rfl⟩
          rw [← eh1, ← eh2] at hhu HSO2
          obtain ⟨h1, el1⟩ : ∃ q, q = H1.length := ⟨_, rfl⟩
          obtain ⟨h2, el2⟩ : ∃ q, q = H2.length := ⟨_, rfl⟩
          rw [← el1, ← el2] at hhu
          have EH1 := hideP el1; have EH2 := hideP el2
          clear eh1 eh2 el1 el2
          refine hhu.mono ?_
          rintro e W4 ⟨R3, s3, R4, s4, rfl, hb_, q1, q2⟩
          refine ⟨_, rfl, Ext.of_below hb_, fun K hK => ?_⟩
          go_simp
          refine hK _ ?_
          clear hK K hhu
          have x4 := hideP (xW3.out.trans (Ext.of_below hb_))
          have hx3 := hideP (show x < W3.heap.size by have := Row.lt X.out; have := xW3.out.size; omega)
          have N1 := hideP (q1.mono (S' := S2 0 x r) fun b hb => ⟨hb, by have := hx3.out; have := hrx.out; rcases hb with hb | rfl | rfl <;> omega⟩)
          have N2 := hideP (q2.mono (S' := S2 0 x r) fun b hb => ⟨hb, by have := hx3.out; have := hrx.out; rcases hb with hb | rfl | rfl <;> omega⟩)
          clear hW3 hb_ q1 q2 xW3 AL AH AL3 AH3 hx3
          refine wpT_valK (by rfl) (fun K hK => ?_)
          apply Exists.intro
          refine ⟨fun W hW => ?_, ?_⟩
          · focus (go_simp; (try rfl); done)
          go_simp
          refine hK _ ?_
          clear hK K
          refine wpT_nil (fun W5 hW5 => ?_)
          simp only [List.drop_succ_cons, List.drop_zero, List.drop_nil]
          have x5 := hideP (x4.out.trans hW5)
          have X5 := hideP (Row.ext X.out x5.out)
          have Z5 := hideP (Row.ext Z.out x5.out)
          replace N1 := hideP (N1.out.to (S' := S2 0 x r) (But.of_ext hW5) fun _ _ h => h)
          replace N2 := hideP (N2.out.to (S' := S2 0 x r) (But.of_ext hW5) fun _ _ h => h)
          replace BB := hideP (BB.out.trans (But.of_ext x5.out))
          clear hW5 x4 x5 X Z SAa SAb
          obtain ⟨y0, y1, y2, y3, y4⟩ := rowU_cell X5.out hMM.out
          have fz0 : W5.frozen? ⟨x, 32, none⟩ = false := Row.fz X5.out 32
          have fz1 : W5.frozen? ⟨x, 33, none⟩ = false := Row.fz X5.out 33
          go_wp2_with fail
          go_roundw
          case rel =>
            have b1 : But (fun b => b = x) W5 (W5.setCell ⟨x, 32, none⟩ (.slice R3 h1 s3)) := But.set _ _ _ rfl
            have b2 : But (fun b => b = x) W5 ((W5.setCell ⟨x, 32, none⟩ (.slice R3 h1 s3)).setCell ⟨x, 33, none⟩ (.slice R4 h2 s4)) := b1.trans (But.set _ _ _ rfl)
            refine ⟨j + 1, by omega, by go_num, ?_⟩
            rw [HSO2.out]
            refine ⟨R3, s3, R4, s4, ?_, ?_, ?_, BB.out.trans b2⟩
            · have := rowU_set (rowU_set X5.out hMM.out 0 (.slice R3 h1 s3)) hMM.out 1 (.slice R4 h2 s4)
              dsimp only
              rw [← EH1.out, ← EH2.out]
              exact this
            · dsimp only; rw [← EH1.out]; exact N1.out.to (b2.mono fun _ h => .inr (.inl h)) fun _ _ h => h
            · dsimp only; rw [← EH2.out]; exact N2.out.to (b2.mono fun _ h => .inr (.inl h)) fun _ _ h => h
          case measure => (try rw [m3]); simp [intOf]; omega
        · obtain rfl : j = nk := by omega
          have i1 : ¬ ((j : Int) < (j : Int)) := by omega
          have hI := hideP (hIA.out j (by have := F2.out; omega))
          obtain ⟨s, hs⟩ : ∃ s, s = sayA n j := ⟨_, rfl⟩
          rw [← hs] at hV hI
          have HS := hideP (show sayN n = ⟨M, s.lo, s.hi, s.live, s.size, keyN n⟩ by unfold sayN; rw [← F2.out, ← hs, ← ENB.out, ← HM0.out])
          obtain ⟨SA, Sc, SA', Sc', x0, a0, a0', _⟩ := hV.out
          replace B := hideP (show Below w.heap.size w wr from B.out.trans (But.low bb.out (fun k hk => by rw [hk]; exact hwx.out) B.out.size))
          replace R := hideP (row_but2 bb.out R.out (by have := hrx.out; omega))
          have X := hideP x0; have SAa := hideP a0; have SAb := hideP a0'
          clear x0 a0 a0' bb hV hs
          obtain ⟨sl, esl⟩ : ∃ q, q = s.live := ⟨_, rfl⟩
          obtain ⟨sz, esz⟩ : ∃ q, q = s.size := ⟨_, rfl⟩
          obtain ⟨n1, en1⟩ : ∃ q, q = s.lo.length := ⟨_, rfl⟩
          obtain ⟨n2, en2⟩ : ∃ q, q = s.hi.length := ⟨_, rfl⟩
          rw [← esl, ← esz, ← en1, ← en2] at X
          have E1 := hideP en1; have E2 := hideP en2; have E3 := hideP esl; have E4 := hideP esz
          clear en1 en2 esl esz
          obtain ⟨wv, hwv⟩ : ∃ W, W = wr := ⟨_, rfl⟩
          rw [← hwv] at B Z R X SAa SAb c0 c1 c2 ⊢
          clear hwv
          have hkk := hideP (show kd = 1 ∨ kd = 2 ∨ kd = 3 by rw [F3.out]; exact hT.out.kind)
          go_upto_if 88 with fail
          go_cut [5] (fun v5 wx => v5 = .int .i64 (i : Nat) ∧ Hid (KeyTo wv x r (M.map b8) [.slice SA n1 Sc, .slice SA' n2 Sc', .int .i64 sl, .int .i64 sz] (if kd = 2 then keyN n else []) wx))
          case first =>
            rcases hkk.out with hk | hk | hk
            · subst hk
              go_wp2_with fail
              go_meet
              exact ⟨rfl, none, 0, X.out, fun h => absurd h (by simp), But.refl _⟩
            · subst hk
              have h0 := hT.out.leaf F3.out.symm
              have HKey0 := (show keyN n = (n.rows.getD 0 default).row by unfold keyN; rw [if_pos F3.out.symm])
              obtain ⟨b0, off, hA, hB0, hc⟩ := hM.out.rows h0
              rw [← F4.out] at hA
              subst hA
              have hce := hc 0 h0
              dsimp only at hce
              have hra := hM.out.row 0 h0
              obtain ⟨⟨rr, lv⟩, he⟩ : ∃ e, e = n.rows.getD 0 default := ⟨_, rfl⟩
              obtain ⟨⟨A1, cA⟩, hp⟩ : ∃ e, e = p.rp 0 := ⟨_, rfl⟩
              rw [← he] at hce hra HKey0
              rw [← hp] at hce hra
              dsimp only at hra HKey0
              unfold entC at hce
              dsimp only at hce
              have q0 := (B.out.cell (p := ⟨b0, off + 0 * 2 + 0, none⟩) hB0).trans (hce 0 _ rfl)
              simp only [Nat.zero_mul, Nat.add_zero] at q0
              have j0 : (0 : Int) < (i : Int) := by have := F1.out; omega
              obtain ⟨m, hm⟩ : ∃ q, q = rr.length := ⟨_, rfl⟩
              rw [← hm] at q0
              have HKey := hideP HKey0; have Hm := hideP hm
              have KK := hideP (arr_lowN (x := x) (r := r) hra B.out hwx.out hwr.out)
              clear HKey0 h0 hB0 hc hce hra he hp hm
              obtain ⟨e5, X5⟩ : ∃ e, Row wv x 43 (M.map b8 ++ [.slice SA n1 Sc, .slice SA' n2 Sc', .int .i64 sl, .int .i64 sz, e]) := ⟨_, X.out⟩
              have fz : wv.frozen? ⟨x, 36, none⟩ = false := Row.fz X.out 36
              obtain ⟨y0, y1, y2, y3, y4⟩ := rowU_cell X5 hMM.out
              have XX := hideP X5
              clear X5
              go_wp2_with fail
              go_meet
              rw [HKey.out]
              refine ⟨rfl, A1, cA, ?_, KK.out.to (But.set wv ⟨x, 36, none⟩ _ (.inr (.inl rfl))) fun _ _ h => h, But.set _ _ _ rfl⟩
              show Row _ x 43 (M.map b8 ++ [.slice SA n1 Sc, .slice SA' n2 Sc', .int .i64 sl, .int .i64 sz, .slice A1 rr.length cA])
              rw [← Hm.out]
              exact rowU_set XX.out hMM.out 4 _
            · subst hk
              go_wp2_with fail
              go_meet
              exact ⟨rfl, none, 0, X.out, fun h => absurd h (by simp), But.refl _⟩
          case rest =>
            obtain ⟨rfl, hKT⟩ := hcut
            have hb1 := hideP (show But (fun b => b = x) wv wc by obtain ⟨_, _, _, _, h⟩ := hKT.out; exact h)
            replace B := hideP (show Below w.heap.size w wc from B.out.trans (But.low hb1.out (fun k hk => by rw [hk]; exact hwx.out) B.out.size))
            replace Z := hideP (row_but2 hb1.out Z.out (by have := hzx.out; omega))
            replace R := hideP (row_but2 hb1.out R.out (by have := hrx.out; omega))
            replace SAa := hideP (SAa.out.to (S' := S2 0 x r) (hb1.out.mono fun _ h => .inr (.inl h)) fun _ _ h => h)
            replace SAb := hideP (SAb.out.to (S' := S2 0 x r) (hb1.out.mono fun _ h => .inr (.inl h)) fun _ _ h => h)
            clear hb1 X c0 c1 c2
            obtain ⟨wv1, hwv1⟩ : ∃ W, W = wc := ⟨_, rfl⟩
            rw [← hwv1] at B Z R SAa SAb hKT ⊢
            clear hwv1
            obtain ⟨c0, c1, c2⟩ := nrow3 Z.out
            go_upto_if 97 with fail
            go_cut [5] (fun v5 wx => v5 = .int .i64 (i : Nat) ∧ Hid (KeyTo wv1 x r (M.map b8) [.slice SA n1 Sc, .slice SA' n2 Sc', .int .i64 sl, .int .i64 sz] (keyN n) wx))
            case first =>
              obtain ⟨K1, k1, x1, a1, _⟩ := hKT.out
              have X := hideP x1; have A1' := hideP a1
              clear x1 a1 hKT
              rcases hkk.out with hk | hk | hk
              · subst hk
                have HKey := hideP (show keyN n = [] by have := F3.out; unfold keyN; rw [if_neg (by omega), if_neg (by omega)])
                go_wp2_with fail
                go_meet
                rw [HKey.out]
                exact ⟨rfl, K1, k1, X.out, A1'.out, But.refl _⟩
              · subst hk
                go_wp2_with fail
                go_meet
                exact ⟨rfl, K1, k1, X.out, A1'.out, But.refl _⟩
              · subst hk
                have hk3 := F3.out.symm
                have h0 := hT.out.inner hk3
                have HKey0 := (show keyN n = (n.kids.getD 0 default).key by unfold keyN; rw [if_neg (by omega), if_pos hk3])
                clear hk3
                obtain ⟨b0, off, hA, hB0, hc⟩ := hM.out.kids h0
                rw [← F5.out] at hA
                subst hA
                have hce : w.rangeAt b0 (off + 0 * 37) (kidC (n.kids.getD 0 default) (p.kp 0)) := hc 0 h0
                have hra := (hM.out.kid 0 h0).key
                have hok := hN.out.kid 0 h0
                obtain ⟨kk, he⟩ : ∃ e, e = n.kids.getD 0 default := ⟨_, rfl⟩
                obtain ⟨pk, hp⟩ : ∃ e, e = p.kp 0 := ⟨_, rfl⟩
                rw [← he] at hce hra HKey0 hok
                rw [← hp] at hce hra
                have q0 := (B.out.cell (p := ⟨b0, off + 0 * 37 + (32 + 4), none⟩) hB0).trans (kid_at hok hce 4 rfl)
                simp only [Nat.zero_mul, Nat.add_zero, Nat.reduceAdd] at q0
                obtain ⟨rr, hrr⟩ : ∃ e, e = kk.key := ⟨_, rfl⟩
                obtain ⟨A1, hA1⟩ : ∃ e, e = pk.kA := ⟨_, rfl⟩
                obtain ⟨cA, hcA⟩ : ∃ e, e = pk.kc := ⟨_, rfl⟩
                rw [← hrr] at hra HKey0 q0
                rw [← hA1] at hra q0
                rw [← hcA] at q0
                have j0 : (0 : Int) < (j : Int) := by have := F2.out; omega
                clear hok hrr hA1 hcA
                obtain ⟨m, hm⟩ : ∃ q, q = rr.length := ⟨_, rfl⟩
                rw [← hm] at q0
                have HKey := hideP HKey0; have Hm := hideP hm
                have KK := hideP (arr_lowN (x := x) (r := r) hra B.out hwx.out hwr.out)
                clear HKey0 h0 hB0 hc hce hra he hp hm
                obtain ⟨e5, X5⟩ : ∃ e, Row wv1 x 43 (M.map b8 ++ [.slice SA n1 Sc, .slice SA' n2 Sc', .int .i64 sl, .int .i64 sz, e]) := ⟨_, X.out⟩
                have fz : wv1.frozen? ⟨x, 36, none⟩ = false := Row.fz X.out 36
                obtain ⟨y0, y1, y2, y3, y4⟩ := rowU_cell X5 hMM.out
                have XX := hideP X5
                clear X5
                go_wp2_with fail
                go_meet
                rw [HKey.out]
                refine ⟨rfl, A1, cA, ?_, KK.out.to (But.set wv1 ⟨x, 36, none⟩ _ (.inr (.inl rfl))) fun _ _ h => h, But.set _ _ _ rfl⟩
                show Row _ x 43 (M.map b8 ++ [.slice SA n1 Sc, .slice SA' n2 Sc', .int .i64 sl, .int .i64 sz, .slice A1 rr.length cA])
                rw [← Hm.out]
                exact rowU_set XX.out hMM.out 4 _
            case rest =>
              obtain ⟨rfl, hKT⟩ := hcut
              obtain ⟨K1, k1, x1, a1, hb1⟩ := hKT.out
              replace B := hideP (show Below w.heap.size w wc from B.out.trans (But.low hb1 (fun k hk => by rw [hk]; exact hwx.out) B.out.size))
              replace R := hideP (row_but2 hb1 R.out (by have := hrx.out; omega))
              replace SAa := hideP (SAa.out.to (S' := S2 0 x r) (hb1.mono fun _ h => .inr (.inl h)) fun _ _ h => h)
              replace SAb := hideP (SAb.out.to (S' := S2 0 x r) (hb1.mono fun _ h => .inr (.inl h)) fun _ _ h => h)
              have X := hideP (show Row wc x 43 (M.map b8 ++ [.slice SA n1 Sc, .slice SA' n2 Sc', .int .i64 sl, .int .i64 sz, .slice K1 (keyN n).length k1]) from x1); have KK := hideP a1
              clear hb1 x1 a1 hKT c0 c1 c2 Z
              obtain ⟨kn, ekn⟩ : ∃ q, q = (keyN n).length := ⟨_, rfl⟩
              rw [← ekn] at X
              have EKN := hideP ekn
              clear ekn
              obtain ⟨y0, y1, y2, y3, y4⟩ := rowU_cell X.out hMM.out
              obtain ⟨C1, hC1⟩ : ∃ C, C = M.map b8 ++ [.slice SA n1 Sc, .slice SA' n2 Sc', .int .i64 sl, .int .i64 sz, .slice K1 kn k1] := ⟨_, rfl⟩
              rw [← hC1] at X
              have HC1 := hideP (show kidC (sayN n) ⟨SA, Sc, SA', Sc', K1, k1⟩ = C1 by rw [hC1, HS.out]; unfold kidC kidT; dsimp only; rw [← E1.out, ← E2.out, ← E3.out, ← E4.out, ← EKN.out]; try rfl)
              have l37 : C1.length = 37 := by rw [hC1]; simp [hML.out]
              have t37 := hideP (size_k37 l37)
              have t37A := hideP (show (Try.prog.info? 43).map (·.size) = some C1.toArray.size by rw [List.size_toArray]; exact size_k37 l37)
              have tone := hideP (show C1.toArray.all (·.oneCell') = true by rw [← HC1.out]; exact kidC_one _ _)
              have tso := hideP (show kidL13.toArray.size = C1.toArray.size by rw [List.size_toArray, List.size_toArray, l37]; rfl)
              clear hC1 l37
              by_cases hbig : 1048576 < sz
              · have kz := hideP size_kLA
                have kz2 := hideP size_kL
                have k1 := hideP kidL13_one
                go_wp2_with (first | (with_reducible refine stop_ret ?_) | (with_reducible refine then_ret ?_) | (with_reducible refine block_ret ?_) | refine wpList_store_row rfl 43 (.tmp 2) (.tmp 107) rfl r kidL13.toArray (by kernel_rfl) (by kernel_rfl) 43 kidL13.toArray R.out kz.out rfl k1.out ?_)
                refine hideP ?_
                refine ret_rowt (v := .bool false) rfl (by kernel_rfl) (by kernel_rfl) (Row.setRow R.out kidL13) Try.underlying43 kz2.out rfl ⟨below_setRow' B.out hwr.out _, .inl ⟨by rw [HS.out]; show 1048576 < s.size; rw [← E4.out]; exact hbig, rfl⟩⟩
              go_wp2_with (first
                | (with_reducible refine stop_ret ?_) | (with_reducible refine then_ret ?_) | (with_reducible refine block_ret ?_) 
                | (refine wpList_load_row rfl 43 (.tmp 4) rfl x (by kernel_rfl) 43 C1.toArray (0, 0) _ X.out Try.underlying43 rfl t37A.out ?_)
                | (refine wpList_store_row rfl 43 (.tmp 2) (.tmp 108) rfl r C1.toArray (by kernel_rfl) (by kernel_rfl) 43 kidL13.toArray R.out t37A.out tso.out tone.out ?_))
              refine hideP ?_
              refine ret_rowt (v := .bool true) rfl (by kernel_rfl) (by kernel_rfl) (Row.setRow R.out C1) Try.underlying43 t37.out rfl ⟨below_setRow' B.out hwr.out _, .inr ⟨by rw [HS.out]; show s.size ≤ 1048576; rw [← E4.out]; omega, ⟨SA, Sc, SA', Sc', K1, k1⟩, by rw [HC1.out]; try rfl, ?_⟩⟩
              rw [HS.out]
              have bs : But (S2 0 x r) wc ((wc).setRow r C1.toArray) := But.setRow _ _ _ (.inr (.inr rfl))
              exact ⟨(SAa.out.to bs fun _ _ h => h).arr, (SAb.out.to bs fun _ _ h => h).arr, (KK.out.to bs fun _ _ h => h).arr⟩
end Go.Proofs.Ytgcbodpjidoanaa
