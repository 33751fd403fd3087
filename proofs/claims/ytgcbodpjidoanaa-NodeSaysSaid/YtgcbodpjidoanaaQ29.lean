/- Contract of node.Encode. -/
import Derived.Test.YtgcbodpjidoanaaQ28
set_option linter.unusedVariables false
set_option linter.unusedSimpArgs false
namespace Go.Proofs.Ytgcbodpjidoanaa
open Go.RowKit
/-- the cells of the zero kid -/
abbrev kidL : List Value := [.int .u8 0, .int .u8 0, .int .u8 0, .int .u8 0, .int .u8 0, .int .u8 0, .int .u8 0, .int .u8 0, .int .u8 0, .int .u8 0, .int .u8 0, .int .u8 0, .int .u8 0, .int .u8 0, .int .u8 0, .int .u8 0, .int .u8 0, .int .u8 0, .int .u8 0, .int .u8 0, .int .u8 0, .int .u8 0, .int .u8 0, .int .u8 0, .int .u8 0, .int .u8 0, .int .u8 0, .int .u8 0, .int .u8 0, .int .u8 0, .int .u8 0, .int .u8 0, .slice none 0 0, .slice none 0 0, .int .i64 0, .int .i64 0, .slice none 0 0]
theorem wrap_succ4 {i n : Nat} (h : i < n) (hn : n ≤ 4) : wrap64 ((i : Int) + 1) = (i : Int) + 1 := IntWalk.wrap64_in _ (by omega)
theorem mod_small {n : Nat} (h : n ≤ 4) : (n : Int) % 256 = (n : Int) := by omega
theorem entB_len (e : EntD) (h : e.row.length ≤ 8) : (entB e).length ≤ 66 := by
  unfold entB; rw [List.length_append, rowB_len]; simp only [List.length_cons, List.length_nil]; omega
theorem kidB_len (k : KidD) (h0 : k.sum.length = 32) (h1 : k.lo.length ≤ 8) (h2 : k.hi.length ≤ 8) (h3 : k.key.length ≤ 8) : (kidB k).length ≤ 233 := by
  unfold kidB
  have : ∀ x, (be3 x).length = 3 := fun _ => rfl
  simp only [List.length_append, rowB_len, this, h0]
  omega
set_option maxRecDepth 100000 in
set_option maxHeartbeats 4000000 in
theorem nencode_ok (n : NodeD) (p : NodeP) (d : Int) (w : World) (hn : NodeOk n) (hm : NodeMem w w.heap.size n p) (hr : nodeR n d = true) :
    Calls Try.prog 92 #[.agg (nodeC n p).toArray, .int .i64 d] w fun e w' => ∃ R c, e = .returned (.tuple #[.slice R (nodeB n).length c, .int .i64 0]) ∧ OwnB w' w.heap.size R c (nodeB n) ∧ Below w.heap.size w w' := by
  have hR := fun W (hW : Below w.heap.size w W) => nright_any n p d W hn (hm.after hW)
  rw [hr] at hR
  have hF := hideP (nodeR_facts hr)
  have hN := hideP hn
  have hM := hideP hm
  unfold nodeC at hR ⊢
  obtain ⟨nr, f1⟩ : ∃ b, b = n.rows.length := ⟨_, rfl⟩
  obtain ⟨nk, f2⟩ : ∃ b, b = n.kids.length := ⟨_, rfl⟩
  obtain ⟨kd, f3⟩ : ∃ b, b = n.kind := ⟨_, rfl⟩
  have hnr := hideP (show nr ≤ 4 by rw [f1]; exact hF.out.rows)
  have hnk := hideP (show nk ≤ 4 by rw [f2]; exact hF.out.kids)
  have hkd := hideP (show kd < 256 by rw [f3]; exact hn.kind)
  rw [← f1, ← f2, ← f3] at hR ⊢
  have hR := hideP hR
  have hend := hideP (show nodeB n = [kd] ++ [nr] ++ (n.rows.map entB).flatten ++ [nk] ++ (n.kids.map kidB).flatten by rw [f1, f2, f3]; rfl)
  have hlr := hideP (fun k (hk : k ≤ n.rows.length) => flat_len_le entB n.rows 66 (fun i hi => entB_len _ (hF.out.row i hi)) k hk)
  have hlk := hideP (fun k (hk : k ≤ n.kids.length) => flat_len_le kidB n.kids 233 (fun i hi => kidB_len _ (hn.kid i hi).s (hF.out.kid i hi).1.2.2.1 (hF.out.kid i hi).1.2.2.2 (hF.out.kid i hi).2) k hk)
  have F1 := hideP f1; have F2 := hideP f2
  obtain ⟨RS, hRS⟩ : ∃ R, R = nodeB n := ⟨_, rfl⟩
  rw [← hRS] at hend ⊢
  clear hm hn hr f1 f2 f3 hRS
  obtain ⟨v0, hv0⟩ : ∃ v, v = w.alloc (.cells #[.int .u8 (kd : Nat), .slice p.rA nr p.rc, .slice p.kA nk p.kc] 27) := ⟨_, rfl⟩
  obtain ⟨z, hz⟩ : ∃ g, g = w.heap.size := ⟨_, rfl⟩
  have T0 := hideP (show Row v0 z 27 [.int .u8 (kd : Nat), .slice p.rA nr p.rc, .slice p.kA nk p.kc] by rw [hv0, hz]; exact Row.new w _ _)
  have B0 := hideP (show Below w.heap.size w v0 by rw [hv0]; exact below_new _ _)
  obtain ⟨rA, hrA⟩ : ∃ a, a = p.rA := ⟨_, rfl⟩
  obtain ⟨kA, hkA⟩ : ∃ a, a = p.kA := ⟨_, rfl⟩
  have HrA := hideP hrA; have HkA := hideP hkA
  rw [← hrA, ← hkA] at T0 hv0 hR ⊢
  have Hv := hideP hv0
  clear hrA hkA hv0
  have m1 := mod_small hnr.out
  have m2 := mod_small hnk.out
  go_enter Try.func92, Try.ntmps92
  go_upto_region 1 with fail
  rw [← Hv.out, ← hz]
  clear Hv hz
  obtain ⟨c0, c1, c2⟩ := nrow3 T0.out
  go_upto_region 3 with (go_at_call 91; refine (hR.out _ B0.out).mono ?_; rintro e1 w1 ⟨rfl, b_⟩; have B1 := hideP (bstep B0.out b_); have T1 := hideP (Row.after T0.out b_); clear b_)
  clear c0 c1 c2
  go_upto_region 4 with fail
  obtain ⟨v, hv⟩ : ∃ v, v = w1.alloc (.cells #[.slice none 0 0, .int .i64 0] 168) := ⟨_, rfl⟩
  obtain ⟨g, hg⟩ : ∃ g, g = w1.heap.size := ⟨_, rfl⟩
  rw [← hv, ← hg]
  have V := hideP (show Wr v (fun b => b = g) g [] 0 by rw [hv, hg]; exact Wr.new _)
  have Bv := hideP (show Below w.heap.size w v by rw [hv]; exact B1.out.trans ((below_new _ _).mono B1.out.size))
  have hgw := hideP (show w.heap.size ≤ g by rw [hg]; exact B1.out.size)
  have Tv := hideP (show Row v z 27 [.int .u8 (kd : Nat), .slice rA nr p.rc, .slice kA nk p.kc] by rw [hv]; exact T1.out.alloc _)
  have hzg := hideP (show z ≠ g by rw [hg]; exact Nat.ne_of_lt (Row.lt T1.out))
  have hbW := hideP (fun W (l : List Nat) (e : Int) (h : WrP (fun b => b = g) v W g l e) => show Below w.heap.size w W from Bv.out.trans ((WrP.below V.out h).mono hgw.out))
  obtain ⟨S, hS⟩ : ∃ S : Nat → Prop, S = (fun b => b = g) := ⟨_, rfl⟩
  have hSz := hideP (show ¬ S z by rw [hS]; exact hzg.out)
  have hSg := hideP (show ∀ b, S b → g ≤ b by rw [hS]; intro b hb; exact Nat.le_of_eq hb.symm)
  rw [← hS] at V hbW
  have P0 := hideP (WrP.refl V.out)
  clear hv hg hS B0 B1 T0 T1 hR
  obtain ⟨c0, c1, c2⟩ := nrow3 Tv.out
  go_upto_region 6 with (first
    | (go_at_call 120; refine (wbyteP kd P0.out hkd.out (by simp)).mono ?_; rintro e1 w2 ⟨rfl, s_⟩; have P1 := hideP s_; have T2 := hideP (WrP.row s_ Tv.out hSz.out); clear s_ P0 c0 c1 c2; obtain ⟨c0, c1, c2⟩ := nrow3 T2.out)
    | (go_at_call 120; refine (wbyteP nr P1.out (by omega) (by simp)).mono ?_; rintro e1 w3 ⟨rfl, s_⟩; have P2 := hideP s_; have T3 := hideP (WrP.row s_ Tv.out hSz.out); clear s_ P1 c0 c1 c2; obtain ⟨c0, c1, c2⟩ := nrow3 T3.out))
  go_wp2_with fail
  clear c0 c1 c2 T2 T3
  go_loopw [30] (fun v30 wr => ∃ i : Nat, i ≤ nr ∧ v30 = .int .i64 (i : Nat) ∧ Hid (WrP S v wr g ([kd] ++ [nr] ++ ((n.rows.take i).map entB).flatten) 0)) (fun v30 _ => nr - (intOf v30).toNat)
  case atStart => exact ⟨0, Nat.zero_le _, rfl, hideP (by simpa using P2.out)⟩
  case round =>
    obtain ⟨i, hi, rfl, hV⟩ := hrel
    by_cases hlt : i < nr
    · have i1 : (i : Int) < (nr : Int) := by omega
      have m3 : wrap64 ((i : Int) + 1) = (i : Int) + 1 := wrap_succ4 hlt hnr.out
      have hil : i < n.rows.length := by have := F1.out; omega
      obtain ⟨b0, off, hA, hB0, hc⟩ := hM.out.rows (by omega)
      rw [← HrA.out] at hA
      subst hA
      have hce := hc i hil
      dsimp only at hce
      have hra := hM.out.row i hil
      have hok := hN.out.row i hil
      have h8 := hF.out.row i hil
      have hst := flat_take_succ entB n.rows i hil
      have hll := hlr.out i (by omega)
      obtain ⟨e, he⟩ : ∃ e, e = n.rows.getD i default := ⟨_, rfl⟩
      obtain ⟨⟨A1, cA⟩, hp⟩ : ∃ e, e = p.rp i := ⟨_, rfl⟩
      rw [← he] at hce hra hok h8 hst
      rw [← hp] at hce hra
      obtain ⟨r, e1⟩ : ∃ m, m = e.row := ⟨_, rfl⟩
      obtain ⟨lv, e2⟩ : ∃ m, m = e.live := ⟨_, rfl⟩
      have hrg : wr.rangeAt b0 (off + i * 2) [.slice A1 r.length cA, .bool lv] := by
        rw [e1, e2]
        exact fun x y hxy => ((hbW.out wr _ _ hV.out).cell (p := ⟨b0, off + i * 2 + x, none⟩) hB0).trans (hce x y hxy)
      rw [← e1] at hra hok h8
      have heB : entB e = [if lv then 1 else 0] ++ rowB r := by unfold entB; rw [← e1, ← e2]
      rw [heB] at hst
      obtain ⟨m, e3⟩ : ∃ m, m = r.length := ⟨_, rfl⟩
      rw [← e3] at hrg hra
      obtain ⟨Lb, e4⟩ : ∃ L, L = [kd] ++ [nr] ++ ((n.rows.take i).map entB).flatten := ⟨_, rfl⟩
      have hst2 : Lb ++ [if lv then 1 else 0] ++ rowB r = [kd] ++ [nr] ++ ((n.rows.take (i + 1)).map entB).flatten := by rw [hst, e4]; simp only [List.append_assoc]
      have hLl : Lb.length ≤ 100000 := by rw [e4]; simp only [List.length_append, List.length_cons, List.length_nil]; omega
      rw [← e4] at hV
      have E3 := hideP e3; have HRA := hideP hra; have HRG := hideP hrg; have HOK := hideP hok; have HST := hideP hst2; have HLL := hideP hLl; have H8 := hideP h8
      clear he hp e1 e2 e3 e4 hce hra hrg hok h8 hst hst2 heB hc hil hll hLl
      have hsz := hideP (show (Try.prog.info? 56).map (·.size) = some ([.slice A1 m cA, .bool lv] : List Value).length by kernel_rfl)
      obtain ⟨S4, m4, v4⟩ := hV.out
      have M4 := hideP m4; have V4 := hideP v4
      clear m4 v4
      go_upto_region 9 with (first
        | (refine wpList_load_mid rfl 56 (.tmp 32) rfl b0 (off + i * 2) rfl [.slice A1 m cA, .bool lv] _ HRG.out Try.underlying56 rfl hsz.out ?_)
        | (refine wpList_store_row rfl 56 (.tmp 8) (.tmp 33) rfl wr.heap.size ([.slice A1 m cA, .bool lv]).toArray rfl rfl 56 ([.slice none 0 0, .bool false]).toArray (Row.new wr 56 ([.slice none 0 0, .bool false])) hsz.out rfl rfl ?_)
        | fail)
      obtain ⟨G, hG⟩ : ∃ G, G = wr.heap.size := ⟨_, rfl⟩
      have hX6 := hideP (Ext.alloc wr (.cells #[.slice A1 m cA, .bool lv] 56))
      obtain ⟨v6, hv6⟩ : ∃ v, v = wr.alloc (.cells #[.slice A1 m cA, .bool lv] 56) := ⟨_, rfl⟩
      have R6 := hideP (show Row v6 G 56 [.slice A1 m cA, .bool lv] by rw [hv6, hG]; exact Row.new wr _ _)
      rw [← hv6] at hX6
      have NG := hideP (show ¬ S4 G by rw [hG]; exact V4.out.notnew)
      have V6 := hideP (V4.out.ext hX6.out)
      have M6 := hideP (M4.out.trans (Mv.ext S4 hX6.out))
      have Q6 := hideP (WrP.refl V6.out)
      have Hv6 := hideP hv6
      have BW := hideP (fun W (l : List Nat) (e : Int) (h : WrP S4 v6 W g l e) => hbW.out W l e (WrP.then M6.out h))
      clear hv6
      rw [← hG, ← Hv6.out]
      clear hG Hv6
      have k0 : v6.cell? ⟨G, 0, none⟩ = some (.slice A1 m cA) := Row.cell R6.out 0
      have k1 : v6.cell? ⟨G, 1, none⟩ = some (.bool lv) := Row.cell R6.out 1
      go_wp2_with (first
        | (go_at_call 172; refine (wtruthP lv Q6.out (by have := HLL.out; omega)).mono ?_; rintro e1 w7 ⟨rfl, s_⟩; have Q7 := hideP s_; have R7 := hideP (WrP.row s_ R6.out NG.out); clear s_ k0 k1; have k0 : w7.cell? ⟨G, 0, none⟩ = some (.slice A1 m cA) := Row.cell R7.out 0)
        | (go_at_call 173; refine (wrowP r A1 m cA w.heap.size Q7.out E3.out (HRA.out.below (BW.out w7 _ _ Q7.out)) hgw.out HOK.out.1 (by have := E3.out; have := H8.out; omega) (by have := HLL.out; simp only [List.length_append, List.length_cons, List.length_nil]; omega)).mono ?_; rintro e1 w8 ⟨rfl, s_⟩; have Q8 := hideP (WrP.then M6.out s_); clear s_ k0))
      rw [HST.out] at Q8
      go_roundw
      case rel => exact ⟨i + 1, by omega, by go_num, Q8.out⟩
      case measure => (try rw [m3]); simp [intOf]; omega
    · obtain rfl : i = nr := by omega
      have i1 : ¬ ((i : Int) < (i : Int)) := by omega
      obtain ⟨L1, e1⟩ : ∃ L, L = [kd] ++ [i] ++ (n.rows.map entB).flatten := ⟨_, rfl⟩
      have P3 := hideP (show WrP S v wr g L1 0 by have := hV.out; rwa [F1.out, List.take_length, ← F1.out, ← e1] at this)
      have hL1 := hideP (show L1.length ≤ 100000 by have h := hlr.out n.rows.length (Nat.le_refl _); rw [List.take_length] at h; rw [e1]; simp only [List.length_append, List.length_cons, List.length_nil]; have := F1.out; have := hnr.out; omega)
      have hend2 := hideP (show RS = L1 ++ [nk] ++ (n.kids.map kidB).flatten by rw [hend.out, e1])
      clear hV e1 hend
      have T3 := hideP (WrP.row P3.out Tv.out hSz.out)
      obtain ⟨c0, c1, c2⟩ := nrow3 T3.out
      go_upto_region 13 with (go_at_call 120; refine (wbyteP nk P3.out (by omega) (by have := hL1.out; omega)).mono ?_; rintro e1 w4 ⟨rfl, s_⟩; have P4 := hideP s_; have T4 := hideP (WrP.row s_ Tv.out hSz.out); clear s_ c0 c1 c2; obtain ⟨c0, c1, c2⟩ := nrow3 T4.out)
      go_wp2_with fail
      clear c0 c1 c2 T3 T4 i1
      go_loopw [52] (fun v52 wr => ∃ j : Nat, j ≤ nk ∧ v52 = .int .i64 (j : Nat) ∧ Hid (WrP S v wr g (L1 ++ [nk] ++ ((n.kids.take j).map kidB).flatten) 0)) (fun v52 _ => nk - (intOf v52).toNat)
      case atStart => exact ⟨0, Nat.zero_le _, rfl, hideP (by simpa using P4.out)⟩
      case round =>
        obtain ⟨j, hj, rfl, hV⟩ := hrel
        by_cases hlt : j < nk
        · have i1 : (j : Int) < (nk : Int) := by omega
          have m3 := wrap_succ4 hlt hnk.out
          have hjl : j < n.kids.length := by have := F2.out; omega
          obtain ⟨b0, off, hA, hB0, hc⟩ := hM.out.kids (by omega)
          rw [← HkA.out] at hA
          subst hA
          have hme := hM.out.kid j hjl
          have hok := hN.out.kid j hjl
          have h8 := hF.out.kid j hjl
          have hst := flat_take_succ kidB n.kids j hjl
          have hll := hlk.out j (by omega)
          have hrg : wr.rangeAt b0 (off + j * 37) (kidC (n.kids.getD j default) (p.kp j)) := fun x y hxy => ((hbW.out wr _ _ hV.out).cell (p := ⟨b0, off + j * 37 + x, none⟩) hB0).trans (hc j hjl x y hxy)
          obtain ⟨k, hk⟩ : ∃ e, e = n.kids.getD j default := ⟨_, rfl⟩
          obtain ⟨pk, hpk⟩ : ∃ e, e = p.kp j := ⟨_, rfl⟩
          rw [← hk] at hme hok h8 hst hrg
          rw [← hpk] at hme hrg
          obtain ⟨a, ea⟩ : ∃ a : Nat, k.live = (a : Int) := Int.eq_ofNat_of_zero_le h8.1.1.1
          obtain ⟨b, eb⟩ : ∃ a : Nat, k.size = (a : Int) := Int.eq_ofNat_of_zero_le h8.1.2.1.1
          have ha := hideP (show a ≤ 1048576 by have := h8.1.1.2; omega)
          have hb := hideP (show b ≤ 1048576 by have := h8.1.2.1.2; omega)
          obtain ⟨Lb, e4⟩ : ∃ L, L = L1 ++ [nk] ++ ((n.kids.take j).map kidB).flatten := ⟨_, rfl⟩
          have HST := hideP (show Lb ++ k.sum ++ be3 a ++ be3 b ++ rowB k.lo ++ rowB k.hi ++ rowB k.key = L1 ++ [nk] ++ ((n.kids.take (j + 1)).map kidB).flatten by rw [hst, e4]; unfold kidB; rw [ea, eb]; simp only [List.append_assoc, Int.toNat_natCast])
          have HLL := hideP (show Lb.length ≤ 200000 by rw [e4]; simp only [List.length_append, List.length_cons, List.length_nil]; have := hL1.out; have := hnk.out; omega)
          rw [← e4] at hV
          have HOK := hideP hok; have HME := hideP hme; have H8 := hideP h8; have HRG := hideP hrg
          have hsz := hideP (size_k37 (hok.cells pk))
          have hso := hideP (show kidL.toArray.size = (kidC k pk).toArray.size by rw [List.size_toArray, List.size_toArray, hok.cells]; rfl)
          have hon := hideP (kidC_one k pk)
          have ls := hideP (size_d32 hok.s)
          clear hk hpk hst hc hjl e4 hok hme h8 hrg hll
          obtain ⟨S4, m4, v4⟩ := hV.out
          have M4 := hideP m4; have V4 := hideP v4
          clear m4 v4
          obtain ⟨C, hC⟩ : ∃ C, C = kidC k pk := ⟨_, rfl⟩
          rw [← hC] at HRG hsz hso hon
          have HC := hideP hC
          clear hC
          go_upto_region 16 with (first
            | (refine wpList_load_mid rfl 43 (.tmp 54) rfl b0 (off + j * 37) rfl C _ HRG.out Try.underlying43 rfl hsz.out ?_)
            | (refine wpList_store_row rfl 43 (.tmp 10) (.tmp 55) rfl wr.heap.size (C).toArray rfl rfl 43 (kidL).toArray (Row.new wr 43 (kidL)) hsz.out hso.out hon.out ?_)
            | fail)
          obtain ⟨G, hG⟩ : ∃ G, G = wr.heap.size := ⟨_, rfl⟩
          have hX6 := hideP (ext_setNew wr (.cells kidL.toArray 43) C.toArray)
          obtain ⟨v6, hv6⟩ : ∃ v, v = (wr.alloc (.cells kidL.toArray 43)).setRow wr.heap.size C.toArray := ⟨_, rfl⟩
          have R6 := hideP (show Row v6 G 43 (kidC k pk) by rw [hv6, hG, HC.out]; exact Row.setRow (Row.new wr 43 kidL) _)
          rw [← hv6] at hX6
          have NG := hideP (show ¬ S4 G by rw [hG]; exact V4.out.notnew)
          have V6 := hideP (V4.out.ext hX6.out)
          have M6 := hideP (M4.out.trans (Mv.ext S4 hX6.out))
          have Q6 := hideP (WrP.refl V6.out)
          rw [← hG] at hv6
          have Hv6 := hideP hv6
          have BW := hideP (fun W (l : List Nat) (e : Int) (h : WrP S4 v6 W g l e) => hbW.out W l e (WrP.then M6.out h))
          have KR := hideP (fun W (l : List Nat) (e : Int) (h : WrP S4 v6 W g l e) => Row.range (WrP.row h R6.out NG.out))
          have K0 := hideP (fun W (l : List Nat) (e : Int) (h : WrP S4 v6 W g l e) => show W.cell? ⟨G, 32, none⟩ = some (.slice pk.lA k.lo.length pk.lc) from kid_at HOK.out (KR.out W l e h) 0 rfl)
          have K1 := hideP (fun W (l : List Nat) (e : Int) (h : WrP S4 v6 W g l e) => show W.cell? ⟨G, 33, none⟩ = some (.slice pk.hA k.hi.length pk.hc) from kid_at HOK.out (KR.out W l e h) 1 rfl)
          have K2 := hideP (fun W (l : List Nat) (e : Int) (h : WrP S4 v6 W g l e) => show W.cell? ⟨G, 34, none⟩ = some (.int .i64 (a : Int)) by have := kid_at HOK.out (KR.out W l e h) 2 rfl; rw [← ea]; exact this)
          have K3 := hideP (fun W (l : List Nat) (e : Int) (h : WrP S4 v6 W g l e) => show W.cell? ⟨G, 35, none⟩ = some (.int .i64 (b : Int)) by have := kid_at HOK.out (KR.out W l e h) 3 rfl; rw [← eb]; exact this)
          have K4 := hideP (fun W (l : List Nat) (e : Int) (h : WrP S4 v6 W g l e) => show W.cell? ⟨G, 36, none⟩ = some (.slice pk.kA k.key.length pk.kc) from kid_at HOK.out (KR.out W l e h) 4 rfl)
          have KS := hideP (kid_sum HOK.out (KR.out v6 _ _ Q6.out))
          clear hv6 ea eb
          rw [← hG, ← Hv6.out]
          clear hG Hv6 hV
          obtain ⟨n0, d0⟩ : ∃ x, x = k.lo.length := ⟨_, rfl⟩
          obtain ⟨n1, d1⟩ : ∃ x, x = k.hi.length := ⟨_, rfl⟩
          obtain ⟨n4, d4⟩ : ∃ x, x = k.key.length := ⟨_, rfl⟩
          rw [← d0] at K0; rw [← d1] at K1; rw [← d4] at K4
          have D0 := hideP d0; have D1 := hideP d1; have D4 := hideP d4
          clear d0 d1 d4
          go_wp2_with (first
            | (refine wpList_load_mid rfl 37 (.tmp 57) rfl G 0 rfl (k.sum.map b8) _ KS.out Try.underlying37 rfl ls.out ?_)
            | (go_at_call 174; refine (wdigestP k.sum Q6.out HOK.out.s HOK.out.sB (by have := HLL.out; omega)).mono ?_; rintro e1 w7 ⟨rfl, s_⟩; have Q7 := hideP s_; clear s_; have k2 := K2.out w7 _ _ Q7.out)
            | (go_at_call 175; refine (wcountP a Q7.out ha.out (by have := HLL.out; have := HOK.out.s; simp only [List.length_append]; omega)).mono ?_; rintro e1 w8 ⟨rfl, s_⟩; have Q8 := hideP s_; clear s_ Q7 k2; have k3 := K3.out w8 _ _ Q8.out)
            | (go_at_call 175; refine (wcountP b Q8.out hb.out (by have := HLL.out; have := HOK.out.s; have : ∀ x, (be3 x).length = 3 := fun _ => rfl; simp only [List.length_append, this]; omega)).mono ?_; rintro e1 w9 ⟨rfl, s_⟩; have Q9 := hideP s_; clear s_ Q8 k3; have k0 := K0.out w9 _ _ Q9.out)
            | (go_at_call 173; refine (wrowP k.lo pk.lA n0 pk.lc w.heap.size Q9.out D0.out (by rw [D0.out]; exact (HME.out.below (BW.out w9 _ _ Q9.out)).lo) hgw.out HOK.out.lI (by have := D0.out; have := H8.out.1.2.2.1; omega) (by have := HLL.out; have := HOK.out.s; have : ∀ x, (be3 x).length = 3 := fun _ => rfl; simp only [List.length_append, this]; omega)).mono ?_; rintro e1 w10 ⟨rfl, s_⟩; have Q10 := hideP s_; clear s_ Q9 k0; have k1 := K1.out w10 _ _ Q10.out)
            | (go_at_call 173; refine (wrowP k.hi pk.hA n1 pk.hc w.heap.size Q10.out D1.out (by rw [D1.out]; exact (HME.out.below (BW.out w10 _ _ Q10.out)).hi) hgw.out HOK.out.hI (by have := D1.out; have := H8.out.1.2.2.2; omega) (by have := HLL.out; have := HOK.out.s; have := H8.out.1.2.2.1; have : ∀ x, (be3 x).length = 3 := fun _ => rfl; simp only [List.length_append, this, rowB_len]; omega)).mono ?_; rintro e1 w11 ⟨rfl, s_⟩; have Q11 := hideP s_; clear s_ Q10 k1; have k4 := K4.out w11 _ _ Q11.out)
            | (go_at_call 173; refine (wrowP k.key pk.kA n4 pk.kc w.heap.size Q11.out D4.out (by rw [D4.out]; exact (HME.out.below (BW.out w11 _ _ Q11.out)).key) hgw.out HOK.out.kI (by have := D4.out; have := H8.out.2; omega) (by have := HLL.out; have := HOK.out.s; have := H8.out.1.2.2.1; have := H8.out.1.2.2.2; have : ∀ x, (be3 x).length = 3 := fun _ => rfl; simp only [List.length_append, this, rowB_len]; omega)).mono ?_; rintro e1 w12 ⟨rfl, s_⟩; have Q12 := hideP (WrP.then M6.out s_); clear s_ k4))
          rw [HST.out] at Q12
          go_roundw
          case rel => exact ⟨j + 1, by omega, by go_num, Q12.out⟩
          case measure => (try rw [m3]); simp [intOf]; omega
        · obtain rfl : j = nk := by omega
          have i1 : ¬ ((j : Int) < (j : Int)) := by omega
          have P5 := hideP (show WrP S v wr g RS 0 by have := hV.out; rwa [F2.out, List.take_length, ← F2.out, ← hend2.out] at this)
          have hRl := hideP (show RS.length ≤ 100000000 by have h := hlk.out n.kids.length (Nat.le_refl _); rw [List.take_length] at h; rw [hend2.out]; simp only [List.length_append, List.length_cons, List.length_nil]; have := F2.out; have := hnk.out; have := hL1.out; omega)
          clear hV hend2
          have B5 := hideP (hbW.out wr _ _ P5.out)
          go_wp2_with (first
            | (go_at_call 123; refine (wbytesP P5.out (by have := hRl.out; omega)).mono ?_; rintro e1 w6 ⟨R6, d6, rfl, o_, b_, s_⟩; have O6 := hideP (OwnB.monoR o_ B5.out.size); have P6 := hideP s_; have B6 := hideP (B5.out.trans (b_.mono B5.out.size)); clear o_ b_ s_)
            | (go_at_call 124; refine (werrP P6.out).mono ?_; rintro e1 w7 ⟨rfl, rfl⟩))
          go_ret2
          exact ⟨R6, d6, rfl, O6.out, B6.out⟩
end Go.Proofs.Ytgcbodpjidoanaa
