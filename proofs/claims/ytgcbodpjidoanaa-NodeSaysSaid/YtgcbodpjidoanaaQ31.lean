/- Contract of the reference's Bytes of nodes. -/
import Derived.Test.YtgcbodpjidoanaaQ20
import Derived.Test.YtgcbodpjidoanaaQ29
import Derived.Test.YtgcbodpjidoanaaQ30
set_option linter.unusedVariables false
set_option linter.unusedSimpArgs false
namespace Go.Proofs.Ytgcbodpjidoanaa
open Go.RowKit
theorem lit2b (w : World) (x y : Nat) : OwnB (w.alloc (.cells #[b8 x, b8 y] 5)) w.heap.size (some ⟨w.heap.size, 0, none⟩) 2 [x, y] := World.ownsRow_lit w #[b8 x, b8 y] 2 (Nat.le_refl _) (by decide) rfl
set_option maxRecDepth 100000 in
set_option maxHeartbeats 1000000 in
theorem rwtruth_any (x : Bool) (w : World) :
    Calls Try.prog 99 #[.bool x] w fun e w' => ∃ R d, e = .returned (.slice R 1 d) ∧ OwnB w' w.heap.size R d [if x then 1 else 0] ∧ Below w.heap.size w w' := by
  have h := fun y => OwnB.lit1 w y
  have hb := hideP (fun c t => below_new w (.cells c t))
  cases x
  · have h1 := hideP (h 0)
    clear h
    go_enter Try.func99, Try.ntmps99
    go_wp2_with fail
    go_ret
    exact ⟨_, _, rfl, h1.out, hb.out _ _⟩
  · have h1 := hideP (h 1)
    clear h
    go_enter Try.func99, Try.ntmps99
    go_wp2_with fail
    go_ret
    exact ⟨_, _, rfl, h1.out, hb.out _ _⟩
theorem but_belowA {w w' : World} {base c : Nat} {A : Option Addr} {l : List Nat} (h : OwnB w base A c l) (hb : base ≤ w.heap.size) (b : But (fun b => ∃ off s, A = some ⟨b, off, s⟩) w w') : Below base w w' :=
  ⟨b.os, b.tape, b.output, b.size, fun k hk => b.block k (Nat.lt_of_lt_of_le hk hb) fun ⟨off, s, e⟩ => by have := own_ge h e; omega⟩
theorem not_at {w : World} {A A' : Option Addr} {G : Nat} (h : ∀ b off s, A' = some ⟨b, off, s⟩ → (∃ off s, A = some ⟨b, off, s⟩) ∨ w.heap.size ≤ b) (hn : ¬ ∃ off s, A = some ⟨G, off, s⟩) (hG : G < w.heap.size) : ¬ ∃ off s, A' = some ⟨G, off, s⟩ := fun ⟨off, s, e⟩ => by
  rcases h G off s e with h | h
  · exact hn h
  · omega
theorem arr_b8 {w : World} {G : Nat} {l : List Nat} {n : Nat} (r : w.rangeAt G 0 (l.map b8)) (hl : l.length = n) (hG : G < w.heap.size) : Arr w w.heap.size (some ⟨G, 0, none⟩) n (u8s l) := fun _ => ⟨G, 0, rfl, hG, fun i hi => by
  have := r i (b8 (l.getD i 0)) (by simp [List.getElem?_map, List.getD, List.getElem?_eq_getElem (show i < l.length by omega)])
  exact this⟩
theorem own_new {w : World} {base c : Nat} {A : Option Addr} {l : List Nat} (h : OwnB w base A c l) : ¬ ∃ off s, A = some ⟨w.heap.size, off, s⟩ := fun ⟨off, s, e⟩ => by
  have := own_lt h e; omega
set_option maxRecDepth 100000 in
set_option maxHeartbeats 4000000 in
theorem rnbytes_any (n : NodeD) (p : NodeP) (d : Int) (w : World) (hn : NodeOk n) (hm : NodeMem w w.heap.size n p) (hf : NodeF n d) :
    Calls Try.prog 18 #[.agg (nodeC n p).toArray] w fun e w' => ∃ R c, e = .returned (.slice R (nodeB n).length c) ∧ OwnB w' w.heap.size R c (nodeB n) ∧ Below w.heap.size w w' := by
  have hF := hideP hf
  have hN := hideP hn
  have hM := hideP hm
  unfold nodeC
  obtain ⟨nr, f1⟩ : ∃ b, b = n.rows.length := ⟨_, rfl⟩
  obtain ⟨nk, f2⟩ : ∃ b, b = n.kids.length := ⟨_, rfl⟩
  obtain ⟨kd, f3⟩ : ∃ b, b = n.kind := ⟨_, rfl⟩
  have hnr := hideP (show nr ≤ 4 by rw [f1]; exact hF.out.rows)
  have hnk := hideP (show nk ≤ 4 by rw [f2]; exact hF.out.kids)
  rw [← f1, ← f2, ← f3]
  have hend := hideP (show nodeB n = [kd] ++ [nr] ++ (n.rows.map entB).flatten ++ [nk] ++ (n.kids.map kidB).flatten by rw [f1, f2, f3]; rfl)
  have hlr := hideP (fun k (hk : k ≤ n.rows.length) => flat_len_le entB n.rows 66 (fun i hi => entB_len _ (hF.out.row i hi)) k hk)
  have hlk := hideP (fun k (hk : k ≤ n.kids.length) => flat_len_le kidB n.kids 233 (fun i hi => kidB_len _ (hn.kid i hi).s (hF.out.kid i hi).1.2.2.1 (hF.out.kid i hi).1.2.2.2 (hF.out.kid i hi).2) k hk)
  have F1 := hideP f1; have F2 := hideP f2
  obtain ⟨RS, hRS⟩ : ∃ R, R = nodeB n := ⟨_, rfl⟩
  rw [← hRS] at hend ⊢
  clear hm hn hf f1 f2 f3 hRS
  obtain ⟨v0, hv0⟩ : ∃ v, v = w.alloc (.cells #[.int .u8 (kd : Nat), .slice p.rA nr p.rc, .slice p.kA nk p.kc] 27) := ⟨_, rfl⟩
  obtain ⟨z, hz⟩ : ∃ g, g = w.heap.size := ⟨_, rfl⟩
  obtain ⟨B, hB⟩ : ∃ g, g = v0.heap.size := ⟨_, rfl⟩
  have T0 := hideP (show Row v0 z 27 [.int .u8 (kd : Nat), .slice p.rA nr p.rc, .slice p.kA nk p.kc] by rw [hv0, hz]; exact Row.new w _ _)
  have A0 := hideP (show Below w.heap.size w v0 by rw [hv0]; exact below_new _ _)
  have hB0 := hideP (show B ≤ v0.heap.size by rw [hB]; exact Nat.le_refl _)
  have hwB := hideP (show w.heap.size ≤ B by rw [hB]; exact A0.out.size)
  have hzB := hideP (show z < B by rw [hB]; exact Row.lt T0.out)
  have AW := hideP (fun W (h : Below B v0 W) => show Below w.heap.size w W from A0.out.trans (h.mono hwB.out))
  obtain ⟨rA, hrA⟩ : ∃ a, a = p.rA := ⟨_, rfl⟩
  obtain ⟨kA, hkA⟩ : ∃ a, a = p.kA := ⟨_, rfl⟩
  have HrA := hideP hrA; have HkA := hideP hkA
  rw [← hrA, ← hkA] at T0 hv0 ⊢
  have Hv := hideP hv0
  have TW := hideP (fun W (h : Below B v0 W) => Row.below T0.out h hzB.out)
  have HB := hideP hB
  clear hrA hkA hv0 hB
  have m1 := mod_small hnr.out
  have m2 := mod_small hnk.out
  go_enter Try.func18, Try.ntmps18
  go_upto_region 1 with fail
  rw [← Hv.out, ← hz]
  clear Hv hz
  obtain ⟨c0, c1, c2⟩ := nrow3 T0.out
  have o1 := hideP (show OwnB (v0.alloc (.cells #[.int .u8 (kd : Nat), .int .u8 (nr : Nat)] 5)) B (some ⟨v0.heap.size, 0, none⟩) 2 [kd, nr] by rw [HB.out]; exact lit2b v0 kd nr)
  have q1 := hideP (show Below B v0 (v0.alloc (.cells #[.int .u8 (kd : Nat), .int .u8 (nr : Nat)] 5)) by rw [HB.out]; exact below_new _ _)
  go_upto_region 3 with fail
  clear c0 c1 c2
  go_loopw [4, 3] (fun v4 v3 wr => ∃ (i : Nat) (R : Option Addr) (m c : Nat), i ≤ nr ∧ v4 = .int .i64 (i : Nat) ∧ v3 = .slice R m c ∧ Hid (OwnB wr B R c ([kd] ++ [nr] ++ ((n.rows.take i).map entB).flatten) ∧ m = ([kd] ++ [nr] ++ ((n.rows.take i).map entB).flatten).length ∧ Below B v0 wr)) (fun v4 _ _ => nr - (intOf v4).toNat)
  case atStart => exact ⟨0, _, 2, 2, Nat.zero_le _, rfl, rfl, by simpa using o1.out, rfl, q1.out⟩
  case round =>
    obtain ⟨i, R, m, c, hi, rfl, rfl, hV⟩ := hrel
    have Q0 := hideP hV.out.2.2
    have Tr := hideP (TW.out wr Q0.out)
    by_cases hlt : i < nr
    · have i1 : (i : Int) < (nr : Int) := by omega
      have m3 := wrap_succ4 hlt hnr.out
      have hil : i < n.rows.length := by have := F1.out; omega
      obtain ⟨b0, off, hA, hBb, hc⟩ := hM.out.rows (by omega)
      rw [← HrA.out] at hA
      subst hA
      have hce := hc i hil
      dsimp only at hce
      have hra := hM.out.row i hil
      have hok := hN.out.row i hil
      have h8 := hF.out.row i hil
      have hst := flat_take_succ entB n.rows i hil
      have hll := hlr.out i (by omega)
      obtain ⟨e, he⟩ : ∃ e, e = n.rows.getD i default := ⟨_, rfl⟩
      obtain ⟨⟨A1, cA⟩, hp⟩ : ∃ e, e = p.rp i := ⟨_, rfl⟩
      rw [← he] at hce hra hok h8 hst
      rw [← hp] at hce hra
      obtain ⟨r, e1⟩ : ∃ m, m = e.row := ⟨_, rfl⟩
      obtain ⟨lv, e2⟩ : ∃ m, m = e.live := ⟨_, rfl⟩
      rw [← e1] at hra hok h8
      have heB : entB e = [if lv then 1 else 0] ++ rowB r := by unfold entB; rw [← e1, ← e2]
      rw [heB] at hst
      obtain ⟨mr, e3⟩ : ∃ m, m = r.length := ⟨_, rfl⟩
      rw [← e3] at hra
      have KC := hideP (fun W (h : Below B v0 W) => (show W.cell? ⟨b0, off + i * 2, none⟩ = some (.slice A1 mr cA) ∧ W.cell? ⟨b0, off + i * 2 + 1, none⟩ = some (.bool lv) from
        ⟨((AW.out W h).cell (p := ⟨b0, off + i * 2, none⟩) hBb).trans (by rw [e3, e1]; exact hce 0 _ rfl), ((AW.out W h).cell (p := ⟨b0, off + i * 2 + 1, none⟩) hBb).trans (by rw [e2]; exact hce 1 _ rfl)⟩))
      obtain ⟨L, e4⟩ : ∃ L, L = [kd] ++ [nr] ++ ((n.rows.take i).map entB).flatten := ⟨_, rfl⟩
      have HST := hideP (show L ++ [if lv then 1 else 0] ++ rowB r = [kd] ++ [nr] ++ ((n.rows.take (i + 1)).map entB).flatten by rw [hst, e4]; simp only [List.append_assoc])
      rw [← e4] at hV
      have O0 := hideP hV.out.1
      have Hm := hideP hV.out.2.1
      have HBm := hideP (show m ≤ 100000 by rw [hV.out.2.1, e4]; simp only [List.length_append, List.length_cons, List.length_nil]; have := hnr.out; omega)
      have E3 := hideP e3; have HRA := hideP hra; have HOK := hideP hok; have H8 := hideP h8
      clear he hp e1 e2 e3 e4 hce hra hok h8 hst heB hc hil hll hV
      have hrl := hideP (show (rowB r).length ≤ 65 by rw [rowB_len]; have := H8.out; omega)
      obtain ⟨k0, k1⟩ := KC.out wr Q0.out
      obtain ⟨c0, c1, c2⟩ := nrow3 Tr.out
      go_upto_region 6 with (first
        | (at_builtin; refine wpList_appn rfl (.tmp 21) (.tmp 28) rfl B R c m L Hm.out rfl O1.out w1.heap.size (R1) (1) d1 ([if lv then 1 else 0]) (rfl) rfl (X1.out) (by have := HBm.out; skip; omega) (Nat.le_trans hB0.out (Q1.out.size)) ?_; intro R2 d2 w2 o_ b_; have O2 := hideP o_; have Q2 := hideP (Q1.out.trans b_); clear o_ b_)
        | (go_at_call 99; refine (rwtruth_any lv wr).mono ?_; rintro e1 w1 ⟨R1, d1, rfl, o_, b_⟩; have X1 := hideP o_.arr; have O1 := hideP (O0.out.after b_); have Q1 := hideP (Q0.out.trans (b_.mono (Nat.le_trans hB0.out Q0.out.size))); clear o_ b_))
      obtain ⟨ma, hm_⟩ : ∃ m_, m_ = m + 1 := ⟨_, rfl⟩
      rw [← hm_]
      obtain ⟨La, hL_⟩ : ∃ L_, L_ = L ++ [if lv then 1 else 0] := ⟨_, rfl⟩
      rw [← hL_] at O2
      have Hma := hideP (show ma = (La).length by rw [hm_, hL_, List.length_append, ← Hm.out]; rfl)
      have HBma := hideP (show ma ≤ 100001 by rw [hm_]; have := HBm.out; skip; omega)
      have Ema := hideP hL_
      clear hm_ hL_
      clear k0 k1 c0 c1 c2
      have T2 := hideP (TW.out w2 Q2.out)
      obtain ⟨k0, k1⟩ := KC.out w2 Q2.out
      obtain ⟨c0, c1, c2⟩ := nrow3 T2.out
      go_upto_region 4 with (first
        | (at_builtin; refine wpList_appn rfl (.tmp 30) (.tmp 37) rfl B R2 d2 ma La Hma.out rfl O3.out w3.heap.size (R3) ((rowB r).length) d3 (rowB r) (rfl) rfl (X3.out) (by have := HBma.out; have := hrl.out; omega) (Nat.le_trans hB0.out (Q3.out.size)) ?_; intro R4 d4 w4 o_ b_; have O4 := hideP o_; have Q4 := hideP (Q3.out.trans b_); clear o_ b_)
        | (go_at_call 100; refine (rwrow_any A1 r mr cA w2 E3.out ((HRA.out.below (AW.out w2 Q2.out)).more (AW.out w2 Q2.out).size) HOK.out.1 (by have := E3.out; have := H8.out; omega)).mono ?_; rintro e1 w3 ⟨R3, d3, rfl, o_, b_⟩; have X3 := hideP o_.arr; have O3 := hideP (O2.out.after b_); have Q3 := hideP (Q2.out.trans (b_.mono (Nat.le_trans hB0.out Q2.out.size))); clear o_ b_))
      obtain ⟨mb, hm_⟩ : ∃ m_, m_ = ma + (rowB r).length := ⟨_, rfl⟩
      rw [← hm_]
      obtain ⟨Lb, hL_⟩ : ∃ L_, L_ = La ++ rowB r := ⟨_, rfl⟩
      rw [← hL_] at O4
      have Hmb := hideP (show mb = (Lb).length by rw [hm_, hL_, List.length_append, ← Hma.out])
      have HBmb := hideP (show mb ≤ 100100 by rw [hm_]; have := HBma.out; have := hrl.out; omega)
      have Emb := hideP hL_
      clear hm_ hL_
      have HS2 := hideP (show Lb = [kd] ++ [nr] ++ ((n.rows.take (i + 1)).map entB).flatten by rw [Emb.out, Ema.out, HST.out])
      clear k0 k1 c0 c1 c2
      go_wp2_with fail
      go_roundw
      case rel => exact ⟨i + 1, R4, mb, d4, by omega, by go_num, rfl, by rw [← HS2.out]; exact O4.out, by rw [← HS2.out]; exact Hmb.out, Q4.out⟩
      case measure => (try rw [m3]); simp [intOf]; omega
    · obtain rfl : i = nr := by omega
      have i1 : ¬ ((i : Int) < (i : Int)) := by omega
      obtain ⟨L1, e1⟩ : ∃ L, L = [kd] ++ [i] ++ (n.rows.map entB).flatten := ⟨_, rfl⟩
      have O0 := hideP (show OwnB wr B R c L1 by have := hV.out.1; rwa [F1.out, List.take_length, ← F1.out, ← e1] at this)
      have Hm := hideP (show m = L1.length by have := hV.out.2.1; rwa [F1.out, List.take_length, ← F1.out, ← e1] at this)
      have HBm := hideP (show m ≤ 100000 by have h := hlr.out n.rows.length (Nat.le_refl _); rw [List.take_length] at h; rw [Hm.out, e1]; simp only [List.length_append, List.length_cons, List.length_nil]; have := F1.out; have := hnr.out; omega)
      have hend2 := hideP (show RS = L1 ++ [nk] ++ (n.kids.map kidB).flatten by rw [hend.out, e1])
      clear hV e1 hend
      obtain ⟨c0, c1, c2⟩ := nrow3 Tr.out
      go_upto_region 9 with (at_builtin; refine wpList_app1 rfl (.tmp 39) (.tmp 44) rfl B R c m L1 Hm.out rfl O0.out nk rfl (by have := HBm.out; omega) (Nat.le_trans hB0.out Q0.out.size) ?_; intro R1 d1 w1 o_ b_; have O1 := hideP o_; have Q1 := hideP (Q0.out.trans b_); clear o_ b_)
      clear c0 c1 c2 i1
      obtain ⟨ma, hm_⟩ : ∃ m_, m_ = m + 1 := ⟨_, rfl⟩
      rw [← hm_]
      obtain ⟨La, hL_⟩ : ∃ L_, L_ = L1 ++ [nk] := ⟨_, rfl⟩
      rw [← hL_] at O1
      have Hma := hideP (show ma = (La).length by rw [hm_, hL_, List.length_append, ← Hm.out]; rfl)
      have HBma := hideP (show ma ≤ 100001 by rw [hm_]; have := HBm.out; skip; omega)
      have Ema := hideP hL_
      clear hm_ hL_
      rw [← Ema.out] at hend2
      go_loopw [5, 3] (fun v5 v3 wr => ∃ (j : Nat) (R : Option Addr) (m c : Nat), j ≤ nk ∧ v5 = .int .i64 (j : Nat) ∧ v3 = .slice R m c ∧ Hid (OwnB wr B R c (La ++ ((n.kids.take j).map kidB).flatten) ∧ m = (La ++ ((n.kids.take j).map kidB).flatten).length ∧ Below B v0 wr)) (fun v5 _ _ => nk - (intOf v5).toNat)
      case atStart => exact ⟨0, R1, ma, d1, Nat.zero_le _, rfl, rfl, by simpa using O1.out, by simpa using Hma.out, Q1.out⟩
      case round =>
        obtain ⟨j, R, m, c, hj, rfl, rfl, hV⟩ := hrel
        have Q0 := hideP hV.out.2.2
        have Tr := hideP (TW.out wr Q0.out)
        by_cases hlt : j < nk
        · have i1 : (j : Int) < (nk : Int) := by omega
          have m3 := wrap_succ4 hlt hnk.out
          have hjl : j < n.kids.length := by have := F2.out; omega
          obtain ⟨b0, off, hA, hBb, hc⟩ := hM.out.kids (by omega)
          rw [← HkA.out] at hA
          subst hA
          have hme := hM.out.kid j hjl
          have hok := hN.out.kid j hjl
          have h8 := hF.out.kid j hjl
          have hst := flat_take_succ kidB n.kids j hjl
          have hll := hlk.out j (by omega)
          have hrg : wr.rangeAt b0 (off + j * 37) (kidC (n.kids.getD j default) (p.kp j)) := fun x y hxy => ((AW.out wr Q0.out).cell (p := ⟨b0, off + j * 37 + x, none⟩) hBb).trans (hc j hjl x y hxy)
          obtain ⟨k, hk⟩ : ∃ e, e = n.kids.getD j default := ⟨_, rfl⟩
          obtain ⟨pk, hpk⟩ : ∃ e, e = p.kp j := ⟨_, rfl⟩
          rw [← hk] at hme hok h8 hst hrg
          rw [← hpk] at hme hrg
          obtain ⟨a, ea⟩ : ∃ a : Nat, k.live = (a : Int) := Int.eq_ofNat_of_zero_le h8.1.1.1
          obtain ⟨b, eb⟩ : ∃ a : Nat, k.size = (a : Int) := Int.eq_ofNat_of_zero_le h8.1.2.1.1
          have ha := hideP (show a ≤ 1048576 by have := h8.1.1.2; omega)
          have hb := hideP (show b ≤ 1048576 by have := h8.1.2.1.2; omega)
          obtain ⟨L, e4⟩ : ∃ L, L = La ++ ((n.kids.take j).map kidB).flatten := ⟨_, rfl⟩
          have HST := hideP (show L ++ k.sum ++ be3 a ++ be3 b ++ rowB k.lo ++ rowB k.hi ++ rowB k.key = La ++ ((n.kids.take (j + 1)).map kidB).flatten by rw [hst, e4]; unfold kidB; rw [ea, eb]; simp only [List.append_assoc, Int.toNat_natCast])
          rw [← e4] at hV
          have O0 := hideP hV.out.1
          have Hm := hideP hV.out.2.1
          have HBm := hideP (show m ≤ 200000 by rw [hV.out.2.1, e4, List.length_append, ← Hma.out]; have := HBma.out; have := hnk.out; omega)
          have HOK := hideP hok; have HME := hideP hme; have H8 := hideP h8; have HRG := hideP hrg
          have hsz := hideP (size_k37 (hok.cells pk))
          have hso := hideP (show kidL.toArray.size = (kidC k pk).toArray.size by rw [List.size_toArray, List.size_toArray, hok.cells]; rfl)
          have hon := hideP (kidC_one k pk)
          have r0 := hideP (show (rowB k.lo).length ≤ 65 by rw [rowB_len]; have := h8.1.2.2.1; omega)
          have r1 := hideP (show (rowB k.hi).length ≤ 65 by rw [rowB_len]; have := h8.1.2.2.2; omega)
          have r4 := hideP (show (rowB k.key).length ≤ 65 by rw [rowB_len]; have := h8.2; omega)
          clear hk hpk hst hc hjl e4 hok hme h8 hrg hll hV
          obtain ⟨C, hC⟩ : ∃ C, C = kidC k pk := ⟨_, rfl⟩
          rw [← hC] at HRG hsz hso hon
          have HC := hideP hC
          clear hC
          obtain ⟨c0, c1, c2⟩ := nrow3 Tr.out
          go_upto_region 12 with (first
            | (refine wpList_load_mid rfl 43 (.tmp 56) rfl b0 (off + j * 37) rfl C _ HRG.out Try.underlying43 rfl hsz.out ?_)
            | (refine wpList_store_row rfl 43 (.tmp 6) (.tmp 57) rfl wr.heap.size (C).toArray rfl rfl 43 (kidL).toArray (Row.new wr 43 (kidL)) hsz.out hso.out hon.out ?_)
            | fail)
          clear c0 c1 c2
          obtain ⟨G, hG⟩ : ∃ G, G = wr.heap.size := ⟨_, rfl⟩
          have hX6 := hideP (ext_setNew wr (.cells kidL.toArray 43) C.toArray)
          obtain ⟨v6, hv6⟩ : ∃ v, v = (wr.alloc (.cells kidL.toArray 43)).setRow wr.heap.size C.toArray := ⟨_, rfl⟩
          have S6 := hideP (show Row v6 G 43 (kidC k pk) by rw [hv6, hG, HC.out]; exact Row.setRow (Row.new wr 43 kidL) _)
          rw [← hv6] at hX6
          have O6 := hideP (O0.out.ext hX6.out)
          have Q6 := hideP (Q0.out.trans (hX6.out.below.mono (Nat.le_trans hB0.out Q0.out.size)))
          have N6 := hideP (show ¬ ∃ off s, R = some ⟨G, off, s⟩ by rw [hG]; exact own_new O0.out)
          rw [← hG] at hv6
          have Hv6 := hideP hv6
          have KC := hideP (fun W (r : Row W G 43 (kidC k pk)) => (show W.cell? ⟨G, 32, none⟩ = some (.slice pk.lA k.lo.length pk.lc) ∧ W.cell? ⟨G, 33, none⟩ = some (.slice pk.hA k.hi.length pk.hc) ∧ W.cell? ⟨G, 34, none⟩ = some (.int .i64 (a : Int)) ∧ W.cell? ⟨G, 35, none⟩ = some (.int .i64 (b : Int)) ∧ W.cell? ⟨G, 36, none⟩ = some (.slice pk.kA k.key.length pk.kc) from
            ⟨kid_at HOK.out (Row.range r) 0 rfl, kid_at HOK.out (Row.range r) 1 rfl, by have := kid_at HOK.out (Row.range r) 2 rfl; rw [← ea]; exact this, by have := kid_at HOK.out (Row.range r) 3 rfl; rw [← eb]; exact this, kid_at HOK.out (Row.range r) 4 rfl⟩))
          have KS := hideP (fun W (r : Row W G 43 (kidC k pk)) => arr_b8 (kid_sum HOK.out (Row.range r)) HOK.out.s (Row.lt r))
          clear hv6 ea eb
          rw [← hG, ← Hv6.out]
          clear hG Hv6 O0
          obtain ⟨n0, d0⟩ : ∃ x, x = k.lo.length := ⟨_, rfl⟩
          obtain ⟨n1, d1⟩ : ∃ x, x = k.hi.length := ⟨_, rfl⟩
          obtain ⟨n4, d4⟩ : ∃ x, x = k.key.length := ⟨_, rfl⟩
          rw [← d0, ← d1, ← d4] at KC
          have D0 := hideP d0; have D1 := hideP d1; have D4 := hideP d4
          clear d0 d1 d4
          go_upto_region 13 with (first
            | (at_builtin; refine wpList_appN rfl (.tmp 58) (.tmp 60) rfl B R c m L Hm.out rfl O6.out v6.heap.size (some ⟨G, 0, none⟩) (32) 32 (k.sum) (HOK.out.s.symm) rfl (KS.out v6 S6.out) (by have := HBm.out; skip; omega) (Nat.le_trans hB0.out (Q6.out.size)) ?_; intro A7 c7 w7 o_ b_ n_; have O7 := hideP o_; have Q7 := hideP (Q6.out.trans (but_belowA O6.out (Nat.le_trans hB0.out (Q6.out.size)) b_)); have S7 := hideP (row_but2 b_ S6.out N6.out); have N7 := hideP (not_at n_ N6.out (Row.lt S6.out)); clear o_ b_ n_)
            | fail)
          obtain ⟨m7, hm_⟩ : ∃ m_, m_ = m + 32 := ⟨_, rfl⟩
          rw [← hm_]
          obtain ⟨L7, hL_⟩ : ∃ L_, L_ = L ++ k.sum := ⟨_, rfl⟩
          rw [← hL_] at O7
          have Hm7 := hideP (show m7 = (L7).length by rw [hm_, hL_, List.length_append, ← Hm.out]; rw [HOK.out.s])
          have HBm7 := hideP (show m7 ≤ 200032 by rw [hm_]; have := HBm.out; skip; omega)
          have Em7 := hideP hL_
          clear hm_ hL_
          obtain ⟨x0, x1, x2, x3, x4⟩ := KC.out w7 S7.out
          go_upto_region 14 with (first
            | (at_builtin; refine wpList_appN rfl (.tmp 62) (.tmp 65) rfl B A7 c7 m7 L7 Hm7.out rfl O8.out w8.heap.size (some ⟨w7.heap.size, 0, none⟩) (3) 3 (be3 a) (rfl) rfl (XO8.out) (by have := HBm7.out; skip; omega) (Nat.le_trans hB0.out (Q8.out.size)) ?_; intro A9 c9 w9 o_ b_ n_; have O9 := hideP o_; have Q9 := hideP (Q8.out.trans (but_belowA O8.out (Nat.le_trans hB0.out (Q8.out.size)) b_)); have S9 := hideP (row_but2 b_ S8.out N7.out); have N9 := hideP (not_at n_ N7.out (Row.lt S8.out)); clear o_ b_ n_)
            | (go_at_call 101; refine (rwcount_any a w7 (by have := ha.out; omega)).mono ?_; rintro e1 w8 ⟨rfl, o_, b_⟩; have XO8 := hideP o_.arr; have O8 := hideP (O7.out.after b_); have Q8 := hideP (Q7.out.trans (b_.mono (Nat.le_trans hB0.out Q7.out.size))); have S8 := hideP (Row.after S7.out b_); clear o_ b_)
            | fail)
          clear x0 x1 x2 x3 x4
          obtain ⟨m9, hm_⟩ : ∃ m_, m_ = m7 + 3 := ⟨_, rfl⟩
          rw [← hm_]
          obtain ⟨L9, hL_⟩ : ∃ L_, L_ = L7 ++ be3 a := ⟨_, rfl⟩
          rw [← hL_] at O9
          have Hm9 := hideP (show m9 = (L9).length by rw [hm_, hL_, List.length_append, ← Hm7.out]; rfl)
          have HBm9 := hideP (show m9 ≤ 200035 by rw [hm_]; have := HBm7.out; skip; omega)
          have Em9 := hideP hL_
          clear hm_ hL_
          obtain ⟨x0, x1, x2, x3, x4⟩ := KC.out w9 S9.out
          go_upto_region 15 with (first
            | (at_builtin; refine wpList_appN rfl (.tmp 67) (.tmp 70) rfl B A9 c9 m9 L9 Hm9.out rfl O10.out w10.heap.size (some ⟨w9.heap.size, 0, none⟩) (3) 3 (be3 b) (rfl) rfl (XO10.out) (by have := HBm9.out; skip; omega) (Nat.le_trans hB0.out (Q10.out.size)) ?_; intro A11 c11 w11 o_ b_ n_; have O11 := hideP o_; have Q11 := hideP (Q10.out.trans (but_belowA O10.out (Nat.le_trans hB0.out (Q10.out.size)) b_)); have S11 := hideP (row_but2 b_ S10.out N9.out); have N11 := hideP (not_at n_ N9.out (Row.lt S10.out)); clear o_ b_ n_)
            | (go_at_call 101; refine (rwcount_any b w9 (by have := hb.out; omega)).mono ?_; rintro e1 w10 ⟨rfl, o_, b_⟩; have XO10 := hideP o_.arr; have O10 := hideP (O9.out.after b_); have Q10 := hideP (Q9.out.trans (b_.mono (Nat.le_trans hB0.out Q9.out.size))); have S10 := hideP (Row.after S9.out b_); clear o_ b_)
            | fail)
          clear x0 x1 x2 x3 x4
          obtain ⟨m11, hm_⟩ : ∃ m_, m_ = m9 + 3 := ⟨_, rfl⟩
          rw [← hm_]
          obtain ⟨L11, hL_⟩ : ∃ L_, L_ = L9 ++ be3 b := ⟨_, rfl⟩
          rw [← hL_] at O11
          have Hm11 := hideP (show m11 = (L11).length by rw [hm_, hL_, List.length_append, ← Hm9.out]; rfl)
          have HBm11 := hideP (show m11 ≤ 200038 by rw [hm_]; have := HBm9.out; skip; omega)
          have Em11 := hideP hL_
          clear hm_ hL_
          obtain ⟨x0, x1, x2, x3, x4⟩ := KC.out w11 S11.out
          have hl0 := hideP (fun W (h : Below B v0 W) => show Arr W W.heap.size pk.lA n0 (i64s k.lo) by rw [D0.out]; exact (HME.out.lo.below (AW.out W h)).more (AW.out W h).size)
          have hl1 := hideP (fun W (h : Below B v0 W) => show Arr W W.heap.size pk.hA n1 (i64s k.hi) by rw [D1.out]; exact (HME.out.hi.below (AW.out W h)).more (AW.out W h).size)
          have hl4 := hideP (fun W (h : Below B v0 W) => show Arr W W.heap.size pk.kA n4 (i64s k.key) by rw [D4.out]; exact (HME.out.key.below (AW.out W h)).more (AW.out W h).size)
          have hn0 := hideP (show n0 ≤ 255 by have := D0.out; have := H8.out.1.2.2.1; omega)
          have hn1 := hideP (show n1 ≤ 255 by have := D1.out; have := H8.out.1.2.2.2; omega)
          have hn4 := hideP (show n4 ≤ 255 by have := D4.out; have := H8.out.2; omega)
          go_upto_region 16 with (first
            | (at_builtin; refine wpList_appN rfl (.tmp 72) (.tmp 76) rfl B A11 c11 m11 L11 Hm11.out rfl O12.out w12.heap.size (T12) ((rowB k.lo).length) t12 (rowB k.lo) (rfl) rfl (XO12.out) (by have := HBm11.out; have := r0.out; omega) (Nat.le_trans hB0.out (Q12.out.size)) ?_; intro A13 c13 w13 o_ b_ n_; have O13 := hideP o_; have Q13 := hideP (Q12.out.trans (but_belowA O12.out (Nat.le_trans hB0.out (Q12.out.size)) b_)); have S13 := hideP (row_but2 b_ S12.out N11.out); have N13 := hideP (not_at n_ N11.out (Row.lt S12.out)); clear o_ b_ n_)
            | (go_at_call 100; refine (rwrow_any pk.lA k.lo n0 pk.lc w11 D0.out (hl0.out w11 Q11.out) HOK.out.lI hn0.out).mono ?_; rintro e1 w12 ⟨T12, t12, rfl, o_, b_⟩; have XO12 := hideP o_.arr; have O12 := hideP (O11.out.after b_); have Q12 := hideP (Q11.out.trans (b_.mono (Nat.le_trans hB0.out Q11.out.size))); have S12 := hideP (Row.after S11.out b_); clear o_ b_)
            | fail)
          clear x0 x1 x2 x3 x4
          obtain ⟨m13, hm_⟩ : ∃ m_, m_ = m11 + (rowB k.lo).length := ⟨_, rfl⟩
          rw [← hm_]
          obtain ⟨L13, hL_⟩ : ∃ L_, L_ = L11 ++ rowB k.lo := ⟨_, rfl⟩
          rw [← hL_] at O13
          have Hm13 := hideP (show m13 = (L13).length by rw [hm_, hL_, List.length_append, ← Hm11.out])
          have HBm13 := hideP (show m13 ≤ 200103 by rw [hm_]; have := HBm11.out; have := r0.out; omega)
          have Em13 := hideP hL_
          clear hm_ hL_
          obtain ⟨x0, x1, x2, x3, x4⟩ := KC.out w13 S13.out
          go_upto_region 17 with (first
            | (at_builtin; refine wpList_appN rfl (.tmp 78) (.tmp 82) rfl B A13 c13 m13 L13 Hm13.out rfl O14.out w14.heap.size (T14) ((rowB k.hi).length) t14 (rowB k.hi) (rfl) rfl (XO14.out) (by have := HBm13.out; have := r1.out; omega) (Nat.le_trans hB0.out (Q14.out.size)) ?_; intro A15 c15 w15 o_ b_ n_; have O15 := hideP o_; have Q15 := hideP (Q14.out.trans (but_belowA O14.out (Nat.le_trans hB0.out (Q14.out.size)) b_)); have S15 := hideP (row_but2 b_ S14.out N13.out); have N15 := hideP (not_at n_ N13.out (Row.lt S14.out)); clear o_ b_ n_)
            | (go_at_call 100; refine (rwrow_any pk.hA k.hi n1 pk.hc w13 D1.out (hl1.out w13 Q13.out) HOK.out.hI hn1.out).mono ?_; rintro e1 w14 ⟨T14, t14, rfl, o_, b_⟩; have XO14 := hideP o_.arr; have O14 := hideP (O13.out.after b_); have Q14 := hideP (Q13.out.trans (b_.mono (Nat.le_trans hB0.out Q13.out.size))); have S14 := hideP (Row.after S13.out b_); clear o_ b_)
            | fail)
          clear x0 x1 x2 x3 x4
          obtain ⟨m15, hm_⟩ : ∃ m_, m_ = m13 + (rowB k.hi).length := ⟨_, rfl⟩
          rw [← hm_]
          obtain ⟨L15, hL_⟩ : ∃ L_, L_ = L13 ++ rowB k.hi := ⟨_, rfl⟩
          rw [← hL_] at O15
          have Hm15 := hideP (show m15 = (L15).length by rw [hm_, hL_, List.length_append, ← Hm13.out])
          have HBm15 := hideP (show m15 ≤ 200168 by rw [hm_]; have := HBm13.out; have := r1.out; omega)
          have Em15 := hideP hL_
          clear hm_ hL_
          obtain ⟨x0, x1, x2, x3, x4⟩ := KC.out w15 S15.out
          go_upto_region 10 with (first
            | (at_builtin; refine wpList_appN rfl (.tmp 84) (.tmp 87) rfl B A15 c15 m15 L15 Hm15.out rfl O16.out w16.heap.size (T16) ((rowB k.key).length) t16 (rowB k.key) (rfl) rfl (XO16.out) (by have := HBm15.out; have := r4.out; omega) (Nat.le_trans hB0.out (Q16.out.size)) ?_; intro A17 c17 w17 o_ b_ n_; have O17 := hideP o_; have Q17 := hideP (Q16.out.trans (but_belowA O16.out (Nat.le_trans hB0.out (Q16.out.size)) b_)); have S17 := hideP (row_but2 b_ S16.out N15.out); have N17 := hideP (not_at n_ N15.out (Row.lt S16.out)); clear o_ b_ n_)
            | (go_at_call 100; refine (rwrow_any pk.kA k.key n4 pk.kc w15 D4.out (hl4.out w15 Q15.out) HOK.out.kI hn4.out).mono ?_; rintro e1 w16 ⟨T16, t16, rfl, o_, b_⟩; have XO16 := hideP o_.arr; have O16 := hideP (O15.out.after b_); have Q16 := hideP (Q15.out.trans (b_.mono (Nat.le_trans hB0.out Q15.out.size))); have S16 := hideP (Row.after S15.out b_); clear o_ b_)
            | fail)
          clear x0 x1 x2 x3 x4
          obtain ⟨m17, hm_⟩ : ∃ m_, m_ = m15 + (rowB k.key).length := ⟨_, rfl⟩
          rw [← hm_]
          obtain ⟨L17, hL_⟩ : ∃ L_, L_ = L15 ++ rowB k.key := ⟨_, rfl⟩
          rw [← hL_] at O17
          have Hm17 := hideP (show m17 = (L17).length by rw [hm_, hL_, List.length_append, ← Hm15.out])
          have HBm17 := hideP (show m17 ≤ 200233 by rw [hm_]; have := HBm15.out; have := r4.out; omega)
          have Em17 := hideP hL_
          clear hm_ hL_
          have HS2 := hideP (show L17 = La ++ ((n.kids.take (j + 1)).map kidB).flatten by rw [Em17.out, Em15.out, Em13.out, Em11.out, Em9.out, Em7.out, HST.out])
          go_wp2_with fail
          go_roundw
          case rel => exact ⟨j + 1, A17, m17, c17, by omega, by go_num, rfl, by rw [← HS2.out]; exact O17.out, by rw [← HS2.out]; exact Hm17.out, Q17.out⟩
          case measure => (try rw [m3]); simp [intOf]; omega
        · obtain rfl : j = nk := by omega
          have i1 : ¬ ((j : Int) < (j : Int)) := by omega
          have O5 := hideP (show OwnB wr B R c RS by have := hV.out.1; rwa [F2.out, List.take_length, ← hend2.out] at this)
          have H5 := hideP (show m = RS.length by have := hV.out.2.1; rwa [F2.out, List.take_length, ← hend2.out] at this)
          clear hV hend2
          obtain ⟨c0, c1, c2⟩ := nrow3 Tr.out
          go_wp2_with fail
          go_ret
          exact ⟨R, c, by rw [← H5.out]; rfl, OwnB.monoR O5.out hwB.out, AW.out wr Q0.out⟩
end Go.Proofs.Ytgcbodpjidoanaa
