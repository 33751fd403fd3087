/- Contract of the reference's Right of nodes. -/
import Derived.Test.YtgcbodpjidoanaaQ28
set_option linter.unusedVariables false
set_option linter.unusedSimpArgs false
namespace Go.Proofs.Ytgcbodpjidoanaa
open Go.RowKit
theorem wrap_succ {i n : Nat} (h : i < n) (hn : n ≤ 1000000) : wrap64 ((i : Int) + 1) = (i : Int) + 1 := IntWalk.wrap64_in _ (by omega)
theorem take_all_succ {α : Type} [Inhabited α] (l : List α) (f : α → Bool) (i : Nat) (hi : i < l.length) : (l.take (i + 1)).all f = ((l.take i).all f && f (l.getD i default)) := by
  rw [List.take_add_one, List.all_append, List.getElem?_eq_getElem hi]
  simp [List.getD, List.getElem?_eq_getElem hi]
theorem all_false_at {α : Type} [Inhabited α] (l : List α) (f : α → Bool) (i : Nat) (hi : i < l.length) (h : f (l.getD i default) = false) : l.all f = false := by
  rw [List.all_eq_false]
  refine ⟨l.getD i default, ?_, fun e => by rw [h] at e; cases e⟩
  simp only [List.getD, List.getElem?_eq_getElem hi, Option.getD_some]
  exact List.getElem_mem hi
theorem take_all_len {α : Type} (l : List α) (f : α → Bool) {n : Nat} (h : n = l.length) : (l.take n).all f = l.all f := by rw [h, List.take_length]
set_option maxRecDepth 100000 in
set_option maxHeartbeats 8000000 in
theorem rnright_any (n : NodeD) (p : NodeP) (d : Int) (w : World) (hn : NodeOk n) (hm : NodeMem w w.heap.size n p) :
    Calls Try.prog 27 #[.agg (nodeC n p).toArray, .int .i64 d] w fun e w' => e = .returned (.bool (nodeR n d)) ∧ Below w.heap.size w w' := by
  have hKR := hideP (fun i W (hi : i < n.kids.length) (hW : Below w.heap.size w W) => rnkidright_any (n.kids.getD i default) (p.kp i) d W (hn.kid i hi) ((hm.after hW).kid i hi))
  have hKE := hideP (fun i W (hi : i < n.kids.length) (hW : Below w.heap.size w W) => rnempty_any (n.kids.getD i default) (p.kp i) W (hn.kid i hi) ((hm.after hW).kid i hi))
  have hM := hideP hm
  have hN := hideP hn
  obtain ⟨nr, f1⟩ : ∃ b, b = n.rows.length := ⟨_, rfl⟩
  obtain ⟨nk, f2⟩ : ∃ b, b = n.kids.length := ⟨_, rfl⟩
  obtain ⟨kd, f3⟩ : ∃ b, b = n.kind := ⟨_, rfl⟩
  obtain ⟨RS, f4⟩ : ∃ b, b = nodeR n d := ⟨_, rfl⟩
  have F1 := hideP f1; have F2 := hideP f2; have F4 := hideP f4
  have hRm := hideP (fun b1 b2 b3 b4 b5 (e1 : b1 = n.rows.all (fun e => decide ((e.row.length : Int) = d))) (e2 : b2 = n.kids.all (fun k => kidR k d)) (e3 : b3 = n.kids.all (fun k => decide (k.key.length = 0))) (e4 : b4 = n.rows.all (fun e => e.live)) (e5 : b5 = n.kids.all (fun k => decide ((k.key.length : Int) = d) && !decide (k = kidZ))) =>
    show RS = (decide (1 ≤ d) && (decide (d ≤ 8) && (b1 && (b2 && (if kd = 1 then decide (nr = 1) && (decide (nk = 2) && b3) else if kd = 2 then decide (1 ≤ nr) && (decide (nr ≤ 4) && (decide (nk = 0) && b4)) else decide (kd = 3) && (decide (nr = 0) && (decide (2 ≤ nk) && (decide (nk ≤ 4) && b5)))))))) by rw [f4, e1, e2, e3, e4, e5, f1, f2, f3]; rfl)
  rw [← f4]
  unfold nodeC
  rw [← f1, ← f2, ← f3]
  have hkd := hideP (show kd < 256 by rw [f3]; exact hn.kind)
  clear f1 f2 f3 f4 hn hm
  obtain ⟨v, hv⟩ : ∃ v, v = w.alloc (.cells #[.int .u8 (kd : Nat), .slice p.rA nr p.rc, .slice p.kA nk p.kc] 27) := ⟨_, rfl⟩
  obtain ⟨g, hg⟩ : ∃ g, g = w.heap.size := ⟨_, rfl⟩
  have T0 := hideP (show Row v g 27 [.int .u8 (kd : Nat), .slice p.rA nr p.rc, .slice p.kA nk p.kc] by rw [hv, hg]; exact Row.new w _ _)
  have B0 := hideP (show Below w.heap.size w v by rw [hv]; exact below_new _ _)
  have Hv := hideP hv
  clear hv
  obtain ⟨rA, hrA⟩ : ∃ a, a = p.rA := ⟨_, rfl⟩
  obtain ⟨kA, hkA⟩ : ∃ a, a = p.kA := ⟨_, rfl⟩
  have HrA := hideP hrA; have HkA := hideP hkA
  rw [← hrA, ← hkA] at T0 Hv ⊢
  clear hrA hkA
  go_enter Try.func27, Try.ntmps27
  go_upto_region 1 with fail
  rw [← Hv.out, ← hg]
  clear hg Hv
  by_cases q1 : 1 ≤ d
  case neg =>
    have i1 : decide (d < 1) = true := by simp; omega
    have hr := hideP (show RS = false by rw [hRm.out _ _ _ _ _ rfl rfl rfl rfl rfl]; simp [q1])
    clear q1
    go_wp2_with fail
    go_ret
    exact ⟨by rw [hr.out]; rfl, B0.out⟩
  have i1 : decide (d < 1) = false := by simp; omega
  by_cases q2 : d ≤ 8
  case neg =>
    have i2 : decide (8 < d) = true := by simp; omega
    have hr := hideP (show RS = false by rw [hRm.out _ _ _ _ _ rfl rfl rfl rfl rfl]; simp [q2])
    clear q1 q2
    go_wp2_with fail
    go_ret
    exact ⟨by rw [hr.out]; rfl, B0.out⟩
  have i2 : decide (8 < d) = false := by simp; omega
  have hR2 := hideP (fun b1 b2 b3 b4 b5 e1 e2 e3 e4 e5 => show RS = (b1 && (b2 && (if kd = 1 then decide (nr = 1) && (decide (nk = 2) && b3) else if kd = 2 then decide (1 ≤ nr) && (decide (nr ≤ 4) && (decide (nk = 0) && b4)) else decide (kd = 3) && (decide (nr = 0) && (decide (2 ≤ nk) && (decide (nk ≤ 4) && b5)))))) by rw [hRm.out b1 b2 b3 b4 b5 e1 e2 e3 e4 e5]; simp [q1, q2])
  clear q1 q2 hRm
  go_upto_region 4 with fail
  clear i1 i2
  go_wp2_with fail
  go_loopw [8, 5] (fun v8 v5 wr => ∃ (i : Nat) (q5 : Bool), i ≤ nr ∧ v8 = .int .i64 (i : Nat) ∧ v5 = .bool q5 ∧ Hid (q5 = (n.rows.take i).all (fun e => e.live) ∧ (n.rows.take i).all (fun e => decide ((e.row.length : Int) = d)) = true ∧ v = wr)) (fun v8 _ _ => nr - (intOf v8).toNat)
  case atStart => exact ⟨0, true, Nat.zero_le _, rfl, rfl, rfl, rfl, rfl⟩
  case round =>
    obtain ⟨i, q5, hi, rfl, rfl, hV⟩ := hrel
    obtain ⟨hq5, hal, rfl⟩ := hV.out
    have Hq5 := hideP hq5; have Hal := hideP hal
    clear hV hq5 hal
    obtain ⟨c0, c1, c2⟩ := nrow3 T0.out
    by_cases hlt : i < nr
    · have i1 : (i : Int) < (nr : Int) := by omega
      have m2 : wrap64 ((i : Int) + 1) = (i : Int) + 1 := wrap_succ hlt (by rw [F1.out]; exact hN.out.rows)
      have hil : i < n.rows.length := by have := F1.out; omega
      obtain ⟨b0, off, hA, hB0, hc⟩ := hM.out.rows (by omega)
      rw [← HrA.out] at hA
      subst hA
      have h1 := take_all_succ n.rows (fun e => e.live) i hil
      have h2 := take_all_succ n.rows (fun e => decide ((e.row.length : Int) = d)) i hil
      have h3 := fun h => all_false_at n.rows (fun e => decide ((e.row.length : Int) = d)) i hil h
      have hce := hc i hil
      dsimp only at hce
      obtain ⟨e, he⟩ : ∃ e, e = n.rows.getD i default := ⟨_, rfl⟩
      obtain ⟨⟨A1, cA⟩, hp⟩ : ∃ e, e = p.rp i := ⟨_, rfl⟩
      rw [← he] at h1 h2 h3 hce
      rw [← hp] at hce
      have k0 : v.cell? ⟨b0, off + i * 2, none⟩ = some (.slice A1 e.row.length cA) := (B0.out.cell (p := ⟨b0, off + i * 2, none⟩) hB0).trans (hce 0 _ rfl)
      have k1 : v.cell? ⟨b0, off + i * 2 + 1, none⟩ = some (.bool e.live) := (B0.out.cell (p := ⟨b0, off + i * 2 + 1, none⟩) hB0).trans (hce 1 _ rfl)
      obtain ⟨m, hm⟩ : ∃ m, m = e.row.length := ⟨_, rfl⟩
      obtain ⟨lv, hlv⟩ : ∃ m, m = e.live := ⟨_, rfl⟩
      rw [← hm] at h2 h3 k0
      rw [← hlv] at h1 k1
      rw [← Hq5.out] at h1
      rw [Hal.out, Bool.true_and] at h2
      have H1 := hideP h1; have H2 := hideP h2; have H3 := hideP h3
      clear he hp hm hlv h1 h2 h3 hc hce hil
      by_cases hmd : (m : Int) = d
      · have e1 : ((m : Int) != d) = false := by simp [hmd]
        have H4 := hideP (H2.out.trans (decide_eq_true hmd))
        clear hmd
        rcases q5 with _ | _
        · go_wp2_with fail
          go_roundw
          case rel => exact ⟨i + 1, false, by omega, by go_num, rfl, H1.out.symm, H4.out, by first | rfl | trivial⟩
          case measure => rw [m2]; simp [intOf]; omega
        · go_wp2_with fail
          go_roundw
          case rel => exact ⟨i + 1, lv, by omega, by go_num, rfl, by rw [H1.out]; rfl, H4.out, by first | rfl | trivial⟩
          case measure => rw [m2]; simp [intOf]; omega
      · have e1 : ((m : Int) != d) = true := by simp [hmd]
        have hr := hideP (show RS = false by rw [hR2.out _ _ _ _ _ rfl rfl rfl rfl rfl, H3.out (decide_eq_false hmd)]; rfl)
        clear hmd
        go_wp2_with fail
        go_ret
        exact ⟨by rw [hr.out]; rfl, B0.out⟩
    · obtain rfl : i = nr := by omega
      have i1 : ¬ ((i : Int) < (i : Int)) := by omega
      have Hb1 := hideP (Hal.out.symm.trans (take_all_len n.rows (fun e => decide ((e.row.length : Int) = d)) F1.out))
      have Hb4 := hideP (Hq5.out.trans (take_all_len n.rows (fun e => e.live) F1.out))
      clear Hq5 Hal
      go_upto_region 11 with fail
      clear c0 c1 c2 i1
      go_loopw [9, 6, 7] (fun v9 v6 v7 wr => ∃ (j : Nat) (q6 q7 : Bool), j ≤ nk ∧ v9 = .int .i64 (j : Nat) ∧ v6 = .bool q6 ∧ v7 = .bool q7 ∧ Hid (q6 = (n.kids.take j).all (fun k => decide ((k.key.length : Int) = d) && !decide (k = kidZ)) ∧ q7 = (n.kids.take j).all (fun k => decide (k.key.length = 0)) ∧ (n.kids.take j).all (fun k => kidR k d) = true ∧ Below w.heap.size w wr ∧ Row wr g 27 [.int .u8 (kd : Nat), .slice rA i p.rc, .slice kA nk p.kc])) (fun v9 _ _ _ => nk - (intOf v9).toNat)
      case atStart => exact ⟨0, true, true, Nat.zero_le _, rfl, rfl, rfl, rfl, rfl, rfl, B0.out, T0.out⟩
      case round =>
        obtain ⟨j, q6, q7, hj, rfl, rfl, rfl, hV⟩ := hrel
        have B1 := hideP hV.out.2.2.2.1
        have T1 := hideP hV.out.2.2.2.2
        obtain ⟨c0, c1, c2⟩ := nrow3 T1.out
        by_cases hlt : j < nk
        · have i1 : (j : Int) < (nk : Int) := by omega
          have m2 : wrap64 ((j : Int) + 1) = (j : Int) + 1 := wrap_succ hlt (by rw [F2.out]; exact hN.out.kids)
          have hjl : j < n.kids.length := by have := F2.out; omega
          obtain ⟨b0, off, hA, hB0, hc⟩ := hM.out.kids (by omega)
          rw [← HkA.out] at hA
          subst hA
          have h1 := take_all_succ n.kids (fun k => decide ((k.key.length : Int) = d) && !decide (k = kidZ)) j hjl
          have h2 := take_all_succ n.kids (fun k => decide (k.key.length = 0)) j hjl
          have h3 := take_all_succ n.kids (fun k => kidR k d) j hjl
          have h4 := fun h => all_false_at n.kids (fun k => kidR k d) j hjl h
          rw [← hV.out.1] at h1
          rw [← hV.out.2.1] at h2
          rw [hV.out.2.2.1, Bool.true_and] at h3
          clear hV
          have hkr := fun W hW => hKR.out j W hjl hW
          have hke := fun W hW => hKE.out j W hjl hW
          have hok := hN.out.kid j hjl
          have hrg := fun W (hW : Below w.heap.size w W) => show W.rangeAt b0 (off + j * 37) (kidC (n.kids.getD j default) (p.kp j)) from fun x y hxy => (hW.cell (p := ⟨b0, off + j * 37 + x, none⟩) hB0).trans (hc j hjl x y hxy)
          obtain ⟨k, hk⟩ : ∃ e, e = n.kids.getD j default := ⟨_, rfl⟩
          obtain ⟨pk, hpk⟩ : ∃ e, e = p.kp j := ⟨_, rfl⟩
          rw [← hk] at h1 h2 h3 h4 hkr hke hok hrg
          rw [← hpk] at hkr hke hrg
          have hky := fun W (hW : Below w.heap.size w W) => show W.cell? ⟨b0, off + j * 37 + 36, none⟩ = some (.slice pk.kA k.key.length pk.kc) from kid_at hok (hrg W hW) 4 rfl
          have hs := hideP (size_k37 (hok.cells pk))
          obtain ⟨R, e1⟩ : ∃ x, x = kidR k d := ⟨_, rfl⟩
          obtain ⟨E, e2⟩ : ∃ x, x = decide (k = kidZ) := ⟨_, rfl⟩
          obtain ⟨C, e3⟩ : ∃ x, x = kidC k pk := ⟨_, rfl⟩
          obtain ⟨m, e4⟩ : ∃ x, x = k.key.length := ⟨_, rfl⟩
          rw [← e1] at h3 h4 hkr
          rw [← e2] at h1 hke
          rw [← e3] at hkr hke hrg hs
          rw [← e4] at h1 h2 hky
          have g1 : decide ((m : Int) = d) = ((m : Int) == d) := by rw [Bool.eq_iff_iff]; simp
          have g2 : decide (m = 0) = ((m : Int) == 0) := by rw [Bool.eq_iff_iff]; simp
          rw [g1] at h1
          rw [g2] at h2
          obtain ⟨le, e5⟩ : ∃ x, x = ((m : Int) == d) := ⟨_, rfl⟩
          obtain ⟨lz, e6⟩ : ∃ x, x = ((m : Int) == 0) := ⟨_, rfl⟩
          rw [← e5] at h1
          rw [← e6] at h2
          have G1 := hideP e5.symm; have G2 := hideP e6.symm
          have H1 := hideP h1; have H2 := hideP h2; have H3 := hideP h3; have H4 := hideP h4
          have hkr := hideP hkr; have hke := hideP hke; have hrg := hideP hrg; have hky := hideP hky
          clear e1 e2 e3 e4 e5 e6 h1 h2 h3 h4 hk hpk hc hok hjl g1 g2
          rcases R with _ | _
          · have hr := hideP (show RS = false by rw [hR2.out true _ _ _ _ Hb1.out rfl rfl rfl rfl, H4.out rfl]; rfl)
            go_wp2_with (first
              | (refine wpList_load_mid rfl 43 (.tmp 51) rfl b0 (off + j * 37) rfl C _ (hrg.out wr B1.out) Try.underlying43 rfl hs.out ?_)
              | (go_at_call 21; refine (hkr.out wr B1.out).mono ?_; rintro e w2 ⟨rfl, b_⟩; have B2 := hideP (bstep B1.out b_); clear b_))
            go_ret
            exact ⟨by rw [hr.out]; rfl, B2.out⟩
          go_upto_region 15 with (first
            | (refine wpList_load_mid rfl 43 (.tmp 51) rfl b0 (off + j * 37) rfl C _ (hrg.out wr B1.out) Try.underlying43 rfl hs.out ?_)
            | (go_at_call 21; refine (hkr.out wr B1.out).mono ?_; rintro e w2 ⟨rfl, b_⟩; have B2 := hideP (bstep B1.out b_); have T2 := hideP (Row.after T1.out b_); clear b_))
          clear c0 c1 c2
          obtain ⟨c0, c1, c2⟩ := nrow3 T2.out
          have ck := hky.out w2 B2.out
          have gg1 := G1.out
          have gg2 := G2.out
          rcases q6 with _ | _
          · rcases q7 with _ | _
            · go_wp2_with fail
              go_roundw
              case rel => exact ⟨j + 1, false, false, by omega, by go_num, rfl, rfl, H1.out.symm, H2.out.symm, H3.out, B2.out, T2.out⟩
              case measure => rw [m2]; simp [intOf]; omega
            · go_wp2_with fail
              go_roundw
              case rel => exact ⟨j + 1, false, lz, by omega, by go_num, rfl, rfl, H1.out.symm, by rw [H2.out]; rfl, H3.out, B2.out, T2.out⟩
              case measure => rw [m2]; simp [intOf]; omega
          · rcases le with _ | _
            · rcases q7 with _ | _
              · go_wp2_with fail
                go_roundw
                case rel => exact ⟨j + 1, false, false, by omega, by go_num, rfl, rfl, H1.out.symm, H2.out.symm, H3.out, B2.out, T2.out⟩
                case measure => rw [m2]; simp [intOf]; omega
              · go_wp2_with fail
                go_roundw
                case rel => exact ⟨j + 1, false, lz, by omega, by go_num, rfl, rfl, H1.out.symm, by rw [H2.out]; rfl, H3.out, B2.out, T2.out⟩
                case measure => rw [m2]; simp [intOf]; omega
            · go_upto_region 16 with (first
                | (refine wpList_loadG rfl 43 (.tmp 72) rfl b0 (off + j * 37) rfl C _ (hrg.out w2 B2.out) Try.underlying43 rfl hs.out ?_)
                | (go_at_call 25; refine (hke.out w2 B2.out).mono ?_; rintro e w3 ⟨rfl, b_⟩; have B3 := hideP (bstep B2.out b_); have T3 := hideP (Row.after T2.out b_); clear b_))
              clear c0 c1 c2 ck
              obtain ⟨c0, c1, c2⟩ := nrow3 T3.out
              have ck := hky.out w3 B3.out
              rcases q7 with _ | _
              · go_wp2_with fail
                go_roundw
                case rel => exact ⟨j + 1, !E, false, by omega, by go_num, rfl, rfl, by rw [H1.out]; rfl, H2.out.symm, H3.out, B3.out, T3.out⟩
                case measure => rw [m2]; simp [intOf]; omega
              · go_wp2_with fail
                go_roundw
                case rel => exact ⟨j + 1, !E, lz, by omega, by go_num, rfl, rfl, by rw [H1.out]; rfl, by rw [H2.out]; rfl, H3.out, B3.out, T3.out⟩
                case measure => rw [m2]; simp [intOf]; omega
        · obtain rfl : j = nk := by omega
          have i1 : ¬ ((j : Int) < (j : Int)) := by omega
          have Hb5 := hV.out.1.trans (take_all_len n.kids (fun k => decide ((k.key.length : Int) = d) && !decide (k = kidZ)) F2.out)
          have Hb3 := hV.out.2.1.trans (take_all_len n.kids (fun k => decide (k.key.length = 0)) F2.out)
          have Hb2 := hV.out.2.2.1.symm.trans (take_all_len n.kids (fun k => kidR k d) F2.out)
          have hR3 := hideP (show RS = (if kd = 1 then decide (i = 1) && (decide (j = 2) && q7) else if kd = 2 then decide (1 ≤ i) && (decide (i ≤ 4) && (decide (j = 0) && q5)) else decide (kd = 3) && (decide (i = 0) && (decide (2 ≤ j) && (decide (j ≤ 4) && q6)))) by rw [hR2.out true true q7 q5 q6 Hb1.out Hb2 Hb3 Hb4.out Hb5]; rfl)
          clear hV Hb5 Hb3 Hb2 Hb1 Hb4 hR2 hj hlt
          have hB := B1.out
          clear B1 T1 B0 T0
          go_upto_region 17 with fail
          clear i1
          by_cases k1 : kd = 1
          · have hr := hideP (show RS = (decide (i = 1) && (decide (j = 2) && q7)) by rw [hR3.out]; simp [k1])
            clear hR3 hkd
            subst k1
            by_cases r1 : i = 1
            · have j1 : ((i : Int) == 1) = true := by simp [r1]
              by_cases r2 : j = 2
              · have j2 : ((j : Int) == 2) = true := by simp [r2]
                have hr2 := hideP (show RS = q7 by rw [hr.out]; simp [r1, r2])
                clear r1 r2 hr
                go_wp2_with fail
                go_ret
                exact ⟨by rw [hr2.out]; rfl, hB⟩
              · have j2 : ((j : Int) == 2) = false := by simp; omega
                have hr2 := hideP (show RS = false by rw [hr.out]; simp [r2])
                clear r1 r2 hr
                go_wp2_with fail
                go_ret
                exact ⟨by rw [hr2.out]; rfl, hB⟩
            · have j1 : ((i : Int) == 1) = false := by simp; omega
              have hr2 := hideP (show RS = false by rw [hr.out]; simp [r1])
              clear r1 hr
              go_wp2_with fail
              go_ret
              exact ⟨by rw [hr2.out]; rfl, hB⟩
          have u1 : ((kd : Int) == 1) = false := by simp; omega
          by_cases k2 : kd = 2
          · have hr := hideP (show RS = (decide (1 ≤ i) && (decide (i ≤ 4) && (decide (j = 0) && q5))) by rw [hR3.out]; simp [k2])
            clear hR3 hkd k1 u1
            subst k2
            by_cases r1 : 1 ≤ i
            · have j1 : decide ((0 : Int) < (i : Int)) = true := by simp; omega
              have j1' : (0 : Int) < (i : Int) := by omega
              have j1'' : 0 < i := by omega
              by_cases r2 : i ≤ 4
              · have j2 : decide ((i : Int) < 5) = true := by simp; omega
                have j2' : (i : Int) < 5 := by omega
                by_cases r3 : j = 0
                · have j3 : ((j : Int) == 0) = true := by simp [r3]
                  have hr2 := hideP (show RS = q5 by rw [hr.out]; simp [r1, r2, r3])
                  clear r1 r2 r3 hr
                  go_wp2_with fail
                  go_ret
                  exact ⟨by rw [hr2.out]; rfl, hB⟩
                · have j3 : ((j : Int) == 0) = false := by simp; omega
                  have hr2 := hideP (show RS = false by rw [hr.out]; simp [r3])
                  clear r1 r2 r3 hr
                  go_wp2_with fail
                  go_ret
                  exact ⟨by rw [hr2.out]; rfl, hB⟩
              · have j2 : decide ((i : Int) < 5) = false := by simp; omega
                have j2' : ¬ (i : Int) < 5 := by omega
                have hr2 := hideP (show RS = false by rw [hr.out]; simp [r2])
                clear r1 r2 hr
                go_wp2_with fail
                go_ret
                exact ⟨by rw [hr2.out]; rfl, hB⟩
            · have j1 : decide ((0 : Int) < (i : Int)) = false := by simp; omega
              have j1' : ¬ (0 : Int) < (i : Int) := by omega
              have j1'' : ¬ 0 < i := by omega
              have hr2 := hideP (show RS = false by rw [hr.out]; simp [r1])
              clear r1 hr
              go_wp2_with fail
              go_ret
              exact ⟨by rw [hr2.out]; rfl, hB⟩
          have u2 : ((kd : Int) == 2) = false := by simp; omega
          by_cases k3 : kd = 3
          · have hr := hideP (show RS = (decide (i = 0) && (decide (2 ≤ j) && (decide (j ≤ 4) && q6))) by rw [hR3.out]; simp [k3])
            clear hR3 hkd k1 u1 k2 u2
            subst k3
            by_cases r1 : i = 0
            · have j1 : ((i : Int) == 0) = true := by simp [r1]
              by_cases r2 : 2 ≤ j
              · have j2 : decide ((1 : Int) < (j : Int)) = true := by simp; omega
                have j2' : (1 : Int) < (j : Int) := by omega
                have j2'' : 1 < j := by omega
                by_cases r3 : j ≤ 4
                · have j3 : decide ((j : Int) < 5) = true := by simp; omega
                  have j3' : (j : Int) < 5 := by omega
                  have hr2 := hideP (show RS = q6 by rw [hr.out]; simp [r1, r2, r3])
                  clear r1 r2 r3 hr
                  go_wp2_with fail
                  go_ret
                  exact ⟨by rw [hr2.out]; rfl, hB⟩
                · have j3 : decide ((j : Int) < 5) = false := by simp; omega
                  have j3' : ¬ (j : Int) < 5 := by omega
                  have hr2 := hideP (show RS = false by rw [hr.out]; simp [r3])
                  clear r1 r2 r3 hr
                  go_wp2_with fail
                  go_ret
                  exact ⟨by rw [hr2.out]; rfl, hB⟩
              · have j2 : decide ((1 : Int) < (j : Int)) = false := by simp; omega
                have j2' : ¬ (1 : Int) < (j : Int) := by omega
                have j2'' : ¬ 1 < j := by omega
                have hr2 := hideP (show RS = false by rw [hr.out]; simp [r2])
                clear r1 r2 hr
                go_wp2_with fail
                go_ret
                exact ⟨by rw [hr2.out]; rfl, hB⟩
            · have j1 : ((i : Int) == 0) = false := by simp; omega
              have hr2 := hideP (show RS = false by rw [hr.out]; simp [r1])
              clear r1 hr
              go_wp2_with fail
              go_ret
              exact ⟨by rw [hr2.out]; rfl, hB⟩
          have u3 : ((kd : Int) == 3) = false := by simp; omega
          have hr := hideP (show RS = false by rw [hR3.out]; simp [k1, k2, k3])
          clear k1 k2 k3 hR3 hkd
          go_wp2_with fail
          go_ret
          exact ⟨by rw [hr.out]; rfl, hB⟩
end Go.Proofs.Ytgcbodpjidoanaa
