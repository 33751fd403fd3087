/- Contract of indenturelaw10's great. -/
import Derived.Test.YtgcbodpjidoanaaQ28
import Derived.Test.YtgcbodpjidoanaaQ29
import Derived.Test.YtgcbodpjidoanaaQ47
set_option linter.unusedVariables false
set_option linter.unusedSimpArgs false
namespace Go.Proofs.Ytgcbodpjidoanaa
open Go.RowKit
theorem NodeIn.ok {n : NodeD} (h : NodeIn n) (h1 : n.rows.length ≤ 50) (h2 : n.kids.length ≤ 50) (h3 : ∀ i, i < n.rows.length → (n.rows.getD i default).row.length ≤ 50)
    (h4 : ∀ i, i < n.kids.length → (n.kids.getD i default).lo.length ≤ 50 ∧ (n.kids.getD i default).hi.length ≤ 50 ∧ (n.kids.getD i default).key.length ≤ 50) : NodeOk n :=
  ⟨h.kind, fun i hi => ⟨h.row i hi, Nat.le_trans (h3 i hi) (by decide)⟩, fun i hi => (h.kid i hi).ok (Nat.le_trans (h4 i hi).1 (by decide)) (Nat.le_trans (h4 i hi).2.1 (by decide)) (Nat.le_trans (h4 i hi).2.2 (by decide)), Nat.le_trans h1 (by decide), Nat.le_trans h2 (by decide)⟩
/-- no part is great -/
def Small (n : NodeD) : Prop := n.rows.length ≤ 50 ∧ n.kids.length ≤ 50 ∧ (∀ i, i < n.rows.length → (n.rows.getD i default).row.length ≤ 50) ∧ ∀ i, i < n.kids.length → (n.kids.getD i default).lo.length ≤ 50 ∧ (n.kids.getD i default).hi.length ≤ 50 ∧ (n.kids.getD i default).key.length ≤ 50
/-- what great tells -/
def GreatGot (w : World) (n : NodeD) (e : Ending) (w' : World) : Prop := ∃ b, e = .returned (.bool b) ∧ Below w.heap.size w w' ∧ (b = false → Small n)
set_option maxRecDepth 100000 in
set_option maxHeartbeats 2000000 in
theorem great10_any (n : NodeD) (p : NodeP) (w : World) (hs : ∀ i, i < n.kids.length → (n.kids.getD i default).sum.length = 32) (hm : NodeMem w w.heap.size n p) :
    Calls Try.prog 19 #[.agg (nodeC n p).toArray] w (GreatGot w n) := by
  have hM := hideP hm
  have hS := hideP hs
  unfold nodeC
  obtain ⟨nr, f1⟩ : ∃ b, b = n.rows.length := ⟨_, rfl⟩
  obtain ⟨nk, f2⟩ : ∃ b, b = n.kids.length := ⟨_, rfl⟩
  obtain ⟨kd, f3⟩ : ∃ b, b = n.kind := ⟨_, rfl⟩
  obtain ⟨rA, f4⟩ : ∃ a, a = p.rA := ⟨_, rfl⟩
  obtain ⟨kA, f5⟩ : ∃ a, a = p.kA := ⟨_, rfl⟩
  rw [← f1, ← f2, ← f3, ← f4, ← f5]
  have F1 := hideP f1; have F2 := hideP f2; have F4 := hideP f4; have F5 := hideP f5
  clear f1 f2 f3 f4 f5 hm hs
  obtain ⟨v0, hv0⟩ : ∃ v, v = w.alloc (.cells #[.int .u8 (kd : Nat), .slice rA nr p.rc, .slice kA nk p.kc] 27) := ⟨_, rfl⟩
  obtain ⟨z, hz⟩ : ∃ g, g = w.heap.size := ⟨_, rfl⟩
  have Z := hideP (show Row v0 z 27 [.int .u8 (kd : Nat), .slice rA nr p.rc, .slice kA nk p.kc] by rw [hv0, hz]; exact Row.new w _ _)
  have B := hideP (show Below w.heap.size w v0 by rw [hv0]; exact below_new _ _)
  have Hv := hideP hv0
  clear hv0
  go_enter Try.func19, Try.ntmps19
  go_upto_region 1 with fail
  rw [← Hv.out, ← hz]
  clear hz Hv
  obtain ⟨c0, c1, c2⟩ := nrow3 Z.out
  by_cases g1 : 50 < nr
  · have i1 : (50 : Int) < (nr : Int) := by omega
    go_wp2_with fail
    go_ret
    exact ⟨true, rfl, B.out, fun h => by cases h⟩
  have i1 : ¬ (50 : Int) < (nr : Int) := by omega
  by_cases g2 : 50 < nk
  · have i2 : (50 : Int) < (nk : Int) := by omega
    go_wp2_with fail
    go_ret
    exact ⟨true, rfl, B.out, fun h => by cases h⟩
  have i2 : ¬ (50 : Int) < (nk : Int) := by omega
  go_wp2_with fail
  clear i1 i2
  go_loop [3] (fun v3 => ∃ i : Nat, i ≤ nr ∧ v3 = .int .i64 (i : Nat) ∧ Hid (∀ j, j < i → (n.rows.getD j default).row.length ≤ 50)) (fun v3 => nr - (intOf v3).toNat)
  case atStart => exact ⟨0, Nat.zero_le _, rfl, fun j hj => absurd hj (by omega)⟩
  case round =>
    obtain ⟨i, hi, rfl, hV⟩ := hrel
    by_cases hlt : i < nr
    · have i1 : (i : Int) < (nr : Int) := by omega
      have j0 : (0 : Int) ≤ (i : Int) := by omega
      have m4 : IntKind.i64.wrap ((i : Int) + 1) = (i : Int) + 1 := IntWalk.i64_in _ (by omega)
      have hil : i < n.rows.length := by have := F1.out; omega
      obtain ⟨b0, off, hA, hB0, hc⟩ := hM.out.rows (by omega)
      rw [← F4.out] at hA
      subst hA
      have hce := hc i hil
      dsimp only at hce
      unfold entC at hce
      have q0 := (B.out.cell (p := ⟨b0, off + i * 2 + 0, none⟩) hB0).trans (hce 0 _ rfl)
      simp only [Nat.add_zero] at q0
      obtain ⟨m, hm⟩ : ∃ m, m = (n.rows.getD i default).row.length := ⟨_, rfl⟩
      rw [← hm] at q0
      have Hm := hideP hm
      obtain ⟨A1, hA1⟩ : ∃ a, a = (p.rp i).1 := ⟨_, rfl⟩
      obtain ⟨cA, hcA⟩ : ∃ a, a = (p.rp i).2 := ⟨_, rfl⟩
      rw [← hA1, ← hcA] at q0
      clear hm hce hc hB0 hil hA1 hcA
      by_cases g3 : 50 < m
      · have i3 : (50 : Int) < (m : Int) := by omega
        go_wp2_with fail
        go_ret
        exact ⟨true, rfl, B.out, fun h => by cases h⟩
      · have i3 : ¬ (50 : Int) < (m : Int) := by omega
        go_wp2_with fail
        go_round
        case rel =>
          refine ⟨i + 1, by omega, by go_num, fun j hj => ?_⟩
          by_cases e : j = i
          · subst e; rw [← Hm.out]; omega
          · exact hV.out j (by omega)
        case measure => simp [intOf]; omega
    · obtain rfl : i = nr := by omega
      have i1 : ¬ ((i : Int) < (i : Int)) := by omega
      have HR := hideP hV.out
      clear hV
      go_wp2_with fail
      go_loop [4] (fun v4 => ∃ j : Nat, j ≤ nk ∧ v4 = .int .i64 (j : Nat) ∧ Hid (∀ i, i < j → (n.kids.getD i default).lo.length ≤ 50 ∧ (n.kids.getD i default).hi.length ≤ 50 ∧ (n.kids.getD i default).key.length ≤ 50)) (fun v4 => nk - (intOf v4).toNat)
      case atStart => exact ⟨0, Nat.zero_le _, rfl, fun j hj => absurd hj (by omega)⟩
      case round =>
        obtain ⟨j, hj, rfl, hV⟩ := hrel
        by_cases hlt : j < nk
        · have i1 : (j : Int) < (nk : Int) := by omega
          have j0 : (0 : Int) ≤ (j : Int) := by omega
          have m4 : IntKind.i64.wrap ((j : Int) + 1) = (j : Int) + 1 := IntWalk.i64_in _ (by omega)
          have hil : j < n.kids.length := by have := F2.out; omega
          obtain ⟨b0, off, hA, hB0, hc⟩ := hM.out.kids (by omega)
          rw [← F5.out] at hA
          subst hA
          have hce : w.rangeAt b0 (off + j * 37) (kidC (n.kids.getD j default) (p.kp j)) := hc j hil
          have hs := hS.out j hil
          obtain ⟨k, hk⟩ : ∃ e, e = n.kids.getD j default := ⟨_, rfl⟩
          obtain ⟨pk, hpk⟩ : ∃ e, e = p.kp j := ⟨_, rfl⟩
          rw [← hk] at hce hs
          rw [← hpk] at hce
          have at_ := fun t v (hv : (kidT k pk)[t]? = some v) => (B.out.cell (p := ⟨b0, off + j * 37 + (32 + t), none⟩) hB0).trans (hce (32 + t) v (by
            unfold kidC
            rw [List.getElem?_append_right (by simp [hs]), List.length_map, hs, Nat.add_sub_cancel_left]; exact hv))
          have q0 : v0.cell? ⟨b0, off + j * 37 + 32, none⟩ = some (.slice pk.lA k.lo.length pk.lc) := at_ 0 _ rfl
          have q1 : v0.cell? ⟨b0, off + j * 37 + 33, none⟩ = some (.slice pk.hA k.hi.length pk.hc) := at_ 1 _ rfl
          have q4 : v0.cell? ⟨b0, off + j * 37 + 36, none⟩ = some (.slice pk.kA k.key.length pk.kc) := at_ 4 _ rfl
          obtain ⟨n1, e1⟩ : ∃ q, q = k.lo.length := ⟨_, rfl⟩
          obtain ⟨n2, e2⟩ : ∃ q, q = k.hi.length := ⟨_, rfl⟩
          obtain ⟨n3, e3⟩ : ∃ q, q = k.key.length := ⟨_, rfl⟩
          rw [← e1] at q0
          rw [← e2] at q1
          rw [← e3] at q4
          have E1 := hideP e1; have E2 := hideP e2; have E3 := hideP e3; have HK := hideP hk
          clear hce hs hk hpk at_ e1 e2 e3 hc hB0 hil
          by_cases g3 : 50 < n1
          · have i3 : (50 : Int) < (n1 : Int) := by omega
            go_wp2_with fail
            go_ret
            exact ⟨true, rfl, B.out, fun h => by cases h⟩
          have i3 : ¬ (50 : Int) < (n1 : Int) := by omega
          by_cases g4 : 50 < n2
          · have i4 : (50 : Int) < (n2 : Int) := by omega
            go_wp2_with fail
            go_ret
            exact ⟨true, rfl, B.out, fun h => by cases h⟩
          have i4 : ¬ (50 : Int) < (n2 : Int) := by omega
          by_cases g5 : 50 < n3
          · have i5 : (50 : Int) < (n3 : Int) := by omega
            go_wp2_with fail
            go_ret
            exact ⟨true, rfl, B.out, fun h => by cases h⟩
          have i5 : ¬ (50 : Int) < (n3 : Int) := by omega
          go_wp2_with fail
          go_round
          case rel =>
            refine ⟨j + 1, by omega, by go_num, fun t ht => ?_⟩
            by_cases e : t = j
            · subst e; rw [← HK.out, ← E1.out, ← E2.out, ← E3.out]; omega
            · exact hV.out t (by omega)
          case measure => simp [intOf]; omega
        · obtain rfl : j = nk := by omega
          have i1 : ¬ ((j : Int) < (j : Int)) := by omega
          go_wp2_with fail
          go_ret
          refine ⟨false, rfl, B.out, fun _ => ⟨by rw [← F1.out]; omega, by rw [← F2.out]; omega, fun i hi => HR.out i (by rw [F1.out]; exact hi), fun i hi => hV.out i (by rw [F2.out]; exact hi)⟩⟩
end Go.Proofs.Ytgcbodpjidoanaa
