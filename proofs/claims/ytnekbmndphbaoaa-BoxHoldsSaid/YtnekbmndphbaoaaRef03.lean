/- Contracts of the document's package for chapter 3: Apart, Gap, Less, Sum. -/
import Derived.Test.YtnekbmndphbaoaaDist2
set_option linter.unusedVariables false
set_option linter.unusedSimpArgs false
namespace Go.Proofs.Ytnekbmndphbaoaa
open Go.RowKit

theorem rapart_any (a b : Int) (w : World) (ha : I64 a) (hb : I64 b) : Calls Try.prog 24 #[.int .i64 a, .int .i64 b] w fun e w' => e = .returned (.int .u64 (apart a b)) ∧ w = w' := by
  have key : IntKind.u64.wrap (IntKind.u64.wrap (if b < a then a else b) - IntKind.u64.wrap (if b < a then b else a)) = (apart a b : Int) := by
    unfold apart; unfold I64 at ha hb; simp only [IntKind.wrap, IntKind.signed, IntKind.bits]; split <;> simp <;> omega
  obtain ⟨x, hx⟩ : ∃ x, x = apart a b := ⟨_, rfl⟩
  rw [← hx] at key ⊢
  unfold I64 at ha hb
  clear hx
  by_cases h : b < a
  · rw [if_pos h, if_pos h] at key
    have key' := hideP key; clear key
    have t : decide (b < a) = true := by simp [h]
    go_enter Try.func24, Try.ntmps24
    go_wp2
    go_ret
    exact ⟨ret_int key'.out, rfl⟩
  · rw [if_neg h, if_neg h] at key
    have key' := hideP key; clear key
    have t : decide (b < a) = false := by simp [h]
    go_enter Try.func24, Try.ntmps24
    go_wp2
    go_ret
    exact ⟨ret_int key'.out, rfl⟩
theorem rgap_any (x lo hi : Int) (w : World) (hx : I64 x) (hl : I64 lo) (hh : I64 hi) : Calls Try.prog 26 #[.int .i64 x, .int .i64 lo, .int .i64 hi] w fun e w' => e = .returned (.int .u64 (gap x lo hi)) ∧ w = w' := by
  unfold gap
  by_cases h : x < lo
  · rw [if_pos h]
    have t : decide (x < lo) = true := by simp [h]
    go_enter Try.func26, Try.ntmps26
    go_wp2_with fail
    refine (rapart_any x lo w hx hl).mono ?_
    rintro e w' ⟨rfl, rfl⟩
    go_wp2
    go_ret
    exact ⟨rfl, rfl⟩
  · rw [if_neg h]
    have t : decide (x < lo) = false := by simp [h]
    by_cases h' : hi < x
    · rw [if_pos h']
      have t : decide (hi < x) = true := by simp [h']
      go_enter Try.func26, Try.ntmps26
      go_wp2_with fail
      refine (rapart_any x hi w hx hh).mono ?_
      rintro e w' ⟨rfl, rfl⟩
      go_wp2
      go_ret
      exact ⟨rfl, rfl⟩
    · rw [if_neg h']
      have t : decide (hi < x) = false := by simp [h']
      go_enter Try.func26, Try.ntmps26
      go_wp2
      go_ret
      exact ⟨rfl, rfl⟩
theorem rless_any (a b : Nat) (w : World) (ha : a < 340282366920938463463374607431768211456) (hb : b < 340282366920938463463374607431768211456) :
    Calls Try.prog 20 #[dv a, dv b] w fun e w' => e = .returned (.bool (decide (a < b))) ∧ Below w.heap.size w w' := by
  obtain ⟨r, hr⟩ : ∃ r : Bool, r = decide (a < b) := ⟨_, rfl⟩
  rw [← hr]
  unfold dv dvp
  obtain ⟨h, hh⟩ : ∃ h, h = a / 18446744073709551616 := ⟨_, rfl⟩
  obtain ⟨l, hl⟩ : ∃ l, l = a % 18446744073709551616 := ⟨_, rfl⟩
  obtain ⟨h', hh'⟩ : ∃ h, h = b / 18446744073709551616 := ⟨_, rfl⟩
  obtain ⟨l', hl'⟩ : ∃ l, l = b % 18446744073709551616 := ⟨_, rfl⟩
  rw [← hh, ← hl, ← hh', ← hl']
  have key1 : h ≠ h' → decide (h < h') = r := fun hne => by
    rw [hr, decide_eq_decide]; omega
  have key2 : h = h' → decide (l < l') = r := fun he => by
    rw [hr, decide_eq_decide]; omega
  have K1 := hideP key1; have K2 := hideP key2
  clear hh hl hh' hl' hr key1 key2 ha hb
  by_cases e : h = h'
  · have t : ((h : Int) != (h' : Int)) = false := by simp [e]
    have E := hideP e; clear e
    go_enter Try.func20, Try.ntmps20
    go_wp2
    go_ret
    exact ⟨ret_bool (K2.out E.out), ((Below.refl _ _).alloc (Nat.le_refl _) _).alloc (by simp) _⟩
  · have t : ((h : Int) != (h' : Int)) = true := by simp; omega
    have E := hideP e; clear e
    go_enter Try.func20, Try.ntmps20
    go_wp2
    go_ret
    exact ⟨ret_bool (K1.out E.out), ((Below.refl _ _).alloc (Nat.le_refl _) _).alloc (by simp) _⟩
/-- a number's digit k to the base 2^32 -/
def dg (D k : Nat) : Nat := D / 4294967296 ^ k % 4294967296
def cry (D x k : Nat) : Nat := (D % 4294967296 ^ k + x % 4294967296 ^ k) / 4294967296 ^ k
theorem dg_lt (D k : Nat) : dg D k < 4294967296 := Nat.mod_lt _ (by decide)
theorem cry_le (D x k : Nat) : cry D x k ≤ 1 := by
  unfold cry
  have hp : 0 < 4294967296 ^ k := Nat.pow_pos (by decide)
  have h1 := Nat.mod_lt D hp
  have h2 := Nat.mod_lt x hp
  generalize 4294967296 ^ k = M at *
  have : (D % M + x % M) / M < 2 := by rw [Nat.div_lt_iff_lt_mul hp]; omega
  omega
theorem dg_step (D x k : Nat) : (dg D k + dg x k + cry D x k) % 4294967296 = dg (D + x) k ∧ (dg D k + dg x k + cry D x k) / 4294967296 = cry D x (k + 1) := by
  unfold dg cry
  rw [Nat.pow_succ]
  have hp : 0 < 4294967296 ^ k := Nat.pow_pos (by decide)
  generalize 4294967296 ^ k = M at *
  have eD := Nat.div_add_mod D M
  have ex := Nat.div_add_mod x M
  have hD := Nat.mod_lt D hp
  have hx := Nat.mod_lt x hp
  generalize D / M = a at *
  generalize D % M = r at *
  generalize x / M = b at *
  generalize x % M = s at *
  subst eD ex
  have e1 : (M * a + r + (M * b + s)) / M = a + b + (r + s) / M := by
    rw [show M * a + r + (M * b + s) = (r + s) + M * (a + b) by rw [Nat.mul_add]; omega, Nat.add_mul_div_left _ _ hp]; omega
  have e2 : (M * a + r) % (M * 4294967296) = M * (a % 4294967296) + r := by
    rw [Nat.mod_mul, Nat.mul_add_mod, Nat.mod_eq_of_lt hD, Nat.mul_add_div hp, Nat.div_eq_of_lt hD, Nat.add_zero]; omega
  have e3 : (M * b + s) % (M * 4294967296) = M * (b % 4294967296) + s := by
    rw [Nat.mod_mul, Nat.mul_add_mod, Nat.mod_eq_of_lt hx, Nat.mul_add_div hp, Nat.div_eq_of_lt hx, Nat.add_zero]; omega
  rw [e1, e2, e3]
  refine ⟨by omega, ?_⟩
  rw [show M * (a % 4294967296) + r + (M * (b % 4294967296) + s) = (r + s) + M * (a % 4294967296 + b % 4294967296) by rw [Nat.mul_add]; omega, ← Nat.div_div_eq_div_mul, Nat.add_mul_div_left _ _ hp]
  congr 1; omega
theorem dg_sum (D : Nat) : dg D 2 + 4294967296 * dg D 3 = D % 340282366920938463463374607431768211456 / 18446744073709551616 ∧ dg D 0 + 4294967296 * dg D 1 = D % 340282366920938463463374607431768211456 % 18446744073709551616 := by
  unfold dg
  simp only [Nat.reducePow]
  omega
/-- the ref's four digits, k of them turned -/
def dgc (D x k : Nat) (j : Nat) : Value := .int .u64 (if j < k then dg (D + x) j else dg D j : Nat)
def dgx (x : Nat) (j : Nat) : Value := .int .u64 (dg x j : Nat)

set_option maxRecDepth 100000 in
set_option maxHeartbeats 2000000 in
theorem rsum_any (A : Option Addr) (l : List Nat) (c : Nat) (w : World) (hA : Arr w w.heap.size A l.length (u64s l)) (hl : ∀ i, l.getD i 0 < 18446744073709551616) (hn : l.length ≤ 17592186043904) :
    Calls Try.prog 27 #[.slice A l.length c] w fun e w' => e = .returned (dv (l.sum % 340282366920938463463374607431768211456)) ∧ Below w.heap.size w w' := by
  have HA := hideP hA; have HL := hideP hl
  clear hA hl
  go_enter Try.func27, Try.ntmps27
  go_wp2
  obtain ⟨g, hg⟩ : ∃ g, g = w.heap.size := ⟨_, rfl⟩
  obtain ⟨w0, hw0⟩ : ∃ w0, w0 = (w.alloc (Obj.cells #[.int .u64 0, .int .u64 0] 29)).alloc (Obj.cells #[.int .u64 0, .int .u64 0, .int .u64 0, .int .u64 0] 27) := ⟨_, rfl⟩
  have r0 : Two w0 g 29 (.int .u64 (0 : Nat)) (.int .u64 (0 : Nat)) := by rw [hw0, hg]; exact (Two.new _ _ _ _).alloc _
  have r1 : Blk w0 (g + 1) 27 4 (fun j => .int .u64 (dg 0 j : Nat)) := by
    rw [hw0, hg]
    refine ⟨_, heap_alloc2_new _ _ _, Nat.le_refl _, fun i hi => ?_⟩
    have e : ∀ j, dg 0 j = 0 := fun j => by simp [dg]
    simp only [e]
    rcases (by omega : i = 0 ∨ i = 1 ∨ i = 2 ∨ i = 3) with rfl | rfl | rfl | rfl <;> rfl
  have rb : Below w.heap.size w w0 := by rw [hw0]; exact ((Below.refl _ _).alloc (Nat.le_refl _) _).alloc (by simp) _
  rw [← hw0, ← hg]
  clear hw0
  have HG := hideP hg
  clear hg
  go_loopw [4] (fun v4 wr => ∃ i D : Nat, i ≤ l.length ∧ v4 = .int .i64 i ∧ Hid (D = (l.take i).sum) ∧
    Hid (Two wr g 29 (.int .u64 (0 : Nat)) (.int .u64 (0 : Nat)) ∧ Blk wr (g + 1) 27 4 (fun j => .int .u64 (dg D j : Nat)) ∧ Below w.heap.size w wr)) (fun v4 _ => l.length - (intOf v4).toNat)
  case atStart => exact ⟨0, 0, by omega, rfl, rfl, r0, r1, rb⟩
  case round =>
    obtain ⟨i, D, hi, rfl, hD, hW⟩ := hrel
    clear r0 r1 rb
    by_cases hlt : i < l.length
    · have t : decide ((i : Int) < l.length) = true := by simp; omega
      obtain ⟨b, off, rfl, hb, hc⟩ := (HA.out.below hW.out.2.2) (by omega)
      have k1 := hc i hlt
      unfold u64s at k1
      have hx := HL.out i
      obtain ⟨x, ex⟩ : ∃ x, x = l.getD i 0 := ⟨_, rfl⟩
      rw [← ex] at k1 hx
      have EX := hideP ex
      clear hc ex
      have i0 : (0 : Int) ≤ (i : Int) := by omega
      have i1 : (i : Int) < (l.length : Int) := by omega
      go_wp2
      refine wp_region_still_tail 10 (by kernel_rfl) (by kernel_rfl) ?_
      simp only [List.take_succ_cons, List.take_zero, List.drop_succ_cons, List.drop_zero]
      repeat (refine wpStill_step (fun K hK => ?_); go_simp; (try go_ints); (try (simp only [IntWalk.iteOmega]; go_simp)); refine hK _ ?_; clear hK K)
      refine wpStill_nil ?_
      clear k1 i0 i1
      go_wp2
      obtain ⟨w1, hw1⟩ : ∃ w1, w1 = (wr.alloc (Obj.cells #[.int .u64 ((x : Int) % 4294967296), .int .u64 ((x : Int) / 4294967296), .int .u64 0, .int .u64 0] 27)).drew := ⟨_, rfl⟩
      obtain ⟨g2, hg2⟩ : ∃ g2, g2 = wr.heap.size := ⟨_, rfl⟩
      have b1 : Two w1 g 29 (.int .u64 (0 : Nat)) (.int .u64 (0 : Nat)) := by rw [hw1]; exact hW.out.1.alloc _
      have b2 : Blk w1 (g + 1) 27 4 (dgc D x 0) := by rw [hw1]; exact (hW.out.2.1.alloc _).congr fun j _ => by unfold dgc; rw [if_neg (by omega)]
      have b3 : Blk w1 g2 27 4 (dgx x) := by
        rw [hw1, hg2]
        refine ⟨_, heap_alloc_new _ _, Nat.le_refl _, fun j hj => ?_⟩
        unfold dgx dg
        rcases (by omega : j = 0 ∨ j = 1 ∨ j = 2 ∨ j = 3) with rfl | rfl | rfl | rfl
        · simp
        · simp; omega
        · simp; omega
        · simp; omega
      have b4 : Below w.heap.size w w1 := by rw [hw1]; exact (hW.out.2.2.alloc hW.out.2.2.size _).drew
      have hlt2 : g + 1 < g2 := by rw [hg2]; exact hW.out.2.1.lt
      rw [← hw1, ← hg2]
      have HX := hideP hx
      clear hw1 hg2 hW hx
      obtain ⟨wo, hwo⟩ : ∃ wo : World, wo = w1 := ⟨_, rfl⟩
      go_loopw [6, 7] (fun v6 v7 wr => ∃ k c : Nat, k ≤ 4 ∧ v6 = .int .u64 c ∧ v7 = .int .i64 k ∧ Hid (c = cry D x k) ∧
        Hid (Two wr g 29 (.int .u64 (0 : Nat)) (.int .u64 (0 : Nat)) ∧ Blk wr (g + 1) 27 4 (dgc D x k) ∧ Blk wr g2 27 4 (dgx x) ∧ Below w.heap.size w wr)) (fun _ v7 _ => 4 - (intOf v7).toNat)
      case atStart => exact ⟨0, 0, by omega, rfl, rfl, by simp [Hid, cry, Nat.mod_one], b1, b2, b3, b4⟩
      case round =>
        obtain ⟨k, c', hk, rfl, rfl, hcr, hW⟩ := hrel
        clear b1 b2 b3 b4 hwo
        by_cases hk4 : k < 4
        · have t2 : decide ((k : Int) < 4) = true := by simp; omega
          have c1 := hW.out.2.1.cell (i := k) hk4
          have c2 := hW.out.2.2.1.cell (i := k) hk4
          have f1 := hW.out.2.1.frozen k
          unfold dgc at c1
          unfold dgx at c2
          rw [if_neg (Nat.lt_irrefl k)] at c1
          have l1 := dg_lt D k
          have l2 := dg_lt x k
          have l3 := cry_le D x k
          rw [← hcr.out] at l3
          have st := dg_step D x k
          rw [← hcr.out] at st
          obtain ⟨u, eu⟩ : ∃ u, u = dg D k := ⟨_, rfl⟩
          obtain ⟨v, ev⟩ : ∃ v, v = dg x k := ⟨_, rfl⟩
          rw [← eu] at c1 l1 st
          rw [← ev] at c2 l2 st
          have HST := hideP st
          clear eu ev st
          have i0 : (0 : Int) ≤ (k : Int) := by omega
          have i1 : (k : Int) < 4 := by omega
          go_wp2
          go_quiet (fail)
          go_wp2
          go_roundw
          case rel =>
            refine ⟨k + 1, cry D x (k + 1), by omega, ?_, by go_num, rfl, ?_, ?_, ?_, ?_⟩
            · rw [← HST.out.2]; rfl
            · exact (hW.out.1.drewN nq).setOther (by simp) _
            · refine ((hW.out.2.1.drewN nq).set k _).congr fun j hj => ?_
              unfold dgc
              by_cases e : j = k
              · subst e
                rw [if_pos rfl, if_pos (by omega), ← HST.out.1]; rfl
              · rw [if_neg e]
                by_cases e2 : j < k
                · rw [if_pos e2, if_pos (by omega)]
                · rw [if_neg e2, if_neg (by omega)]
            · exact (hW.out.2.2.1.drewN nq).setOther (by simp; omega) _
            · have := HG.out
              exact (below_drewN hW.out.2.2.2 nq).setCell (p := ⟨g + 1, k, none⟩) (by simp; omega) _
          case measure => simp [intOf]; omega
        · obtain rfl : k = 4 := by omega
          go_wp2
          go_roundw
          case rel =>
            refine ⟨i + 1, D + x, by omega, by go_num, ?_, hW.out.1, hW.out.2.1.congr fun j hj => ?_, hW.out.2.2.2⟩
            · simp only [Hid]
              rw [hD.out, List.take_add_one, List.sum_append, List.getElem?_eq_getElem hlt, EX.out]
              simp [List.getD, List.getElem?_eq_getElem hlt]
            · unfold dgc; rw [if_pos hj]
          case measure => simp [intOf]; omega
    · have t : decide ((i : Int) < l.length) = false := by simp; omega
      have e : i = l.length := by omega
      have hDl : D = l.sum := by rw [hD.out, e, List.take_length]
      have hs := dg_sum D
      have c0 := hW.out.2.1.cell (i := 0) (by omega)
      have c1 := hW.out.2.1.cell (i := 1) (by omega)
      have c2 := hW.out.2.1.cell (i := 2) (by omega)
      have c3 := hW.out.2.1.cell (i := 3) (by omega)
      have l0 := dg_lt D 0
      have l1 := dg_lt D 1
      have l2 := dg_lt D 2
      have l3 := dg_lt D 3
      obtain ⟨d0, e0⟩ : ∃ u, u = dg D 0 := ⟨_, rfl⟩
      obtain ⟨d1, e1⟩ : ∃ u, u = dg D 1 := ⟨_, rfl⟩
      obtain ⟨d2, e2⟩ : ∃ u, u = dg D 2 := ⟨_, rfl⟩
      obtain ⟨d3, e3⟩ : ∃ u, u = dg D 3 := ⟨_, rfl⟩
      rw [← e0] at c0 l0 hs
      rw [← e1] at c1 l1 hs
      rw [← e2] at c2 l2 hs
      rw [← e3] at c3 l3 hs
      rw [hDl] at hs
      have HS := hideP hs
      have f0 := hW.out.1.fz 0
      have f1 := hW.out.1.fz 1
      have p0 := hW.out.1.c0
      have p1 := hW.out.1.c1
      clear e0 e1 e2 e3 hs e hDl
      go_wp2
      refine wp_region_still_tail 17 (by kernel_rfl) (by kernel_rfl) ?_
      simp only [List.take_succ_cons, List.take_zero, List.drop_succ_cons, List.drop_zero]
      repeat (refine wpStill_step (fun K hK => ?_); go_simp; (try go_ints); (try (simp only [IntWalk.iteOmega]; go_simp)); refine hK _ ?_; clear hK K)
      refine wpStill_nil ?_
      go_wp2
      refine ret_dist rfl rfl (g := g) (hW.out.1.set2 _ _) rfl ?_
      refine ⟨?_, ?_⟩
      · unfold dv dvp; rw [← HS.out.1, ← HS.out.2]; rfl
      · have := HG.out
        exact ((hW.out.2.2.setCell (p := ⟨g, 0, none⟩) (by simp; omega) _).setCell (p := ⟨g, 1, none⟩) (by simp; omega) _).drew
end Go.Proofs.Ytnekbmndphbaoaa
