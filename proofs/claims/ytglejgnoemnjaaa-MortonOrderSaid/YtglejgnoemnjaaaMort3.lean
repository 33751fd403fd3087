/- Contracts of package morton: Point, Next, Cmp, Ahead. -/
import Derived.Test.YtglejgnoemnjaaaMort2
import Derived.Test.YtglejgnoemnjaaaLibs
import Derived.Test.YtglejgnoemnjaaaMortPl2
set_option linter.unusedVariables false
set_option linter.unusedSimpArgs false
namespace Go.Proofs.Ytglejgnoemnjaaa
open Go.RowKit
def cntU (d t k : Nat) : Nat := (t + d - 1 - k) / d
def ptCell (c : List Nat) (d t k : Nat) : Value := .int .u64 (hornN (fun b => bitAt c (b * d + k)) (cntU d t k) : Nat)
theorem cntU_0 (d k : Nat) (hk : k < d) : cntU d 0 k = 0 := by unfold cntU; rw [Nat.div_eq_of_lt]; omega
theorem cntU_far (d t k : Nat) (hd : d ≤ 8) (hk : k < d) (h : k ≠ t % d) : cntU d (t + 1) k = cntU d t k := by
  unfold cntU
  rcases (by omega : d = 1 ∨ d = 2 ∨ d = 3 ∨ d = 4 ∨ d = 5 ∨ d = 6 ∨ d = 7 ∨ d = 8) with rfl|rfl|rfl|rfl|rfl|rfl|rfl|rfl <;> omega
theorem cntU_near (d t : Nat) (h0 : 0 < d) (hd : d ≤ 8) : cntU d (t + 1) (t % d) = cntU d t (t % d) + 1 ∧ cntU d t (t % d) = t / d := by
  unfold cntU
  rcases (by omega : d = 1 ∨ d = 2 ∨ d = 3 ∨ d = 4 ∨ d = 5 ∨ d = 6 ∨ d = 7 ∨ d = 8) with rfl|rfl|rfl|rfl|rfl|rfl|rfl|rfl <;> omega
theorem cntU_all (d k : Nat) (hd : d ≤ 8) (hk : k < d) : cntU d (64 * d) k = 64 := by
  unfold cntU
  rcases (by omega : d = 1 ∨ d = 2 ∨ d = 3 ∨ d = 4 ∨ d = 5 ∨ d = 6 ∨ d = 7 ∨ d = 8) with rfl|rfl|rfl|rfl|rfl|rfl|rfl|rfl <;> omega
theorem div_lt64 (d t : Nat) (h0 : 0 < d) (hd : d ≤ 8) (ht : t < 64 * d) : t / d < 64 := by
  rw [Nat.div_lt_iff_lt_mul h0]; exact ht
theorem or_bit (x y : Nat) (hx : x < 9223372036854775808) (hy : y ≤ 1) : bits BinOp.or IntKind.u64 ((x : Int) * 2) (y : Int) = ((2 * x + y : Nat) : Int) := by
  have h1 : (x : Int) * 2 = ((2 * x : Nat) : Int) := by omega
  rw [h1, u64_or_nat _ _ (by omega) (by omega), nat_join 1 _ _ (by simp) (by omega)]

set_option maxHeartbeats 1000000 in
theorem point_in (A : Option Addr) (l : List Nat) (c d : Nat) (w : World) (hA : Arr w w.heap.size A l.length (u8s l)) (hl : IsB l) (h0 : 1 ≤ d) (hd : d ≤ 8) (hn : l.length = 8 * d) :
    Calls Try.prog 13 #[.slice A l.length c, .int .i64 d] w fun e w' => ∃ R s, e = .returned (.tuple #[.slice R d s, .int .i64 0]) ∧
      w'.ownsRow w.heap.size 2 1 (.slice R d s) d (ptVals l d d) ∧ Below w.heap.size w w' := by
  obtain ⟨i0, hi0, hz0, hz1, hz2⟩ := info_parts info_i64
  have hmk := fun W => run_make_row' (P := Try.prog) 47 30 (.int .u64 0) 8 Try.underlying47 info_u64 rfl .i64 .i64 d (by omega) (by omega) W
  have hb1 : ((l.length : Int) != 8 * (d : Int)) = false := by simp; omega
  have HA := hideP hA; clear hA
  have HL := hideP hl; clear hl
  have HN := hideP hn; clear hn
  go_enter Try.func13, Try.ntmps13
  go_wp2_with (go_at_call 20; refine (isDims_yes _ _ (by omega) (by omega)).mono ?_; rintro e w' ⟨rfl, rfl⟩)
  obtain ⟨w0, hw0⟩ : ∃ w0, w0 = w.alloc (Obj.cells (madeCells #[Value.int IntKind.u64 0] d) 30) := ⟨_, rfl⟩
  rw [← hw0]
  have hrow0 : w0.rowIs w.heap.size 30 d (ptCell l d 0) := by
    rw [hw0]
    exact (World.rowIs_made w _ _ _).congr fun i hi => by unfold ptCell; rw [cntU_0 d i hi]; rfl
  have hbel0 : Below w.heap.size w w0 := by rw [hw0]; exact (Below.refl _ _).alloc (Nat.le_refl _) _
  clear hw0 hmk
  generalize hg : w.heap.size = g at *
  have HG := hideP hg; clear hg
  go_loopw [23] (fun v wr => ∃ t : Nat, t ≤ 64 * d ∧ v = .int .i64 t ∧ wr.rowIs g 30 d (ptCell l d t) ∧ Below g w wr) (fun v _ => 64 * d - (intOf v).toNat)
  case atStart => exact ⟨0, by omega, rfl, hrow0, hbel0⟩
  case round =>
    obtain ⟨t, ht, rfl, hrow, hbel⟩ := hrel
    clear hrow0 hbel0
    by_cases hlt : t < 64 * d
    · have hkd : t % d < d := Nat.mod_lt _ (by omega)
      obtain ⟨k, hk⟩ : ∃ k, k = t % d := ⟨_, rfl⟩
      have hmod : ((t : Int)).tmod (d : Int) = (k : Int) := by rw [hk]; rfl
      rw [← hk] at hkd
      have hcg := hrow.cell (i := k) hkd
      have hfz := hrow.frozen k
      unfold ptCell at hcg
      have hcnt := cntU_near d t (by omega) hd
      rw [← hk] at hcnt
      obtain ⟨x, hx⟩ : ∃ x, x = hornN (fun b => bitAt l (b * d + k)) (cntU d t k) := ⟨_, rfl⟩
      rw [← hx] at hcg
      have hx63 : x < 9223372036854775808 := by
        have h1 := hornN_lt (fun b => bitAt l (b * d + k)) (fun i => bitAt_le _ _) (cntU d t k)
        have h3 := div_lt64 d t (by omega) hd hlt
        have h2 : 2 ^ (cntU d t k) ≤ 2 ^ 63 := Nat.pow_le_pow_right (by omega) (by omega)
        rw [hx]; omega
      have hA := (HA.out.below hbel).more (Nat.le_trans (Nat.le_of_eq HG.out.symm) hbel.size)
      have hN := HN.out
      have hbit := bitAt_le l t
      have HB1 := fun W (h : Arr W W.heap.size A l.length (u8s l)) => (bit_in A l c (t : Int) W h HL.out (by omega) (by omega) (by omega)).mono (R' := fun e w' => e = .returned (.int .u8 (bitAt l t : Nat)) ∧ w' = W) (fun e w' h => ⟨by rw [h.1, Int.toNat_natCast], h.2.symm⟩)
      obtain ⟨y, hy⟩ : ∃ y, y = bitAt l t := ⟨_, rfl⟩
      rw [← hy] at hbit HB1
      have HX := hideP hx; have HY := hideP hy; have HK := hideP hk; have HC := hideP hcnt; have HB2 := hideP HB1; have HAr := hideP hA; have HN2 := hideP hN
      clear hx hy hk hcnt HB1 hA hN
      have i1 : (0 : Int) ≤ (k : Int) := by omega
      have i2 : (k : Int) < (d : Int) := by omega
      go_wp2
      refine wp_region_still_tail 17 (by kernel_rfl) (by kernel_rfl) ?_
      simp only [List.take_succ_cons, List.take_zero, List.drop_succ_cons, List.drop_zero]
      repeat (first
        | (refine wpStill_step (fun K hK => ?_); go_simp; (try go_ints); (try (simp only [IntWalk.iteOmega]; go_simp)); refine hK _ ?_; clear hK K)
        | (refine wpStill_step (fun K hK => ?_); go_simp; refine ⟨_, HB2.out _ HAr.out, hK _ ?_⟩; clear hK K))
      refine wpStill_nil ?_
      go_wp2
      go_roundw
      case rel =>
        refine ⟨t + 1, by omega, by go_num, ?_, (hbel.setCell (p := ⟨g, k, none⟩) (Nat.le_refl g) _).drew⟩
        refine ((hrow.set k _).drew).congr fun j hj => ?_
        rw [or_bit x y hx63 hbit]
        unfold ptCell
        split
        · rename_i h
          rw [h, HC.out.1, hornN, ← HX.out, HC.out.2]
          have e : t / d * d + k = t := by rw [HK.out, Nat.mul_comm, Nat.div_add_mod]
          simp only [e]
          rw [← HY.out]
        · rename_i h
          rw [cntU_far d t j hd hj (by rw [← HK.out]; exact h)]
      case measure => simp [intOf]; omega
    · have e : t = 64 * d := by omega
      have HE := hideP e; clear e
      go_wp2
      obtain ⟨wo, rfl⟩ : ∃ wo : World, wo = wr := ⟨_, rfl⟩
      go_loopw [8, 46] (fun v8 v46 wr => ∃ k : Nat, ∃ R s, k ≤ d ∧ v46 = .int .i64 k ∧ v8 = .slice R k s ∧ wr.ownsRow (g + 1) 2 1 (.slice R k s) k (ptVals l d k) ∧ Below (g + 1) wo wr) (fun _ v46 _ => d - (intOf v46).toNat)
      case atStart => exact ⟨0, none, 0, by omega, rfl, rfl, World.ownsRow_nil _ _ _ _, Below.refl _ _⟩
      case round =>
        obtain ⟨k, R, s, hk, rfl, rfl, hown, hbel2⟩ := hrel
        by_cases hkl : k < d
        · have hcg := (hbel2.cell (p := ⟨g, k, none⟩) (Nat.lt_succ_self g)).trans (hrow.cell hkl)
          unfold ptCell at hcg
          rw [HE.out, cntU_all d k hd hkl] at hcg
          obtain ⟨x, hx⟩ : ∃ x, x = hornN (fun b => bitAt l (b * d + k)) 64 := ⟨_, rfl⟩
          have hx64 := hornN_lt64 (fun b => bitAt l (b * d + k)) (fun i => bitAt_le _ _) 64 (by omega)
          rw [← hx] at hcg hx64
          have HX := hideP hx; clear hx
          have hBw : g + 1 ≤ wr.heap.size := Nat.le_trans hrow.lt hbel2.size
          go_wp2_with (at_builtin; refine wpList_append_cells _ rfl (.tmp 50) (.tmp 54) 23 rfl (g + 1) 2 i0 _ 1 8 Try.underlying23 hi0 hz0 hz1 hz2 rfl (by decide) (.slice R k s) k (ptVals l d k) rfl hown _ 1 rfl rfl (by simp [Value.oneCell']) (by omega) (by unfold maxLen; omega) (by omega) hBw ?_; intro g3 c3 w3 hown3 hg3 hat3)
          go_roundw
          case rel =>
            refine ⟨k + 1, some ⟨g3, 0, none⟩, c3, by omega, by go_num, rfl, ?_, hbel2.trans (below_own hown hg3 (Nat.le_refl _) hBw)⟩
            rw [ptVals_succ]
            unfold ptNum
            rw [← HX.out]
            rw [← unxor63 x hx64]
            exact hown3
          case measure => simp [intOf]; omega
        · obtain rfl : k = d := by omega
          go_wp2
          go_ret2
          have hg := HG.out
          exact ⟨R, s, rfl, ⟨hown.1, hown.2.imp id (fun ⟨a, b, c, h1, h2, h3⟩ => ⟨a, b, c, h1, by omega, h3⟩)⟩, by rw [hg]; exact hbel.trans (hbel2.mono (by omega))⟩
theorem point_arg (A : Option Addr) (n c : Nat) (d : Int) (w : World) (hd : d < 1 ∨ 8 < d) :
    Calls Try.prog 13 #[.slice A n c, .int .i64 d] w fun e w' => e = .returned (.tuple #[.slice none 0 0, .int .i64 1]) ∧ w = w' := by
  go_enter Try.func13, Try.ntmps13
  go_wp2_with (go_at_call 20; refine (isDims_no _ _ hd).mono ?_; rintro e w' ⟨rfl, rfl⟩)
  go_ret2
  exact ⟨rfl, rfl⟩
theorem point_form (A : Option Addr) (n c : Nat) (d : Int) (w : World) (h0 : 1 ≤ d) (hd : d ≤ 8) (hn : (n : Int) ≠ 8 * d) (hm : n ≤ 140737488351232) :
    Calls Try.prog 13 #[.slice A n c, .int .i64 d] w fun e w' => e = .returned (.tuple #[.slice none 0 0, .int .i64 21]) ∧ w = w' := by
  have hb1 : ((n : Int) != 8 * d) = true := by simpa using hn
  clear hn
  go_enter Try.func13, Try.ntmps13
  go_wp2_with (go_at_call 20; refine (isDims_yes _ _ h0 hd).mono ?_; rintro e w' ⟨rfl, rfl⟩)
  go_ret2
  exact ⟨rfl, rfl⟩
/-- Next where all bytes from k + 1 on are 255 and byte k isn't. -/
def nextF (l : List Nat) (k : Nat) (i : Nat) : Value := .int .u8 ((if i < k then l.getD i 0 else if i = k then l.getD k 0 + 1 else 0 : Nat) : Int)
def nextG (l : List Nat) (k : Nat) (i : Nat) : Value := .int .u8 ((if i < k then l.getD i 0 else 0 : Nat) : Int)

set_option maxHeartbeats 1000000 in
theorem next_at (A : Option Addr) (l : List Nat) (c k : Nat) (w : World) (hA : Arr w w.heap.size A l.length (u8s l)) (hl : IsB l) (hn : l.length ≤ 1000) (hk : k < l.length) (h1 : l.getD k 0 ≠ 255) (h2 : ∀ i, k < i → i < l.length → l.getD i 0 = 255) :
    Calls Try.prog 11 #[.slice A l.length c] w fun e w' => ∃ g d, e = .returned (.tuple #[.slice (some ⟨g, 0, none⟩) l.length d, .bool true]) ∧
      Blk w' g 5 l.length (nextF l k) ∧ Below w.heap.size w w' := by
  have H2 := hideP h2; clear h2
  have H1 := hideP h1; clear h1
  have HL := hideP hl; clear hl
  go_enter Try.func11, Try.ntmps11
  go_wp2_with fail
  refine (clone_any A l c w hA (by omega)).mono ?_
  rintro e w1 ⟨R, d, rfl, hown, hb1⟩
  obtain ⟨g, rfl, hgb, hblk⟩ := Blk.of_own (f := u8s l) hown (by omega) (fun i hi => by simp [List.getElem?_range hi])
  have HO := hideP hown; have HA := hideP hA; clear hown hA
  go_wp2
  go_loopw [5] (fun v5 wr => ∃ m : Nat, k < m ∧ m ≤ l.length ∧ v5 = .int .i64 ((m : Int) - 1) ∧ Blk wr g 5 l.length (fun i => if i < m then u8s l i else .int .u8 0) ∧ Below w.heap.size w wr) (fun v5 _ => (intOf v5 + 1).toNat)
  case atStart => exact ⟨l.length, hk, Nat.le_refl _, rfl, hblk.congr fun i hi => by rw [if_pos hi], hb1⟩
  case round =>
    obtain ⟨m, hkm, hml, rfl, hb, hbel⟩ := hrel
    clear hblk
    have hcg := hb.cell (i := m - 1) (by omega)
    have hfz := hb.frozen (m - 1)
    rw [if_pos (by omega)] at hcg
    unfold u8s at hcg
    have hm63 : decide ((0 : Int) ≤ (m : Int) - 1) = true := by simp; omega
    have hx256 := HL.out (m - 1)
    by_cases he : m = k + 1
    · have hx := H1.out
      rw [show k = m - 1 by omega] at hx
      obtain ⟨x, hxx⟩ : ∃ x, x = l.getD (m - 1) 0 := ⟨_, rfl⟩
      rw [← hxx] at hcg hx256 hx
      have hx255 : x < 255 := by omega
      have HX := hideP hxx; have HE := hideP he
      clear hxx hx he
      have hcs : (wr.setCell ⟨g, m - 1, none⟩ (.int .u8 ((x : Int) + 1))).cell? ⟨g, m - 1, none⟩ = some (.int .u8 ((x : Int) + 1)) := (hb.set (m - 1) _).cell (i := m - 1) (by omega) |>.trans (by rw [if_pos rfl])
      go_wp2
      go_ret2
      refine ⟨g, d, rfl, (hb.set (m - 1) _).congr fun i hi => ?_, hbel.setCell (p := ⟨g, m - 1, none⟩) hgb _⟩
      unfold nextF
      have hmk : m - 1 = k := by have := HE.out; omega
      rw [hmk] at HX ⊢
      by_cases e : i = k
      · rw [if_pos e, if_neg (by omega), if_pos e, ← HX.out]; rfl
      · rw [if_neg e]
        by_cases e2 : i < k
        · rw [if_pos e2, if_pos (by omega)]; rfl
        · rw [if_neg e2, if_neg e, if_neg (by omega)]; rfl
    · have hx := H2.out (m - 1) (by omega) (by omega)
      rw [hx] at hcg
      have HX := hideP hx; clear hx
      have hcs : (wr.setCell ⟨g, m - 1, none⟩ (.int .u8 0)).cell? ⟨g, m - 1, none⟩ = some (.int .u8 0) := (hb.set (m - 1) _).cell (i := m - 1) (by omega) |>.trans (by rw [if_pos rfl])
      go_wp2
      go_roundw
      case rel =>
        refine ⟨m - 1, by omega, by omega, by go_num, (hb.set (m - 1) _).congr fun i hi => ?_, hbel.setCell (p := ⟨g, m - 1, none⟩) hgb _⟩
        by_cases e : i = m - 1
        · rw [if_pos e, if_neg (by omega)]
        · rw [if_neg e]
          by_cases e2 : i < m - 1
          · rw [if_pos e2, if_pos (by omega)]
          · rw [if_neg e2, if_neg (by omega)]
      case measure => simp [intOf]; omega
set_option maxHeartbeats 1000000 in
theorem next_all (A : Option Addr) (l : List Nat) (c : Nat) (w : World) (hA : Arr w w.heap.size A l.length (u8s l)) (hn : l.length ≤ 1000) (h2 : ∀ i, i < l.length → l.getD i 0 = 255) :
    Calls Try.prog 11 #[.slice A l.length c] w fun e w' => e = .returned (.tuple #[.slice none 0 0, .bool false]) ∧ Below w.heap.size w w' := by
  have H2 := hideP h2; clear h2
  go_enter Try.func11, Try.ntmps11
  go_wp2_with fail
  refine (clone_any A l c w hA (by omega)).mono ?_
  rintro e w1 ⟨R, d, rfl, hown, hb1⟩
  have hblk : 0 < l.length → ∃ g, R = some ⟨g, 0, none⟩ ∧ w.heap.size ≤ g ∧ Blk w1 g 5 l.length (u8s l) := fun hpos => Blk.of_own (f := u8s l) hown hpos (fun i hi => by simp [List.getElem?_range hi])
  have HO := hideP hown; have HA := hideP hA; clear hown hA
  have HB := hideP hblk; clear hblk
  go_wp2
  go_loopw [5] (fun v5 wr => ∃ m : Nat, m ≤ l.length ∧ v5 = .int .i64 ((m : Int) - 1) ∧ Hid (0 < m → ∃ g, R = some ⟨g, 0, none⟩ ∧ w.heap.size ≤ g ∧ Blk wr g 5 l.length (fun i => if i < m then u8s l i else .int .u8 0)) ∧ Below w.heap.size w wr) (fun v5 _ => (intOf v5 + 1).toNat)
  case atStart => exact ⟨l.length, Nat.le_refl _, rfl, fun hp => (HB.out hp).imp fun g h => ⟨h.1, h.2.1, h.2.2.congr fun i hi => by rw [if_pos hi]⟩, hb1⟩
  case round =>
    obtain ⟨m, hml, rfl, hbH, hbel⟩ := hrel
    by_cases h0 : 0 < m
    · obtain ⟨g, rfl, hgb, hb⟩ := hbH.out h0
      have hcg := hb.cell (i := m - 1) (by omega)
      have hfz := hb.frozen (m - 1)
      rw [if_pos (by omega)] at hcg
      unfold u8s at hcg
      have hm63 : decide ((0 : Int) ≤ (m : Int) - 1) = true := by simp; omega
      have hx := H2.out (m - 1) (by omega)
      rw [hx] at hcg
      have HX := hideP hx; clear hx
      have hcs : (wr.setCell ⟨g, m - 1, none⟩ (.int .u8 0)).cell? ⟨g, m - 1, none⟩ = some (.int .u8 0) := (hb.set (m - 1) _).cell (i := m - 1) (by omega) |>.trans (by rw [if_pos rfl])
      go_wp2
      go_roundw
      case rel =>
        refine ⟨m - 1, by omega, by go_num, fun _ => ⟨g, rfl, hgb, (hb.set (m - 1) _).congr fun i hi => ?_⟩, hbel.setCell (p := ⟨g, m - 1, none⟩) hgb _⟩
        by_cases e : i = m - 1
        · rw [if_pos e, if_neg (by omega)]
        · rw [if_neg e]
          by_cases e2 : i < m - 1
          · rw [if_pos e2, if_pos (by omega)]
          · rw [if_neg e2, if_neg (by omega)]
      case measure => simp [intOf]; omega
    · have hm63 : decide ((0 : Int) ≤ (m : Int) - 1) = false := by simp; omega
      go_wp2
      go_ret2
      exact ⟨rfl, hbel⟩
theorem cmp_same (A B : Option Addr) (a b : List Nat) (c d : Nat) (w : World) (hA : Arr w w.heap.size A a.length (u8s a)) (hB : Arr w w.heap.size B b.length (u8s b)) (ha : IsB a) (hb : IsB b) (hl : a.length = b.length) :
    Calls Try.prog 19 #[.slice A a.length c, .slice B b.length d] w fun e w' => e = .returned (.int .i64 (cmpB a b)) ∧ w = w' := by
  have hb1 : ((a.length : Int) != (b.length : Int)) = false := by simp [hl]
  have HC := hideP (bytes_compare A B a b c d w hA hB ha hb hl)
  clear hl hA hB
  go_enter Try.func19, Try.ntmps19
  go_wp2_with (go_at_call 26; refine HC.out.mono ?_; rintro e w' ⟨rfl, rfl⟩)
  go_ret
  exact ⟨rfl, rfl⟩
theorem aSt_bd (p q : List Int) (hp : IsI p) (hq : IsI q) : ∀ k, (aSt p q k).1 ≤ k - 1 ∧ (aSt p q k).2 < 18446744073709551616
  | 0 => by simp [aSt]
  | k + 1 => by
    have ih := aSt_bd p q hp hq k
    unfold aSt aStep
    split
    · exact ⟨by simp, pl_xor_lt _ _ (hp k).2 (hq k).2⟩
    · exact ⟨by omega, ih.2⟩

set_option maxHeartbeats 1000000 in
theorem ahead_in (A B : Option Addr) (p q : List Int) (c d : Nat) (w : World) (hA : Arr w w.heap.size A p.length (i64s p)) (hB : Arr w w.heap.size B q.length (i64s q)) (hp : IsI p) (hq : IsI q) (h1 : 1 ≤ p.length) (h8 : p.length ≤ 8) (hl : p.length = q.length) :
    Calls Try.prog 18 #[.slice A p.length c, .slice B q.length d] w fun e w' => e = .returned (.bool (aheadB p q)) ∧ ∃ nq, w.drewN nq = w' := by
  obtain ⟨b, off, rfl, hb, hc⟩ := hA (by omega)
  obtain ⟨b', off', rfl, hb', hc'⟩ := hB (by omega)
  have hb1 : ((q.length : Int) != (p.length : Int)) = false := by simp [hl]
  have hn1 : 1 ≤ q.length := by omega
  have hn8 : q.length ≤ 8 := by omega
  have HC := hideP hc; have HC' := hideP hc'; have HL := hideP hl; have HP := hideP hp; have HQ := hideP hq; have HA := hideP hA; have HB := hideP hB
  clear hc hc' hl hp hq hA hB
  go_enter Try.func18, Try.ntmps18
  go_wp2_with (go_at_call 20; refine (isDims_yes _ _ (by omega) (by omega)).mono ?_; rintro e w' ⟨rfl, rfl⟩)
  go_loopw [5, 6, 22] (fun v5 v6 v22 wr => ∃ k x y : Nat, k ≤ p.length ∧ v22 = .int .i64 k ∧ v5 = .int .i64 x ∧ v6 = .int .u64 y ∧ Hid ((x, y) = aSt p q k) ∧ x < p.length ∧ y < 18446744073709551616 ∧ ∃ nq : Nat, w.drewN nq = wr) (fun _ _ v22 _ => p.length - (intOf v22).toNat)
  case atStart => exact ⟨0, 0, 0, by omega, rfl, rfl, rfl, rfl, by omega, by omega, 0, rfl⟩
  case round =>
    obtain ⟨k, x, y, hk, rfl, rfl, rfl, hs, hx, hy, nq, hw⟩ := hrel
    have hcell : ∀ a, wr.cell? a = w.cell? a := fun a => by rw [← hw]; rfl
    have HW := hideP hw; clear hw
    by_cases hlt : k < p.length
    · have hkq : k < q.length := by have := HL.out; omega
      have g1 := (hcell _).trans (HC.out k hlt)
      have g2 := (hcell _).trans (HC'.out k hkq)
      unfold i64s at g1 g2
      clear hcell
      have z1 := HP.out k
      have z2 := HQ.out k
      obtain ⟨u, hu⟩ : ∃ u, u = p.getD k 0 := ⟨_, rfl⟩
      obtain ⟨v, hv⟩ : ∃ v, v = q.getD k 0 := ⟨_, rfl⟩
      rw [← hu] at g1 z1
      rw [← hv] at g2 z2
      have i0 : (0 : Int) ≤ (k : Int) := by omega
      have i1 : (k : Int) < (p.length : Int) := by omega
      have i2 : (k : Int) < (q.length : Int) := by omega
      have hX := u64_xor_nat (pl u) (pl v) (pl_lt u z1.2) (pl_lt v z2.2)
      have hX64 := pl_xor_lt u v z1.2 z2.2
      have hst : aSt p q (k + 1) = if y < pl u ^^^ pl v ∧ y < y ^^^ (pl u ^^^ pl v) then (k, pl u ^^^ pl v) else (x, y) := by
        rw [aSt, aStep, ← hs.out, ← hu, ← hv]
      obtain ⟨X, hXe⟩ : ∃ X, X = pl u ^^^ pl v := ⟨_, rfl⟩
      rw [← hXe] at hX hX64 hst
      have hY := u64_xor_nat y X hy hX64
      obtain ⟨Y, hYe⟩ : ∃ Y, Y = y ^^^ X := ⟨_, rfl⟩
      rw [← hYe] at hY hst
      have HS := hideP hst; have HXe := hideP hXe; have HYe := hideP hYe; have Hu := hideP hu; have Hv := hideP hv
      clear hst hXe hYe hu hv
      go_wp2
      go_quiet (first | (go_at_call 21; exact Calls.quiet_of_same ((plain_any u _ z1.1 z1.2).mono (fun _ _ h => ⟨h.1, h.2.symm⟩))) | (go_at_call 21; exact Calls.quiet_of_same ((plain_any v _ z2.1 z2.2).mono (fun _ _ h => ⟨h.1, h.2.symm⟩))))
      have hn : ∃ n, w.drewN n = wr.drewN nq := ⟨_, by rw [← HW.out, World.drewN_drewN]⟩
      have HN := hideP hn; clear hn
      by_cases c1 : y < X
      · by_cases c2 : y < Y
        · have t1 : decide ((y : Int) < X) = true := by simp; omega
          have t2 : decide ((y : Int) < Y) = true := by simp; omega
          have hs2 : (k, X) = aSt p q (k + 1) := by rw [HS.out, if_pos ⟨c1, c2⟩]
          have HS2 := hideP hs2; clear hs2
          go_wp2
          go_roundw
          case rel => exact ⟨k + 1, k, X, by omega, by go_num, rfl, rfl, HS2.out, hlt, hX64, HN.out⟩
          case measure => simp [intOf]; omega
        · have t1 : decide ((y : Int) < X) = true := by simp; omega
          have t2 : decide ((y : Int) < Y) = false := by simp; omega
          have hs2 : (x, y) = aSt p q (k + 1) := by rw [HS.out, if_neg (fun h => c2 h.2)]
          have HS2 := hideP hs2; clear hs2
          go_wp2
          go_roundw
          case rel => exact ⟨k + 1, x, y, by omega, by go_num, rfl, rfl, HS2.out, hx, hy, HN.out⟩
          case measure => simp [intOf]; omega
      · have t1 : decide ((y : Int) < X) = false := by simp; omega
        have hs2 : (x, y) = aSt p q (k + 1) := by rw [HS.out, if_neg (fun h => c1 h.1)]
        have HS2 := hideP hs2; clear hs2
        go_wp2
        go_roundw
        case rel => exact ⟨k + 1, x, y, by omega, by go_num, rfl, rfl, HS2.out, hx, hy, HN.out⟩
        case measure => simp [intOf]; omega
    · have e : k = p.length := by omega
      have hxq : x < q.length := by have := HL.out; omega
      have g1 := (hcell _).trans (HC.out x hx)
      have g2 := (hcell _).trans (HC'.out x hxq)
      unfold i64s at g1 g2
      clear hcell
      have hres : aheadB p q = decide (p.getD x 0 < q.getD x 0) := by
        unfold aheadB; rw [← e, ← hs.out]
      obtain ⟨u, hu⟩ : ∃ u, u = p.getD x 0 := ⟨_, rfl⟩
      obtain ⟨v, hv⟩ : ∃ v, v = q.getD x 0 := ⟨_, rfl⟩
      rw [← hu] at g1 hres
      rw [← hv] at g2 hres
      have HE := hideP e; have HR := hideP hres; have Hu := hideP hu; have Hv := hideP hv
      clear e hres hu hv
      have i0 : (0 : Int) ≤ (x : Int) := by omega
      have i1 : (x : Int) < (p.length : Int) := by omega
      have i2 : (x : Int) < (q.length : Int) := by omega
      go_wp2
      go_quiet (fail)
      have hn : ∃ n, w.drewN n = wr.drewN nq := ⟨_, by rw [← HW.out, World.drewN_drewN]⟩
      have HN := hideP hn; clear hn
      go_wp2
      go_ret
      exact ⟨ret_bool HR.out.symm, HN.out⟩
theorem ahead_no (A B : Option Addr) (n m c d : Nat) (w : World) (hn : n ≤ 140737488351232) (hm : m ≤ 140737488351232) (h : n < 1 ∨ 8 < n ∨ n ≠ m) :
    Calls Try.prog 18 #[.slice A n c, .slice B m d] w fun e w' => e = .returned (.bool false) ∧ w = w' := by
  by_cases hd : 1 ≤ n ∧ n ≤ 8
  · have hb1 : ((m : Int) != (n : Int)) = true := by simp; omega
    clear h
    go_enter Try.func18, Try.ntmps18
    go_wp2_with (go_at_call 20; refine (isDims_yes _ _ (by omega) (by omega)).mono ?_; rintro e w' ⟨rfl, rfl⟩)
    go_ret
    exact ⟨rfl, rfl⟩
  · go_enter Try.func18, Try.ntmps18
    go_wp2_with (go_at_call 20; refine (isDims_no _ _ (by omega)).mono ?_; rintro e w' ⟨rfl, rfl⟩)
    go_ret
    exact ⟨rfl, rfl⟩
theorem code_arg (A : Option Addr) (n c : Nat) (w : World) (hn : n ≤ 140737488351232) (h : n < 1 ∨ 8 < n) :
    Calls Try.prog 9 #[.slice A n c] w fun e w' => e = .returned (.tuple #[.slice none 0 0, .int .i64 1]) ∧ w = w' := by
  go_enter Try.func9, Try.ntmps9
  go_wp2_with (go_at_call 20; refine (isDims_no _ _ (by omega)).mono ?_; rintro e w' ⟨rfl, rfl⟩)
  go_ret2
  exact ⟨rfl, rfl⟩
end Go.Proofs.Ytglejgnoemnjaaa
