/- Contract of the document's turn (chapter 1). -/
import Derived.IntWalk
import Derived.Laws.MakeOwn
import Derived.Test.YtedokpgkjcnoiaaGreatQ30
set_option linter.unusedVariables false
set_option linter.unusedSimpArgs false
namespace Go.Proofs.YtedokpgkjcnoiaaGreat
open Go.RowKit
/-- a block whose first cells are these words -/
def Pre32 (w : World) (g : Nat) (t : TypeId) (l : List UInt32) : Prop := ∃ rest : List Value, Row w g t (l.map v32 ++ rest)
section
variable {w W : World} {g : Nat} {t : TypeId} {l : List UInt32}
theorem Pre32.cell (h : Pre32 w g t l) (i : Nat) (hi : i < l.length) : w.cell? ⟨g, i, none⟩ = some (v32 (l.getD i 0)) := by
 obtain ⟨r, h⟩ := h
 rw [Row.cell h i, List.getElem?_append_left (by simpa using hi)]; simp [List.getD, List.getElem?_eq_getElem hi]
theorem Pre32.fz (h : Pre32 w g t l) (i : Nat) : w.frozen? ⟨g, i, none⟩ = false := by obtain ⟨r, h⟩ := h; exact Row.fz h i
theorem Pre32.lt (h : Pre32 w g t l) : g < w.heap.size := by obtain ⟨r, h⟩ := h; exact Row.lt h
theorem Pre32.ext (h : Pre32 w g t l) (hW : Ext w W) : Pre32 W g t l := by obtain ⟨r, h⟩ := h; exact ⟨r, Row.ext h hW⟩
theorem Pre32.after (h : Pre32 w g t l) (hb : Below w.heap.size w W) : Pre32 W g t l := by obtain ⟨r, h⟩ := h; exact ⟨r, Row.after h hb⟩
theorem Pre32.set (h : Pre32 w g t l) (i : Nat) (x : UInt32) (hi : i < l.length) : Pre32 (w.setCell ⟨g, i, none⟩ (v32 x)) g t (l.set i x) := by
 obtain ⟨r, h⟩ := h
 refine ⟨r, ?_⟩
 have := Row.set h i (v32 x)
 rwa [List.set_append_left _ _ (by simpa using hi), ← List.map_set] at this
theorem Pre32.setOther (h : Pre32 w g t l) {a : Addr} (ha : g ≠ a.block) (v : Value) : Pre32 (w.setCell a v) g t l := by obtain ⟨r, h⟩ := h; exact ⟨r, Row.setOther h ha v⟩
theorem Pre32.of_row (h : Row32 w g t l) : Pre32 w g t l := ⟨[], by rw [List.append_nil]; exact h⟩
theorem Pre32.of_own {base : Nat} {A : Option Addr} {c : Nat} (h : w.ownsRow base t 1 (.slice A l.length c) l.length (l.map v32)) (hl : 0 < l.length) : ∃ g, A = some ⟨g, 0, none⟩ ∧ base ≤ g ∧ Pre32 w g t l := by
 rcases h.2 with ⟨he, h0⟩ | ⟨r, cap, cur, hv, hb, hh, hcap, hm, hs, ht⟩
 ·omega
 ·injection hv with hA _ _
  subst hA
  refine ⟨r, rfl, hb, cur.toList.drop l.length, ?_⟩
  unfold Row
  rw [← ht, Nat.mul_one, List.take_append_drop]
  simpa using hh
end
/-- the words of a slice -/
def u32s (l : List UInt32) (i : Nat) : Value := v32 (l.getD i 0)
theorem Pre32.arr {w : World} {g : Nat} {t : TypeId} {l : List UInt32} (h : Pre32 w g t l) (n : Nat) (hn : n ≤ l.length) : Arr w w.heap.size (some ⟨g, 0, none⟩) n (u32s l) := fun _ =>
 ⟨g, 0, rfl, h.lt, fun i hi => by rw [Nat.zero_add]; exact h.cell i (by omega)⟩
/-- a word under way -/
def qw (b : List Nat) (k : Nat) : Nat → UInt32
 | 0 => 0
 | n + 1 => 256 * qw b k n + UInt32.ofNat (b.getD (4 * k + n) 0)
theorem qw_four (b : List Nat) (k : Nat) : qw b k 4 = wd b k := by
 unfold wd qw qw qw qw qw
 apply UInt32.toNat_inj.1
 simp only [UInt32.toNat_add, UInt32.toNat_mul, UInt32.toNat_ofNat', Nat.add_zero]
 simp
 omega
theorem n32_mul256 (x : UInt32) : IntKind.u32.wrap (256 * n32 x) = n32 (256 * x) := by
 unfold n32; rw [IntKind.wrap_u32', UInt32.toNat_mul]; simp
theorem n32_byte (x : Nat) : IntKind.u32.wrap (x : Int) = n32 (UInt32.ofNat x) := by rw [n32_ofNat, IntKind.wrap_u32']; omega
theorem n32_tdiv (x : UInt32) (n : Nat) : IntKind.u32.wrap ((n32 x).tdiv (2 ^ n)) = n32 (shr x n) := by
 rw [Int.tdiv_eq_ediv_of_nonneg (n32_bd x).1, n32_shr, IntKind.wrap_u32']
 have := n32_bd (shr x n)
 omega
theorem info_u32 : (Tryz.prog.info? 141).map (fun i => (i.zero, i.size, i.bytes)) = some (some (.int .u32 0), 1, 4) := by kernel_rfl
set_option maxRecDepth 100000 in
set_option maxHeartbeats 4000000 in
theorem rturn_any (h : List UInt32) (hh : h.length = 8) (AH AB AK : Option Addr) (b : List Nat) (cH cB cK : Nat) (w : World) (hH : Arr w w.heap.size AH 8 (u32s h)) (hA : Arr w w.heap.size AB 64 (u8s b)) (hK : Arr w w.heap.size AK 64 (u32s kk)) (hb : IsB b) :
    Calls Tryz.prog 151 #[.slice AH 8 cH, .slice AB 64 cB, .slice AK 64 cK] w fun e w' => ∃ g c, e = .returned (.slice (some ⟨g, 0, none⟩) 8 c) ∧ Below w.heap.size w w' ∧ w.heap.size ≤ g ∧ Pre32 w' g 141 (turnS h b) := by
  have hmk : ∀ w, (Instr.makeSlice 178 (.int .i64 64) (.int .i64 64)).run Tryz.prog w = .ok (.slice (some ⟨w.heap.size, 0, none⟩) 64 64) (w.alloc (.cells (z64.map v32).toArray 141)) := fun w => by
    obtain ⟨i0, hi0, hz0, hz1, hz2⟩ := info_parts info_u32
    have := run_makeSlice (P := Tryz.prog) w 178 141 i0 _ Tryz.underlying178 hi0 hz0 .i64 .i64 64 64 (by omega) (by omega) (by rw [hz1]; decide) (by rw [hz2]; decide) (by omega)
    have hz : madeCells (Value.int .u32 0).cells 64 = (z64.map v32).toArray := by kernel_rfl
    rw [hz1, show (64 : Int).toNat = 64 from rfl, Nat.mul_one, hz] at this
    exact this
  obtain ⟨ZZ, hZZ⟩ : ∃ Z, Z = z64.map v32 := ⟨_, rfl⟩
  rw [← hZZ] at hmk
  have HhH := hideP hH; have HhA := hideP hA; have HhK := hideP hK; have Hhb := hideP hb; have Hhh := hideP hh; have HhZZ := hideP hZZ; clear hH hA hK hb hh hZZ
  go_enter Tryz.func151, Tryz.ntmps151
  go_wp2_with fail
  clear hmk
  obtain ⟨w1, hw1⟩ : ∃ w1, w1 = w.alloc (Obj.cells ZZ.toArray 141) := ⟨_, rfl⟩
  have d := hideP (show Row32 w1 w.heap.size 141 z64 by rw [hw1, HhZZ.out]; exact Row.new w _ _)
  have cb := hideP (show Below w.heap.size w w1 by rw [hw1]; exact below_new _ _)
  rw [← hw1]
  clear hw1
  go_loopw [8] (fun v8 wr => ∃ (k : Nat) (l : List UInt32), k ≤ 16 ∧ v8 = .int .i64 k ∧ Hid (l.length = 64 ∧ (∀ j, j < k → l.getD j 0 = wrd b j) ∧ (∀ j, k ≤ j → l.getD j 0 = 0) ∧ Row32 wr w.heap.size 141 l ∧ Below w.heap.size w wr)) (fun v8 _ => 16 - (intOf v8).toNat)
  case atStart => exact ⟨0, z64, by omega, rfl, rfl, fun j hj => by omega, fun j hj => by unfold z64 List.getD; rw [List.getElem?_replicate]; split <;> rfl, d.out, cb.out⟩
  case round =>
    obtain ⟨k, l, hk, rfl, hV⟩ := hrel
    clear d cb
    by_cases hlt : k < 16
    · have t' : decide ((k : Int) < 16) = true := by simp; omega
      go_wp2_with fail
      go_loopw [9] (fun v9 wr => ∃ (n : Nat) (l : List UInt32), n ≤ 4 ∧ v9 = .int .i64 n ∧ Hid (l.length = 64 ∧ (∀ j, j < k → l.getD j 0 = wrd b j) ∧ l.getD k 0 = qw b k n ∧ (∀ j, k < j → l.getD j 0 = 0) ∧ Row32 wr w.heap.size 141 l ∧ Below w.heap.size w wr)) (fun v9 _ => 4 - (intOf v9).toNat)
      case atStart => exact ⟨0, l, by omega, rfl, hV.out.1, hV.out.2.1, hV.out.2.2.1 k (Nat.le_refl _), fun j hj => hV.out.2.2.1 j (by omega), hV.out.2.2.2⟩
      case round =>
        clear hV l
        obtain ⟨n, l, hn, rfl, hV⟩ := hrel
        by_cases hlt2 : n < 4
        · have t2' : decide ((n : Int) < 4) = true := by simp; omega
          obtain ⟨g, off, rfl, hg, hc⟩ := (HhA.out.below hV.out.2.2.2.2.2) (by omega)
          have k0 := hc (4 * k + n) (by omega)
          unfold u8s at k0
          have k1 := Row32.cell hV.out.2.2.2.2.1 k (by rw [hV.out.1]; omega)
          rw [hV.out.2.2.1] at k1
          unfold v32 at k1
          have hyw := hideP (show 256 * qw b k n + UInt32.ofNat (b.getD (4 * k + n) 0) = qw b k (n + 1) from rfl)
          obtain ⟨x0, e0⟩ : ∃ x, x = b.getD (4 * k + n) 0 := ⟨_, rfl⟩
          obtain ⟨x1, e1⟩ : ∃ x, x = qw b k n := ⟨_, rfl⟩
          rw [← e0] at k0 hyw
          rw [← e1] at k1 hyw
          have rb := n32_byte x0
          have rm := n32_mul256
          have ra := n32_add
          have i0 : (0 : Int) ≤ 4 * (k : Int) + (n : Int) := by omega
          have i1 : 4 * (k : Int) + (n : Int) < 64 := by omega
          have i8 : (0 : Int) ≤ (k : Int) := by omega
          have i9 : (k : Int) < 64 := by omega
          have n0 : (4 * (k : Int) + (n : Int)).toNat = 4 * k + n := by omega
          have m0 : IntKind.i64.wrap (4 * (k : Int)) = 4 * (k : Int) := IntWalk.i64_in _ (by omega)
          have m1 : IntKind.i64.wrap (4 * (k : Int) + (n : Int)) = 4 * (k : Int) + (n : Int) := IntWalk.i64_in _ (by omega)
          clear hc e0 e1
          have Hhg := hideP hg; clear hg
          go_wp2_with fail
          refine wp_region_eager 17 [(true, 0), (true, 1), (true, 2), (true, 3), (true, 4), (true, 5), (true, 6), (true, 7), (true, 8), (true, 9), (true, 10), (true, 11), (true, 12), (true, 13), (true, 14), (true, 15), (true, 16)] (by kernel_rfl) (by kernel_rfl) ?_
          simp only [pick, List.map_cons, List.map_nil, nthO_zero, nthO_succ]
          repeat (first
            | (refine wpPlan_skipK (by rfl) (fun K hK => ?_); go_simp; refine hK _ ?_; clear hK K)
            | (refine wpPlan_valK (by rfl) (fun K hK => ?_); apply Exists.intro; refine ⟨fun W hW => ?_, ?_⟩; (focus (have hs0 := hW.cell k0; have hs1 := hW.cell k1; go_simp; (try rfl); done)); go_simp; refine hK _ ?_; clear hK K))
          refine wpPlan_nil (fun W1 hW0 => ?_)
          simp only [List.drop_succ_cons, List.drop_zero, List.drop_nil]
          obtain ⟨y, hy⟩ : ∃ y, y = 256 * x1 + UInt32.ofNat x0 := ⟨_, rfl⟩
          rw [← hy] at hyw ⊢
          clear hy
          have c2 := Row.ext hV.out.2.2.2.2.1 hW0.drew_left
          have hs1 := Row32.cell c2 k (by rw [hV.out.1]; omega)
          have hs2 := Row.fz c2 k
          have C2 := hideP (Row32.set c2 k y)
          have cb := hideP ((below_ext hV.out.2.2.2.2.2 hW0.drew_left).setCell (p := ⟨w.heap.size, k, none⟩) (Nat.le_refl _) (v32 y))
          have hl := hideP hV.out.1
          have h1 := hideP hV.out.2.1
          have h2 := hideP hV.out.2.2.2.1
          clear c2 hW0 hV k0 k1 rb rm ra i0 i1 n0 m0 m1
          go_wp2_with fail
          clear hs1 hs2
          go_roundw
          case rel =>
            have gs : ∀ j, (l.set k y).getD j 0 = if k = j then y else l.getD j 0 := fun j => by
              unfold List.getD
              rw [List.getElem?_set]
              by_cases e : k = j
              · subst e; rw [if_pos rfl, if_pos rfl, if_pos (by rw [hl.out]; omega)]; rfl
              · rw [if_neg e, if_neg e]
            refine ⟨n + 1, l.set k y, by omega, by go_num, by rw [List.length_set]; exact hl.out, fun j hj => by rw [gs, if_neg (by omega)]; exact h1.out j hj, by rw [gs, if_pos rfl]; exact hyw.out, fun j hj => by rw [gs, if_neg (by omega)]; exact h2.out j hj, C2.out, cb.out⟩
          case measure => simp [intOf]; omega
        · have t2' : decide ((n : Int) < 4) = false := by simp; omega
          have hn4 : n = 4 := by omega
          have h3 := hV.out.2.2.1
          rw [hn4, qw_four] at h3
          have H3 := hideP h3
          clear h3 hn4
          go_wp2_with fail
          go_roundw
          case rel =>
            refine ⟨k + 1, l, by omega, by go_num, hV.out.1, fun j hj => ?_, fun j hj => hV.out.2.2.2.1 j (by omega), hV.out.2.2.2.2⟩
            by_cases e : j = k
            · subst e; rw [H3.out, wrd_lo hlt]
            · exact hV.out.2.1 j (by omega)
          case measure => simp [intOf]; omega
    · have t' : decide ((k : Int) < 16) = false := by simp; omega
      have hkk : k = 16 := by omega
      have hA2 := hideP (show ∀ j, j < 16 → l.getD j 0 = wrd b j by have := hV.out.2.1; rwa [hkk] at this)
      have hV2 := hideP (And.intro hV.out.1 hV.out.2.2.2)
      clear hV hkk hlt hk
      go_wp2_with fail
      go_loopw [10] (fun v10 wr => ∃ (k : Nat) (l : List UInt32), 16 ≤ k ∧ k ≤ 64 ∧ v10 = .int .i64 k ∧ Hid (l.length = 64 ∧ (∀ j, j < k → l.getD j 0 = wrd b j) ∧ Row32 wr w.heap.size 141 l ∧ Below w.heap.size w wr)) (fun v10 _ => 64 - (intOf v10).toNat)
      case atStart => exact ⟨16, l, by omega, by omega, rfl, hV2.out.1, hA2.out, hV2.out.2.1, hV2.out.2.2⟩
      case round =>
        clear hV2 hA2 l
        obtain ⟨k2, l, hk0, hk, rfl, hV⟩ := hrel
        by_cases hlt : k2 < 64
        · have t2' : decide ((k2 : Int) < 64) = true := by simp; omega
          have hl := hV.out.1
          have k15 := Row32.cell hV.out.2.2.1 (k2 - 15) (by omega)
          have kx2 := Row32.cell hV.out.2.2.1 (k2 - 2) (by omega)
          have k16 := Row32.cell hV.out.2.2.1 (k2 - 16) (by omega)
          have k7 := Row32.cell hV.out.2.2.1 (k2 - 7) (by omega)
          rw [hV.out.2.1 (k2 - 15) (by omega)] at k15
          rw [hV.out.2.1 (k2 - 2) (by omega)] at kx2
          rw [hV.out.2.1 (k2 - 16) (by omega)] at k16
          rw [hV.out.2.1 (k2 - 7) (by omega)] at k7
          unfold v32 at k15 kx2 k16 k7
          have hy := hideP (wrd_hi (b := b) hk0)
          unfold s0 s1 at hy
          obtain ⟨x15, e15⟩ : ∃ x, x = wrd b (k2 - 15) := ⟨_, rfl⟩
          obtain ⟨x2, e2⟩ : ∃ x, x = wrd b (k2 - 2) := ⟨_, rfl⟩
          obtain ⟨x16, e16⟩ : ∃ x, x = wrd b (k2 - 16) := ⟨_, rfl⟩
          obtain ⟨x7, e7⟩ : ∃ x, x = wrd b (k2 - 7) := ⟨_, rfl⟩
          rw [← e15, ← e2, ← e16, ← e7] at hy
          rw [← e15] at k15
          rw [← e2] at kx2
          rw [← e16] at k16
          rw [← e7] at k7
          have i0 : (15 : Int) ≤ (k2 : Int) := by omega
          have i1 : (k2 : Int) - 15 < 64 := by omega
          have i2 : (2 : Int) ≤ (k2 : Int) := by omega
          have i3 : (k2 : Int) - 2 < 64 := by omega
          have i4 : (16 : Int) ≤ (k2 : Int) := by omega
          have i5 : (k2 : Int) - 16 < 64 := by omega
          have i6 : (7 : Int) ≤ (k2 : Int) := by omega
          have i7 : (k2 : Int) - 7 < 64 := by omega
          have i8 : (0 : Int) ≤ (k2 : Int) := by omega
          have i9 : (k2 : Int) < 64 := by omega
          have j0 : (0 : Int) ≤ (k2 : Int) - 15 := by omega
          have j1 : (0 : Int) ≤ (k2 : Int) - 2 := by omega
          have j2 : (0 : Int) ≤ (k2 : Int) - 16 := by omega
          have j3 : (0 : Int) ≤ (k2 : Int) - 7 := by omega
          have n0 : ((k2 : Int) - 15).toNat = k2 - 15 := by omega
          have n1 : ((k2 : Int) - 2).toNat = k2 - 2 := by omega
          have n2 : ((k2 : Int) - 16).toNat = k2 - 16 := by omega
          have n3 : ((k2 : Int) - 7).toNat = k2 - 7 := by omega
          have m0 : IntKind.i64.wrap ((k2 : Int) - 15) = (k2 : Int) - 15 := IntWalk.i64_in _ (by omega)
          have m1 : IntKind.i64.wrap ((k2 : Int) - 2) = (k2 : Int) - 2 := IntWalk.i64_in _ (by omega)
          have m2 : IntKind.i64.wrap ((k2 : Int) - 16) = (k2 : Int) - 16 := IntWalk.i64_in _ (by omega)
          have m3 : IntKind.i64.wrap ((k2 : Int) - 7) = (k2 : Int) - 7 := IntWalk.i64_in _ (by omega)
          have r7 := hideP (fun x => turned_any x 7 (by omega))
          have r18 := hideP (fun x => turned_any x 18 (by omega))
          have r17 := hideP (fun x => turned_any x 17 (by omega))
          have r19 := hideP (fun x => turned_any x 19 (by omega))
          have rx := n32_xor
          have ra := n32_add
          have rs3 : ∀ x, IntKind.u32.wrap ((n32 x).tdiv 8) = n32 (shr x 3) := fun x => n32_tdiv x 3
          have rs10 : ∀ x, IntKind.u32.wrap ((n32 x).tdiv 1024) = n32 (shr x 10) := fun x => n32_tdiv x 10
          have rp := fun x => (n32_bd x).1
          clear e15 e2 e16 e7
          have Hhl := hideP hl; clear hl
          go_wp2_with fail
          refine wp_region_eager 12 [(true, 0), (true, 1), (true, 2), (true, 3), (true, 4), (true, 5), (true, 6), (true, 7), (true, 8), (true, 9), (true, 10), (true, 11)] (by kernel_rfl) (by kernel_rfl) ?_
          simp only [pick, List.map_cons, List.map_nil, nthO_zero, nthO_succ]
          repeat (first
            | (refine wpPlan_skipK (by rfl) (fun K hK => ?_); go_simp; refine hK _ ?_; clear hK K)
            | (refine wpPlan_valK (by rfl) (fun K hK => ?_); apply Exists.intro; refine ⟨fun W hW => ?_, ?_⟩; (focus (have hs0 := hW.cell k15; have hs1 := hW.cell kx2; go_simp; (try rfl); done)); go_simp; refine hK _ ?_; clear hK K))
          refine wpPlan_nil (fun W1 hW0 => ?_)
          simp only [List.drop_succ_cons, List.drop_zero, List.drop_nil]
          replace k16 := hW0.drew_left.cell k16
          replace k7 := hW0.drew_left.cell k7
          have C2 := hideP (Row.ext hV.out.2.2.1 hW0.drew_left)
          have cb := hideP (below_ext hV.out.2.2.2 hW0.drew_left)
          have hall := hideP hV.out.2.1
          clear hV hW0 k15 kx2
          go_wp2_with fail
          refine wp_region_eager 32 [(true, 0), (true, 1), (true, 2), (true, 3), (true, 4), (true, 5), (true, 6), (true, 7), (true, 8), (true, 9), (true, 10), (true, 11), (true, 12), (true, 13), (true, 14), (true, 15), (true, 16), (true, 17), (true, 18), (true, 19), (true, 20), (true, 21), (true, 22), (true, 23), (true, 24), (true, 25), (true, 26), (true, 27), (true, 28), (true, 29), (true, 30), (true, 31)] (by kernel_rfl) (by kernel_rfl) ?_
          simp only [pick, List.map_cons, List.map_nil, nthO_zero, nthO_succ]
          repeat (first
            | (refine wpPlan_skipK (by rfl) (fun K hK => ?_); go_simp; refine hK _ ?_; clear hK K)
            | (refine wpPlan_valK (by rfl) (fun K hK => ?_); apply Exists.intro; refine ⟨fun W hW => ?_, ?_⟩; (focus (have hs0 := hW.cell k16; have hs1 := hW.cell k7; go_simp; (try rfl); done)); go_simp; refine hK _ ?_; clear hK K)
            | (refine wpPlan_callK (.int .u32 (n32 (rotr x15 7))) 157 #[.int .u32 (n32 x15), .int .u64 7] (by rfl) ?_ (fun W hW => (r7.out x15 W).mono fun e w' h => ⟨h.1, by rw [← h.2]; exact Ext.refl _⟩) (fun K hK => ?_); (focus (intro W; go_simp; done)); go_simp; refine hK _ ?_; clear hK K)
            | (refine wpPlan_callK (.int .u32 (n32 (rotr x15 18))) 157 #[.int .u32 (n32 x15), .int .u64 18] (by rfl) ?_ (fun W hW => (r18.out x15 W).mono fun e w' h => ⟨h.1, by rw [← h.2]; exact Ext.refl _⟩) (fun K hK => ?_); (focus (intro W; go_simp; done)); go_simp; refine hK _ ?_; clear hK K)
            | (refine wpPlan_callK (.int .u32 (n32 (rotr x2 17))) 157 #[.int .u32 (n32 x2), .int .u64 17] (by rfl) ?_ (fun W hW => (r17.out x2 W).mono fun e w' h => ⟨h.1, by rw [← h.2]; exact Ext.refl _⟩) (fun K hK => ?_); (focus (intro W; go_simp; done)); go_simp; refine hK _ ?_; clear hK K)
            | (refine wpPlan_callK (.int .u32 (n32 (rotr x2 19))) 157 #[.int .u32 (n32 x2), .int .u64 19] (by rfl) ?_ (fun W hW => (r19.out x2 W).mono fun e w' h => ⟨h.1, by rw [← h.2]; exact Ext.refl _⟩) (fun K hK => ?_); (focus (intro W; go_simp; done)); go_simp; refine hK _ ?_; clear hK K))
          refine wpPlan_nil (fun W2 hW0 => ?_)
          simp only [List.drop_succ_cons, List.drop_zero, List.drop_nil]
          obtain ⟨y, hyy⟩ : ∃ y, y = x16 + (rotr x15 7 ^^^ rotr x15 18 ^^^ shr x15 3) + x7 + (rotr x2 17 ^^^ rotr x2 19 ^^^ shr x2 10) := ⟨_, rfl⟩
          have hyw := hideP (show y = wrd b k2 by rw [hy.out, hyy])
          rw [← hyy]
          clear hyy
          have c2 := C2.out.ext hW0.drew_left
          have hs1 := Row32.cell c2 k2 (by rw [Hhl.out]; omega)
          have hs2 := Row.fz c2 k2
          replace C2 := hideP (Row32.set c2 k2 y)
          replace cb := hideP ((below_ext cb.out hW0.drew_left).setCell (p := ⟨w.heap.size, k2, none⟩) (Nat.le_refl _) (v32 y))
          clear c2 hW0 k16 k7 rx ra rs3 rs10 rp r7 r18 r17 r19 m0 m1 m2 m3 n0 n1 n2 n3 i1 i3 i5 i7 j0 j1 j2 j3
          go_wp2_with fail
          clear hs1 hs2
          go_roundw
          case rel =>
            refine ⟨k2 + 1, l.set k2 y, by omega, by omega, by go_num, by rw [List.length_set]; exact Hhl.out, fun j hj => ?_, C2.out, cb.out⟩
            unfold List.getD
            rw [List.getElem?_set]
            by_cases e : k2 = j
            · subst e; rw [if_pos rfl, if_pos (by rw [Hhl.out]; omega)]; exact hyw.out
            · rw [if_neg e]; exact hall.out j (by omega)
          case measure => simp [intOf]; omega
        · have t2' : decide ((k2 : Int) < 64) = false := by simp; omega
          have hkk : k2 = 64 := by omega
          have hall := hideP (show ∀ j, j < 64 → l.getD j 0 = wrd b j by have := hV.out.2.1; rwa [hkk] at this)
          have d := hideP hV.out.2.2.1
          have cb := hideP hV.out.2.2.2
          have hl := hideP hV.out.1
          clear hV hkk hlt hk hk0
          obtain ⟨w2, hw2⟩ : ∃ w2, w2 = wr := ⟨_, rfl⟩
          rw [← hw2] at d cb ⊢
          clear hw2
          obtain ⟨i0, hi0, hz0, hz1, hz2⟩ := info_parts info_u32
          have hown := World.ownsRow_lit (base := w2.heap.size) (e := 141) (size := 1) w2 #[] 0 (Nat.le_refl _) (Nat.zero_le _) rfl
          have aH := ((HhH.out.below cb.out).more cb.out.size).after (below_new w2 (Obj.cells #[] 141))
          have b1 : w2.heap.size ≤ (w2.alloc (Obj.cells #[] 141)).heap.size := by simp
          go_wp2_with (at_builtin; refine wpList_append_arr (w2.alloc (Obj.cells #[] 141)) rfl (.tmp 92) (.tmp 93) 178 rfl w2.heap.size 141 i0 _ 4 Tryz.underlying178 hi0 hz0 hz1 hz2 rfl (.slice (some ⟨w2.heap.size, 0, none⟩) 0 0) 0 _ rfl hown _ AH 8 cH (u32s h) rfl aH (fun _ => rfl) (by unfold maxLen; omega) (by omega) b1 ?_; intro A3 c3 w3 hown3 hg3 hat3)
          have hb3 : Below w2.heap.size w2 w3 := (below_new _ _).trans (below_own hown hg3 (Nat.le_refl _) b1)
          have hmap : (List.range 8).map (u32s h) = h.map v32 := by
            refine List.ext_getElem? fun i => ?_
            rcases Nat.lt_or_ge i 8 with hi | hi
            · simp [u32s, List.getD, List.getElem?_eq_getElem (show i < h.length by rw [Hhh.out]; exact hi), hi]
            · rw [List.getElem?_eq_none (by simp; exact hi), List.getElem?_eq_none (by simp [Hhh.out]; exact hi)]
          have hown4 : w3.ownsRow w2.heap.size 141 1 (.slice A3 h.length c3) h.length (h.map v32) := by
            rw [Hhh.out, ← hmap]; simpa using hown3
          obtain ⟨gv, rfl, hgv, dv⟩ := Pre32.of_own hown4 (by rw [Hhh.out]; omega)
          have ltv := hideP (Nat.lt_of_lt_of_le (Row.lt d.out) hgv)
          replace d := hideP (Row.after d.out hb3)
          replace cb := hideP (bstep cb.out hb3)
          replace dv := hideP dv
          clear hb3 hmap hown4 hown3 hg3 hat3 hown aH b1 hgv hi0 hz0 hz1 hz2
          go_wp2_with fail
          go_loopw [13, 14] (fun v13 v14 wr => ∃ (k gv cv : Nat) (v : List UInt32), k ≤ 64 ∧ v13 = .slice (some ⟨gv, 0, none⟩) 8 cv ∧ v14 = .int .i64 k ∧ Hid (v = rnds h b k ∧ v.length = 8 ∧ Pre32 wr gv 141 v ∧ w.heap.size < gv ∧ Row32 wr w.heap.size 141 l ∧ Below w.heap.size w wr)) (fun _ v14 _ => 64 - (intOf v14).toNat)
          case atStart => exact ⟨0, gv, c3, h, by omega, by simp, rfl, rfl, Hhh.out, dv.out, ltv.out, d.out, cb.out⟩
          case round =>
            clear d cb dv ltv
            obtain ⟨k3, gv, cv, v, hk, rfl, rfl, hV⟩ := hrel
            by_cases hlt : k3 < 64
            · have t3' : decide ((k3 : Int) < 64) = true := by simp; omega
              obtain ⟨gk, ok, rfl, hgk, hck⟩ := (HhK.out.below hV.out.2.2.2.2.2) (by omega)
              have qk := hck k3 hlt
              unfold u32s at qk
              have r2 := hideP (fun x => turned_any x 2 (by omega))
              have r13 := hideP (fun x => turned_any x 13 (by omega))
              have r22 := hideP (fun x => turned_any x 22 (by omega))
              have r6 := hideP (fun x => turned_any x 6 (by omega))
              have r11 := hideP (fun x => turned_any x 11 (by omega))
              have r25 := hideP (fun x => turned_any x 25 (by omega))
              have q0 := hV.out.2.2.1.cell 0 (by rw [hV.out.2.1]; omega)
              have q1 := hV.out.2.2.1.cell 1 (by rw [hV.out.2.1]; omega)
              have q2 := hV.out.2.2.1.cell 2 (by rw [hV.out.2.1]; omega)
              have q3 := hV.out.2.2.1.cell 3 (by rw [hV.out.2.1]; omega)
              have q4 := hV.out.2.2.1.cell 4 (by rw [hV.out.2.1]; omega)
              have q5 := hV.out.2.2.1.cell 5 (by rw [hV.out.2.1]; omega)
              have q6 := hV.out.2.2.1.cell 6 (by rw [hV.out.2.1]; omega)
              have q7 := hV.out.2.2.1.cell 7 (by rw [hV.out.2.1]; omega)
              have qw := Row32.cell hV.out.2.2.2.2.1 k3 (by rw [hl.out]; exact hlt)
              rw [hall.out k3 hlt] at qw
              unfold v32 at q0 q1 q2 q3 q4 q5 q6 q7 qw qk
              have hE := hideP (show rnd v (kk.getD k3 0) (wrd b k3) = rnds h b (k3 + 1) by rw [hV.out.1]; rfl)
              unfold rnd one two at hE
              obtain ⟨y0, e0⟩ : ∃ x, x = v.getD 0 0 := ⟨_, rfl⟩
              obtain ⟨y1, e1⟩ : ∃ x, x = v.getD 1 0 := ⟨_, rfl⟩
              obtain ⟨y2, e2⟩ : ∃ x, x = v.getD 2 0 := ⟨_, rfl⟩
              obtain ⟨y3, e3⟩ : ∃ x, x = v.getD 3 0 := ⟨_, rfl⟩
              obtain ⟨y4, e4⟩ : ∃ x, x = v.getD 4 0 := ⟨_, rfl⟩
              obtain ⟨y5, e5⟩ : ∃ x, x = v.getD 5 0 := ⟨_, rfl⟩
              obtain ⟨y6, e6⟩ : ∃ x, x = v.getD 6 0 := ⟨_, rfl⟩
              obtain ⟨y7, e7⟩ : ∃ x, x = v.getD 7 0 := ⟨_, rfl⟩
              obtain ⟨zk, ek⟩ : ∃ x, x = kk.getD k3 0 := ⟨_, rfl⟩
              obtain ⟨zw, ew⟩ : ∃ x, x = wrd b k3 := ⟨_, rfl⟩
              rw [← e0, ← e1, ← e2, ← e3, ← e4, ← e5, ← e6, ← e7, ← ek, ← ew] at hE
              rw [← e0] at q0
              rw [← e1] at q1
              rw [← e2] at q2
              rw [← e3] at q3
              rw [← e4] at q4
              rw [← e5] at q5
              rw [← e6] at q6
              rw [← e7] at q7
              rw [← ek] at qk
              rw [← ew] at qw
              have dv := hideP hV.out.2.2.1
              have d := hideP hV.out.2.2.2.2.1
              have cb := hideP hV.out.2.2.2.2.2
              clear e0 e1 e2 e3 e4 e5 e6 e7 ek ew hck hV
              have i8 : (0 : Int) ≤ (k3 : Int) := by omega
              have i9 : (k3 : Int) < 64 := by omega
              have rx := n32_xor
              have rd := n32_and
              have ra := n32_add
              have rn := n32_not'
              have Hhgk := hideP hgk; clear hgk
              go_wp2_with fail
              refine wp_region_eager 17 [(true, 0), (true, 1), (true, 2), (true, 3), (true, 4), (true, 5), (true, 6), (true, 7), (true, 8), (true, 9), (true, 10), (true, 11), (true, 12), (true, 13), (true, 14), (true, 15), (true, 16)] (by kernel_rfl) (by kernel_rfl) ?_
              simp only [pick, List.map_cons, List.map_nil, nthO_zero, nthO_succ]
              repeat (first
                | (refine wpPlan_skipK (by rfl) (fun K hK => ?_); go_simp; refine hK _ ?_; clear hK K)
                | (refine wpPlan_valK (by rfl) (fun K hK => ?_); apply Exists.intro; refine ⟨fun W hW => ?_, ?_⟩; (focus (have hs0 := hW.cell q4; have hs1 := hW.cell q5; have hs2 := hW.cell q6; go_simp; (try rfl); done)); go_simp; refine hK _ ?_; clear hK K))
              refine wpPlan_nil (fun W1 hW0 => ?_)
              simp only [List.drop_succ_cons, List.drop_zero, List.drop_nil]
              replace q0 := hW0.drew_left.cell q0
              replace q1 := hW0.drew_left.cell q1
              replace q2 := hW0.drew_left.cell q2
              replace q3 := hW0.drew_left.cell q3
              replace q4 := hW0.drew_left.cell q4
              replace q5 := hW0.drew_left.cell q5
              replace q6 := hW0.drew_left.cell q6
              replace q7 := hW0.drew_left.cell q7
              replace qw := hW0.drew_left.cell qw
              replace qk := hW0.drew_left.cell qk
              replace dv := hideP (dv.out.ext hW0.drew_left)
              replace d := hideP (Row.ext d.out hW0.drew_left)
              replace cb := hideP (below_ext cb.out hW0.drew_left)
              clear hW0
              go_wp2_with fail
              refine wp_region_eager 31 [(true, 0), (true, 1), (true, 2), (true, 3), (true, 4), (true, 5), (true, 6), (true, 7), (true, 8), (true, 9), (true, 10), (true, 11), (true, 12), (true, 13), (true, 14), (true, 15), (true, 16), (true, 17), (true, 18), (true, 19), (true, 20), (true, 21), (true, 22), (true, 23), (true, 24), (true, 25), (true, 26), (true, 27), (true, 28), (true, 29), (true, 30)] (by kernel_rfl) (by kernel_rfl) ?_
              simp only [pick, List.map_cons, List.map_nil, nthO_zero, nthO_succ]
              repeat (first
                | (refine wpPlan_skipK (by rfl) (fun K hK => ?_); go_simp; refine hK _ ?_; clear hK K)
                | (refine wpPlan_valK (by rfl) (fun K hK => ?_); apply Exists.intro; refine ⟨fun W hW => ?_, ?_⟩; (focus (have hs0 := hW.cell q7; have hs1 := hW.cell q4; have hs2 := hW.cell qk; have hs3 := hW.cell qw; go_simp; (try rfl); done)); go_simp; refine hK _ ?_; clear hK K)
                | (refine wpPlan_callK (.int .u32 (n32 (rotr y4 6))) 157 #[.int .u32 (n32 y4), .int .u64 6] (by rfl) ?_ (fun W hW => (r6.out y4 W).mono fun e w' h => ⟨h.1, by rw [← h.2]; exact Ext.refl _⟩) (fun K hK => ?_); (focus (intro W; go_simp; done)); go_simp; refine hK _ ?_; clear hK K)
                | (refine wpPlan_callK (.int .u32 (n32 (rotr y4 11))) 157 #[.int .u32 (n32 y4), .int .u64 11] (by rfl) ?_ (fun W hW => (r11.out y4 W).mono fun e w' h => ⟨h.1, by rw [← h.2]; exact Ext.refl _⟩) (fun K hK => ?_); (focus (intro W; go_simp; done)); go_simp; refine hK _ ?_; clear hK K)
                | (refine wpPlan_callK (.int .u32 (n32 (rotr y4 25))) 157 #[.int .u32 (n32 y4), .int .u64 25] (by rfl) ?_ (fun W hW => (r25.out y4 W).mono fun e w' h => ⟨h.1, by rw [← h.2]; exact Ext.refl _⟩) (fun K hK => ?_); (focus (intro W; go_simp; done)); go_simp; refine hK _ ?_; clear hK K))
              refine wpPlan_nil (fun W2 hW0 => ?_)
              simp only [List.drop_succ_cons, List.drop_zero, List.drop_nil]
              replace q0 := hW0.drew_left.cell q0
              replace q1 := hW0.drew_left.cell q1
              replace q2 := hW0.drew_left.cell q2
              replace q3 := hW0.drew_left.cell q3
              replace q4 := hW0.drew_left.cell q4
              replace q5 := hW0.drew_left.cell q5
              replace q6 := hW0.drew_left.cell q6
              replace q7 := hW0.drew_left.cell q7
              replace qw := hW0.drew_left.cell qw
              replace qk := hW0.drew_left.cell qk
              replace dv := hideP (dv.out.ext hW0.drew_left)
              replace d := hideP (Row.ext d.out hW0.drew_left)
              replace cb := hideP (below_ext cb.out hW0.drew_left)
              clear hW0
              obtain ⟨yo, eo⟩ : ∃ x, x = y7 + (rotr y4 6 ^^^ rotr y4 11 ^^^ rotr y4 25) + (y4 &&& y5 ^^^ ~~~ y4 &&& y6) + zk + zw := ⟨_, rfl⟩
              rw [← eo] at hE ⊢
              clear eo
              go_wp2_with fail
              refine wp_region_eager 24 [(true, 0), (true, 1), (true, 2), (true, 3), (true, 4), (true, 5), (true, 6), (true, 7), (true, 8), (true, 9), (true, 10), (true, 11), (true, 12), (true, 13), (true, 14), (true, 15), (true, 16), (true, 17), (true, 18), (true, 19), (true, 20), (true, 21), (true, 22), (true, 23)] (by kernel_rfl) (by kernel_rfl) ?_
              simp only [pick, List.map_cons, List.map_nil, nthO_zero, nthO_succ]
              repeat (first
                | (refine wpPlan_skipK (by rfl) (fun K hK => ?_); go_simp; refine hK _ ?_; clear hK K)
                | (refine wpPlan_valK (by rfl) (fun K hK => ?_); apply Exists.intro; refine ⟨fun W hW => ?_, ?_⟩; (focus (have hs0 := hW.cell q0; have hs1 := hW.cell q1; have hs2 := hW.cell q2; go_simp; (try rfl); done)); go_simp; refine hK _ ?_; clear hK K))
              refine wpPlan_nil (fun W3 hW0 => ?_)
              simp only [List.drop_succ_cons, List.drop_zero, List.drop_nil]
              replace q0 := hW0.drew_left.cell q0
              replace q1 := hW0.drew_left.cell q1
              replace q2 := hW0.drew_left.cell q2
              replace q3 := hW0.drew_left.cell q3
              replace q4 := hW0.drew_left.cell q4
              replace q5 := hW0.drew_left.cell q5
              replace q6 := hW0.drew_left.cell q6
              replace q7 := hW0.drew_left.cell q7
              replace qw := hW0.drew_left.cell qw
              replace qk := hW0.drew_left.cell qk
              replace dv := hideP (dv.out.ext hW0.drew_left)
              replace d := hideP (Row.ext d.out hW0.drew_left)
              replace cb := hideP (below_ext cb.out hW0.drew_left)
              clear hW0
              go_wp2_with fail
              refine wp_region_eager 17 [(true, 0), (true, 1), (true, 2), (true, 3), (true, 4), (true, 5), (true, 6), (true, 7), (true, 8), (true, 9), (true, 10), (true, 11), (true, 12), (true, 13), (true, 14), (true, 15), (true, 16)] (by kernel_rfl) (by kernel_rfl) ?_
              simp only [pick, List.map_cons, List.map_nil, nthO_zero, nthO_succ]
              repeat (first
                | (refine wpPlan_skipK (by rfl) (fun K hK => ?_); go_simp; refine hK _ ?_; clear hK K)
                | (refine wpPlan_valK (by rfl) (fun K hK => ?_); apply Exists.intro; refine ⟨fun W hW => ?_, ?_⟩; (focus (have hs0 := hW.cell q0; go_simp; (try rfl); done)); go_simp; refine hK _ ?_; clear hK K)
                | (refine wpPlan_callK (.int .u32 (n32 (rotr y0 2))) 157 #[.int .u32 (n32 y0), .int .u64 2] (by rfl) ?_ (fun W hW => (r2.out y0 W).mono fun e w' h => ⟨h.1, by rw [← h.2]; exact Ext.refl _⟩) (fun K hK => ?_); (focus (intro W; go_simp; done)); go_simp; refine hK _ ?_; clear hK K)
                | (refine wpPlan_callK (.int .u32 (n32 (rotr y0 13))) 157 #[.int .u32 (n32 y0), .int .u64 13] (by rfl) ?_ (fun W hW => (r13.out y0 W).mono fun e w' h => ⟨h.1, by rw [← h.2]; exact Ext.refl _⟩) (fun K hK => ?_); (focus (intro W; go_simp; done)); go_simp; refine hK _ ?_; clear hK K)
                | (refine wpPlan_callK (.int .u32 (n32 (rotr y0 22))) 157 #[.int .u32 (n32 y0), .int .u64 22] (by rfl) ?_ (fun W hW => (r22.out y0 W).mono fun e w' h => ⟨h.1, by rw [← h.2]; exact Ext.refl _⟩) (fun K hK => ?_); (focus (intro W; go_simp; done)); go_simp; refine hK _ ?_; clear hK K))
              refine wpPlan_nil (fun W4 hW0 => ?_)
              simp only [List.drop_succ_cons, List.drop_zero, List.drop_nil]
              replace q0 := hW0.drew_left.cell q0
              replace q1 := hW0.drew_left.cell q1
              replace q2 := hW0.drew_left.cell q2
              replace q3 := hW0.drew_left.cell q3
              replace q4 := hW0.drew_left.cell q4
              replace q5 := hW0.drew_left.cell q5
              replace q6 := hW0.drew_left.cell q6
              replace q7 := hW0.drew_left.cell q7
              replace qw := hW0.drew_left.cell qw
              replace qk := hW0.drew_left.cell qk
              replace dv := hideP (dv.out.ext hW0.drew_left)
              replace d := hideP (Row.ext d.out hW0.drew_left)
              replace cb := hideP (below_ext cb.out hW0.drew_left)
              clear hW0
              go_wp2_with fail
              refine wp_region_eager 27 [(true, 0), (true, 1), (true, 2), (true, 3), (true, 4), (true, 5), (true, 6), (true, 7), (true, 8), (true, 9), (true, 10), (true, 11), (true, 12), (true, 13), (true, 14), (true, 15), (true, 16), (true, 17), (true, 18), (true, 19), (true, 20), (true, 21), (true, 22), (true, 23), (true, 24), (true, 25), (false, 26)] (by kernel_rfl) (by kernel_rfl) ?_
              simp only [pick, List.map_cons, List.map_nil, nthO_zero, nthO_succ]
              repeat (first
                | (refine wpPlan_skipK (by rfl) (fun K hK => ?_); go_simp; refine hK _ ?_; clear hK K)
                | (refine wpPlan_valK (by rfl) (fun K hK => ?_); apply Exists.intro; refine ⟨fun W hW => ?_, ?_⟩; (focus (have hs0 := hW.cell q0; have hs1 := hW.cell q1; have hs2 := hW.cell q2; have hs3 := hW.cell q3; have hs4 := hW.cell q4; have hs5 := hW.cell q5; have hs6 := hW.cell q6; go_simp; (try rfl); done)); go_simp; refine hK _ ?_; clear hK K))
              obtain ⟨Y, hY⟩ : ∃ Y, Y = rnds h b (k3 + 1) := ⟨_, rfl⟩
              rw [← hY] at hE
              refine wpPlan_buildK (by rfl) (fun W hW2 => ?_)
              refine ⟨.slice (some ⟨W.heap.size, 0, none⟩) 8 8, W.alloc (.cells (Y.map v32).toArray 141), ⟨by rw [← hE.out]; go_simp; (try rfl), Ext.alloc _ _⟩, fun K hK => ?_⟩
              go_simp
              refine hK _ ?_
              clear hK K
              refine wpPlan_nil (fun W3 hW3 => ?_)
              simp only [List.drop_succ_cons, List.drop_zero, List.drop_nil]
              have hX := (hW2.drew_left.trans (Ext.alloc W (.cells (Y.map v32).toArray 141))).trans hW3
              have dn := hideP (Pre32.of_row (l := Y) (Row.ext (Row.new W 141 (Y.map v32)) hW3))
              have ltn := hideP (show w.heap.size < W.heap.size from Nat.lt_of_lt_of_le (Row.lt d.out) hW2.drew_left.size)
              replace d := hideP (Row.ext d.out hX)
              replace cb := hideP (below_ext cb.out hX)
              have hYl := hideP (show Y.length = 8 by rw [← hE.out]; rfl)
              have HhY := hideP hY; clear hY
              clear hX hW2 hW3 q0 q1 q2 q3 q4 q5 q6 q7 qw qk dv rx rd ra rn r2 r13 r22 r6 r11 r25
              go_wp2_with fail
              go_roundw
              case rel => exact ⟨k3 + 1, _, _, Y, by omega, rfl, by go_num, HhY.out, hYl.out, dn.out, ltn.out, d.out, cb.out⟩
              case measure => simp [intOf]; omega
            · have t3' : decide ((k3 : Int) < 64) = false := by simp; omega
              have hkk : k3 = 64 := by omega
              have hv := hideP (show v = rnds h b 64 by rw [hV.out.1, hkk])
              have dv := hideP hV.out.2.2.1
              have ltv := hideP hV.out.2.2.2.1
              have cb := hideP hV.out.2.2.2.2.2
              have hvl := hideP hV.out.2.1
              clear hV hkk hlt hk hall
              go_wp2_with fail
              go_loopw [19] (fun v19 wr => ∃ (j : Nat) (u : List UInt32), j ≤ 8 ∧ v19 = .int .i64 j ∧ Hid (u.length = 8 ∧ (∀ i, u.getD i 0 = if i < j then v.getD i 0 + h.getD i 0 else v.getD i 0) ∧ Pre32 wr gv 141 u ∧ Below w.heap.size w wr)) (fun v19 _ => 8 - (intOf v19).toNat)
              case atStart => exact ⟨0, v, by omega, rfl, hvl.out, fun i => by simp, dv.out, cb.out⟩
              case round =>
                clear dv cb
                obtain ⟨j, u, hj, rfl, hV⟩ := hrel
                by_cases hlt : j < 8
                · have t4' : decide ((j : Int) < 8) = true := by simp; omega
                  obtain ⟨gh, oh, rfl, hgh, hch⟩ := (HhH.out.below hV.out.2.2.2) (by omega)
                  have q1 := hV.out.2.2.1.cell j (by rw [hV.out.1]; omega)
                  have q2 := hch j hlt
                  unfold u32s at q2
                  unfold v32 at q1 q2
                  obtain ⟨x1, e1⟩ : ∃ x, x = u.getD j 0 := ⟨_, rfl⟩
                  obtain ⟨x2, e2⟩ : ∃ x, x = h.getD j 0 := ⟨_, rfl⟩
                  rw [← e1] at q1
                  rw [← e2] at q2
                  have i8 : (0 : Int) ≤ (j : Int) := by omega
                  have i9 : (j : Int) < 8 := by omega
                  have ra := n32_add
                  have He1 := hideP e1; have He2 := hideP e2; have Hhgh := hideP hgh; clear e1 e2 hgh
                  clear hch
                  go_wp2_with fail
                  refine wp_region_eager 12 [(true, 0), (true, 1), (true, 2), (true, 3), (true, 4), (true, 5), (true, 6), (true, 7), (true, 8), (true, 9), (true, 10), (true, 11)] (by kernel_rfl) (by kernel_rfl) ?_
                  simp only [pick, List.map_cons, List.map_nil, nthO_zero, nthO_succ]
                  repeat (first
                    | (refine wpPlan_skipK (by rfl) (fun K hK => ?_); go_simp; refine hK _ ?_; clear hK K)
                    | (refine wpPlan_valK (by rfl) (fun K hK => ?_); apply Exists.intro; refine ⟨fun W hW => ?_, ?_⟩; (focus (have hs0 := hW.cell q1; have hs1 := hW.cell q2; go_simp; (try rfl); done)); go_simp; refine hK _ ?_; clear hK K))
                  refine wpPlan_nil (fun W1 hW0 => ?_)
                  simp only [List.drop_succ_cons, List.drop_zero, List.drop_nil]
                  have d7 := hV.out.2.2.1.ext hW0.drew_left
                  have cb := hideP (below_ext hV.out.2.2.2 hW0.drew_left)
                  have hs1 := d7.cell j (by rw [hV.out.1]; omega)
                  have hs2 := d7.fz j
                  have D7 := hideP (d7.set j (x1 + x2) (by rw [hV.out.1]; exact hlt))
                  have hn := ltv.out
                  replace cb := hideP (cb.out.setCell (p := ⟨gv, j, none⟩) (by simp; omega) (v32 (x1 + x2)))
                  have hul := hideP hV.out.1
                  have hui := hideP hV.out.2.1
                  clear d7 hV hW0 q1 q2 ra hn
                  go_wp2_with fail
                  clear hs1 hs2
                  go_roundw
                  case rel =>
                    refine ⟨j + 1, u.set j (x1 + x2), by omega, by go_num, by rw [List.length_set]; exact hul.out, fun i => ?_, D7.out, cb.out⟩
                    unfold List.getD
                    rw [List.getElem?_set]
                    by_cases e : j = i
                    · subst e
                      rw [if_pos rfl, if_pos (by rw [hul.out]; exact hlt), if_pos (by omega)]
                      have := hui.out j
                      rw [if_neg (by omega)] at this
                      simp only [Option.getD_some]
                      rw [He1.out, He2.out, this]; rfl
                    · rw [if_neg e]
                      have := hui.out i
                      unfold List.getD at this
                      rw [this]
                      by_cases e2 : i < j
                      · rw [if_pos e2, if_pos (by omega)]
                      · rw [if_neg e2, if_neg (by omega)]
                  case measure => simp [intOf]; omega
                · have t4' : decide ((j : Int) < 8) = false := by simp; omega
                  have hjj : j = 8 := by omega
                  have hres : u = turnS h b := by
                    refine List.ext_getElem? fun i => ?_
                    unfold turnS
                    rcases Nat.lt_or_ge i 8 with hi | hi
                    · have := hV.out.2.1 i
                      rw [if_pos (by omega), hv.out] at this
                      unfold List.getD at this
                      rw [List.getElem?_eq_getElem (by rw [hV.out.1]; exact hi)] at this ⊢
                      simp [hi]; simpa [List.getD] using this
                    · rw [List.getElem?_eq_none (by rw [hV.out.1]; exact hi)]; simp [hi]
                  have d7 := hideP hV.out.2.2.1
                  rw [hres] at d7
                  have cb := hideP hV.out.2.2.2
                  clear hV hres hjj hlt hj
                  go_wp2_with fail
                  go_ret
                  exact ⟨gv, cv, rfl, cb.out, Nat.le_of_lt ltv.out, d7.out⟩
end Go.Proofs.YtedokpgkjcnoiaaGreat
