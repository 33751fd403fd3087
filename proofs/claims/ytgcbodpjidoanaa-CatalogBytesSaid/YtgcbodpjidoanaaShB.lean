/- ShB -/
import Derived.Test.YtgcbodpjidoanaaShA
import Derived.IntWalk
import Derived.Laws.MakeOwn
import Derived.Deep.DeepCutAuto
set_option linter.unusedVariables false
set_option linter.unusedSimpArgs false
namespace Go.Proofs.Ytgcbodpjidoanaa
open Go.RowKit
/-- a block whose first cells are these words -/
def Pre32 (w : World) (g : Nat) (t : TypeId) (l : List UInt32) : Prop := ∃ rest : List Value, Row w g t (l.map v32 ++ rest)
section
variable {w W : World} {g : Nat} {t : TypeId} {l : List UInt32}
theorem Pre32.cell (h : Pre32 w g t l) (i : Nat) (hi : i < l.length) : w.cell? ⟨g, i, none⟩ = some (v32 (l.getD i 0)) := by
  obtain ⟨r, h⟩ := h
  rw [Row.cell h i, List.getElem?_append_left (by simpa using hi)]; simp [List.getD, List.getElem?_eq_getElem hi]
theorem Pre32.fz (h : Pre32 w g t l) (i : Nat) : w.frozen? ⟨g, i, none⟩ = false := by obtain ⟨r, h⟩ := h; exact Row.fz h i
theorem Pre32.lt (h : Pre32 w g t l) : g < w.heap.size := by obtain ⟨r, h⟩ := h; exact Row.lt h
theorem Pre32.ext (h : Pre32 w g t l) (hW : Ext w W) : Pre32 W g t l := by obtain ⟨r, h⟩ := h; exact ⟨r, Row.ext h hW⟩
theorem Pre32.after (h : Pre32 w g t l) (hb : Below w.heap.size w W) : Pre32 W g t l := by obtain ⟨r, h⟩ := h; exact ⟨r, Row.after h hb⟩
theorem Pre32.set (h : Pre32 w g t l) (i : Nat) (x : UInt32) (hi : i < l.length) : Pre32 (w.setCell ⟨g, i, none⟩ (v32 x)) g t (l.set i x) := by
  obtain ⟨r, h⟩ := h
  refine ⟨r, ?_⟩
  have := Row.set h i (v32 x)
  rwa [List.set_append_left _ _ (by simpa using hi), ← List.map_set] at this
theorem Pre32.setOther (h : Pre32 w g t l) {a : Addr} (ha : g ≠ a.block) (v : Value) : Pre32 (w.setCell a v) g t l := by obtain ⟨r, h⟩ := h; exact ⟨r, Row.setOther h ha v⟩
theorem Pre32.of_row (h : Row32 w g t l) : Pre32 w g t l := ⟨[], by rw [List.append_nil]; exact h⟩
theorem Pre32.of_own {base : Nat} {A : Option Addr} {c : Nat} (h : w.ownsRow base t 1 (.slice A l.length c) l.length (l.map v32)) (hl : 0 < l.length) : ∃ g, A = some ⟨g, 0, none⟩ ∧ base ≤ g ∧ Pre32 w g t l := by
  rcases h.2 with ⟨he, h0⟩ | ⟨r, cap, cur, hv, hb, hh, hcap, hm, hs, ht⟩
  · omega
  · injection hv with hA _ _
    subst hA
    refine ⟨r, rfl, hb, cur.toList.drop l.length, ?_⟩
    unfold Row
    rw [← ht, Nat.mul_one, List.take_append_drop]
    simpa using hh
end
/-- the words of a slice -/
def u32s (l : List UInt32) (i : Nat) : Value := v32 (l.getD i 0)
theorem Pre32.arr {w : World} {g : Nat} {t : TypeId} {l : List UInt32} (h : Pre32 w g t l) (n : Nat) (hn : n ≤ l.length) : Arr w w.heap.size (some ⟨g, 0, none⟩) n (u32s l) := fun _ =>
  ⟨g, 0, rfl, h.lt, fun i hi => by rw [Nat.zero_add]; exact h.cell i (by omega)⟩
/-- a word under way -/
def qw (b : List Nat) (k : Nat) : Nat → UInt32
  | 0 => 0
  | n + 1 => 256 * qw b k n + UInt32.ofNat (b.getD (4 * k + n) 0)
theorem qw_four (b : List Nat) (k : Nat) : qw b k 4 = wd b k := by
  unfold wd qw qw qw qw qw
  apply UInt32.toNat_inj.1
  simp only [UInt32.toNat_add, UInt32.toNat_mul, UInt32.toNat_ofNat', Nat.add_zero]
  simp
  omega
theorem n32_mul256 (x : UInt32) : IntKind.u32.wrap (256 * n32 x) = n32 (256 * x) := by
  unfold n32; rw [IntKind.wrap_u32', UInt32.toNat_mul]; simp
theorem n32_byte (x : Nat) : IntKind.u32.wrap (x : Int) = n32 (UInt32.ofNat x) := by rw [n32_ofNat, IntKind.wrap_u32']; omega
theorem n32_tdiv (x : UInt32) (n : Nat) : IntKind.u32.wrap ((n32 x).tdiv (2 ^ n)) = n32 (shr x n) := by
  rw [Int.tdiv_eq_ediv_of_nonneg (n32_bd x).1, n32_shr, IntKind.wrap_u32']
  have := n32_bd (shr x n)
  omega
theorem info_u32 : (Try.prog.info? 283).map (fun i => (i.zero, i.size, i.bytes)) = some (some (.int .u32 0), 1, 4) := by kernel_rfl
set_option maxRecDepth 100000 in
set_option maxHeartbeats 4000000 in
theorem rturn_any (h : List UInt32) (hh : h.length = 8) (AH AB AK : Option Addr) (b : List Nat) (cH cB cK : Nat) (w : World) (hH : Arr w w.heap.size AH 8 (u32s h)) (hA : Arr w w.heap.size AB 64 (u8s b)) (hK : Arr w w.heap.size AK 64 (u32s kk)) (hb : IsB b) :
    Calls Try.prog 234 #[.slice AH 8 cH, .slice AB 64 cB, .slice AK 64 cK] w fun e w' => ∃ g c, e = .returned (.slice (some ⟨g, 0, none⟩) 8 c) ∧ Below w.heap.size w w' ∧ w.heap.size ≤ g ∧ Pre32 w' g 283 (turnS h b) := by
  have hmk : ∀ w, (Instr.makeSlice 249 (.int .i64 64) (.int .i64 64)).run Try.prog w = .ok (.slice (some ⟨w.heap.size, 0, none⟩) 64 64) (w.alloc (.cells (z64.map v32).toArray 283)) := fun w => by
    obtain ⟨i0, hi0, hz0, hz1, hz2⟩ := info_parts info_u32
    have := run_makeSlice (P := Try.prog) w 249 283 i0 _ Try.underlying249 hi0 hz0 .i64 .i64 64 64 (by omega) (by omega) (by rw [hz1]; decide) (by rw [hz2]; decide) (by omega)
    have hz : madeCells (Value.int .u32 0).cells 64 = (z64.map v32).toArray := by kernel_rfl
    rw [hz1, show (64 : Int).toNat = 64 from rfl, Nat.mul_one, hz] at this
    exact this
  obtain ⟨ZZ, hZZ⟩ : ∃ Z, Z = z64.map v32 := ⟨_, rfl⟩
  rw [← hZZ] at hmk
  have HhH := hideP hH; have HhA := hideP hA; have HhK := hideP hK; have Hhb := hideP hb; have Hhh := hideP hh; have HhZZ := hideP hZZ; clear hH hA hK hb hh hZZ
  go_enter Try.func234, Try.ntmps234
  go_wp2_with fail
  clear hmk
  obtain ⟨w1, hw1⟩ : ∃ w1, w1 = w.alloc (Obj.cells ZZ.toArray 283) := ⟨_, rfl⟩
  have d := hideP (show Row32 w1 w.heap.size 283 z64 by rw [hw1, HhZZ.out]; exact Row.new w _ _)
  have cb := hideP (show Below w.heap.size w w1 by rw [hw1]; exact below_new _ _)
  rw [← hw1]
  clear hw1
  go_loopw [8] (fun v8 wr => ∃ (k : Nat) (l : List UInt32), k ≤ 16 ∧ v8 = .int .i64 k ∧ Hid (l.length = 64 ∧ (∀ j, j < k → l.getD j 0 = wrd b j) ∧ (∀ j, k ≤ j → l.getD j 0 = 0) ∧ Row32 wr w.heap.size 283 l ∧ Below w.heap.size w wr)) (fun v8 _ => 16 - (intOf v8).toNat)
  case atStart => exact ⟨0, z64, by omega, rfl, rfl, fun j hj => by omega, fun j hj => by unfold z64 List.getD; rw [List.getElem?_replicate]; split <;> rfl, d.out, cb.out⟩
  case round =>
    obtain ⟨k, l, hk, rfl, hV⟩ := hrel
    clear d cb
    by_cases hlt : k < 16
    · have t' : decide ((k : Int) < 16) = true := by simp; omega
      go_wp2_with fail
      go_loopw [9] (fun v9 wr => ∃ (n : Nat) (l : List UInt32), n ≤ 4 ∧ v9 = .int .i64 n ∧ Hid (l.length = 64 ∧ (∀ j, j < k → l.getD j 0 = wrd b j) ∧ l.getD k 0 = qw b k n ∧ (∀ j, k < j → l.getD j 0 = 0) ∧ Row32 wr w.heap.size 283 l ∧ Below w.heap.size w wr)) (fun v9 _ => 4 - (intOf v9).toNat)
      case atStart => exact ⟨0, l, by omega, rfl, hV.out.1, hV.out.2.1, hV.out.2.2.1 k (Nat.le_refl _), fun j hj => hV.out.2.2.1 j (by omega), hV.out.2.2.2⟩
      case round =>
        clear hV l
        obtain ⟨n, l, hn, rfl, hV⟩ := hrel
        by_cases hlt2 : n < 4
        · have t2' : decide ((n : Int) < 4) = true := by simp; omega
          obtain ⟨g, off, rfl, hg, hc⟩ := (HhA.out.below hV.out.2.2.2.2.2) (by omega)
          have k0 := hc (4 * k + n) (by omega)
          unfold u8s at k0
          have k1 := Row32.cell hV.out.2.2.2.2.1 k (by rw [hV.out.1]; omega)
          rw [hV.out.2.2.1] at k1
          unfold v32 at k1
          have hyw := hideP (show 256 * qw b k n + UInt32.ofNat (b.getD (4 * k + n) 0) = qw b k (n + 1) from rfl)
          obtain ⟨x0, e0⟩ : ∃ x, x = b.getD (4 * k + n) 0 := ⟨_, rfl⟩
          obtain ⟨x1, e1⟩ : ∃ x, x = qw b k n := ⟨_, rfl⟩
          rw [← e0] at k0 hyw
          rw [← e1] at k1 hyw
          have rb := n32_byte x0
          have rm := n32_mul256
          have ra := n32_add
          have i0 : (0 : Int) ≤ 4 * (k : Int) + (n : Int) := by omega
          have i1 : 4 * (k : Int) + (n : Int) < 64 := by omega
          have i8 : (0 : Int) ≤ (k : Int) := by omega
          have i9 : (k : Int) < 64 := by omega
          have n0 : (4 * (k : Int) + (n : Int)).toNat = 4 * k + n := by omega
          have m0 : IntKind.i64.wrap (4 * (k : Int)) = 4 * (k : Int) := IntWalk.i64_in _ (by omega)
          have m1 : IntKind.i64.wrap (4 * (k : Int) + (n : Int)) = 4 * (k : Int) + (n : Int) := IntWalk.i64_in _ (by omega)
          clear hc e0 e1
          have Hhg := hideP hg; clear hg
          go_wp2_with fail
          refine wp_region_eager 17 [(true, 0), (true, 1), (true, 2), (true, 3), (true, 4), (true, 5), (true, 6), (true, 7), (true, 8), (true, 9), (true, 10), (true, 11), (true, 12), (true, 13), (true, 14), (true, 15), (true, 16)] (by kernel_rfl) (by kernel_rfl) ?_
          simp only [pick, List.map_cons, List.map_nil, nthO_zero, nthO_succ]
          repeat (first
            | (refine wpPlan_skipK (by rfl) (fun K hK => ?_); go_simp; refine hK _ ?_; clear hK K)
            | (refine wpPlan_valK (by rfl) (fun K hK => ?_); apply Exists.intro; refine ⟨fun W hW => ?_, ?_⟩; (focus (have hs0 := hW.cell k0; have hs1 := hW.cell k1; go_simp; (try rfl); done)); go_simp; refine hK _ ?_; clear hK K))
          refine wpPlan_nil (fun W1 hW0 => ?_)
          simp only [List.drop_succ_cons, List.drop_zero, List.drop_nil]
          obtain ⟨y, hy⟩ : ∃ y, y = 256 * x1 + UInt32.ofNat x0 := ⟨_, rfl⟩
          rw [← hy] at hyw ⊢
          clear hy
          have c2 := Row.ext hV.out.2.2.2.2.1 hW0.drew_left
          have hs1 := Row32.cell c2 k (by rw [hV.out.1]; omega)
          have hs2 := Row.fz c2 k
          have C2 := hideP (Row32.set c2 k y)
          have cb := hideP ((below_ext hV.out.2.2.2.2.2 hW0.drew_left).setCell (p := ⟨w.heap.size, k, none⟩) (Nat.le_refl _) (v32 y))
          have hl := hideP hV.out.1
          have h1 := hideP hV.out.2.1
          have h2 := hideP hV.out.2.2.2.1
          clear c2 hW0 hV k0 k1 rb rm ra i0 i1 n0 m0 m1
          go_wp2_with fail
          clear hs1 hs2
          go_roundw
          case rel =>
            have gs : ∀ j, (l.set k y).getD j 0 = if k = j then y else l.getD j 0 := fun j => by
              unfold List.getD
              rw [List.getElem?_set]
              by_cases e : k = j
              · subst e; rw [if_pos rfl, if_pos rfl, if_pos (by rw [hl.out]; omega)]; rfl
              · rw [if_neg e, if_neg e]
            refine ⟨n + 1, l.set k y, by omega, by go_num, by rw [List.length_set]; exact hl.out, fun j hj => by rw [gs, if_neg (by omega)]; exact h1.out j hj, by rw [gs, if_pos rfl]; exact hyw.out, fun j hj => by rw [gs, if_neg (by omega)]; exact h2.out j hj, C2.out, cb.out⟩
          case measure => simp [intOf]; omega
        · have t2' : decide ((n : Int) < 4) = false := by simp; omega
          have hn4 : n = 4 := by omega
          have h3 := hV.out.2.2.1
          rw [hn4, qw_four] at h3
          have H3 := hideP h3
          clear h3 hn4
          go_wp2_with fail
          go_roundw
          case rel =>
            refine ⟨k + 1, l, by omega, by go_num, hV.out.1, fun j hj => ?_, fun j hj => hV.out.2.2.2.1 j (by omega), hV.out.2.2.2.2⟩
            by_cases e : j = k
            · subst e; rw [H3.out, wrd_lo hlt]
            · exact hV.out.2.1 j (by omega)
          case measure => simp [intOf]; omega
    · have t' : decide ((k : Int) < 16) = false := by simp; omega
      have hkk : k = 16 := by omega
      have hA2 := hideP (show ∀ j, j < 16 → l.getD j 0 = wrd b j by have := hV.out.2.1; rwa [hkk] at this)
      have hV2 := hideP (And.intro hV.out.1 hV.out.2.2.2)
      clear hV hkk hlt hk
      go_wp2_with fail
      go_loopw [10] (fun v10 wr => ∃ (k : Nat) (l : List UInt32), 16 ≤ k ∧ k ≤ 64 ∧ v10 = .int .i64 k ∧ Hid (l.length = 64 ∧ (∀ j, j < k → l.getD j 0 = wrd b j) ∧ Row32 wr w.heap.size 283 l ∧ Below w.heap.size w wr)) (fun v10 _ => 64 - (intOf v10).toNat)
      case atStart => exact ⟨16, l, by omega, by omega, rfl, hV2.out.1, hA2.out, hV2.out.2.1, hV2.out.2.2⟩
      case round =>
        clear hV2 hA2 l
        obtain ⟨k2, l, hk0, hk, rfl, hV⟩ := hrel
        by_cases hlt : k2 < 64
        · have t2' : decide ((k2 : Int) < 64) = true := by simp; omega
          have hl := hV.out.1
          have k15 := Row32.cell hV.out.2.2.1 (k2 - 15) (by omega)
          have kx2 := Row32.cell hV.out.2.2.1 (k2 - 2) (by omega)
          have k16 := Row32.cell hV.out.2.2.1 (k2 - 16) (by omega)
          have k7 := Row32.cell hV.out.2.2.1 (k2 - 7) (by omega)
          rw [hV.out.2.1 (k2 - 15) (by omega)] at k15
          rw [hV.out.2.1 (k2 - 2) (by omega)] at kx2
          rw [hV.out.2.1 (k2 - 16) (by omega)] at k16
          rw [hV.out.2.1 (k2 - 7) (by omega)] at k7
          unfold v32 at k15 kx2 k16 k7
          have hy := hideP (wrd_hi (b := b) hk0)
          unfold s0 s1 at hy
          obtain ⟨x15, e15⟩ : ∃ x, x = wrd b (k2 - 15) := ⟨_, rfl⟩
          obtain ⟨x2, e2⟩ : ∃ x, x = wrd b (k2 - 2) := ⟨_, rfl⟩
          obtain ⟨x16, e16⟩ : ∃ x, x = wrd b (k2 - 16) := ⟨_, rfl⟩
          obtain ⟨x7, e7⟩ : ∃ x, x = wrd b (k2 - 7) := ⟨_, rfl⟩
          rw [← e15, ← e2, ← e16, ← e7] at hy
          rw [← e15] at k15
          rw [← e2] at kx2
          rw [← e16] at k16
          rw [← e7] at k7
          have i0 : (15 : Int) ≤ (k2 : Int) := by omega
          have i1 : (k2 : Int) - 15 < 64 := by omega
          have i2 : (2 : Int) ≤ (k2 : Int) := by omega
          have i3 : (k2 : Int) - 2 < 64 := by omega
          have i4 : (16 : Int) ≤ (k2 : Int) := by omega
          have i5 : (k2 : Int) - 16 < 64 := by omega
          have i6 : (7 : Int) ≤ (k2 : Int) := by omega
          have i7 : (k2 : Int) - 7 < 64 := by omega
          have i8 : (0 : Int) ≤ (k2 : Int) := by omega
          have i9 : (k2 : Int) < 64 := by omega
          have j0 : (0 : Int) ≤ (k2 : Int) - 15 := by omega
          have j1 : (0 : Int) ≤ (k2 : Int) - 2 := by omega
          have j2 : (0 : Int) ≤ (k2 : Int) - 16 := by omega
          have j3 : (0 : Int) ≤ (k2 : Int) - 7 := by omega
          have n0 : ((k2 : Int) - 15).toNat = k2 - 15 := by omega
          have n1 : ((k2 : Int) - 2).toNat = k2 - 2 := by omega
          have n2 : ((k2 : Int) - 16).toNat = k2 - 16 := by omega
          have n3 : ((k2 : Int) - 7).toNat = k2 - 7 := by omega
          have m0 : IntKind.i64.wrap ((k2 : Int) - 15) = (k2 : Int) - 15 := IntWalk.i64_in _ (by omega)
          have m1 : IntKind.i64.wrap ((k2 : Int) - 2) = (k2 : Int) - 2 := IntWalk.i64_in _ (by omega)
          have m2 : IntKind.i64.wrap ((k2 : Int) - 16) = (k2 : Int) - 16 := IntWalk.i64_in _ (by omega)
          have m3 : IntKind.i64.wrap ((k2 : Int) - 7) = (k2 : Int) - 7 := IntWalk.i64_in _ (by omega)
          have r7 := hideP (fun x => turned_any x 7 (by omega))
          have r18 := hideP (fun x => turned_any x 18 (by omega))
          have r17 := hideP (fun x => turned_any x 17 (by omega))
          have r19 := hideP (fun x => turned_any x 19 (by omega))
          have rx := n32_xor
          have ra := n32_add
          have rs3 : ∀ x, IntKind.u32.wrap ((n32 x).tdiv 8) = n32 (shr x 3) := fun x => n32_tdiv x 3
          have rs10 : ∀ x, IntKind.u32.wrap ((n32 x).tdiv 1024) = n32 (shr x 10) := fun x => n32_tdiv x 10
          have rp := fun x => (n32_bd x).1
          clear e15 e2 e16 e7
          have Hhl := hideP hl; clear hl
          go_wp2_with fail
          refine wp_region_eager 12 [(true, 0), (true, 1), (true, 2), (true, 3), (true, 4), (true, 5), (true, 6), (true, 7), (true, 8), (true, 9), (true, 10), (true, 11)] (by kernel_rfl) (by kernel_rfl) ?_
          simp only [pick, List.map_cons, List.map_nil, nthO_zero, nthO_succ]
          repeat (first
            | (refine wpPlan_skipK (by rfl) (fun K hK => ?_); go_simp; refine hK _ ?_; clear hK K)
            | (refine wpPlan_valK (by rfl) (fun K hK => ?_); apply Exists.intro; refine ⟨fun W hW => ?_, ?_⟩; (focus (have hs0 := hW.cell k15; have hs1 := hW.cell kx2; go_simp; (try rfl); done)); go_simp; refine hK _ ?_; clear hK K))
          refine wpPlan_nil (fun W1 hW0 => ?_)
          simp only [List.drop_succ_cons, List.drop_zero, List.drop_nil]
          replace k16 := hW0.drew_left.cell k16
          replace k7 := hW0.drew_left.cell k7
          have C2 := hideP (Row.ext hV.out.2.2.1 hW0.drew_left)
          have cb := hideP (below_ext hV.out.2.2.2 hW0.drew_left)
          have hall := hideP hV.out.2.1
          clear hV hW0 k15 kx2
          go_wp2_with fail
          refine wp_region_eager 32 [(true, 0), (true, 1), (true, 2), (true, 3), (true, 4), (true, 5), (true, 6), (true, 7), (true, 8), (true, 9), (true, 10), (true, 11), (true, 12), (true, 13), (true, 14), (true, 15), (true, 16), (true, 17), (true, 18), (true, 19), (true, 20), (true, 21), (true, 22), (true, 23), (true, 24), (true, 25), (true, 26), (true, 27), (true, 28), (true, 29), (true, 30), (true, 31)] (by kernel_rfl) (by kernel_rfl) ?_
          simp only [pick, List.map_cons, List.map_nil, nthO_zero, nthO_succ]
          repeat (first
            | (refine wpPlan_skipK (by rfl) (fun K hK => ?_); go_simp; refine hK _ ?_; clear hK K)
            | (refine wpPlan_valK (by rfl) (fun K hK => ?_); apply Exists.intro; refine ⟨fun W hW => ?_, ?_⟩; (focus (have hs0 := hW.cell k16; have hs1 := hW.cell k7; go_simp; (try rfl); done)); go_simp; refine hK _ ?_; clear hK K)
            | (refine wpPlan_callK (.int .u32 (n32 (rotr x15 7))) 263 #[.int .u32 (n32 x15), .int .u64 7] (by rfl) ?_ (fun W hW => (r7.out x15 W).mono fun e w' h => ⟨h.1, by rw [← h.2]; exact Ext.refl _⟩) (fun K hK => ?_); (focus (intro W; go_simp; done)); go_simp; refine hK _ ?_; clear hK K)
            | (refine wpPlan_callK (.int .u32 (n32 (rotr x15 18))) 263 #[.int .u32 (n32 x15), .int .u64 18] (by rfl) ?_ (fun W hW => (r18.out x15 W).mono fun e w' h => ⟨h.1, by rw [← h.2]; exact Ext.refl _⟩) (fun K hK => ?_); (focus (intro W; go_simp; done)); go_simp; refine hK _ ?_; clear hK K)
            | (refine wpPlan_callK (.int .u32 (n32 (rotr x2 17))) 263 #[.int .u32 (n32 x2), .int .u64 17] (by rfl) ?_ (fun W hW => (r17.out x2 W).mono fun e w' h => ⟨h.1, by rw [← h.2]; exact Ext.refl _⟩) (fun K hK => ?_); (focus (intro W; go_simp; done)); go_simp; refine hK _ ?_; clear hK K)
            | (refine wpPlan_callK (.int .u32 (n32 (rotr x2 19))) 263 #[.int .u32 (n32 x2), .int .u64 19] (by rfl) ?_ (fun W hW => (r19.out x2 W).mono fun e w' h => ⟨h.1, by rw [← h.2]; exact Ext.refl _⟩) (fun K hK => ?_); (focus (intro W; go_simp; done)); go_simp; refine hK _ ?_; clear hK K))
          refine wpPlan_nil (fun W2 hW0 => ?_)
          simp only [List.drop_succ_cons, List.drop_zero, List.drop_nil]
          obtain ⟨y, hyy⟩ : ∃ y, y = x16 + (rotr x15 7 ^^^ rotr x15 18 ^^^ shr x15 3) + x7 + (rotr x2 17 ^^^ rotr x2 19 ^^^ shr x2 10) := ⟨_, rfl⟩
          have hyw := hideP (show y = wrd b k2 by rw [hy.out, hyy])
          rw [← hyy]
          clear hyy
          have c2 := C2.out.ext hW0.drew_left
          have hs1 := Row32.cell c2 k2 (by rw [Hhl.out]; omega)
          have hs2 := Row.fz c2 k2
          replace C2 := hideP (Row32.set c2 k2 y)
          replace cb := hideP ((below_ext cb.out hW0.drew_left).setCell (p := ⟨w.heap.size, k2, none⟩) (Nat.le_refl _) (v32 y))
          clear c2 hW0 k16 k7 rx ra rs3 rs10 rp r7 r18 r17 r19 m0 m1 m2 m3 n0 n1 n2 n3 i1 i3 i5 i7 j0 j1 j2 j3
          go_wp2_with fail
          clear hs1 hs2
          go_roundw
          case rel =>
            refine ⟨k2 + 1, l.set k2 y, by omega, by omega, by go_num, by rw [List.length_set]; exact Hhl.out, fun j hj => ?_, C2.out, cb.out⟩
            unfold List.getD
            rw [List.getElem?_set]
            by_cases e : k2 = j
            · subst e; rw [if_pos rfl, if_pos (by rw [Hhl.out]; omega)]; exact hyw.out
            · rw [if_neg e]; exact hall.out j (by omega)
          case measure => simp [intOf]; omega
        · have t2' : decide ((k2 : Int) < 64) = false := by simp; omega
          have hkk : k2 = 64 := by omega
          have hall := hideP (show ∀ j, j < 64 → l.getD j 0 = wrd b j by have := hV.out.2.1; rwa [hkk] at this)
          have d := hideP hV.out.2.2.1
          have cb := hideP hV.out.2.2.2
          have hl := hideP hV.out.1
          clear hV hkk hlt hk hk0
          obtain ⟨w2, hw2⟩ : ∃ w2, w2 = wr := ⟨_, rfl⟩
          rw [← hw2] at d cb ⊢
          clear hw2
          obtain ⟨i0, hi0, hz0, hz1, hz2⟩ := info_parts info_u32
          have hown := World.ownsRow_lit (base := w2.heap.size) (e := 283) (size := 1) w2 #[] 0 (Nat.le_refl _) (Nat.zero_le _) rfl
          have aH := ((HhH.out.below cb.out).more cb.out.size).after (below_new w2 (Obj.cells #[] 283))
          have b1 : w2.heap.size ≤ (w2.alloc (Obj.cells #[] 283)).heap.size := by simp
          go_wp2_with (at_builtin; refine wpList_append_arr (w2.alloc (Obj.cells #[] 283)) rfl (.tmp 92) (.tmp 93) 249 rfl w2.heap.size 283 i0 _ 4 Try.underlying249 hi0 hz0 hz1 hz2 rfl (.slice (some ⟨w2.heap.size, 0, none⟩) 0 0) 0 _ rfl hown _ AH 8 cH (u32s h) rfl aH (fun _ => rfl) (by unfold maxLen; omega) (by omega) b1 ?_; intro A3 c3 w3 hown3 hg3 hat3)
          have hb3 : Below w2.heap.size w2 w3 := (below_new _ _).trans (below_own hown hg3 (Nat.le_refl _) b1)
          have hmap : (List.range 8).map (u32s h) = h.map v32 := by
            refine List.ext_getElem? fun i => ?_
            rcases Nat.lt_or_ge i 8 with hi | hi
            · simp [u32s, List.getD, List.getElem?_eq_getElem (show i < h.length by rw [Hhh.out]; exact hi), hi]
            · rw [List.getElem?_eq_none (by simp; exact hi), List.getElem?_eq_none (by simp [Hhh.out]; exact hi)]
          have hown4 : w3.ownsRow w2.heap.size 283 1 (.slice A3 h.length c3) h.length (h.map v32) := by
            rw [Hhh.out, ← hmap]; simpa using hown3
          obtain ⟨gv, rfl, hgv, dv⟩ := Pre32.of_own hown4 (by rw [Hhh.out]; omega)
          have ltv := hideP (Nat.lt_of_lt_of_le (Row.lt d.out) hgv)
          replace d := hideP (Row.after d.out hb3)
          replace cb := hideP (bstep cb.out hb3)
          replace dv := hideP dv
          clear hb3 hmap hown4 hown3 hg3 hat3 hown aH b1 hgv hi0 hz0 hz1 hz2
          go_wp2_with fail
          go_loopw [13, 14] (fun v13 v14 wr => ∃ (k gv cv : Nat) (v : List UInt32), k ≤ 64 ∧ v13 = .slice (some ⟨gv, 0, none⟩) 8 cv ∧ v14 = .int .i64 k ∧ Hid (v = rnds h b k ∧ v.length = 8 ∧ Pre32 wr gv 283 v ∧ w.heap.size < gv ∧ Row32 wr w.heap.size 283 l ∧ Below w.heap.size w wr)) (fun _ v14 _ => 64 - (intOf v14).toNat)
          case atStart => exact ⟨0, gv, c3, h, by omega, by simp, rfl, rfl, Hhh.out, dv.out, ltv.out, d.out, cb.out⟩
          case round =>
            clear d cb dv ltv
            obtain ⟨k3, gv, cv, v, hk, rfl, rfl, hV⟩ := hrel
            by_cases hlt : k3 < 64
            · have t3' : decide ((k3 : Int) < 64) = true := by simp; omega
              obtain ⟨gk, ok, rfl, hgk, hck⟩ := (HhK.out.below hV.out.2.2.2.2.2) (by omega)
              have qk := hck k3 hlt
              unfold u32s at qk
              have r2 := hideP (fun x => turned_any x 2 (by omega))
              have r13 := hideP (fun x => turned_any x 13 (by omega))
              have r22 := hideP (fun x => turned_any x 22 (by omega))
              have r6 := hideP (fun x => turned_any x 6 (by omega))
              have r11 := hideP (fun x => turned_any x 11 (by omega))
              have r25 := hideP (fun x => turned_any x 25 (by omega))
              have q0 := hV.out.2.2.1.cell 0 (by rw [hV.out.2.1]; omega)
              have q1 := hV.out.2.2.1.cell 1 (by rw [hV.out.2.1]; omega)
              have q2 := hV.out.2.2.1.cell 2 (by rw [hV.out.2.1]; omega)
              have q3 := hV.out.2.2.1.cell 3 (by rw [hV.out.2.1]; omega)
              have q4 := hV.out.2.2.1.cell 4 (by rw [hV.out.2.1]; omega)
              have q5 := hV.out.2.2.1.cell 5 (by rw [hV.out.2.1]; omega)
              have q6 := hV.out.2.2.1.cell 6 (by rw [hV.out.2.1]; omega)
              have q7 := hV.out.2.2.1.cell 7 (by rw [hV.out.2.1]; omega)
              have qw := Row32.cell hV.out.2.2.2.2.1 k3 (by rw [hl.out]; exact hlt)
              rw [hall.out k3 hlt] at qw
              unfold v32 at q0 q1 q2 q3 q4 q5 q6 q7 qw qk
              have hE := hideP (show rnd v (kk.getD k3 0) (wrd b k3) = rnds h b (k3 + 1) by rw [hV.out.1]; rfl)
              unfold rnd one two at hE
              obtain ⟨y0, e0⟩ : ∃ x, x = v.getD 0 0 := ⟨_, rfl⟩
              obtain ⟨y1, e1⟩ : ∃ x, x = v.getD 1 0 := ⟨_, rfl⟩
              obtain ⟨y2, e2⟩ : ∃ x, x = v.getD 2 0 := ⟨_, rfl⟩
              obtain ⟨y3, e3⟩ : ∃ x, x = v.getD 3 0 := ⟨_, rfl⟩
              obtain ⟨y4, e4⟩ : ∃ x, x = v.getD 4 0 := ⟨_, rfl⟩
              obtain ⟨y5, e5⟩ : ∃ x, x = v.getD 5 0 := ⟨_, rfl⟩
              obtain ⟨y6, e6⟩ : ∃ x, x = v.getD 6 0 := ⟨_, rfl⟩
              obtain ⟨y7, e7⟩ : ∃ x, x = v.getD 7 0 := ⟨_, rfl⟩
              obtain ⟨zk, ek⟩ : ∃ x, x = kk.getD k3 0 := ⟨_, rfl⟩
              obtain ⟨zw, ew⟩ : ∃ x, x = wrd b k3 := ⟨_, rfl⟩
              rw [← e0, ← e1, ← e2, ← e3, ← e4, ← e5, ← e6, ← e7, ← ek, ← ew] at hE
              rw [← e0] at q0
              rw [← e1] at q1
              rw [← e2] at q2
              rw [← e3] at q3
              rw [← e4] at q4
              rw [← e5] at q5
              rw [← e6] at q6
              rw [← e7] at q7
              rw [← ek] at qk
              rw [← ew] at qw
              have dv := hideP hV.out.2.2.1
              have d := hideP hV.out.2.2.2.2.1
              have cb := hideP hV.out.2.2.2.2.2
              clear e0 e1 e2 e3 e4 e5 e6 e7 ek ew hck hV
              have i8 : (0 : Int) ≤ (k3 : Int) := by omega
              have i9 : (k3 : Int) < 64 := by omega
              have rx := n32_xor
              have rd := n32_and
              have ra := n32_add
              have rn := n32_not'
              have Hhgk := hideP hgk; clear hgk
              go_wp2_with fail
              refine wp_region_eager 17 [(true, 0), (true, 1), (true, 2), (true, 3), (true, 4), (true, 5), (true, 6), (true, 7), (true, 8), (true, 9), (true, 10), (true, 11), (true, 12), (true, 13), (true, 14), (true, 15), (true, 16)] (by kernel_rfl) (by kernel_rfl) ?_
              simp only [pick, List.map_cons, List.map_nil, nthO_zero, nthO_succ]
              repeat (first
                | (refine wpPlan_skipK (by rfl) (fun K hK => ?_); go_simp; refine hK _ ?_; clear hK K)
                | (refine wpPlan_valK (by rfl) (fun K hK => ?_); apply Exists.intro; refine ⟨fun W hW => ?_, ?_⟩; (focus (have hs0 := hW.cell q4; have hs1 := hW.cell q5; have hs2 := hW.cell q6; go_simp; (try rfl); done)); go_simp; refine hK _ ?_; clear hK K))
              refine wpPlan_nil (fun W1 hW0 => ?_)
              simp only [List.drop_succ_cons, List.drop_zero, List.drop_nil]
              replace q0 := hW0.drew_left.cell q0
              replace q1 := hW0.drew_left.cell q1
              replace q2 := hW0.drew_left.cell q2
              replace q3 := hW0.drew_left.cell q3
              replace q4 := hW0.drew_left.cell q4
              replace q5 := hW0.drew_left.cell q5
              replace q6 := hW0.drew_left.cell q6
              replace q7 := hW0.drew_left.cell q7
              replace qw := hW0.drew_left.cell qw
              replace qk := hW0.drew_left.cell qk
              replace dv := hideP (dv.out.ext hW0.drew_left)
              replace d := hideP (Row.ext d.out hW0.drew_left)
              replace cb := hideP (below_ext cb.out hW0.drew_left)
              clear hW0
              go_wp2_with fail
              refine wp_region_eager 31 [(true, 0), (true, 1), (true, 2), (true, 3), (true, 4), (true, 5), (true, 6), (true, 7), (true, 8), (true, 9), (true, 10), (true, 11), (true, 12), (true, 13), (true, 14), (true, 15), (true, 16), (true, 17), (true, 18), (true, 19), (true, 20), (true, 21), (true, 22), (true, 23), (true, 24), (true, 25), (true, 26), (true, 27), (true, 28), (true, 29), (true, 30)] (by kernel_rfl) (by kernel_rfl) ?_
              simp only [pick, List.map_cons, List.map_nil, nthO_zero, nthO_succ]
              repeat (first
                | (refine wpPlan_skipK (by rfl) (fun K hK => ?_); go_simp; refine hK _ ?_; clear hK K)
                | (refine wpPlan_valK (by rfl) (fun K hK => ?_); apply Exists.intro; refine ⟨fun W hW => ?_, ?_⟩; (focus (have hs0 := hW.cell q7; have hs1 := hW.cell q4; have hs2 := hW.cell qk; have hs3 := hW.cell qw; go_simp; (try rfl); done)); go_simp; refine hK _ ?_; clear hK K)
                | (refine wpPlan_callK (.int .u32 (n32 (rotr y4 6))) 263 #[.int .u32 (n32 y4), .int .u64 6] (by rfl) ?_ (fun W hW => (r6.out y4 W).mono fun e w' h => ⟨h.1, by rw [← h.2]; exact Ext.refl _⟩) (fun K hK => ?_); (focus (intro W; go_simp; done)); go_simp; refine hK _ ?_; clear hK K)
                | (refine wpPlan_callK (.int .u32 (n32 (rotr y4 11))) 263 #[.int .u32 (n32 y4), .int .u64 11] (by rfl) ?_ (fun W hW => (r11.out y4 W).mono fun e w' h => ⟨h.1, by rw [← h.2]; exact Ext.refl _⟩) (fun K hK => ?_); (focus (intro W; go_simp; done)); go_simp; refine hK _ ?_; clear hK K)
                | (refine wpPlan_callK (.int .u32 (n32 (rotr y4 25))) 263 #[.int .u32 (n32 y4), .int .u64 25] (by rfl) ?_ (fun W hW => (r25.out y4 W).mono fun e w' h => ⟨h.1, by rw [← h.2]; exact Ext.refl _⟩) (fun K hK => ?_); (focus (intro W; go_simp; done)); go_simp; refine hK _ ?_; clear hK K))
              refine wpPlan_nil (fun W2 hW0 => ?_)
              simp only [List.drop_succ_cons, List.drop_zero, List.drop_nil]
              replace q0 := hW0.drew_left.cell q0
              replace q1 := hW0.drew_left.cell q1
              replace q2 := hW0.drew_left.cell q2
              replace q3 := hW0.drew_left.cell q3
              replace q4 := hW0.drew_left.cell q4
              replace q5 := hW0.drew_left.cell q5
              replace q6 := hW0.drew_left.cell q6
              replace q7 := hW0.drew_left.cell q7
              replace qw := hW0.drew_left.cell qw
              replace qk := hW0.drew_left.cell qk
              replace dv := hideP (dv.out.ext hW0.drew_left)
              replace d := hideP (Row.ext d.out hW0.drew_left)
              replace cb := hideP (below_ext cb.out hW0.drew_left)
              clear hW0
              obtain ⟨yo, eo⟩ : ∃ x, x = y7 + (rotr y4 6 ^^^ rotr y4 11 ^^^ rotr y4 25) + (y4 &&& y5 ^^^ ~~~ y4 &&& y6) + zk + zw := ⟨_, rfl⟩
              rw [← eo] at hE ⊢
              clear eo
              go_wp2_with fail
              refine wp_region_eager 24 [(true, 0), (true, 1), (true, 2), (true, 3), (true, 4), (true, 5), (true, 6), (true, 7), (true, 8), (true, 9), (true, 10), (true, 11), (true, 12), (true, 13), (true, 14), (true, 15), (true, 16), (true, 17), (true, 18), (true, 19), (true, 20), (true, 21), (true, 22), (true, 23)] (by kernel_rfl) (by kernel_rfl) ?_
              simp only [pick, List.map_cons, List.map_nil, nthO_zero, nthO_succ]
              repeat (first
                | (refine wpPlan_skipK (by rfl) (fun K hK => ?_); go_simp; refine hK _ ?_; clear hK K)
                | (refine wpPlan_valK (by rfl) (fun K hK => ?_); apply Exists.intro; refine ⟨fun W hW => ?_, ?_⟩; (focus (have hs0 := hW.cell q0; have hs1 := hW.cell q1; have hs2 := hW.cell q2; go_simp; (try rfl); done)); go_simp; refine hK _ ?_; clear hK K))
              refine wpPlan_nil (fun W3 hW0 => ?_)
              simp only [List.drop_succ_cons, List.drop_zero, List.drop_nil]
              replace q0 := hW0.drew_left.cell q0
              replace q1 := hW0.drew_left.cell q1
              replace q2 := hW0.drew_left.cell q2
              replace q3 := hW0.drew_left.cell q3
              replace q4 := hW0.drew_left.cell q4
              replace q5 := hW0.drew_left.cell q5
              replace q6 := hW0.drew_left.cell q6
              replace q7 := hW0.drew_left.cell q7
              replace qw := hW0.drew_left.cell qw
              replace qk := hW0.drew_left.cell qk
              replace dv := hideP (dv.out.ext hW0.drew_left)
              replace d := hideP (Row.ext d.out hW0.drew_left)
              replace cb := hideP (below_ext cb.out hW0.drew_left)
              clear hW0
              go_wp2_with fail
              refine wp_region_eager 17 [(true, 0), (true, 1), (true, 2), (true, 3), (true, 4), (true, 5), (true, 6), (true, 7), (true, 8), (true, 9), (true, 10), (true, 11), (true, 12), (true, 13), (true, 14), (true, 15), (true, 16)] (by kernel_rfl) (by kernel_rfl) ?_
              simp only [pick, List.map_cons, List.map_nil, nthO_zero, nthO_succ]
              repeat (first
                | (refine wpPlan_skipK (by rfl) (fun K hK => ?_); go_simp; refine hK _ ?_; clear hK K)
                | (refine wpPlan_valK (by rfl) (fun K hK => ?_); apply Exists.intro; refine ⟨fun W hW => ?_, ?_⟩; (focus (have hs0 := hW.cell q0; go_simp; (try rfl); done)); go_simp; refine hK _ ?_; clear hK K)
                | (refine wpPlan_callK (.int .u32 (n32 (rotr y0 2))) 263 #[.int .u32 (n32 y0), .int .u64 2] (by rfl) ?_ (fun W hW => (r2.out y0 W).mono fun e w' h => ⟨h.1, by rw [← h.2]; exact Ext.refl _⟩) (fun K hK => ?_); (focus (intro W; go_simp; done)); go_simp; refine hK _ ?_; clear hK K)
                | (refine wpPlan_callK (.int .u32 (n32 (rotr y0 13))) 263 #[.int .u32 (n32 y0), .int .u64 13] (by rfl) ?_ (fun W hW => (r13.out y0 W).mono fun e w' h => ⟨h.1, by rw [← h.2]; exact Ext.refl _⟩) (fun K hK => ?_); (focus (intro W; go_simp; done)); go_simp; refine hK _ ?_; clear hK K)
                | (refine wpPlan_callK (.int .u32 (n32 (rotr y0 22))) 263 #[.int .u32 (n32 y0), .int .u64 22] (by rfl) ?_ (fun W hW => (r22.out y0 W).mono fun e w' h => ⟨h.1, by rw [← h.2]; exact Ext.refl _⟩) (fun K hK => ?_); (focus (intro W; go_simp; done)); go_simp; refine hK _ ?_; clear hK K))
              refine wpPlan_nil (fun W4 hW0 => ?_)
              simp only [List.drop_succ_cons, List.drop_zero, List.drop_nil]
              replace q0 := hW0.drew_left.cell q0
              replace q1 := hW0.drew_left.cell q1
              replace q2 := hW0.drew_left.cell q2
              replace q3 := hW0.drew_left.cell q3
              replace q4 := hW0.drew_left.cell q4
              replace q5 := hW0.drew_left.cell q5
              replace q6 := hW0.drew_left.cell q6
              replace q7 := hW0.drew_left.cell q7
              replace qw := hW0.drew_left.cell qw
              replace qk := hW0.drew_left.cell qk
              replace dv := hideP (dv.out.ext hW0.drew_left)
              replace d := hideP (Row.ext d.out hW0.drew_left)
              replace cb := hideP (below_ext cb.out hW0.drew_left)
              clear hW0
              go_wp2_with fail
              refine wp_region_eager 27 [(true, 0), (true, 1), (true, 2), (true, 3), (true, 4), (true, 5), (true, 6), (true, 7), (true, 8), (true, 9), (true, 10), (true, 11), (true, 12), (true, 13), (true, 14), (true, 15), (true, 16), (true, 17), (true, 18), (true, 19), (true, 20), (true, 21), (true, 22), (true, 23), (true, 24), (true, 25), (false, 26)] (by kernel_rfl) (by kernel_rfl) ?_
              simp only [pick, List.map_cons, List.map_nil, nthO_zero, nthO_succ]
              repeat (first
                | (refine wpPlan_skipK (by rfl) (fun K hK => ?_); go_simp; refine hK _ ?_; clear hK K)
                | (refine wpPlan_valK (by rfl) (fun K hK => ?_); apply Exists.intro; refine ⟨fun W hW => ?_, ?_⟩; (focus (have hs0 := hW.cell q0; have hs1 := hW.cell q1; have hs2 := hW.cell q2; have hs3 := hW.cell q3; have hs4 := hW.cell q4; have hs5 := hW.cell q5; have hs6 := hW.cell q6; go_simp; (try rfl); done)); go_simp; refine hK _ ?_; clear hK K))
              obtain ⟨Y, hY⟩ : ∃ Y, Y = rnds h b (k3 + 1) := ⟨_, rfl⟩
              rw [← hY] at hE
              refine wpPlan_buildK (by rfl) (fun W hW2 => ?_)
              refine ⟨.slice (some ⟨W.heap.size, 0, none⟩) 8 8, W.alloc (.cells (Y.map v32).toArray 283), ⟨by rw [← hE.out]; go_simp; (try rfl), Ext.alloc _ _⟩, fun K hK => ?_⟩
              go_simp
              refine hK _ ?_
              clear hK K
              refine wpPlan_nil (fun W3 hW3 => ?_)
              simp only [List.drop_succ_cons, List.drop_zero, List.drop_nil]
              have hX := (hW2.drew_left.trans (Ext.alloc W (.cells (Y.map v32).toArray 283))).trans hW3
              have dn := hideP (Pre32.of_row (l := Y) (Row.ext (Row.new W 283 (Y.map v32)) hW3))
              have ltn := hideP (show w.heap.size < W.heap.size from Nat.lt_of_lt_of_le (Row.lt d.out) hW2.drew_left.size)
              replace d := hideP (Row.ext d.out hX)
              replace cb := hideP (below_ext cb.out hX)
              have hYl := hideP (show Y.length = 8 by rw [← hE.out]; rfl)
              have HhY := hideP hY; clear hY
              clear hX hW2 hW3 q0 q1 q2 q3 q4 q5 q6 q7 qw qk dv rx rd ra rn r2 r13 r22 r6 r11 r25
              go_wp2_with fail
              go_roundw
              case rel => exact ⟨k3 + 1, _, _, Y, by omega, rfl, by go_num, HhY.out, hYl.out, dn.out, ltn.out, d.out, cb.out⟩
              case measure => simp [intOf]; omega
            · have t3' : decide ((k3 : Int) < 64) = false := by simp; omega
              have hkk : k3 = 64 := by omega
              have hv := hideP (show v = rnds h b 64 by rw [hV.out.1, hkk])
              have dv := hideP hV.out.2.2.1
              have ltv := hideP hV.out.2.2.2.1
              have cb := hideP hV.out.2.2.2.2.2
              have hvl := hideP hV.out.2.1
              clear hV hkk hlt hk hall
              go_wp2_with fail
              go_loopw [19] (fun v19 wr => ∃ (j : Nat) (u : List UInt32), j ≤ 8 ∧ v19 = .int .i64 j ∧ Hid (u.length = 8 ∧ (∀ i, u.getD i 0 = if i < j then v.getD i 0 + h.getD i 0 else v.getD i 0) ∧ Pre32 wr gv 283 u ∧ Below w.heap.size w wr)) (fun v19 _ => 8 - (intOf v19).toNat)
              case atStart => exact ⟨0, v, by omega, rfl, hvl.out, fun i => by simp, dv.out, cb.out⟩
              case round =>
                clear dv cb
                obtain ⟨j, u, hj, rfl, hV⟩ := hrel
                by_cases hlt : j < 8
                · have t4' : decide ((j : Int) < 8) = true := by simp; omega
                  obtain ⟨gh, oh, rfl, hgh, hch⟩ := (HhH.out.below hV.out.2.2.2) (by omega)
                  have q1 := hV.out.2.2.1.cell j (by rw [hV.out.1]; omega)
                  have q2 := hch j hlt
                  unfold u32s at q2
                  unfold v32 at q1 q2
                  obtain ⟨x1, e1⟩ : ∃ x, x = u.getD j 0 := ⟨_, rfl⟩
                  obtain ⟨x2, e2⟩ : ∃ x, x = h.getD j 0 := ⟨_, rfl⟩
                  rw [← e1] at q1
                  rw [← e2] at q2
                  have i8 : (0 : Int) ≤ (j : Int) := by omega
                  have i9 : (j : Int) < 8 := by omega
                  have ra := n32_add
                  have He1 := hideP e1; have He2 := hideP e2; have Hhgh := hideP hgh; clear e1 e2 hgh
                  clear hch
                  go_wp2_with fail
                  refine wp_region_eager 12 [(true, 0), (true, 1), (true, 2), (true, 3), (true, 4), (true, 5), (true, 6), (true, 7), (true, 8), (true, 9), (true, 10), (true, 11)] (by kernel_rfl) (by kernel_rfl) ?_
                  simp only [pick, List.map_cons, List.map_nil, nthO_zero, nthO_succ]
                  repeat (first
                    | (refine wpPlan_skipK (by rfl) (fun K hK => ?_); go_simp; refine hK _ ?_; clear hK K)
                    | (refine wpPlan_valK (by rfl) (fun K hK => ?_); apply Exists.intro; refine ⟨fun W hW => ?_, ?_⟩; (focus (have hs0 := hW.cell q1; have hs1 := hW.cell q2; go_simp; (try rfl); done)); go_simp; refine hK _ ?_; clear hK K))
                  refine wpPlan_nil (fun W1 hW0 => ?_)
                  simp only [List.drop_succ_cons, List.drop_zero, List.drop_nil]
                  have d7 := hV.out.2.2.1.ext hW0.drew_left
                  have cb := hideP (below_ext hV.out.2.2.2 hW0.drew_left)
                  have hs1 := d7.cell j (by rw [hV.out.1]; omega)
                  have hs2 := d7.fz j
                  have D7 := hideP (d7.set j (x1 + x2) (by rw [hV.out.1]; exact hlt))
                  have hn := ltv.out
                  replace cb := hideP (cb.out.setCell (p := ⟨gv, j, none⟩) (by simp; omega) (v32 (x1 + x2)))
                  have hul := hideP hV.out.1
                  have hui := hideP hV.out.2.1
                  clear d7 hV hW0 q1 q2 ra hn
                  go_wp2_with fail
                  clear hs1 hs2
                  go_roundw
                  case rel =>
                    refine ⟨j + 1, u.set j (x1 + x2), by omega, by go_num, by rw [List.length_set]; exact hul.out, fun i => ?_, D7.out, cb.out⟩
                    unfold List.getD
                    rw [List.getElem?_set]
                    by_cases e : j = i
                    · subst e
                      rw [if_pos rfl, if_pos (by rw [hul.out]; exact hlt), if_pos (by omega)]
                      have := hui.out j
                      rw [if_neg (by omega)] at this
                      simp only [Option.getD_some]
                      rw [He1.out, He2.out, this]; rfl
                    · rw [if_neg e]
                      have := hui.out i
                      unfold List.getD at this
                      rw [this]
                      by_cases e2 : i < j
                      · rw [if_pos e2, if_pos (by omega)]
                      · rw [if_neg e2, if_neg (by omega)]
                  case measure => simp [intOf]; omega
                · have t4' : decide ((j : Int) < 8) = false := by simp; omega
                  have hjj : j = 8 := by omega
                  have hres : u = turnS h b := by
                    refine List.ext_getElem? fun i => ?_
                    unfold turnS
                    rcases Nat.lt_or_ge i 8 with hi | hi
                    · have := hV.out.2.1 i
                      rw [if_pos (by omega), hv.out] at this
                      unfold List.getD at this
                      rw [List.getElem?_eq_getElem (by rw [hV.out.1]; exact hi)] at this ⊢
                      simp [hi]; simpa [List.getD] using this
                    · rw [List.getElem?_eq_none (by rw [hV.out.1]; exact hi)]; simp [hi]
                  have d7 := hideP hV.out.2.2.1
                  rw [hres] at d7
                  have cb := hideP hV.out.2.2.2
                  clear hV hres hjj hlt hj
                  go_wp2_with fail
                  go_ret
                  exact ⟨gv, cv, rfl, cb.out, Nat.le_of_lt ltv.out, d7.out⟩
end Go.Proofs.Ytgcbodpjidoanaa
namespace Go.Proofs.Ytgcbodpjidoanaa
open Go.RowKit
/-- 32 bytes, none set -/
def z32 : List Value := List.replicate 32 (.int .u8 0)
theorem size_dig : (Try.prog.info? 37).map (·.size) = some 32 := by kernel_rfl
theorem all_b8 (l : List Nat) : ((l.map b8).toArray).all (·.oneCell') = true := by
  rw [Array.all_eq_true_iff_forall_mem]
  intro v hv
  simp at hv
  obtain ⟨x, _, rfl⟩ := hv
  rfl
theorem zeros_step (n j : Nat) (hj : j ≤ zeros n) : ((n + 1 + j) % 64 = 56 ↔ j = zeros n) := by unfold zeros at *; omega
set_option maxRecDepth 100000 in
set_option maxHeartbeats 4000000 in
theorem with_any (A AK : Option Addr) (t : List Nat) (c cK : Nat) (w : World) (hA : Arr w w.heap.size A t.length (u8s t)) (ht : IsB t) (hn : t.length ≤ 1000000000) (hK : Arr w w.heap.size AK 64 (u32s kk)) :
    Calls Try.prog 194 #[.slice A t.length c, .slice AK 64 cK] w fun e w' => e = .returned (.agg ((dig (sumW t)).map b8).toArray) ∧ Below w.heap.size w w' := by
  obtain ⟨T, hT⟩ : ∃ T, T = t.length := ⟨_, rfl⟩
  rw [← hT] at hA hn ⊢
  have HhA := hideP hA; have Hht := hideP ht; have HhK := hideP hK; have HhT := hideP hT; clear hA ht hK hT
  go_enter Try.func194, Try.ntmps194
  go_upto_region 1 with fail
  obtain ⟨w1, hw1⟩ : ∃ w1, w1 = w.alloc (Obj.cells #[.int .u8 0, .int .u8 0, .int .u8 0, .int .u8 0, .int .u8 0, .int .u8 0, .int .u8 0, .int .u8 0, .int .u8 0, .int .u8 0, .int .u8 0, .int .u8 0, .int .u8 0, .int .u8 0, .int .u8 0, .int .u8 0, .int .u8 0, .int .u8 0, .int .u8 0, .int .u8 0, .int .u8 0, .int .u8 0, .int .u8 0, .int .u8 0, .int .u8 0, .int .u8 0, .int .u8 0, .int .u8 0, .int .u8 0, .int .u8 0, .int .u8 0, .int .u8 0] 37) := ⟨_, rfl⟩
  have c1 := hideP (show Row w1 w.heap.size 37 z32 by rw [hw1]; exact Row.new w _ z32)
  have cb := hideP (show Below w.heap.size w w1 by rw [hw1]; exact below_new _ _)
  rw [← hw1]
  clear hw1
  have a1 := hideP ((HhA.out.after cb.out).after (below_new w1 (Obj.cells #[] 5)))
  have o1 := hideP (OwnB.lit0 w1)
  have s1 := hideP (show w1.heap.size ≤ (w1.alloc (Obj.cells #[] 5)).heap.size by simp)
  go_wp2_with (first
    | (at_builtin; refine wpList_appn rfl (.tmp 12) (.tmp 13) rfl w1.heap.size (some ⟨w1.heap.size, 0, none⟩) 0 0 [] rfl rfl o1.out _ A T c t HhT.out rfl a1.out (by omega) s1.out ?_; intro A2 c2 w2 o2 b2; have s2 : w1.heap.size ≤ w2.heap.size := Nat.le_trans s1.out (Nat.le_trans (by simp) b2.size))
    | (at_builtin; refine wpList_app1 rfl (.tmp 14) (.tmp 15) rfl w1.heap.size A2 c2 T t HhT.out rfl o2 128 rfl (by omega) s2 ?_; intro A3 c3 w3 o3 b3))
  have o4 := hideP o3
  obtain ⟨B, hB⟩ : ∃ B, B = w1.heap.size := ⟨_, rfl⟩
  rw [← hB] at o4 b2 b3 s2 s1
  have bB : Below B w1 w3 := (((Below.refl _ _).alloc (Nat.le_of_eq hB) _).trans b2).trans b3
  have hwB := hideP (show w.heap.size < B by rw [hB]; exact Row.lt c1.out)
  replace c1 := hideP (Row.below c1.out bB hwB.out)
  replace cb := hideP (cb.out.trans (bB.mono (Nat.le_of_lt hwB.out)))
  have s3 := hideP (Nat.le_trans s2 b3.size)
  clear a1 o1 s1 o2 b2 o3 b3 s2 bB hB
  go_loopw [5] (fun v5 wr => ∃ (j : Nat) (A3 : Option Addr) (c3 : Nat), j ≤ zeros T ∧ v5 = .slice A3 (T + 1 + j) c3 ∧ Hid (OwnB wr B A3 c3 (t ++ [128] ++ List.replicate j 0) ∧ Row wr w.heap.size 37 z32 ∧ Below w.heap.size w wr ∧ B ≤ wr.heap.size)) (fun v5 _ => match v5 with | .slice _ n _ => T + 1 + zeros T - n | _ => 0)
  case atStart => exact ⟨0, A3, c3, by omega, rfl, by simpa using o4.out, c1.out, cb.out, s3.out⟩
  case round =>
    obtain ⟨j, A3, c3, hj, rfl, hV⟩ := hrel
    clear c1 cb o4 s3
    have hz : zeros T < 64 := by unfold zeros; omega
    have hst := zeros_step T j hj
    by_cases hlt : j < zeros T
    · have e1 : ¬ (T + 1 + j) % 64 = 56 := fun h => by have := hst.1 h; omega
      have e2 : ((((T + 1 + j : Nat) : Int) % 64) != 56) = true := by simp; omega
      have e3 : (((T : Int) + 1 + (j : Int)) % 64 != 56) = true := by simp; omega
      have e4 : (((T : Int) + 1 + (j : Int)).tmod 64 != 56) = true := by rw [Int.tmod_eq_emod_of_nonneg (by omega)]; exact e3
      have i1 : (0 : Int) ≤ (T : Int) + 1 + (j : Int) := by omega
      have hl := hideP (show T + 1 + j = (t ++ [128] ++ List.replicate j 0).length by simp [HhT.out]; omega)
      clear hst
      go_wp2_with (at_builtin; refine wpList_app1 rfl (.tmp 21) (.tmp 22) rfl B A3 c3 (T + 1 + j) (t ++ [128] ++ List.replicate j 0) hl.out rfl hV.out.1 0 rfl (by omega) hV.out.2.2.2 ?_; intro A4 c4 w4 o4 b4)
      have o5 := hideP (show OwnB w4 B A4 c4 (t ++ [128] ++ List.replicate (j + 1) 0) by rw [List.replicate_succ', ← List.append_assoc]; exact o4)
      have c1 := hideP (Row.below hV.out.2.1 b4 hwB.out)
      have cb := hideP (hV.out.2.2.1.trans (b4.mono (Nat.le_of_lt hwB.out)))
      have s3 := hideP (Nat.le_trans hV.out.2.2.2 b4.size)
      clear hV o4 b4 e1 e2 e3 e4
      go_roundw
      case rel => exact ⟨j + 1, A4, c4, by omega, rfl, o5.out, c1.out, cb.out, s3.out⟩
      case measure => simp; omega
    · have hjz : j = zeros T := by omega
      have e1 : (T + 1 + j) % 64 = 56 := hst.2 hjz
      have e3 : (((T : Int) + 1 + (j : Int)) % 64 != 56) = false := by simp; omega
      have e4 : (((T : Int) + 1 + (j : Int)).tmod 64 != 56) = false := by rw [Int.tmod_eq_emod_of_nonneg (by omega)]; exact e3
      have i1 : (0 : Int) ≤ (T : Int) + 1 + (j : Int) := by omega
      have hj64 : j < 64 := by omega
      obtain ⟨N, hN⟩ : ∃ N, N = 8 * T := ⟨_, rfl⟩
      have eN : IntKind.u64.wrap (8 * (T : Int)) = (N : Int) := by rw [IntKind.wrap_u64, hN]; omega
      have eT : IntKind.u64.wrap (T : Int) = (T : Int) := by rw [IntKind.wrap_u64]; omega
      obtain ⟨M, hM⟩ : ∃ M, M = T + 1 + j := ⟨_, rfl⟩
      obtain ⟨pre, hp⟩ : ∃ pre, pre = t ++ [128] ++ List.replicate j 0 := ⟨_, rfl⟩
      have hpl : pre.length = M := by rw [hp, hM]; simp [HhT.out]; omega
      rw [← hp] at hV
      have hpad := hideP (show pre ++ be8 N = padl t by unfold padl; rw [hp, hN, hjz, HhT.out])
      have hMl : M ≤ 1000001000 := by omega
      have hN64 : N < 18446744073709551616 := by omega
      have o4 := hideP hV.out.1
      have c1 := hideP hV.out.2.1
      have cb := hideP hV.out.2.2.1
      have s3 := hideP hV.out.2.2.2
      have hMI : (T : Int) + 1 + (j : Int) = (M : Int) := by omega
      rw [← hM]
      rw [hMI] at e3 e4
      clear hV hst hz hlt hj e1 i1 hj64 hMI
      have HM := hideP hM
      have HPL := hideP hpl
      have HN := hideP hN
      clear hM hpl hN hp hjz
      have i1 : (0 : Int) ≤ (M : Int) := by omega
      go_wp2_with fail
      go_loopw [5, 7] (fun v5 v7 wr => ∃ (k : Nat) (A3 : Option Addr) (c3 : Nat), k ≤ 8 ∧ v5 = .slice A3 (M + k) c3 ∧ v7 = .int .i64 k ∧ Hid (OwnB wr B A3 c3 (pre ++ (be8 N).take k) ∧ Row wr w.heap.size 37 z32 ∧ Below w.heap.size w wr ∧ B ≤ wr.heap.size)) (fun _ v7 _ => 8 - (intOf v7).toNat)
      case atStart => exact ⟨0, A3, c3, by omega, rfl, rfl, by simpa using o4.out, c1.out, cb.out, s3.out⟩
      case round =>
        clear o4 c1 cb s3 e3 e4 eN eT
        obtain ⟨k, A4, c4, hk, rfl, rfl, hV⟩ := hrel
        by_cases hlt : k < 8
        · have t' : decide ((k : Int) < 8) = true := by simp; omega
          have i2 : (0 : Int) ≤ 56 - 8 * (k : Int) := by omega
          have i3 : 8 * (k : Int) ≤ 56 := by omega
          have i4 : (0 : Int) ≤ 8 * (k : Int) := by omega
          have e1 : ((56 : Int) - 8 * (k : Int)).toNat = 56 - 8 * k := by omega
          have m1 : IntKind.u64.wrap (56 - 8 * (k : Int)) = 56 - 8 * (k : Int) := by rw [IntKind.wrap_u64]; omega
          obtain ⟨y, hy⟩ : ∃ y, y = N / 2 ^ (56 - 8 * k) % 256 := ⟨_, rfl⟩
          have hy' : ((N : Int) / 2 ^ (56 - 8 * k)).tmod 256 % 256 = (y : Int) := by
            obtain ⟨q, hq⟩ : ∃ q, q = N / 2 ^ (56 - 8 * k) := ⟨_, rfl⟩
            have hq2 : (N : Int) / 2 ^ (56 - 8 * k) = (q : Int) := by rw [hq]; simp
            rw [← hq] at hy
            rw [hq2, Int.tmod_eq_emod_of_nonneg (by omega), hy]; omega
          have hE := hideP (show (be8 N).take k ++ [y] = (be8 N).take (k + 1) by rw [hy]; exact be8_succ N k hlt)
          have hl := hideP (show M + k = (pre ++ (be8 N).take k).length by rw [List.length_append, HPL.out]; simp [be8]; omega)
          have hyy := hideP hy
          clear hy
          go_wp2_with (at_builtin; refine wpList_app1 rfl (.tmp 32) (.tmp 41) rfl B A4 c4 (M + k) (pre ++ (be8 N).take k) hl.out rfl hV.out.1 y rfl (by omega) hV.out.2.2.2 ?_; intro A5 c5 w5 o5 b5)
          have o6 := hideP (show OwnB w5 B A5 c5 (pre ++ (be8 N).take (k + 1)) by rw [← hE.out, ← List.append_assoc]; exact o5)
          have c1 := hideP (Row.below hV.out.2.1 b5 hwB.out)
          have cb := hideP (hV.out.2.2.1.trans (b5.mono (Nat.le_of_lt hwB.out)))
          have s3 := hideP (Nat.le_trans hV.out.2.2.2 b5.size)
          clear hV o5 b5 hy' m1
          go_roundw
          case rel => exact ⟨k + 1, A5, c5, by omega, rfl, by go_num, o6.out, c1.out, cb.out, s3.out⟩
          case measure => simp [intOf]; omega
        · have t' : decide ((k : Int) < 8) = false := by simp; omega
          have hk8 : k = 8 := by omega
          have o4 := hideP (show OwnB wr B A4 c4 (padl t) by have := hV.out.1; rwa [hk8, show (be8 N).take 8 = be8 N from List.take_of_length_le (by simp [be8]), hpad.out] at this)
          have c1 := hideP hV.out.2.1
          have cb := hideP hV.out.2.2.1
          obtain ⟨L, hL⟩ : ∃ L, L = M + k := ⟨_, rfl⟩
          have hLp := hideP (show L = (padl t).length by rw [hL, hk8, ← hpad.out, List.length_append, HPL.out]; simp [be8])
          rw [← hL]
          clear hV hk8 hlt hk hL
          obtain ⟨g, rfl, hgB, hgl, hcap, hcell⟩ := o4.out.at (by rw [← hLp.out]; have := HM.out; have := (padl_len t).2; rw [← hLp.out] at this; omega)
          have hL64 := hideP (show L % 64 = 0 by rw [hLp.out]; exact (padl_len t).1)
          rw [← hLp.out] at hcap
          have hcell' := hideP (show ∀ i, i < L → wr.cell? ⟨g, i, none⟩ = some (b8 ((padl t).getD i 0)) by rw [hLp.out]; exact hcell)
          have hgB' := hideP hgB
          have hgl' := hideP hgl
          have hLs : L ≤ 1000002000 := by rw [hLp.out, (padl_len t).2]; have := HhT.out; unfold zeros; omega
          have hib := hideP (isB_padl Hht.out)
          clear o4 hcell hgB hgl hpad
          obtain ⟨w5, hw5⟩ : ∃ w5, w5 = wr := ⟨_, rfl⟩
          rw [← hw5] at hcell' c1 cb hgl' ⊢
          clear hw5
          have dh := hideP (Pre32.of_row (l := h0) (Row.new w5 283 (h0.map v32)))
          have hcg := hideP (fun i (hi : i < L) => (cell_below (below_new w5 (Obj.cells (h0.map v32).toArray 283)) (a := ⟨g, i, none⟩) hgl'.out (hcell'.out i hi)))
          replace c1 := hideP (Row.alloc c1.out (Obj.cells (h0.map v32).toArray 283))
          have lth := hideP (show w.heap.size < w5.heap.size from Nat.lt_of_lt_of_le hwB.out (Nat.le_trans hgB'.out (Nat.le_of_lt hgl'.out)))
          replace cb := hideP (cb.out.alloc (Nat.le_of_lt lth.out) (Obj.cells (h0.map v32).toArray 283))
          have hgl2 := hideP (show g < (w5.alloc (Obj.cells (h0.map v32).toArray 283)).heap.size by have := hgl'.out; simp; omega)
          clear hcell' hgl' hgB'
          go_wp2_with fail
          have eh := show (#[.int .u32 1779033703, .int .u32 3144134277, .int .u32 1013904242, .int .u32 2773480762, .int .u32 1359893119, .int .u32 2600822924, .int .u32 528734635, .int .u32 1541459225] : Array Value) = (h0.map v32).toArray by kernel_rfl
          rw [eh]
          clear eh
          obtain ⟨w6, hw6⟩ : ∃ w6, w6 = w5.alloc (Obj.cells (h0.map v32).toArray 283) := ⟨_, rfl⟩
          rw [← hw6] at dh hcg c1 cb hgl2 ⊢
          clear hw6
          go_loopw [8, 9] (fun v8 v9 wr => ∃ (i gh ch : Nat) (h : List UInt32), 64 * i ≤ L ∧ v8 = .slice (some ⟨gh, 0, none⟩) 8 ch ∧ v9 = .int .i64 (64 * (i : Int)) ∧ Hid (h = compN h0 (padl t) i ∧ h.length = 8 ∧ Pre32 wr gh 283 h ∧ Row wr w.heap.size 37 z32 ∧ Below w.heap.size w wr ∧ (∀ i, i < L → wr.cell? ⟨g, i, none⟩ = some (b8 ((padl t).getD i 0))) ∧ g < wr.heap.size)) (fun _ v9 _ => L - (intOf v9).toNat)
          case atStart => exact ⟨0, w5.heap.size, 8, h0, by omega, rfl, rfl, rfl, rfl, dh.out, c1.out, cb.out, hcg.out, hgl2.out⟩
          case round =>
            clear dh c1 cb hcg hgl2
            obtain ⟨i, gh, ch, h, hi, rfl, rfl, hV⟩ := hrel
            by_cases hlt : 64 * i < L
            · have t2' : decide (64 * (i : Int) < (L : Int)) = true := by simp; omega
              have hi64 : 64 * i + 64 ≤ L := by have := hL64.out; omega
              have i2 : (0 : Int) ≤ 64 * (i : Int) := by omega
              have i3 : 64 * (i : Int) + 64 ≤ (c4 : Int) := by omega
              have i4 : (0 : Int) ≤ 64 * (i : Int) + 64 := by omega
              have i5 : 64 * (i : Int) ≤ 64 * (i : Int) + 64 := by omega
              have i6 : ¬ c4 = 64 * i := by omega
              have m1 : IntKind.i64.wrap (64 * (i : Int) + 64) = 64 * (i : Int) + 64 := IntWalk.i64_in _ (by omega)
              have e1 : (64 * (i : Int)).toNat = 64 * i := by omega
              have e2 : (64 * (i : Int) + 64).toNat = 64 * i + 64 := by omega
              have hH := hideP (hV.out.2.2.1.arr 8 (by rw [hV.out.2.1]; omega))
              have hhl := hideP hV.out.2.1
              have hB := hideP (show ∀ W, W = wr → Arr W W.heap.size (some ⟨g, 64 * i, none⟩) 64 (u8s (blk (padl t) i)) from fun W hW _ => by
                subst hW
                exact ⟨g, 64 * i, rfl, hV.out.2.2.2.2.2.2, fun j hj => by rw [hV.out.2.2.2.2.2.1 _ (by omega)]; unfold u8s b8; rw [blk_get _ _ _ hj]⟩)
              have hbb := hideP (isB_blk hib.out i)
              have hKw := hideP (HhK.out.after hV.out.2.2.2.2.1)
              have hN := hideP (show turnS h (blk (padl t) i) = compN h0 (padl t) (i + 1) by rw [hV.out.1]; rfl)
              go_wp2_with (go_at_call 234; refine (rturn_any h hhl.out _ _ _ (blk (padl t) i) _ _ _ _ hH.out (hB.out _ rfl) hKw.out hbb.out).mono ?_; rintro e w7 ⟨g7, c7, rfl, hb7, hg7, h7⟩)
              go_roundw
              case rel => exact ⟨i + 1, g7, c7, compN h0 (padl t) (i + 1), by omega, rfl, by rw [show 64 * ((i + 1 : Nat) : Int) = 64 * (i : Int) + 64 by omega], rfl, by rw [← hN.out]; exact turnS_len _ _, by rw [← hN.out]; exact h7, hV.out.2.2.2.1.after hb7, hV.out.2.2.2.2.1.trans (hb7.mono hV.out.2.2.2.2.1.size), fun j hj => cell_below hb7 (a := ⟨g, j, none⟩) hV.out.2.2.2.2.2.2 (hV.out.2.2.2.2.2.1 j hj), Nat.lt_of_lt_of_le hV.out.2.2.2.2.2.2 hb7.size⟩
              case measure => simp [intOf]; omega
            · have t2' : decide (64 * (i : Int) < (L : Int)) = false := by simp; omega
              have hiL : i = (padl t).length / 64 := by rw [← hLp.out]; omega
              have hS := hideP (show h = sumW t by rw [hV.out.1, hiL]; rfl)
              have hhl := hideP hV.out.2.1
              have dh := hideP hV.out.2.2.1
              have c1 := hideP hV.out.2.2.2.1
              have cb := hideP hV.out.2.2.2.2.1
              clear hV hiL hi hlt
              go_wp2_with fail
              obtain ⟨w8, hw8⟩ : ∃ w8, w8 = wr := ⟨_, rfl⟩
              rw [← hw8] at dh c1 cb ⊢
              clear hw8
              have hz := hideP (show z32 = (List.replicate 32 0).map b8 by unfold z32; rw [List.map_replicate]; rfl)
              have dd := hideP (show Row (w8.alloc (Obj.cells z32.toArray 37)) w8.heap.size 37 ((List.replicate 32 0).map b8) by rw [← hz.out]; exact Row.new _ _ _)
              have ltd := hideP (show w.heap.size < w8.heap.size from Row.lt c1.out)
              have gne := hideP (show gh ≠ w8.heap.size from Nat.ne_of_lt dh.out.lt)
              replace dh := hideP (dh.out.after (below_new w8 (Obj.cells z32.toArray 37)))
              replace c1 := hideP (Row.alloc c1.out (Obj.cells z32.toArray 37))
              replace cb := hideP (cb.out.alloc (Nat.le_of_lt ltd.out) (Obj.cells z32.toArray 37))
              obtain ⟨w9, hw9⟩ : ∃ w9, w9 = w8.alloc (Obj.cells z32.toArray 37) := ⟨_, rfl⟩
              rw [← hw9] at dd dh c1 cb
              have hw9' : w8.alloc (Obj.cells #[.int .u8 0, .int .u8 0, .int .u8 0, .int .u8 0, .int .u8 0, .int .u8 0, .int .u8 0, .int .u8 0, .int .u8 0, .int .u8 0, .int .u8 0, .int .u8 0, .int .u8 0, .int .u8 0, .int .u8 0, .int .u8 0, .int .u8 0, .int .u8 0, .int .u8 0, .int .u8 0, .int .u8 0, .int .u8 0, .int .u8 0, .int .u8 0, .int .u8 0, .int .u8 0, .int .u8 0, .int .u8 0, .int .u8 0, .int .u8 0, .int .u8 0, .int .u8 0] 37) = w9 := by rw [hw9]; rfl
              rw [hw9']
              clear hw9 hw9'
              obtain ⟨D, hD⟩ : ∃ D, D = w8.heap.size := ⟨_, rfl⟩
              rw [← hD] at dd ltd gne ⊢
              clear hD
              go_loopw [11] (fun v11 wr => ∃ (j : Nat) (l : List Nat), j ≤ 32 ∧ v11 = .int .i64 j ∧ Hid (l.length = 32 ∧ (∀ i, l.getD i 0 = if i < j then (dig h).getD i 0 else 0) ∧ Row wr D 37 (l.map b8) ∧ Pre32 wr gh 283 h ∧ Row wr w.heap.size 37 z32 ∧ Below w.heap.size w wr)) (fun v11 _ => 32 - (intOf v11).toNat)
              case atStart => exact ⟨0, List.replicate 32 0, by omega, rfl, rfl, fun i => by unfold List.getD; rw [List.getElem?_replicate]; split <;> simp, dd.out, dh.out, c1.out, cb.out⟩
              case round =>
                clear dd dh c1 cb
                obtain ⟨j, l, hj, rfl, hV⟩ := hrel
                by_cases hlt : j < 32
                · have t3' : decide ((j : Int) < 32) = true := by simp; omega
                  obtain ⟨q, hq⟩ : ∃ q, q = j / 4 := ⟨_, rfl⟩
                  obtain ⟨r, hr⟩ : ∃ r, r = j % 4 := ⟨_, rfl⟩
                  have q1 : (j : Int) / 4 = (q : Int) := by omega
                  have q2 : (j : Int).tdiv 4 = (q : Int) := by rw [Int.tdiv_eq_ediv_of_nonneg (by omega)]; omega
                  have r1 : (j : Int) % 4 = (r : Int) := by omega
                  have r2 : (j : Int).tmod 4 = (r : Int) := by rw [Int.tmod_eq_emod_of_nonneg (by omega)]; omega
                  have q8 : (q : Int) < 8 := by omega
                  have q0 : (0 : Int) ≤ (q : Int) := by omega
                  have j0 : (0 : Int) ≤ (j : Int) := by omega
                  have j32 : (j : Int) < 32 := by omega
                  have i2 : (0 : Int) ≤ 24 - 8 * (r : Int) := by omega
                  have i3 : 8 * (r : Int) ≤ 24 := by omega
                  have i4 : (0 : Int) ≤ 8 * (r : Int) := by omega
                  have e1 : ((24 : Int) - 8 * (r : Int)).toNat = 24 - 8 * r := by omega
                  have m0 : IntKind.i64.wrap (8 * (r : Int)) = 8 * (r : Int) := IntWalk.i64_in _ (by omega)
                  have m2 : IntKind.i64.wrap (24 - 8 * (r : Int)) = 24 - 8 * (r : Int) := IntWalk.i64_in _ (by omega)
                  have m1 : IntKind.u64.wrap (24 - 8 * (r : Int)) = 24 - 8 * (r : Int) := by rw [IntKind.wrap_u64]; omega
                  have kx := hV.out.2.2.2.1.cell q (by rw [hhl.out]; omega)
                  unfold v32 at kx
                  obtain ⟨X, hX⟩ : ∃ X, X = (h.getD q 0).toNat := ⟨_, rfl⟩
                  rw [show n32 (h.getD q 0) = (X : Int) by rw [hX]; rfl] at kx
                  have hX32 : X < 4294967296 := by rw [hX]; exact UInt32.toNat_lt _
                  obtain ⟨y, hy⟩ : ∃ y, y = X / 2 ^ (24 - 8 * r) % 256 := ⟨_, rfl⟩
                  have hyd := hideP (show y = (dig h).getD j 0 by
                    rw [hy, hX, hq, hr]; unfold dig; simp [List.getD, List.getElem?_map, List.getElem?_range hlt])
                  have hXq : X / 2 ^ (24 - 8 * r) < 4294967296 := Nat.lt_of_le_of_lt (Nat.div_le_self _ _) hX32
                  obtain ⟨Z, hZ⟩ : ∃ Z, Z = X / 2 ^ (24 - 8 * r) := ⟨_, rfl⟩
                  have hZ1 : (X : Int) / 2 ^ (24 - 8 * r) = (Z : Int) := by rw [hZ]; simp
                  have hZ2 : (X : Int).tdiv (2 ^ (24 - 8 * r)) = (Z : Int) := by rw [Int.tdiv_eq_ediv_of_nonneg (by omega)]; exact hZ1
                  rw [← hZ] at hy hXq
                  have hz0 : (Z : Int).tmod 256 = (y : Int) := by rw [Int.tmod_eq_emod_of_nonneg (by omega), hy]; omega
                  have hz1 : (Z : Int) % 256 = (y : Int) := by rw [hy]; omega
                  have hy2 : y < 256 := by rw [hy]; omega
                  have hs1 : wr.cell? ⟨D, j, none⟩ = some (b8 (l.getD j 0)) := by
                    have hjl : j < l.length := by rw [hV.out.1]; exact hlt
                    rw [Row.cell hV.out.2.2.1 j]
                    simp [List.getD, List.getElem?_eq_getElem hjl]
                  have hs2 := Row.fz hV.out.2.2.1 j
                  have C2 := hideP (Row.set hV.out.2.2.1 j (b8 y))
                  have dh := hideP (hV.out.2.2.2.1.setOther (a := ⟨D, j, none⟩) gne.out (b8 y))
                  have c1 := hideP (Row.setOther hV.out.2.2.2.2.1 (a := ⟨D, j, none⟩) (Nat.ne_of_lt ltd.out) (b8 y))
                  have cb := hideP (hV.out.2.2.2.2.2.setCell (p := ⟨D, j, none⟩) (Nat.le_of_lt ltd.out) (b8 y))
                  have hl := hideP hV.out.1
                  have hi := hideP hV.out.2.1
                  clear hV hq hr hX hZ hy hXq
                  unfold b8 at hs1
                  go_wp2_with fail
                  go_roundw
                  case rel =>
                    refine ⟨j + 1, l.set j y, by omega, by go_num, by rw [List.length_set]; exact hl.out, fun i => ?_, by rw [List.map_set]; exact C2.out, dh.out, c1.out, cb.out⟩
                    unfold List.getD
                    rw [List.getElem?_set]
                    by_cases e : j = i
                    · subst e
                      rw [if_pos rfl, if_pos (by rw [hl.out]; exact hlt), if_pos (by omega)]
                      have := hyd.out
                      simp only [Option.getD_some]
                      exact this
                    · rw [if_neg e]
                      have := hi.out i
                      unfold List.getD at this
                      rw [this]
                      by_cases e2 : i < j
                      · rw [if_pos e2, if_pos (by omega)]
                      · rw [if_neg e2, if_neg (by omega)]
                  case measure => simp [intOf]; omega
                · have t3' : decide ((j : Int) < 32) = false := by simp; omega
                  have hj32 : j = 32 := by omega
                  have hld : l = dig h := by
                    refine List.ext_getElem? fun i => ?_
                    rcases Nat.lt_or_ge i 32 with hi | hi
                    · have := hV.out.2.1 i
                      rw [if_pos (by omega)] at this
                      unfold List.getD at this
                      rw [List.getElem?_eq_getElem (by rw [hV.out.1]; exact hi)] at this ⊢
                      rw [List.getElem?_eq_getElem (by simp [dig]; exact hi)] at this ⊢
                      simpa using this
                    · rw [List.getElem?_eq_none (by rw [hV.out.1]; exact hi), List.getElem?_eq_none (by simp [dig]; exact hi)]
                  have dd := hideP (hld ▸ hV.out.2.2.1)
                  have c1 := hideP hV.out.2.2.2.2.1
                  have cb := hideP hV.out.2.2.2.2.2
                  clear hV hld hj32 hlt hj
                  have hds := hideP (show (Try.prog.info? 37).map (·.size) = some ((dig h).map b8).toArray.size by rw [size_dig]; simp [dig])
                  have hdo := hideP (show z32.toArray.size = ((dig h).map b8).toArray.size by simp [dig, z32])
                  go_wp2_with (first
                    | (refine wpList_load_row rfl 37 (.tmp 10) rfl D rfl 37 ((dig h).map b8).toArray (0, 0) _ dd.out Try.underlying37 rfl hds.out ?_)
                    | (refine wpList_store_row rfl 37 (.tmp 4) (.tmp 77) rfl w.heap.size ((dig h).map b8).toArray rfl rfl 37 z32.toArray c1.out hds.out hdo.out (all_b8 _) ?_))
                  refine ret_row rfl rfl (Row.setRow c1.out ((dig h).map b8)) Try.underlying37 (by rw [size_dig]; simp [dig]) rfl ⟨by rw [hS.out], ?_⟩
                  exact below_setRow' cb.out (Nat.le_refl _) _
end Go.Proofs.Ytgcbodpjidoanaa
namespace Go.Proofs.Ytgcbodpjidoanaa
open Go.RowKit

theorem be8_len (n : Nat) : (be8 n).length = 8 := by simp [be8]
def prePart (tag : Nat) (ts : List (List Nat)) : Nat → List Nat
  | 0 => [tag]
  | i + 1 => prePart tag ts i ++ be8 (ts.getD i []).length ++ ts.getD i []
def preN (tag : Nat) (ts : List (List Nat)) : List Nat := prePart tag ts ts.length
set_option maxRecDepth 100000 in
set_option maxHeartbeats 1000000 in
theorem words_any (w : World) : Calls Try.prog 195 #[] w fun e w' => e = .returned (.slice (some ⟨w.heap.size, 0, none⟩) 64 64) ∧ Below w.heap.size w w' ∧ Pre32 w' w.heap.size 283 kk := by
  go_enter Try.func195, Try.ntmps195
  go_wp2_with fail
  go_ret
  exact ⟨rfl, below_new _ _, Pre32.of_row (l := kk) (Row.new w 283 (kk.map v32))⟩
set_option maxRecDepth 100000 in
set_option maxHeartbeats 1000000 in
theorem rsum_any (A : Option Addr) (t : List Nat) (c : Nat) (w : World) (hA : Arr w w.heap.size A t.length (u8s t)) (ht : IsB t) (hn : t.length ≤ 1000000000) :
    Calls Try.prog 126 #[.slice A t.length c] w fun e w' => e = .returned (.agg ((dig (sumW t)).map b8).toArray) ∧ Below w.heap.size w w' := by
  have HhA := hideP hA; have Hht := hideP ht; have Hhn := hideP hn; clear hA ht hn
  obtain ⟨DD, hDD⟩ : ∃ D, D = (dig (sumW t)).map b8 := ⟨_, rfl⟩
  have hDl := hideP (show DD.length = 32 by rw [hDD]; simp [dig])
  have hDa := hideP (show DD.toArray.all (·.oneCell') = true by rw [hDD]; exact all_b8 _)
  rw [← hDD]
  have HhDD := hideP hDD; clear hDD
  go_enter Try.func126, Try.ntmps126
  go_upto_region 1 with fail
  obtain ⟨w1, hw1⟩ : ∃ w1, w1 = w.alloc (Obj.cells #[.int .u8 0, .int .u8 0, .int .u8 0, .int .u8 0, .int .u8 0, .int .u8 0, .int .u8 0, .int .u8 0, .int .u8 0, .int .u8 0, .int .u8 0, .int .u8 0, .int .u8 0, .int .u8 0, .int .u8 0, .int .u8 0, .int .u8 0, .int .u8 0, .int .u8 0, .int .u8 0, .int .u8 0, .int .u8 0, .int .u8 0, .int .u8 0, .int .u8 0, .int .u8 0, .int .u8 0, .int .u8 0, .int .u8 0, .int .u8 0, .int .u8 0, .int .u8 0] 37) := ⟨_, rfl⟩
  have c1 := hideP (show Row w1 w.heap.size 37 z32 by rw [hw1]; exact Row.new w _ z32)
  have cb := hideP (show Below w.heap.size w w1 by rw [hw1]; exact below_new _ _)
  rw [← hw1]
  clear hw1
  have hds := hideP (show (Try.prog.info? 37).map (·.size) = some DD.toArray.size by rw [size_dig]; simp [hDl.out])
  have hdo := hideP (show z32.toArray.size = DD.toArray.size by simp [hDl.out, z32])
  go_wp2_with (first
    | (go_at_call 195; refine (words_any _).mono ?_; rintro e w2 ⟨rfl, hb2, hp2⟩; have hb3 := cb.out.trans (hb2.mono cb.out.size); have hc2 := hideP (Row.after c1.out hb2); have hA2 := hideP (HhA.out.after hb3); have hK2 := hideP (hp2.arr 64 (by decide)))
    | (go_at_call 194; refine (with_any _ _ t _ _ _ hA2.out Hht.out Hhn.out hK2.out).mono ?_; rintro e w3 ⟨rfl, hb4⟩; rw [← HhDD.out]; have c3 := hideP (Row.after hc2.out hb4); have cb3 := hideP (hb3.trans (hb4.mono hb3.size)))
    | (refine wpList_store_row rfl 37 (.tmp 2) (.tmp 5) rfl w.heap.size DD.toArray rfl rfl 37 z32.toArray c3.out hds.out hdo.out hDa.out ?_))
  refine ret_row rfl rfl (Row.setRow c3.out DD) Try.underlying37 (by rw [size_dig, hDl.out]) rfl ⟨rfl, ?_⟩
  exact below_setRow' cb3.out (Nat.le_refl _) _
end Go.Proofs.Ytgcbodpjidoanaa
