/- Contract of node.Decode. -/
import Derived.Test.YtgcbodpjidoanaaQ23
import Derived.Test.YtgcbodpjidoanaaQ24
import Derived.Test.YtgcbodpjidoanaaQ35
set_option linter.unusedVariables false
set_option linter.unusedSimpArgs false
namespace Go.Proofs.Ytgcbodpjidoanaa
open Go.RowKit
abbrev nodeV (k : Nat) (A : Option Addr) (n c : Nat) (B : Option Addr) (m d : Nat) : List Value := [.int .u8 (k : Nat), .slice A n c, .slice B m d]
theorem nodeV_one : (nodeV 0 none 0 0 none 0 0).toArray.all (·.oneCell') = true := by simp [Value.oneCell']
theorem ents_one (d : Int) (i : Nat) (l : List Nat) (e : Int) : rEnts d (i + 1) l e = ((rEnts d i l e).1 ++ [⟨(rRowI d (rTruth (rEnts d i l e).2.1 (rEnts d i l e).2.2).2.1 (rTruth (rEnts d i l e).2.1 (rEnts d i l e).2.2).2.2).1, (rTruth (rEnts d i l e).2.1 (rEnts d i l e).2.2).1⟩], (rRowI d (rTruth (rEnts d i l e).2.1 (rEnts d i l e).2.2).2.1 (rTruth (rEnts d i l e).2.1 (rEnts d i l e).2.2).2.2).2) := rfl
theorem kids_one (d : Int) (i : Nat) (l : List Nat) (e : Int) : rKids d (i + 1) l e = ((rKids d i l e).1 ++ [(rKid d (rKids d i l e).2.1 (rKids d i l e).2.2).1], (rKid d (rKids d i l e).2.1 (rKids d i l e).2.2).2) := rfl
theorem But.low {S : Nat → Prop} {w W : World} {B : Nat} (b : But S w W) (h : ∀ k, S k → B ≤ k) (hB : B ≤ w.heap.size) : Below B w W := ⟨b.os, b.tape, b.output, b.size, fun k hk => b.block k (by omega) fun hs => by have := h k hs; omega⟩
theorem LOwn.far {α : Type} {E s : Nat} {C : α → List Value} {M : (Nat → Prop) → World → α → Prop} {w W : World} {base c : Nat} {A : Option Addr} {qs : List α} {S : Nat → Prop} (mv : Moves M) (h : LOwn E s C M w base A c qs) (b : But S w W) (hS : ∀ k, S k → k < base ∨ w.heap.size ≤ k) : LOwn E s C M W base A c qs :=
  h.but (S := fun k => S k ∧ k < w.heap.size) mv ⟨b.size, fun k hk hn => b.block k hk fun hs => hn ⟨hs, hk⟩, b.os, b.tape, b.output⟩ fun k hk => by have := hS k hk.1; omega
/-- entries under way -/
def EntsTo (v : World) (d : Int) (g h B k : Nat) (l : List Nat) (e : Int) (wr : World) (i : Nat) : Prop :=
  ∃ A c qs, qs.map Prod.fst = (rEnts d i l e).1 ∧ qs.length = i ∧ LOwn 56 2 entQ EntN wr B A c qs ∧ Row wr h 27 (nodeV k A i c none 0 0) ∧ Rd wr g (rEnts d i l e).2.1 (rEnts d i l e).2.2 ∧ But (fun b => b = g ∨ b = h ∨ B ≤ b) v wr ∧ B ≤ wr.heap.size
/-- kids under way -/
def KidsTo (v : World) (d : Int) (g h B k : Nat) (A1 : Option Addr) (n1 c1 : Nat) (l : List Nat) (e : Int) (wr : World) (i : Nat) : Prop :=
  ∃ A c qs, qs.map Prod.fst = (rKids d i l e).1 ∧ qs.length = i ∧ LOwn 43 37 kidQ KidN wr B A c qs ∧ Row wr h 27 (nodeV k A1 n1 c1 A i c) ∧ Rd wr g (rKids d i l e).2.1 (rKids d i l e).2.2 ∧ But (fun b => b = g ∨ b = h ∨ B ≤ b) v wr ∧ B ≤ wr.heap.size
def DecGot (w : World) (R : Option NodeD) (e : Ending) (w' : World) : Prop :=
  Below w.heap.size w w' ∧ ((R = none ∧ e = .returned (.tuple #[.agg (nodeV 0 none 0 0 none 0 0).toArray, .int .i64 21])) ∨ ∃ n p, R = some n ∧ e = .returned (.tuple #[.agg (nodeC n p).toArray, .int .i64 0]) ∧ ∀ W, But (fun b => b < w.heap.size) w' W → NodeMem W W.heap.size n p)
set_option maxRecDepth 100000 in
set_option maxHeartbeats 4000000 in
theorem ndecode_any (A : Option Addr) (b : List Nat) (n c : Nat) (d : Int) (w : World) (hnn : n = b.length) (hA : Arr w w.heap.size A n (u8s b)) (hI : IsB b) (hn : n ≤ 100000000) :
    Calls Try.prog 15 #[.slice A n c, .int .i64 d] w (DecGot w (readN d b)) := by
  obtain ⟨RS, hRS⟩ : ∃ RS, RS = readN d b := ⟨_, rfl⟩
  rw [← hRS]
  have hok := hideP (rNode_ok d hI)
  have hinv := hideP (fun n h => readN_inv (n := n) hI (hRS.symm.trans h))
  unfold readN at hRS
  obtain ⟨N, hNN⟩ : ∃ N, N = rNode d b := ⟨_, rfl⟩
  rw [← hNN] at hRS hok
  have HRS := hideP hRS
  clear hRS
  unfold rNode at hNN
  dsimp only at hNN
  obtain ⟨r0, hr0⟩ : ∃ r0, r0 = w.heap.size := ⟨_, rfl⟩
  obtain ⟨v, hv⟩ : ∃ v, v = w.alloc (.cells (nodeV 0 none 0 0 none 0 0).toArray 27) := ⟨_, rfl⟩
  have Z := hideP (show Row v r0 27 (nodeV 0 none 0 0 none 0 0) by rw [hv, hr0]; exact Row.new _ _ _)
  have B := hideP (show Below w.heap.size w v by rw [hv]; exact below_new _ _)
  have hN := hideP (rnew_any A b c v (by rw [← hnn]; exact hA.after B.out) hI (by omega))
  rw [← hnn] at hN
  have HA := hideP hA
  have Hnn := hideP hnn
  have hv' := hideP hv
  have hr' := hideP hr0
  -- what is read
  have hk1 := rByte_lt b 0 hI
  have hB1 := fun g W (h : Rd W g b 0) => rbyte_any g b 0 W h
  obtain ⟨k, hk⟩ : ∃ k, k = rByte b 0 := ⟨_, rfl⟩
  have hI1 := (take_suf 1 b 0).isB hI
  obtain ⟨⟨o1, l1, e1⟩, h1⟩ : ∃ q, q = rTake 1 b 0 := ⟨_, rfl⟩
  rw [← hk] at hB1 hNN hk1
  rw [← h1] at hB1 hNN hI1
  dsimp only at hB1 hNN hI1
  have hk2 := rByte_lt l1 e1 hI1
  have hB2 := fun g W (h : Rd W g l1 e1) => rbyte_any g l1 e1 W h
  obtain ⟨m, hm⟩ : ∃ k, k = rByte l1 e1 := ⟨_, rfl⟩
  have hI2 := (take_suf 1 l1 e1).isB hI1
  obtain ⟨⟨o2, l2, e2⟩, h2⟩ : ∃ q, q = rTake 1 l1 e1 := ⟨_, rfl⟩
  rw [← hm] at hB2 hNN hk2
  rw [← h2] at hB2 hNN hI2
  dsimp only at hB2 hNN hI2
  have hI3 := (ents_suf d l2 e2 m).isB hI2
  obtain ⟨⟨E, l3, e3⟩, h3⟩ : ∃ q, q = rEnts d m l2 e2 := ⟨_, rfl⟩
  rw [← h3] at hNN hI3
  dsimp only at hNN hI3
  have hk3 := rByte_lt l3 e3 hI3
  have hB3 := fun g W (h : Rd W g l3 e3) => rbyte_any g l3 e3 W h
  obtain ⟨m2, hm2⟩ : ∃ k, k = rByte l3 e3 := ⟨_, rfl⟩
  obtain ⟨⟨o4, l4, e4⟩, h4⟩ : ∃ q, q = rTake 1 l3 e3 := ⟨_, rfl⟩
  rw [← hm2] at hB3 hNN hk3
  rw [← h4] at hB3 hNN
  dsimp only at hB3 hNN
  have H3 := hideP h3
  have HNN := hideP hNN
  have HhB1 := hideP hB1; have HhB2 := hideP hB2; have HhB3 := hideP hB3; clear hB1 hB2 hB3
  clear hv hr0 hNN hI hI1 hI2 hI3 hk h1 hm h2 h3 hm2 h4 hA hnn
  go_enter Try.func15, Try.ntmps15
  go_upto_region 1 with fail
  rw [show w.heap.size = r0 from hr'.out.symm]
  rw [show (w.alloc (.cells #[.int .u8 0, .slice none 0 0, .slice none 0 0] 27)) = v from hv'.out.symm]
  go_upto_region 2 with (go_at_call 85; refine hN.out.mono ?_; rintro e_ w1 ⟨g, rfl, hg_, b_, s_⟩; have B1 := hideP (bstep B.out b_); have S1 := hideP s_; have hvg := hideP hg_; have Z1 := hideP (Row.after Z.out b_); clear b_ s_ hg_)
  have hrg := hideP (show r0 < g by have := Z.out.lt; have := hvg.out; omega)
  have hwg := hideP (show w.heap.size ≤ g by have := hrg.out; have := hr'.out; omega)
  go_upto_region 3 with (go_at_call 86; refine (HhB1.out g _ S1.out).mono ?_; rintro e_ w2 ⟨rfl, b_, s_⟩; have B2 := hideP (B1.out.trans (S1.out.butBelow b_ hwg.out)); have S2 := hideP s_; have Z2 := hideP (row_but b_ Z1.out (by have := hrg.out; omega)); clear b_ s_)
  obtain ⟨h, hh⟩ : ∃ h, h = w2.heap.size := ⟨_, rfl⟩
  rw [← hh]
  obtain ⟨v2, hv2⟩ : ∃ v, v = w2.alloc (.cells (nodeV k none 0 0 none 0 0).toArray 27) := ⟨_, rfl⟩
  rw [show (w2.alloc (.cells #[.int .u8 (k : Nat), .slice none 0 0, .slice none 0 0] 27)) = v2 from hv2.symm]
  have ext2 : Ext w2 v2 := by rw [hv2]; exact Ext.alloc _ _
  have B3 := hideP (show Below w.heap.size w v2 by rw [hv2]; exact bstep B2.out (below_new _ _))
  have S3 := hideP (S2.out.ext ext2)
  have Z3 := hideP (Z2.out.ext ext2)
  have Y3 := hideP (show Row v2 h 27 (nodeV k none 0 0 none 0 0) by rw [hv2, hh]; exact Row.new _ _ _)
  have hgh := hideP (show g < h by rw [hh]; exact S2.out.lt)
  have hrh := hideP (show r0 < h by have := hgh.out; have := hrg.out; omega)
  clear hv2 hh ext2 B2 S2 Z2 B1 S1 Z1 HhB1
  go_upto_region 4 with (go_at_call 86; refine (HhB2.out g _ S3.out).mono ?_; rintro e_ w4 ⟨rfl, b_, s_⟩; have B4 := hideP (B3.out.trans (S3.out.butBelow b_ hwg.out)); have S4 := hideP s_; have Z4 := hideP (row_but b_ Z3.out (by have := hrg.out; omega)); have Y4 := hideP (row_but b_ Y3.out (by have := hgh.out; omega)); clear b_ s_)
  obtain ⟨B0, hB0⟩ : ∃ B0, B0 = w4.heap.size := ⟨_, rfl⟩
  have hhB := hideP (show h < B0 by rw [hB0]; exact Y4.out.lt)
  have hgB := hideP (show g < B0 by have := hhB.out; have := hgh.out; omega)
  have hST := hideP (show EntsTo w4 d g h B0 k l2 e2 w4 0 from ⟨none, 0, [], rfl, rfl, LOwn.nil _ _, Y4.out, S4.out, But.refl _, Nat.le_of_eq hB0⟩)
  have HB0 := hideP hB0
  clear hB0 B3 S3 Z3 Y3 HhB2
  go_loopw [19] (fun v19 wr => ∃ i : Nat, i ≤ m ∧ v19 = .int .i64 (i : Nat) ∧ Hid (EntsTo w4 d g h B0 k l2 e2 wr i)) (fun v19 _ => m - (intOf v19).toNat)
  case atStart => exact ⟨0, Nat.zero_le _, rfl, hST.out⟩
  case round =>
    obtain ⟨i, hi, rfl, hV⟩ := hrel
    obtain ⟨A1, c1, qs, hq1, hql, hO, hY, hR, hC, hz⟩ := hV.out
    have Hq1 := hideP hq1; have Hql := hideP hql; have HO := hideP hO; have HY := hideP hY; have HR := hideP hR; have HC := hideP hC; have Hz := hideP hz
    clear hq1 hql hO hY hR hC hz hV
    by_cases hlt : i < m
    · have i1 : (i : Int) < (m : Int) := by omega
      have hst := hideP (ents_one d i l2 e2)
      obtain ⟨⟨cs, l5, e5⟩, hq⟩ : ∃ q, q = rEnts d i l2 e2 := ⟨_, rfl⟩
      rw [← hq] at hst HR Hq1
      dsimp only at hst HR Hq1
      clear hq
      have hT5 := rtruth_any g l5 e5 wr HR.out
      obtain ⟨⟨tt, l6, e6⟩, hq⟩ : ∃ q, q = rTruth l5 e5 := ⟨_, rfl⟩
      rw [← hq] at hst hT5
      dsimp only at hst hT5
      clear hq
      have hT6 := fun W (hW : Rd W g l6 e6) => rrowI_any g l6 d e6 W hW
      obtain ⟨⟨rr, l7, e7⟩, hq⟩ : ∃ q, q = rRowI d l6 e6 := ⟨_, rfl⟩
      rw [← hq] at hst hT6
      dsimp only at hst hT6
      clear hq
      obtain ⟨rn, hrn⟩ : ∃ rn, rn = rr.length := ⟨_, rfl⟩
      rw [← hrn] at hT6
      have HT5 := hideP hT5
      have HT6 := hideP hT6
      have Hrn := hideP hrn
      clear hT5 hT6 hrn
      go_upto_region 6 with (go_at_call 87; refine HT5.out.mono ?_; rintro e_ w5 ⟨rfl, b_, s_⟩; have R5 := hideP s_; have U5 := hideP b_; have Y5 := hideP (row_but b_ HY.out (by have := hgh.out; omega)); have O5 := hideP (HO.out.but ent_moves b_ fun k hk => by have := hgB.out; omega); have z5 := hideP (Nat.le_trans Hz.out b_.size); clear b_ s_)
      have k1 := Y5.out.cell 1
      simp only [nodeV, List.getElem?_cons_zero, List.getElem?_cons_succ] at k1
      have nh := hideP (show ¬ (h = g ∨ B0 ≤ h) by have := hgh.out; have := hhB.out; omega)
      clear HO HY HR Hz HT5
      go_wp2_with fail
      refine wp_region_mut (S := fun b => b = g ∨ B0 ≤ b) 9 (.q 0 (.q 1 (.q 2 (.q 3 (.q 5 (.l 4 (.q 6 (.l 7 (.l 8 .nil))))))))) (by kernel_rfl) (by kernel_rfl) ?_
      simp only [pickT, nthO_zero, nthO_succ]
      iterate 5 (refine wpM_valK (by rfl) (fun K hK => ?_); apply Exists.intro; refine ⟨fun W hW => ?_, ?_⟩; (focus (have hs0 := hW.drew_left.cell k1 nh.out; go_simp; (try rfl); done)); go_simp; refine hK _ ?_; clear hK K)
      refine wpM_loudS 88 #[.pointer (some ⟨g, 0, none⟩), .int .i64 d] (by rfl) (fun W => by go_simp) (fun W hW => (HT6.out W (R5.out.ext hW.drew_left)).mono ?_)
      rintro e_ w6 ⟨R6, d6, rfl, o6_, b6_, s6_⟩
      refine ⟨_, rfl, b6_.mono (fun k hk => .inl hk), fun K hK => ?_⟩
      go_simp
      refine hK _ ?_
      clear hK K
      have X6 := hideP ((But.of_ext (S := fun b => b = g ∨ B0 ≤ b) hW.drew_left).trans (b6_.mono (fun k hk => .inl hk)))
      have O6 := hideP ((O5.out.ext ent_moves hW.drew_left).but ent_moves b6_ fun k hk => by have := hgB.out; omega)
      have N6 := hideP (show EntN (fun b => b < w5.heap.size) w6 (⟨rr, tt⟩, (R6, d6)) from o6_.arrN fun b hb => Nat.lt_of_lt_of_le hb hW.drew_left.size)
      have S6 := hideP s6_
      clear hW b6_ s6_ o6_
      refine wpM_valK (by rfl) (fun K hK => ?_); apply Exists.intro; refine ⟨fun W hW => ?_, ?_⟩; (focus (go_simp; (try rfl); done)); go_simp; refine hK _ ?_; clear hK K
      refine wpM_buildK (by rfl) (fun W8 hW8 => ?_)
      refine ⟨.slice (some ⟨W8.heap.size, 0, none⟩) 1 1, W8.alloc (.cells #[.slice R6 rn d6, .bool tt] 56), ⟨by go_simp, Ext.alloc _ _⟩, fun K hK => ?_⟩
      go_simp
      refine hK _ ?_
      clear hK K
      refine wpM_turnK (by rfl) (fun W9 hW9 => ?_)
      have E9 := hW8.trans ((Ext.alloc W8 (.cells #[.slice R6 rn d6, .bool tt] 56)).trans hW9)
      have c9 : W9.rangeAt W8.heap.size 0 (entQ (⟨rr, tt⟩, (R6, d6))) := by
        rw [show entQ (⟨rr, tt⟩, (R6, d6)) = [.slice R6 rn d6, .bool tt] by unfold entQ entC; dsimp only; rw [Hrn.out]]
        exact Row.range ((Row.new W8 56 [.slice R6 rn d6, .bool tt]).ext hW9)
      obtain ⟨i0, hi0, hz0, hz1, hz2⟩ := info_parts info_ent
      refine turn_append_L ent_moves 24 32 i0 _ Try.underlying24 hi0 hz0 hz1 hz2 rfl (by decide) (by decide) (.tmp 24) (.tmp 30) rfl i Hql.out.symm rfl (O6.out.ext ent_moves E9) W8.heap.size 1 (⟨rr, tt⟩, (R6, d6)) w5.heap.size rfl c9 rfl (fun u hu => by
        simp only [entQ, entC, List.mem_cons, List.not_mem_nil, or_false] at hu
        rcases hu with rfl | rfl <;> rfl) (ent_moves _ _ _ _ _ N6.out (But.of_ext E9) fun _ _ h => h) z5.out (fun b off s e => O5.out.lt e) (by omega) (Nat.le_trans z5.out (Nat.le_trans X6.out.size E9.size)) (fun k hk => .inr hk) (fun g9 c9' w9 o9_ bb9_ b9_ K hK => ?_)
      go_simp
      refine hK _ ?_
      clear hK K c9 hi0 hz0 hz1 hz2
      have X9 := hideP (X6.out.trans ((But.of_ext E9).trans b9_))
      have S9 := hideP ((S6.out.ext E9).below (bb9_) hgB.out)
      have O9 := hideP o9_
      clear hW8 hW9 E9 b9_ bb9_ o9_
      refine wpM_nil (fun W10 hW10 => ?_)
      simp only [List.drop_succ_cons, List.drop_zero, List.drop_nil]
      have X10 := hideP (X9.out.trans (But.of_ext hW10))
      have Y10 := hideP (row_but2 X10.out Y5.out nh.out)
      have S10 := hideP (S9.out.ext hW10)
      have O10 := hideP (O9.out.ext ent_moves hW10)
      have z10 := hideP (Nat.le_trans z5.out X10.out.size)
      clear hW10 X9 S9 O9 k1 S6 O6 X6 N6 R5 O5
      have q1 := Y10.out.cell 1
      simp only [nodeV, List.getElem?_cons_zero, List.getElem?_cons_succ] at q1
      have f1 := Y10.out.fz 1
      have m2 : IntKind.i64.wrap ((i : Int) + 1) = (i : Int) + 1 := IntWalk.i64_in _ (by omega)
      go_wp2_with fail
      go_roundw
      case rel =>
        refine ⟨i + 1, by omega, by rw [show ((i + 1 : Nat) : Int) = (i : Int) + 1 by omega], some ⟨g9, 0, none⟩, c9', qs ++ [(⟨rr, tt⟩, (R6, d6))], ?_, by simp [Hql.out], ?_, Y10.out.set 1 _, ?_, ?_, ?_⟩
        · rw [hst.out]; simp [Hq1.out]
        · exact O10.out.but ent_moves (But.set _ ⟨h, 1, none⟩ _ (S := fun k => k = h) rfl) fun k e => by have := hhB.out; omega
        · rw [hst.out]; exact S10.out.setNew hgh.out _
        · exact ((HC.out.trans (U5.out.mono fun k e => .inl e)).trans (X10.out.mono fun k e => e.imp id .inr)).trans (But.set _ ⟨h, 1, none⟩ _ (.inr (.inl rfl)))
        · have := z10.out; simp; omega
      case measure => simp [intOf]; omega
    · obtain rfl : m = i := by omega
      have i1 : ¬ ((m : Int) < (m : Int)) := by omega
      have hE := hideP (show rEnts d m l2 e2 = (E, l3, e3) from H3.out.symm)
      rw [hE.out] at HR Hq1
      dsimp only at HR Hq1
      have C5 := hideP (B4.out.trans (But.low HC.out (B := w.heap.size) (fun k hk => by have := hwg.out; have := hgh.out; have := hhB.out; rcases hk with rfl | rfl | hk <;> omega) B4.out.size))
      have Z5 := hideP (row_but2 HC.out Z4.out (by have := hrg.out; have := hrh.out; have := hhB.out; omega))
      clear HC Z4 B4 S4 Y4 hST
      go_upto_region 9 with (go_at_call 86; refine (HhB3.out g _ HR.out).mono ?_; rintro e_ w7 ⟨rfl, b_, s_⟩; have B7 := hideP (C5.out.trans (HR.out.butBelow b_ hwg.out)); have S7 := hideP s_; have Z7 := hideP (row_but b_ Z5.out (by have := hrg.out; omega)); have Y7 := hideP (row_but b_ HY.out (by have := hgh.out; omega)); have O7 := hideP (HO.out.but ent_moves b_ fun k hk => by have := hgB.out; omega); have z7 := hideP (Nat.le_trans Hz.out b_.size); clear b_ s_)
      obtain ⟨B2, hB2⟩ : ∃ B2, B2 = w7.heap.size := ⟨_, rfl⟩
      have hhB2 := hideP (show h < B2 by rw [hB2]; exact Y7.out.lt)
      have hBB := hideP (show B0 ≤ B2 by rw [hB2]; exact z7.out)
      have hgB2 := hideP (show g < B2 by have := hhB2.out; have := hgh.out; omega)
      have hST := hideP (show KidsTo w7 d g h B2 k A1 m c1 l4 e4 w7 0 from ⟨none, 0, [], rfl, rfl, LOwn.nil _ _, Y7.out, S7.out, But.refl _, Nat.le_of_eq hB2⟩)
      have HB2 := hideP hB2
      clear hB2 HO HY HR S7 Y7 Z5 C5 HhB3 Hz
      go_loopw [37] (fun v37 wr => ∃ i : Nat, i ≤ m2 ∧ v37 = .int .i64 (i : Nat) ∧ Hid (KidsTo w7 d g h B2 k A1 m c1 l4 e4 wr i)) (fun v37 _ => m2 - (intOf v37).toNat)
      case atStart => exact ⟨0, Nat.zero_le _, rfl, hST.out⟩
      case round =>
        obtain ⟨i, hi, rfl, hV⟩ := hrel
        obtain ⟨A2, c2, ks, hq1, hql, hO, hY, hR, hC, hz⟩ := hV.out
        have Hq2 := hideP hq1; have Hql2 := hideP hql; have HO := hideP hO; have HY := hideP hY; have HR := hideP hR; have HC := hideP hC; have Hz := hideP hz
        clear hq1 hql hO hY hR hC hz hV
        by_cases hlt : i < m2
        · have i1 : (i : Int) < (m2 : Int) := by omega
          have hst := hideP (kids_one d i l4 e4)
          obtain ⟨⟨cs, l5, e5⟩, hq⟩ : ∃ q, q = rKids d i l4 e4 := ⟨_, rfl⟩
          rw [← hq] at hst HR Hq2
          dsimp only at hst HR Hq2
          clear hq
          have hT6 := fun W (hW : Rd W g l5 e5) => nkid_any g l5 d e5 W hW
          have hk6 := rKid_ok d (e := e5) HR.out.isB
          obtain ⟨⟨kd, l7, e7⟩, hq⟩ : ∃ q, q = rKid d l5 e5 := ⟨_, rfl⟩
          rw [← hq] at hst hT6 hk6
          dsimp only at hst hT6 hk6
          clear hq
          have HT6 := hideP hT6
          have HK6 := hideP hk6
          clear hT6 hk6
          have k2 := HY.out.cell 2
          simp only [nodeV, List.getElem?_cons_zero, List.getElem?_cons_succ] at k2
          have nh := hideP (show ¬ (h = g ∨ B2 ≤ h) by have := hgh.out; have := hhB2.out; omega)
          go_wp2_with fail
          refine wp_region_mut (S := fun b => b = g ∨ B2 ≤ b) 7 (.q 0 (.q 1 (.q 2 (.q 3 (.l 4 (.l 5 (.l 6 .nil))))))) (by kernel_rfl) (by kernel_rfl) ?_
          simp only [pickT, nthO_zero, nthO_succ]
          iterate 4 (refine wpM_valK (by rfl) (fun K hK => ?_); apply Exists.intro; refine ⟨fun W hW => ?_, ?_⟩; (focus (have hs0 := hW.drew_left.cell k2 nh.out; go_simp; (try rfl); done)); go_simp; refine hK _ ?_; clear hK K)
          refine wpM_loudS 89 #[.pointer (some ⟨g, 0, none⟩), .int .i64 d] (by rfl) (fun W => by go_simp) (fun W hW => (HT6.out W (HR.out.ext hW.drew_left)).mono ?_)
          rintro e_ w6 ⟨p6, rfl, o6_, b6_, s6_⟩
          refine ⟨_, rfl, b6_.mono (fun k hk => .inl hk), fun K hK => ?_⟩
          go_simp
          refine hK _ ?_
          clear hK K
          have X6 := hideP ((But.of_ext (S := fun b => b = g ∨ B2 ≤ b) hW.drew_left).trans (b6_.mono (fun k hk => .inl hk)))
          have O6 := hideP ((HO.out.ext kid_moves hW.drew_left).but kid_moves b6_ fun k hk => by have := hgB2.out; omega)
          have N6 := hideP (show KidN (fun b => b < wr.heap.size) w6 (kd, p6) from kid_moves _ _ _ _ _ o6_.n (But.refl _) fun b hb hn => by have := hW.drew_left.size; omega)
          have S6 := hideP s6_
          clear hW b6_ s6_ o6_
          have hl37 := HK6.out.cells p6
          obtain ⟨C6, hC6⟩ : ∃ C, C = kidC kd p6 := ⟨_, rfl⟩
          have one6 := hideP (show ∀ u ∈ C6, u.oneCell' = true by rw [hC6]; have := kidC_one kd p6; rw [Array.all_eq_true_iff_forall_mem] at this; exact fun u hu => this u (by simpa using hu))
          rw [← hC6] at hl37 ⊢
          have HC6 := hideP hC6
          clear hC6
          refine wpM_buildK (by rfl) (fun W8 hW8 => ?_)
          have hF := fold_all C6
          refine ⟨.slice (some ⟨W8.heap.size, 0, none⟩) 1 1, W8.alloc (.cells C6.toArray 43), ⟨by go_simp, Ext.alloc _ _⟩, fun K hK => ?_⟩
          go_simp
          refine hK _ ?_
          clear hK K
          refine wpM_turnK (by rfl) (fun W9 hW9 => ?_)
          have E9 := hW8.trans ((Ext.alloc W8 (.cells C6.toArray 43)).trans hW9)
          have c9 : W9.rangeAt W8.heap.size 0 (kidQ (kd, p6)) := by
            rw [show kidQ (kd, p6) = C6 from HC6.out.symm]
            exact Row.range ((Row.new W8 43 C6).ext hW9)
          obtain ⟨i0, hi0, hz0, hz1, hz2⟩ := info_parts info_kid
          refine turn_append_L kid_moves 25 120 i0 _ Try.underlying25 hi0 hz0 hz1 hz2 rfl (by decide) (by decide) (.tmp 40) (.tmp 44) rfl i Hql2.out.symm rfl (O6.out.ext kid_moves E9) W8.heap.size 1 (kd, p6) wr.heap.size rfl c9 (by rw [show kidQ (kd, p6) = C6 from HC6.out.symm]; exact hl37) (by rw [show kidQ (kd, p6) = C6 from HC6.out.symm]; exact one6.out) (kid_moves _ _ _ _ _ N6.out (But.of_ext E9) fun _ _ h => h) Hz.out (fun b off s e => HO.out.lt e) (by omega) (Nat.le_trans Hz.out (Nat.le_trans X6.out.size E9.size)) (fun k hk => .inr hk) (fun g9 c9' w9 o9_ bb9_ b9_ K hK => ?_)
          go_simp
          refine hK _ ?_
          clear hK K c9 hi0 hz0 hz1 hz2
          have X9 := hideP (X6.out.trans ((But.of_ext E9).trans b9_))
          have S9 := hideP ((S6.out.ext E9).below (bb9_) hgB2.out)
          have O9 := hideP o9_
          clear hW8 hW9 E9 b9_ bb9_ o9_
          refine wpM_nil (fun W10 hW10 => ?_)
          simp only [List.drop_succ_cons, List.drop_zero, List.drop_nil]
          have X10 := hideP (X9.out.trans (But.of_ext hW10))
          have Y10 := hideP (row_but2 X10.out HY.out nh.out)
          have S10 := hideP (S9.out.ext hW10)
          have O10 := hideP (O9.out.ext kid_moves hW10)
          have z10 := hideP (Nat.le_trans Hz.out X10.out.size)
          clear hW10 X9 S9 O9 k2 S6 O6 X6 N6 HY HR HO
          have q1 := Y10.out.cell 2
          simp only [nodeV, List.getElem?_cons_zero, List.getElem?_cons_succ] at q1
          have f1 := Y10.out.fz 2
          have mw : IntKind.i64.wrap ((i : Int) + 1) = (i : Int) + 1 := IntWalk.i64_in _ (by omega)
          go_wp2_with fail
          go_roundw
          case rel =>
            refine ⟨i + 1, by omega, by rw [show ((i + 1 : Nat) : Int) = (i : Int) + 1 by omega], some ⟨g9, 0, none⟩, c9', ks ++ [(kd, p6)], ?_, by simp [Hql2.out], ?_, Y10.out.set 2 _, ?_, ?_, ?_⟩
            · rw [hst.out]; simp [Hq2.out]
            · exact O10.out.but kid_moves (But.set _ ⟨h, 2, none⟩ _ (S := fun k => k = h) rfl) fun k e => by have := hhB2.out; omega
            · rw [hst.out]; exact S10.out.setNew hgh.out _
            · exact (HC.out.trans (X10.out.mono fun k e => e.imp id .inr)).trans (But.set _ ⟨h, 2, none⟩ _ (.inr (.inl rfl)))
            · have := z10.out; simp; omega
          case measure => simp [intOf]; omega
        · obtain rfl : m2 = i := by omega
          have i1 : ¬ ((m2 : Int) < (m2 : Int)) := by omega
          have Or := hideP (O7.out.far ent_moves HC.out fun k hk => by have := hgB.out; have := hhB.out; have := HB2.out; rcases hk with rfl | rfl | hk <;> omega)
          have Z8 := hideP (row_but2 HC.out Z7.out (by have := hrg.out; have := hrh.out; have := hhB2.out; omega))
          have B8 := hideP (B7.out.trans (But.low HC.out (B := w.heap.size) (fun k hk => by have := hwg.out; have := hgh.out; have := hhB2.out; rcases hk with rfl | rfl | hk <;> omega) B7.out.size))
          have hrl := hideP (show r0 < B0 by have := hrh.out; have := hhB.out; omega)
          have hMem := hideP (fun W (hW : But (fun b => b < B0 ∨ wr.heap.size ≤ b) wr W) => nodeMem_of (k := k) (Or.out.far ent_moves hW fun k hk => hk) (HO.out.far kid_moves hW fun k hk => by have := hBB.out; omega))
          have hl1 := congrArg List.length Hq1.out
          have hl2 := congrArg List.length Hq2.out
          rw [List.length_map, Hql.out] at hl1
          rw [List.length_map, Hql2.out] at hl2
          rw [Hq1.out, Hq2.out] at hMem
          have hnn := HNN.out
          obtain ⟨⟨KL, l8, e8⟩, h8⟩ : ∃ q, q = rKids d m2 l4 e4 := ⟨_, rfl⟩
          rw [← h8] at hMem hnn hl2 HR
          dsimp only at hMem hnn hl2 HR
          obtain ⟨pd, hpd⟩ : ∃ p, p = (⟨A1, c1, fun i => (qs.getD i default).2, A2, c2, fun i => (ks.getD i default).2⟩ : NodeP) := ⟨_, rfl⟩
          obtain ⟨nd, hnd⟩ : ∃ n, n = (⟨k, E, KL⟩ : NodeD) := ⟨_, rfl⟩
          have hnc : nodeC nd pd = nodeV k A1 m c1 A2 m2 c2 := by rw [hnd, hpd]; unfold nodeC; dsimp only; rw [← hl1, ← hl2]
          rw [← hpd, ← hnd] at hMem
          rw [← hnd] at hnn
          have hRS := HRS.out
          have hnok := hok.out
          rw [hnn] at hRS hnok
          dsimp only at hRS hnok
          have t3 := hideP (show (Try.prog.info? 27).map (·.size) = some 3 by kernel_rfl)
          have tz := hideP (show (Try.prog.info? 27).map (·.size) = some (nodeV 0 none 0 0 none 0 0).length from t3.out)
          obtain ⟨C3, hC3⟩ : ∃ C, C = nodeC nd pd := ⟨_, rfl⟩
          have hC3' : nodeV k A1 m c1 A2 m2 c2 = C3 := by rw [hC3, hnc]
          rw [hC3'] at HY
          have l3 : C3.length = 3 := by rw [← hC3']; rfl
          have tC := hideP (show (Try.prog.info? 27).map (·.size) = some C3.toArray.size by rw [List.size_toArray, l3]; exact t3.out)
          have tl := hideP (show (Try.prog.info? 27).map (·.size) = some C3.length by rw [l3]; exact t3.out)
          have tso0 : C3.toArray.size = 3 := by rw [List.size_toArray]; exact l3
          have tso := hideP (show (nodeV 0 none 0 0 none 0 0).toArray.size = C3.toArray.size by rw [tso0]; simp)
          clear tso0
          have tone := hideP (show C3.toArray.all (·.oneCell') = true by rw [← hC3']; simp [Value.oneCell'])
          have Hok := hideP hnok
          have HRS2 := hideP hRS
          have HC3 := hideP hC3
          have hEnd := rend_any g l8 e8 wr HR.out
          obtain ⟨en, hen⟩ : ∃ en, en = rEnd l8 e8 := ⟨_, rfl⟩
          rw [← hen] at hEnd HRS2
          have HEnd := hideP hEnd
          clear hl1 hl2 hnn h8 hpd hnd hnc hRS hnok hC3 hC3' l3 hEnd hen HO Or HC O7 Z7 B7 Hq1 Hq2 hok HRS HNN
          by_cases he : en = 0
          · subst he
            have HEnd2 := hideP (HEnd.out.mono (R' := fun e' w' => e' = .returned (.int .i64 0) ∧ But (fun b => b = g) wr w') fun e' w' h => ⟨h.1, h.2.1⟩)
            clear HEnd
            go_upto_region 12 with fail
            rcases Bool.eq_false_or_eq_true (nodeR nd d) with hr | hr
            · have hN1 := hideP (show RS = some nd by rw [HRS2.out, if_pos ⟨rfl, hr⟩])
              have hRt := fun W h => nright_any nd pd d W Hok.out (hMem.out W h)
              rw [hr] at hRt
              have hRt' := hideP hRt
              have hEn := hideP (fun W h => nencode_ok nd pd d W Hok.out (hMem.out W h) hr)
              have hbn := (hinv.out nd hN1.out).1
              have Hbn := hideP hbn
              rw [← HC3.out] at hRt' hEn
              obtain ⟨X, hX⟩ : ∃ X, X = nodeB nd := ⟨_, rfl⟩
              rw [← hX] at hEn Hbn
              have hxl := hideP (show X.length = n by rw [Hnn.out, Hbn.out])
              clear hX hbn hRt HRS2 hinv
              go_upto_region 15 with (first
                | (go_at_call 90; refine HEnd2.out.mono ?_; rintro e_ w8 ⟨rfl, b_⟩; have B9 := hideP (B8.out.trans (HR.out.butBelow b_ hwg.out)); have Z9 := hideP (row_but b_ Z8.out (by have := hrg.out; omega)); have U9 := hideP (b_.mono (S' := fun b => b < B0 ∨ wr.heap.size ≤ b) fun k hk => .inl (by have := hgB.out; omega)); have Y9 := hideP (row_but b_ HY.out (by have := hgh.out; omega)); clear b_)
                | (refine wpList_loadG rfl 27 (.tmp 7) rfl h 0 rfl C3 _ (Row.range Y9.out) Try.underlying27 rfl tl.out ?_)
                | (go_at_call 91; refine (hRt'.out w8 U9.out).mono ?_; rintro e_ w9 ⟨rfl, b_⟩; have B10 := hideP (bstep B9.out b_); have Z10 := hideP (Row.after Z9.out b_); have Y10 := hideP (Row.after Y9.out b_); have U10 := hideP (U9.out.then_new b_ U9.out.size); clear b_)
                | (refine wpList_load_row rfl 27 (.tmp 7) rfl h rfl 27 C3.toArray (0, 0) _ Y10.out Try.underlying27 rfl tC.out ?_)
                | (go_at_call 92; refine (hEn.out w9 U10.out).mono ?_; rintro e_ w10 ⟨R5, d5, rfl, o_, b_⟩; have O11 := hideP o_; have B11 := hideP (bstep B10.out b_); have Z11 := hideP (Row.after Z10.out b_); have Y11 := hideP (Row.after Y10.out b_); have U11 := hideP (U10.out.then_new b_ U10.out.size); clear b_ o_))
              have hQ := bsequal_any R5 A X b X.length n d5 c w10 rfl Hnn.out O11.out.arr (HA.out.after B11.out) (by have := hxl.out; omega)
              rw [decide_eq_true Hbn.out.symm] at hQ
              rw [hxl.out] at hQ ⊢
              have HQ := hideP hQ
              clear hQ hRt' hEn
              go_wp2_with (first
                | (go_at_call 93; refine HQ.out.mono ?_; rintro e_ w11 ⟨rfl, b_⟩; have B12 := hideP (bstep B11.out b_); have Z12 := hideP (Row.after Z11.out b_); have Y12 := hideP (Row.after Y11.out b_); have U12 := hideP (U11.out.then_new b_ U11.out.size); clear b_)
                | (refine wpList_load_row rfl 27 (.tmp 7) rfl h rfl 27 C3.toArray (0, 0) _ Y12.out Try.underlying27 rfl tC.out ?_)
                | (refine wpList_store_row rfl 27 (.tmp 4) (.tmp 73) rfl r0 C3.toArray rfl rfl 27 (nodeV 0 none 0 0 none 0 0).toArray Z12.out tC.out tso.out tone.out ?_))
              refine ret_rowt rfl rfl rfl (Row.setRow Z12.out C3) Try.underlying27 tl.out rfl ⟨?_, .inr ⟨nd, pd, hN1.out, by rw [HC3.out]; rfl, ?_⟩⟩
              · exact below_setRow' B12.out (Nat.le_of_eq hr'.out.symm) _
              · exact fun W hW => hMem.out _ ((U12.out.trans (But.setRow _ r0 _ (.inl hrl.out))).trans (hW.mono fun b (hb : b < w.heap.size) => .inl (by have := hwg.out; have := hgB.out; omega)))
            · have hN1 := hideP (show RS = none by rw [HRS2.out, if_neg (fun hh => by rw [hr] at hh; exact absurd hh.2 (by decide))])
              have hRt := fun W h => nright_any nd pd d W Hok.out (hMem.out W h)
              rw [hr] at hRt
              have hRt' := hideP hRt
              rw [← HC3.out] at hRt'
              clear hRt HRS2 hinv
              go_wp2_with (first
                | (go_at_call 90; refine HEnd2.out.mono ?_; rintro e_ w8 ⟨rfl, b_⟩; have B9 := hideP (B8.out.trans (HR.out.butBelow b_ hwg.out)); have Z9 := hideP (row_but b_ Z8.out (by have := hrg.out; omega)); have U9 := hideP (b_.mono (S' := fun b => b < B0 ∨ wr.heap.size ≤ b) fun k hk => .inl (by have := hgB.out; omega)); have Y9 := hideP (row_but b_ HY.out (by have := hgh.out; omega)); clear b_)
                | (refine wpList_loadG rfl 27 (.tmp 7) rfl h 0 rfl C3 _ (Row.range Y9.out) Try.underlying27 rfl tl.out ?_)
                | (go_at_call 91; refine (hRt'.out w8 U9.out).mono ?_; rintro e_ w9 ⟨rfl, b_⟩; have B10 := hideP (bstep B9.out b_); have Z10 := hideP (Row.after Z9.out b_); clear b_)
                | (refine wpList_store_row rfl 27 (.tmp 4) (.tmp 57) rfl r0 (nodeV 0 none 0 0 none 0 0).toArray rfl rfl 27 (nodeV 0 none 0 0 none 0 0).toArray Z10.out tz.out rfl nodeV_one ?_))
              refine ret_rowt rfl rfl rfl (Row.setRow Z10.out (nodeV 0 none 0 0 none 0 0)) Try.underlying27 tz.out rfl ⟨?_, .inl ⟨hN1.out, rfl⟩⟩
              exact below_setRow' B10.out (Nat.le_of_eq hr'.out.symm) _
          · have he' : (en != 0) = true := by simpa using he
            have hN1 := hideP (show RS = none by rw [HRS2.out, if_neg (fun hh => he hh.1)])
            clear he
            go_wp2_with (first
              | (go_at_call 90; refine HEnd.out.mono ?_; rintro e_ w8 ⟨rfl, b_, _⟩; have B9 := hideP (B8.out.trans (HR.out.butBelow b_ hwg.out)); have Z9 := hideP (row_but b_ Z8.out (by have := hrg.out; omega)); clear b_)
              | (refine wpList_store_row rfl 27 (.tmp 4) (.tmp 57) rfl r0 (nodeV 0 none 0 0 none 0 0).toArray rfl rfl 27 (nodeV 0 none 0 0 none 0 0).toArray Z9.out tz.out rfl nodeV_one ?_))
            refine ret_rowt rfl rfl rfl (Row.setRow Z9.out (nodeV 0 none 0 0 none 0 0)) Try.underlying27 tz.out rfl ⟨?_, .inl ⟨hN1.out, rfl⟩⟩
            exact below_setRow' B9.out (Nat.le_of_eq hr'.out.symm) _
end Go.Proofs.Ytgcbodpjidoanaa
