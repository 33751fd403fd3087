/- Contract of the reference's Read of a node. -/
import Derived.Test.YtgcbodpjidoanaaK35
import Derived.Test.YtgcbodpjidoanaaK40
import Derived.Test.YtgcbodpjidoanaaK42
set_option linter.unusedVariables false
set_option linter.unusedSimpArgs false
namespace Go.Proofs.Ytgcbodpjidoanaa
open Go.RowKit
theorem Qd.butN {w W : World} {g r : Nat} {l : List Nat} {e : Int} (h : Qd w g l e) (hr : g < r) (b : But (fun k => k = r) w W) : Qd W g l e :=
  h.below (B := g + 1) ⟨b.os, b.tape, b.output, b.size, fun k hk => b.block k (by have := h.lt; omega) (by omega)⟩ (by omega)
theorem wpList_append_L {α : Type} {E s : Nat} {C : α → List Value} {M : (Nat → Prop) → World → α → Prop} {w : World} {base c : Nat} {A : Option Addr} {qs : List α} {ops : Array Oper} {rest : List Oper} {Q : Exit → Act → World → Prop} {o : Oper} {a : Act} (hgd : o.guard = none) (mv : Moves M) (T by_ : Nat) (i0 : TypeInfo) (z0 : Value) (hT : Try.prog.underlying T = some (.slice E)) (hi : Try.prog.info? E = some i0) (hz0 : i0.zero = some z0) (hsz : i0.size = s) (hby : i0.bytes = by_) (hzs : z0.cells.size = s) (hs0 : 0 < s) (hb0 : by_ ≤ 1000)
    (x y : Operand) (ho : o.op = .call { callee := .builtin .append, args := #[x, y], argTypes := #[T, T] })
    (n : Nat) (hl : n = qs.length) (hs : a.eval x = .slice A n c) (hown : LOwn E s C M w base A c qs) (b cap : Nat) (q : α) (z : Nat) (hx : a.eval y = .slice (some ⟨b, 0, none⟩) 1 cap)
    (hr : w.rangeAt b 0 (C q)) (hc : (C q).length = s) (h1 : ∀ u ∈ C q, u.oneCell' = true) (hq : M (fun b => b < z) w q) (hz : base ≤ z) (hzA : ∀ b off s, A = some ⟨b, off, s⟩ → b < z) (hn : n ≤ 1000000000) (hbase : base ≤ w.heap.size)
    (h : ∀ g' c' w', LOwn E s C M w' base (some ⟨g', 0, none⟩) c' (qs ++ [q]) → Below base w w' → wpList Try.prog ops Q rest (a.put o.dst (.slice (some ⟨g', 0, none⟩) (n + 1) c')) w') : wpList Try.prog ops Q (o :: rest) a w := by
  refine wpList_append_C hgd T E s by_ i0 z0 hT hi hz0 hsz hby hzs hs0 hb0 x y ho base A c n (qs.map C) (by rw [List.length_map]; exact hl) hs hown.own b 0 cap (C q) hx hr hc h1 hn hbase fun g' c' w' o1 b1 b2 hat => ?_
  refine h g' c' w' ⟨?_, fun r hr => ?_⟩ b1
  · rw [List.map_append]; exact o1
  · rcases List.mem_append.1 hr with hr | hr
    · refine mv _ _ _ _ _ (hown.mem r hr) (b2.mono fun _ h => .inr h) fun b hb hn => ?_
      rintro (e | ⟨off, s, e⟩)
      · exact hn (.inl e)
      · injection e with e; injection e with e _ _
        rcases hat with ⟨off, s, e2⟩ | e2
        · exact hn (.inr ⟨off, s, e ▸ e2⟩)
        · omega
    · rw [List.mem_singleton.1 hr]
      refine mv _ _ _ _ _ hq (b2.mono fun b => by rintro ⟨off, s, e⟩; exact hzA b off s e) fun b hb hn => ?_
      rintro (e | ⟨off, s, e⟩)
      · exact hn (Nat.lt_of_lt_of_le e hz)
      · injection e with e; injection e with e _ _
        rcases hat with ⟨off, s, e2⟩ | e2
        · exact hn (e ▸ hzA _ _ _ e2)
        · omega
/-- entries under way -/
def EntsQ (v : World) (d : Int) (g h B k : Nat) (l : List Nat) (e : Int) (wr : World) (i : Nat) : Prop :=
  ∃ A c qs, qs.map Prod.fst = (rEnts d i l e).1 ∧ qs.length = i ∧ LOwn 56 2 entQ EntN wr B A c qs ∧ Row wr h 27 (nodeV k A i c none 0 0) ∧ Qd wr g (rEnts d i l e).2.1 (rEnts d i l e).2.2 ∧ But (fun b => b = g ∨ b = h ∨ B ≤ b) v wr ∧ B ≤ wr.heap.size
/-- kids under way -/
def KidsQ (v : World) (d : Int) (g h B k : Nat) (A1 : Option Addr) (n1 c1 : Nat) (l : List Nat) (e : Int) (wr : World) (i : Nat) : Prop :=
  ∃ A c qs, qs.map Prod.fst = (rKids d i l e).1 ∧ qs.length = i ∧ LOwn 43 37 kidQ KidN wr B A c qs ∧ Row wr h 27 (nodeV k A1 n1 c1 A i c) ∧ Qd wr g (rKids d i l e).2.1 (rKids d i l e).2.2 ∧ But (fun b => b = g ∨ b = h ∨ B ≤ b) v wr ∧ B ≤ wr.heap.size
def QNodeGot (w : World) (R : Option NodeD) (e : Ending) (w' : World) : Prop :=
  Below w.heap.size w w' ∧ ((R = none ∧ e = .returned (.tuple #[.agg (nodeV 0 none 0 0 none 0 0).toArray, .bool false])) ∨ ∃ n p, R = some n ∧ e = .returned (.tuple #[.agg (nodeC n p).toArray, .bool true]) ∧ NodeMem w' w'.heap.size n p)
set_option maxRecDepth 100000 in
set_option maxHeartbeats 4000000 in
theorem qread_any (A : Option Addr) (b : List Nat) (n c : Nat) (d : Int) (w : World) (hnn : n = b.length) (hA : Arr w w.heap.size A n (u8s b)) (hI : IsB b) (hc : n ≤ c) (hn : n ≤ 100000000) :
    Calls Try.prog 16 #[.slice A n c, .int .i64 d] w (QNodeGot w (readN d b)) := by
  obtain ⟨RS, hRS⟩ : ∃ RS, RS = readN d b := ⟨_, rfl⟩
  rw [← hRS]
  have hok := hideP (rNode_ok d hI)
  have hinv := hideP (fun n h => readN_inv (n := n) hI (hRS.symm.trans h))
  unfold readN at hRS
  obtain ⟨N, hNN⟩ : ∃ N, N = rNode d b := ⟨_, rfl⟩
  rw [← hNN] at hRS hok
  have HRS := hideP hRS
  clear hRS
  unfold rNode at hNN
  dsimp only at hNN
  obtain ⟨r0, hr0⟩ : ∃ r0, r0 = w.heap.size := ⟨_, rfl⟩
  obtain ⟨v, hv⟩ : ∃ v, v = w.alloc (.cells (nodeV 0 none 0 0 none 0 0).toArray 27) := ⟨_, rfl⟩
  have Z := hideP (show Row v r0 27 (nodeV 0 none 0 0 none 0 0) by rw [hv, hr0]; exact Row.new _ _ _)
  have B := hideP (show Below w.heap.size w v by rw [hv]; exact below_new _ _)
  obtain ⟨g, hg0⟩ : ∃ g, g = v.heap.size := ⟨_, rfl⟩
  obtain ⟨v1, hv1⟩ : ∃ v1, v1 = v.alloc (.cells #[.slice A n c, .int .i64 0] 150) := ⟨_, rfl⟩
  have hAv := hA.after B.out
  have S1 := hideP (show Qd v1 g b 0 by
    rw [hv1, hg0]
    exact ⟨A, c, by rw [← hnn]; exact Two.new v _ _ _, by rw [← hnn]; exact hAv.below (below_new v _), hI, by rw [← hnn]; exact hc⟩)
  have B1 := hideP (show Below w.heap.size w v1 by rw [hv1]; exact bstep B.out (below_new _ _))
  have Z1 := hideP (show Row v1 r0 27 (nodeV 0 none 0 0 none 0 0) by rw [hv1]; exact Row.after Z.out (below_new _ _))
  have hrg := hideP (show r0 < g by rw [hg0]; exact Z.out.lt)
  have hv1' := hideP hv1
  have hg' := hideP hg0
  have HA := hideP hA
  have Hnn := hideP hnn
  have hv' := hideP hv
  have hr' := hideP hr0
  -- what is read
  have hk1 := rByte_lt b 0 hI
  have hB1 := fun g W (h : Qd W g b 0) => qbyte_any g b 0 W h
  obtain ⟨k, hk⟩ : ∃ k, k = rByte b 0 := ⟨_, rfl⟩
  have hI1 := (take_suf 1 b 0).isB hI
  obtain ⟨⟨o1, l1, e1⟩, h1⟩ : ∃ q, q = rTake 1 b 0 := ⟨_, rfl⟩
  rw [← hk] at hB1 hNN hk1
  rw [← h1] at hB1 hNN hI1
  dsimp only at hB1 hNN hI1
  have hk2 := rByte_lt l1 e1 hI1
  have hB2 := fun g W (h : Qd W g l1 e1) => qbyte_any g l1 e1 W h
  obtain ⟨m, hm⟩ : ∃ k, k = rByte l1 e1 := ⟨_, rfl⟩
  have hI2 := (take_suf 1 l1 e1).isB hI1
  obtain ⟨⟨o2, l2, e2⟩, h2⟩ : ∃ q, q = rTake 1 l1 e1 := ⟨_, rfl⟩
  rw [← hm] at hB2 hNN hk2
  rw [← h2] at hB2 hNN hI2
  dsimp only at hB2 hNN hI2
  have hI3 := (ents_suf d l2 e2 m).isB hI2
  obtain ⟨⟨E, l3, e3⟩, h3⟩ : ∃ q, q = rEnts d m l2 e2 := ⟨_, rfl⟩
  rw [← h3] at hNN hI3
  dsimp only at hNN hI3
  have hk3 := rByte_lt l3 e3 hI3
  have hB3 := fun g W (h : Qd W g l3 e3) => qbyte_any g l3 e3 W h
  obtain ⟨m2, hm2⟩ : ∃ k, k = rByte l3 e3 := ⟨_, rfl⟩
  obtain ⟨⟨o4, l4, e4⟩, h4⟩ : ∃ q, q = rTake 1 l3 e3 := ⟨_, rfl⟩
  rw [← hm2] at hB3 hNN hk3
  rw [← h4] at hB3 hNN
  dsimp only at hB3 hNN
  have H3 := hideP h3
  have HNN := hideP hNN
  have HhB1 := hideP hB1; have HhB2 := hideP hB2; have HhB3 := hideP hB3; clear hB1 hB2 hB3
  clear hv hr0 hv1 hg0 hAv hNN hI hI1 hI2 hI3 hk h1 hm h2 h3 hm2 h4 hA hnn
  go_enter Try.func16, Try.ntmps16
  go_upto_region 1 with fail
  rw [show w.heap.size = r0 from hr'.out.symm]
  rw [show (w.alloc (.cells #[.int .u8 0, .slice none 0 0, .slice none 0 0] 27)) = v from hv'.out.symm]
  go_upto_region 2 with fail
  rw [show v.heap.size = g from hg'.out.symm, show (v.alloc (.cells #[.slice A n c, .int .i64 0] 150)) = v1 from hv1'.out.symm]
  have hwg := hideP (show w.heap.size ≤ g by have := hrg.out; have := hr'.out; omega)
  go_upto_region 3 with (go_at_call 94; refine (HhB1.out g _ S1.out).mono ?_; rintro e_ w2 ⟨rfl, b_, s_⟩; have B2 := hideP (B1.out.trans (S1.out.butBelow b_ hwg.out)); have S2 := hideP s_; have Z2 := hideP (row_but b_ Z1.out (by have := hrg.out; omega)); clear b_ s_)
  obtain ⟨h, hh⟩ : ∃ h, h = w2.heap.size := ⟨_, rfl⟩
  rw [← hh]
  obtain ⟨v2, hv2⟩ : ∃ v, v = w2.alloc (.cells (nodeV k none 0 0 none 0 0).toArray 27) := ⟨_, rfl⟩
  rw [show (w2.alloc (.cells #[.int .u8 (k : Nat), .slice none 0 0, .slice none 0 0] 27)) = v2 from hv2.symm]
  have ext2 : Ext w2 v2 := by rw [hv2]; exact Ext.alloc _ _
  have B3 := hideP (show Below w.heap.size w v2 by rw [hv2]; exact bstep B2.out (below_new _ _))
  have S3 := hideP (S2.out.ext ext2)
  have Z3 := hideP (Z2.out.ext ext2)
  have Y3 := hideP (show Row v2 h 27 (nodeV k none 0 0 none 0 0) by rw [hv2, hh]; exact Row.new _ _ _)
  have hgh := hideP (show g < h by rw [hh]; exact S2.out.lt)
  have hrh := hideP (show r0 < h by have := hgh.out; have := hrg.out; omega)
  clear hv2 hh ext2 B2 S2 Z2 B1 S1 Z1 HhB1
  go_wp2_with (go_at_call 94; refine (HhB2.out g _ S3.out).mono ?_; rintro e_ w4 ⟨rfl, b_, s_⟩; have B4 := hideP (B3.out.trans (S3.out.butBelow b_ hwg.out)); have S4 := hideP s_; have Z4 := hideP (row_but b_ Z3.out (by have := hrg.out; omega)); have Y4 := hideP (row_but b_ Y3.out (by have := hgh.out; omega)); clear b_ s_)
  obtain ⟨B0, hB0⟩ : ∃ B0, B0 = w4.heap.size := ⟨_, rfl⟩
  have hhB := hideP (show h < B0 by rw [hB0]; exact Y4.out.lt)
  have hgB := hideP (show g < B0 by have := hhB.out; have := hgh.out; omega)
  have hST := hideP (show EntsQ w4 d g h B0 k l2 e2 w4 0 from ⟨none, 0, [], rfl, rfl, LOwn.nil _ _, Y4.out, S4.out, But.refl _, Nat.le_of_eq hB0⟩)
  have HB0 := hideP hB0
  clear hB0 B3 S3 Z3 Y3 HhB2
  go_loopw [9] (fun v9 wr => ∃ i : Nat, i ≤ m ∧ v9 = .int .i64 (i : Nat) ∧ Hid (EntsQ w4 d g h B0 k l2 e2 wr i)) (fun v9 _ => m - (intOf v9).toNat)
  case atStart => exact ⟨0, Nat.zero_le _, rfl, hST.out⟩
  case round =>
    obtain ⟨i, hi, rfl, hV⟩ := hrel
    obtain ⟨A1, c1, qs, hq1, hql, hO, hY, hR, hC, hz⟩ := hV.out
    have Hq1 := hideP hq1; have Hql := hideP hql; have HO := hideP hO; have HY := hideP hY; have HR := hideP hR; have HC := hideP hC; have Hz := hideP hz
    clear hq1 hql hO hY hR hC hz hV
    by_cases hlt : i < m
    · have i1 : (i : Int) < (m : Int) := by omega
      have hst := hideP (ents_one d i l2 e2)
      obtain ⟨⟨cs, l5, e5⟩, hq⟩ : ∃ q, q = rEnts d i l2 e2 := ⟨_, rfl⟩
      rw [← hq] at hst HR Hq1
      dsimp only at hst HR Hq1
      clear hq
      have hT5 := qtruth_any g l5 e5 wr HR.out
      obtain ⟨⟨tt, l6, e6⟩, hq⟩ : ∃ q, q = rTruth l5 e5 := ⟨_, rfl⟩
      rw [← hq] at hst hT5
      dsimp only at hst hT5
      clear hq
      have hT6 := fun W (hW : Qd W g l6 e6) => qrowI_any g l6 d e6 W hW
      obtain ⟨⟨rr, l7, e7⟩, hq⟩ : ∃ q, q = rRowI d l6 e6 := ⟨_, rfl⟩
      rw [← hq] at hst hT6
      dsimp only at hst hT6
      clear hq
      obtain ⟨rn, hrn⟩ : ∃ rn, rn = rr.length := ⟨_, rfl⟩
      rw [← hrn] at hT6
      have HT5 := hideP hT5
      have HT6 := hideP hT6
      have Hrn := hideP hrn
      clear hT5 hT6 hrn
      go_upto_region 8 with (go_at_call 95; refine HT5.out.mono ?_; rintro e_ w5 ⟨rfl, b_, s_⟩; have R5 := hideP s_; have U5 := hideP b_; have Y5 := hideP (row_but b_ HY.out (by have := hgh.out; omega)); have O5 := hideP (HO.out.but ent_moves b_ fun k hk => by have := hgB.out; omega); have z5 := hideP (Nat.le_trans Hz.out b_.size); clear b_ s_)
      clear HO HY HR Hz HT5
      go_upto_region 9 with (go_at_call 96; refine (HT6.out w5 R5.out).mono ?_; rintro e_ w6 ⟨R6, d6, rfl, o6_, b_, s_⟩; have S6 := hideP s_; have U6 := hideP (U5.out.trans b_); have Y6 := hideP (row_but b_ Y5.out (by have := hgh.out; omega)); have O6 := hideP (O5.out.but ent_moves b_ fun k hk => by have := hgB.out; omega); have z6 := hideP (Nat.le_trans z5.out b_.size); have N6 := hideP (show EntN (fun b => b < w5.heap.size) w6 (⟨rr, tt⟩, (R6, d6)) from o6_.arrN fun b hb => hb); clear b_ s_ o6_)
      have k1 := Y6.out.cell 1
      simp only [nodeV, List.getElem?_cons_zero, List.getElem?_cons_succ] at k1
      have hcs := hideP (Ext.alloc w6 (.cells #[.slice R6 rn d6, .bool tt] 56))
      have c9 := hideP (show (w6.alloc (.cells #[.slice R6 rn d6, .bool tt] 56)).rangeAt w6.heap.size 0 (entQ (⟨rr, tt⟩, (R6, d6))) by
        rw [show entQ (⟨rr, tt⟩, (R6, d6)) = [.slice R6 rn d6, .bool tt] by unfold entQ entC; dsimp only; rw [Hrn.out]]
        exact Row.range (Row.new w6 56 [.slice R6 rn d6, .bool tt]))
      have hi1 := hideP (show i ≤ 1000000000 by omega)
      obtain ⟨i0, hi0, hz0, hz1, hz2⟩ := info_parts info_ent
      have m2 : IntKind.i64.wrap ((i : Int) + 1) = (i : Int) + 1 := IntWalk.i64_in _ (by omega)
      have I1 := hideP hi0; have I2 := hideP hz0; have I3 := hideP hz1; have I4 := hideP hz2
      clear hi0 hz0 hz1 hz2 Y5 R5
      go_wp2_with (at_builtin; refine wpList_append_L rfl ent_moves 24 32 i0 _ Try.underlying24 I1.out I2.out I3.out I4.out rfl (by decide) (by decide) (.tmp 34) (.tmp 38) rfl i Hql.out.symm rfl (O6.out.ext ent_moves hcs.out) w6.heap.size 1 (⟨rr, tt⟩, (R6, d6)) w5.heap.size rfl c9.out rfl (fun u hu => by
          simp only [entQ, entC, List.mem_cons, List.not_mem_nil, or_false] at hu
          rcases hu with rfl | rfl <;> rfl) (ent_moves _ _ _ _ _ N6.out (But.of_ext hcs.out) fun _ _ h => h) z5.out (fun b off s e => O5.out.lt e) hi1.out (Nat.le_trans z6.out hcs.out.size) ?_; intro g9 c9' w9 o9_ bb9_; have O9 := hideP o9_; have X9 := hideP bb9_; have Y9 := hideP (Row.below (Y6.out.ext hcs.out) bb9_ hhB.out); have q1 := Y9.out.cell 1; simp only [nodeV, List.getElem?_cons_zero, List.getElem?_cons_succ] at q1; have f1 := Y9.out.fz 1; clear o9_ bb9_)
      go_roundw
      case rel =>
        refine ⟨i + 1, by omega, by rw [show ((i + 1 : Nat) : Int) = (i : Int) + 1 by omega], some ⟨g9, 0, none⟩, c9', qs ++ [(⟨rr, tt⟩, (R6, d6))], ?_, by simp [Hql.out], ?_, Y9.out.set 1 _, ?_, ?_, ?_⟩
        · rw [hst.out]; simp [Hq1.out]
        · exact O9.out.but ent_moves (But.set _ ⟨h, 1, none⟩ _ (S := fun k => k = h) rfl) fun k e => by have := hhB.out; omega
        · rw [hst.out]; exact Qd.butN ((S6.out.ext hcs.out).below X9.out hgB.out) hgh.out (But.set _ ⟨h, 1, none⟩ _ rfl)
        · exact (((HC.out.trans (U6.out.mono fun k e => .inl e)).trans (But.of_ext hcs.out)).then_new X9.out (Nat.le_of_eq HB0.out.symm)).trans (But.set _ ⟨h, 1, none⟩ _ (.inr (.inl rfl)))
        · have := z6.out; have := X9.out.size; have := hcs.out.size; simp; omega
      case measure => simp [intOf]; omega
    · obtain rfl : m = i := by omega
      have i1 : ¬ ((m : Int) < (m : Int)) := by omega
      have hE := hideP (show rEnts d m l2 e2 = (E, l3, e3) from H3.out.symm)
      rw [hE.out] at HR Hq1
      dsimp only at HR Hq1
      have C5 := hideP (B4.out.trans (But.low HC.out (B := w.heap.size) (fun k hk => by have := hwg.out; have := hgh.out; have := hhB.out; rcases hk with rfl | rfl | hk <;> omega) B4.out.size))
      have Z5 := hideP (row_but2 HC.out Z4.out (by have := hrg.out; have := hrh.out; have := hhB.out; omega))
      clear HC Z4 B4 S4 Y4 hST
      go_wp2_with (go_at_call 94; refine (HhB3.out g _ HR.out).mono ?_; rintro e_ w7 ⟨rfl, b_, s_⟩; have B7 := hideP (C5.out.trans (HR.out.butBelow b_ hwg.out)); have S7 := hideP s_; have Z7 := hideP (row_but b_ Z5.out (by have := hrg.out; omega)); have Y7 := hideP (row_but b_ HY.out (by have := hgh.out; omega)); have O7 := hideP (HO.out.but ent_moves b_ fun k hk => by have := hgB.out; omega); have z7 := hideP (Nat.le_trans Hz.out b_.size); clear b_ s_)
      obtain ⟨B2, hB2⟩ : ∃ B2, B2 = w7.heap.size := ⟨_, rfl⟩
      have hhB2 := hideP (show h < B2 by rw [hB2]; exact Y7.out.lt)
      have hBB := hideP (show B0 ≤ B2 by rw [hB2]; exact z7.out)
      have hgB2 := hideP (show g < B2 by have := hhB2.out; have := hgh.out; omega)
      have hST := hideP (show KidsQ w7 d g h B2 k A1 m c1 l4 e4 w7 0 from ⟨none, 0, [], rfl, rfl, LOwn.nil _ _, Y7.out, S7.out, But.refl _, Nat.le_of_eq hB2⟩)
      have HB2 := hideP hB2
      clear hB2 HO HY HR S7 Y7 Z5 C5 HhB3 Hz
      go_loopw [12] (fun v12 wr => ∃ i : Nat, i ≤ m2 ∧ v12 = .int .i64 (i : Nat) ∧ Hid (KidsQ w7 d g h B2 k A1 m c1 l4 e4 wr i)) (fun v12 _ => m2 - (intOf v12).toNat)
      case atStart => exact ⟨0, Nat.zero_le _, rfl, hST.out⟩
      case round =>
        obtain ⟨i, hi, rfl, hV⟩ := hrel
        obtain ⟨A2, c2, ks, hq1, hql, hO, hY, hR, hC, hz⟩ := hV.out
        have Hq2 := hideP hq1; have Hql2 := hideP hql; have HO := hideP hO; have HY := hideP hY; have HR := hideP hR; have HC := hideP hC; have Hz := hideP hz
        clear hq1 hql hO hY hR hC hz hV
        by_cases hlt : i < m2
        · have i1 : (i : Int) < (m2 : Int) := by omega
          have hst := hideP (kids_one d i l4 e4)
          obtain ⟨⟨cs, l5, e5⟩, hq⟩ : ∃ q, q = rKids d i l4 e4 := ⟨_, rfl⟩
          rw [← hq] at hst HR Hq2
          dsimp only at hst HR Hq2
          clear hq
          have hk6 := rKid_ok d (e := e5) HR.out.isB
          have hD1 := fun W (h : Qd W g l5 e5) => qdig_any g l5 e5 W h
          obtain ⟨RK, hRK⟩ : ∃ q, q = rKid d l5 e5 := ⟨_, rfl⟩
          rw [← hRK] at hst hk6
          unfold rKid at hRK
          dsimp only at hRK
          have lp := hideP (rDig_len l5 e5)
          obtain ⟨p, hp⟩ : ∃ p, p = rDig l5 e5 := ⟨_, rfl⟩
          obtain ⟨⟨q1, m1', f1⟩, h1⟩ : ∃ q, q = rTake 32 l5 e5 := ⟨_, rfl⟩
          rw [← hp, ← h1] at hD1 hRK
          rw [← hp] at lp
          dsimp only at hD1 hRK
          have hD2 := fun W (h : Qd W g m1' f1) => qcount_any g m1' 1048576 f1 W h
          obtain ⟨⟨n2, m2', f2⟩, h2⟩ : ∃ q, q = rCount 1048576 m1' f1 := ⟨_, rfl⟩
          rw [← h2] at hD2 hRK
          dsimp only at hD2 hRK
          have hD3 := fun W (h : Qd W g m2' f2) => qcount_any g m2' 1048576 f2 W h
          obtain ⟨⟨n3, m3', f3⟩, h3⟩ : ∃ q, q = rCount 1048576 m2' f2 := ⟨_, rfl⟩
          rw [← h3] at hD3 hRK
          dsimp only at hD3 hRK
          have hD4 := fun W (h : Qd W g m3' f3) => qrowI_any g m3' d f3 W h
          obtain ⟨⟨r4, m4', f4⟩, h4⟩ : ∃ q, q = rRowI d m3' f3 := ⟨_, rfl⟩
          rw [← h4] at hD4 hRK
          dsimp only at hD4 hRK
          have hD5 := fun W (h : Qd W g m4' f4) => qrowI_any g m4' d f4 W h
          obtain ⟨⟨r5, m5', f5⟩, h5⟩ : ∃ q, q = rRowI d m4' f4 := ⟨_, rfl⟩
          rw [← h5] at hD5 hRK
          dsimp only at hD5 hRK
          have hD6 := fun W (h : Qd W g m5' f5) => qrowI_any g m5' d f5 W h
          obtain ⟨⟨r6, m6', f6⟩, h6⟩ : ∃ q, q = rRowI d m5' f5 := ⟨_, rfl⟩
          rw [← h6] at hD6 hRK
          dsimp only at hD6 hRK
          rw [hRK] at hst hk6
          dsimp only at hst hk6
          obtain ⟨kd, hkd⟩ : ∃ k, k = (⟨p, r4, r5, (n2 : Int), (n3 : Int), r6⟩ : KidD) := ⟨_, rfl⟩
          rw [← hkd] at hst hk6
          have HKD := hideP hkd
          have HK6 := hideP hk6
          obtain ⟨m4, hm4⟩ : ∃ x, x = r4.length := ⟨_, rfl⟩
          obtain ⟨m5, hm5⟩ : ∃ x, x = r5.length := ⟨_, rfl⟩
          obtain ⟨m6, hm6⟩ : ∃ x, x = r6.length := ⟨_, rfl⟩
          rw [← hm4] at hD4; rw [← hm5] at hD5; rw [← hm6] at hD6
          have M4 := hideP hm4; have M5 := hideP hm5; have M6 := hideP hm6
          unfold dg at hD1
          have HhD1 := hideP hD1; have HhD2 := hideP hD2; have HhD3 := hideP hD3; have HhD4 := hideP hD4; have HhD5 := hideP hD5; have HhD6 := hideP hD6; clear hD1 hD2 hD3 hD4 hD5 hD6
          clear hp h1 h2 h3 h4 h5 h6 hRK hm4 hm5 hm6 hkd hk6
          have hF := fold_kid p lp.out
          obtain ⟨C0, hC0⟩ : ∃ C, C = p.map b8 ++ [.slice none 0 0, .slice none 0 0, .int .i64 0, .int .i64 0, .slice none 0 0] := ⟨_, rfl⟩
          have h37 : C0.length = 37 := by rw [hC0]; simp [lp.out]
          have hs := hideP (size_k37 h37)
          have ho := hideP (show C0.toArray.all (·.oneCell') = true by
            rw [hC0]
            have := kidC_one ⟨p, [], [], 0, 0, []⟩ kidPZ
            exact this)
          have hs2 := hideP (show kidL13.toArray.size = C0.toArray.size by rw [List.size_toArray, List.size_toArray, h37]; rfl)
          rw [← hC0] at hF
          have HC0 := hideP hC0
          clear hC0 h37
          have hM := hideP (show (p.map b8).length = 32 by simp [lp.out])
          have l32 := lp.out
          go_upto_region 15 with (first
            | (go_at_call 97; refine (HhD1.out _ HR.out).mono ?_; rintro e_ w1 ⟨rfl, b_, s_⟩; have R1 := hideP s_; have U1 := hideP b_; clear b_ s_)
            | (refine wpList_store_row rfl 43 (.tmp 13) (.tmp 51) rfl w1.heap.size C0.toArray rfl rfl 43 kidL13.toArray (Row.new w1 43 kidL13) hs.out hs2.out ho.out ?_))
          clear l32 hF
          simp only [Act.put]
          obtain ⟨x, hx⟩ : ∃ x, x = w1.heap.size := ⟨_, rfl⟩
          obtain ⟨u1, hv1⟩ : ∃ v, v = (w1.alloc (.cells kidL13.toArray 43)).setRow x C0.toArray := ⟨_, rfl⟩
          rw [← hx, ← hv1]
          have hb1 : Below w1.heap.size w1 u1 := by rw [hv1, hx]; exact below_setRow' (below_new w1 _) (Nat.le_refl _) _
          have X2 := hideP (show Row u1 x 43 (p.map b8 ++ [.slice none 0 0, .slice none 0 0, .int .i64 0, .int .i64 0, .slice none 0 0]) by rw [hv1, hx, ← HC0.out]; exact Row.setRow (Row.new w1 43 kidL13) C0)
          have hxg := hideP (show g < x by rw [hx]; exact R1.out.lt)
          have hwx := hideP (show wr.heap.size ≤ x by rw [hx]; exact U1.out.size)
          have R2 := hideP (R1.out.after hb1)
          have U2 := hideP (U1.out.trans (But.of_below hb1))
          clear hx hv1 hb1 R1 U1
          go_upto_region 16 with (go_at_call 98; refine (HhD2.out _ R2.out).mono ?_; rintro e_ w3 ⟨rfl, b_, s_⟩; have R3 := hideP s_; have X3 := hideP (row_but2 b_ X2.out (by have := hxg.out; omega)); have U3 := hideP (U2.out.trans b_); have fz : w3.frozen? ⟨x, 34, none⟩ = false := Row.fz X3.out 34; obtain ⟨y0, y1, y2, y3, y4⟩ := rowU_cell X3.out hM.out; clear b_ s_)
          clear fz y0 y1 y2 y3 y4
          obtain ⟨v3, h_⟩ : ∃ v, v = w3.setCell ⟨x, 34, none⟩ (.int .i64 (n2 : Nat)) := ⟨_, rfl⟩
          rw [← h_]
          have X4 := hideP (show Row v3 x 43 (p.map b8 ++ [.slice none 0 0, .slice none 0 0, .int .i64 (n2 : Nat), .int .i64 0, .slice none 0 0]) by rw [h_]; exact rowU_set X3.out hM.out 2 _)
          have R4 := hideP (show Qd v3 g m2' f2 by rw [h_]; exact Qd.setNew R3.out hxg.out _)
          have U4 := hideP (show But (fun b => b = g) wr v3 by rw [h_]; exact But.setNew U3.out hwx.out _)
          clear h_
          go_upto_region 17 with (go_at_call 98; refine (HhD3.out _ R4.out).mono ?_; rintro e_ w5 ⟨rfl, b_, s_⟩; have R5 := hideP s_; have X5 := hideP (row_but2 b_ X4.out (by have := hxg.out; omega)); have U5 := hideP (U4.out.trans b_); have fz : w5.frozen? ⟨x, 35, none⟩ = false := Row.fz X5.out 35; obtain ⟨y0, y1, y2, y3, y4⟩ := rowU_cell X5.out hM.out; clear b_ s_)
          clear fz y0 y1 y2 y3 y4
          obtain ⟨v5, h_⟩ : ∃ v, v = w5.setCell ⟨x, 35, none⟩ (.int .i64 (n3 : Nat)) := ⟨_, rfl⟩
          rw [← h_]
          have X6 := hideP (show Row v5 x 43 (p.map b8 ++ [.slice none 0 0, .slice none 0 0, .int .i64 (n2 : Nat), .int .i64 (n3 : Nat), .slice none 0 0]) by rw [h_]; exact rowU_set X5.out hM.out 3 _)
          have R6 := hideP (show Qd v5 g m3' f3 by rw [h_]; exact Qd.setNew R5.out hxg.out _)
          have U6 := hideP (show But (fun b => b = g) wr v5 by rw [h_]; exact But.setNew U5.out hwx.out _)
          clear h_
          go_upto_region 18 with (go_at_call 96; refine (HhD4.out _ R6.out).mono ?_; rintro e_ w8 ⟨A4, c4, rfl, o_, b_, s_⟩; have O4 := hideP (OwnI.monoI o_ (Row.lt X6.out)); clear o_; have R7 := hideP s_; have X7 := hideP (row_but2 b_ X6.out (by have := hxg.out; omega)); have U7 := hideP (U6.out.trans b_); have fz : w8.frozen? ⟨x, 32, none⟩ = false := Row.fz X7.out 32; obtain ⟨y0, y1, y2, y3, y4⟩ := rowU_cell X7.out hM.out; clear b_ s_)
          clear fz y0 y1 y2 y3 y4
          obtain ⟨v7, h_⟩ : ∃ v, v = w8.setCell ⟨x, 32, none⟩ (.slice A4 m4 c4) := ⟨_, rfl⟩
          rw [← h_]
          have X8 := hideP (show Row v7 x 43 (p.map b8 ++ [.slice A4 m4 c4, .slice none 0 0, .int .i64 (n2 : Nat), .int .i64 (n3 : Nat), .slice none 0 0]) by rw [h_]; exact rowU_set X7.out hM.out 0 _)
          have R8 := hideP (show Qd v7 g m4' f4 by rw [h_]; exact Qd.setNew R7.out hxg.out _)
          have U8 := hideP (show But (fun b => b = g) wr v7 by rw [h_]; exact But.setNew U7.out hwx.out _)
          have P4 := hideP (show OwnI v7 (x + 1) A4 c4 r4 by rw [h_]; exact ownsRow_setCell_below O4.out (Nat.lt_succ_self x) _)
          clear h_
          go_upto_region 19 with (go_at_call 96; refine (HhD5.out _ R8.out).mono ?_; rintro e_ w9 ⟨A5, c5, rfl, o_, b_, s_⟩; have O5 := hideP (OwnI.monoI o_ (Row.lt X8.out)); clear o_; have Q4 := hideP (P4.out.but b_ (fun k hk e => by have := hxg.out; omega)); have R9 := hideP s_; have X9 := hideP (row_but2 b_ X8.out (by have := hxg.out; omega)); have U9 := hideP (U8.out.trans b_); have fz : w9.frozen? ⟨x, 33, none⟩ = false := Row.fz X9.out 33; obtain ⟨y0, y1, y2, y3, y4⟩ := rowU_cell X9.out hM.out; clear b_ s_)
          clear fz y0 y1 y2 y3 y4
          obtain ⟨v9, h_⟩ : ∃ v, v = w9.setCell ⟨x, 33, none⟩ (.slice A5 m5 c5) := ⟨_, rfl⟩
          rw [← h_]
          have X10 := hideP (show Row v9 x 43 (p.map b8 ++ [.slice A4 m4 c4, .slice A5 m5 c5, .int .i64 (n2 : Nat), .int .i64 (n3 : Nat), .slice none 0 0]) by rw [h_]; exact rowU_set X9.out hM.out 1 _)
          have R10 := hideP (show Qd v9 g m5' f5 by rw [h_]; exact Qd.setNew R9.out hxg.out _)
          have U10 := hideP (show But (fun b => b = g) wr v9 by rw [h_]; exact But.setNew U9.out hwx.out _)
          have P5 := hideP (show OwnI v9 (x + 1) A5 c5 r5 by rw [h_]; exact ownsRow_setCell_below O5.out (Nat.lt_succ_self x) _)
          have V4 := hideP (show OwnI v9 (x + 1) A4 c4 r4 by rw [h_]; exact ownsRow_setCell_below Q4.out (Nat.lt_succ_self x) _)
          clear h_
          go_upto_region 20 with (go_at_call 96; refine (HhD6.out _ R10.out).mono ?_; rintro e_ w11 ⟨A6, c6, rfl, o_, b_, s_⟩; have O6 := hideP (OwnI.monoI o_ (Row.lt X10.out)); clear o_; have Q5 := hideP (P5.out.but b_ (fun k hk e => by have := hxg.out; omega)); have Q6 := hideP (V4.out.but b_ (fun k hk e => by have := hxg.out; omega)); have R11 := hideP s_; have X11 := hideP (row_but2 b_ X10.out (by have := hxg.out; omega)); have U11 := hideP (U10.out.trans b_); have fz : w11.frozen? ⟨x, 36, none⟩ = false := Row.fz X11.out 36; obtain ⟨y0, y1, y2, y3, y4⟩ := rowU_cell X11.out hM.out; clear b_ s_)
          clear fz y0 y1 y2 y3 y4
          obtain ⟨v11, h_⟩ : ∃ v, v = w11.setCell ⟨x, 36, none⟩ (.slice A6 m6 c6) := ⟨_, rfl⟩
          rw [← h_]
          have X12 := hideP (show Row v11 x 43 (p.map b8 ++ [.slice A4 m4 c4, .slice A5 m5 c5, .int .i64 (n2 : Nat), .int .i64 (n3 : Nat), .slice A6 m6 c6]) by rw [h_]; exact rowU_set X11.out hM.out 4 _)
          have R12 := hideP (show Qd v11 g m6' f6 by rw [h_]; exact Qd.setNew R11.out hxg.out _)
          have U12 := hideP (show But (fun b => b = g) wr v11 by rw [h_]; exact But.setNew U11.out hwx.out _)
          have P6 := hideP (show OwnI v11 (x + 1) A6 c6 r6 by rw [h_]; exact ownsRow_setCell_below O6.out (Nat.lt_succ_self x) _)
          have W5 := hideP (show OwnI v11 (x + 1) A5 c5 r5 by rw [h_]; exact ownsRow_setCell_below Q5.out (Nat.lt_succ_self x) _)
          have W4 := hideP (show OwnI v11 (x + 1) A4 c4 r4 by rw [h_]; exact ownsRow_setCell_below Q6.out (Nat.lt_succ_self x) _)
          clear h_
          obtain ⟨C1, hC1⟩ : ∃ C, C = p.map b8 ++ [.slice A4 m4 c4, .slice A5 m5 c5, .int .i64 (n2 : Nat), .int .i64 (n3 : Nat), .slice A6 m6 c6] := ⟨_, rfl⟩
          rw [← hC1] at X12
          obtain ⟨pk, hpk⟩ : ∃ p, p = (⟨A4, c4, A5, c5, A6, c6⟩ : KidP) := ⟨_, rfl⟩
          have HC1 := hideP (show kidQ (kd, pk) = C1 by rw [hC1, HKD.out, hpk]; unfold kidQ kidC kidT; dsimp only; rw [M4.out, M5.out, M6.out])
          have N12 := hideP (show KidN (fun b => b < x + 1) v11 (kd, pk) by rw [HKD.out, hpk]; exact KidOwn.n (k := ⟨p, r4, r5, (n2 : Int), (n3 : Int), r6⟩) (p := ⟨A4, c4, A5, c5, A6, c6⟩) ⟨W4.out, W5.out, P6.out⟩)
          have hl37 := (show C1.length = 37 by rw [hC1]; simp [lp.out])
          have HL37 := hideP hl37
          have t37 := hideP (size_k37 hl37)
          have one6 := hideP (show ∀ u ∈ C1, u.oneCell' = true by rw [← HC1.out]; have := kidC_one kd pk; rw [Array.all_eq_true_iff_forall_mem] at this; exact fun u hu => this u (by simpa [kidQ] using hu))
          clear hC1 hpk P6 W5 W4 P5 V4 P4 Q4 Q5 Q6 O4 O5 O6 X10 X11 X2 X3 X4 X5 X6 X7 X8 X9 R2 R3 R4 R5 R6 R7 R8 R9 R10 R11 U2 U3 U4 U5 U6 U7 U8 U9 U10 U11
          clear HhD1 HhD2 HhD3 HhD4 HhD5 HhD6 hs ho hs2 HC0 HKD M4 M5 M6 lp hM
          have Y12 := hideP (row_but2 U12.out HY.out (by have := hgh.out; omega))
          have O12 := hideP (HO.out.but kid_moves U12.out fun k hk => by have := hgB2.out; omega)
          have z12 := hideP (Nat.le_trans Hz.out U12.out.size)
          have k2 := Y12.out.cell 2
          simp only [nodeV, List.getElem?_cons_zero, List.getElem?_cons_succ] at k2
          have hcs := hideP (Ext.alloc v11 (.cells C1.toArray 43))
          have c9 := hideP (show (v11.alloc (.cells C1.toArray 43)).rangeAt v11.heap.size 0 (kidQ (kd, pk)) by
            rw [HC1.out]
            exact Row.range (Row.new v11 43 C1))
          have hi1 := hideP (show i ≤ 1000000000 by omega)
          obtain ⟨i0, hi0, hz0, hz1, hz2⟩ := info_parts info_kid
          have mw : IntKind.i64.wrap ((i : Int) + 1) = (i : Int) + 1 := IntWalk.i64_in _ (by omega)
          have I1 := hideP hi0; have I2 := hideP hz0; have I3 := hideP hz1; have I4 := hideP hz2
          have hF := fold_all C1
          have zx := hideP (show B2 ≤ x + 1 by have := Hz.out; have := hwx.out; omega)
          have zA := hideP (fun b off s (e : A2 = some ⟨b, off, s⟩) => show b < x + 1 by have := HO.out.lt e; have := hwx.out; omega)
          clear hi0 hz0 hz1 hz2 HY HR HO
          go_wp2_with (first
            | (refine wpList_load_row rfl 43 (.tmp 13) rfl x rfl 43 C1.toArray (0, 0) _ X12.out Try.underlying43 rfl t37.out ?_)
            | (at_builtin; refine wpList_append_L rfl kid_moves 25 120 i0 _ Try.underlying25 I1.out I2.out I3.out I4.out rfl (by decide) (by decide) (.tmp 73) (.tmp 75) rfl i Hql2.out.symm rfl (O12.out.ext kid_moves hcs.out) v11.heap.size 1 (kd, pk) (x + 1) rfl c9.out (by rw [HC1.out]; exact HL37.out) (by rw [HC1.out]; exact one6.out) (kid_moves _ _ _ _ _ N12.out (But.of_ext hcs.out) fun _ _ h => h) zx.out zA.out hi1.out (Nat.le_trans z12.out hcs.out.size) ?_; intro g9 c9' w9 o9_ bb9_; have O9 := hideP o9_; have X9 := hideP bb9_; have Y9 := hideP (Row.below (Y12.out.ext hcs.out) bb9_ hhB2.out); have q1 := Y9.out.cell 2; simp only [nodeV, List.getElem?_cons_zero, List.getElem?_cons_succ] at q1; have f1 := Y9.out.fz 2; clear o9_ bb9_))
          go_roundw
          case rel =>
            refine ⟨i + 1, by omega, by rw [show ((i + 1 : Nat) : Int) = (i : Int) + 1 by omega], some ⟨g9, 0, none⟩, c9', ks ++ [(kd, pk)], ?_, by simp [Hql2.out], ?_, Y9.out.set 2 _, ?_, ?_, ?_⟩
            · rw [hst.out]; simp [Hq2.out]
            · exact O9.out.but kid_moves (But.set _ ⟨h, 2, none⟩ _ (S := fun k => k = h) rfl) fun k e => by have := hhB2.out; omega
            · rw [hst.out]; exact Qd.butN ((R12.out.ext hcs.out).below X9.out hgB2.out) hgh.out (But.set _ ⟨h, 2, none⟩ _ rfl)
            · exact (((HC.out.trans (U12.out.mono fun k e => .inl e)).trans (But.of_ext hcs.out)).then_new X9.out (Nat.le_of_eq HB2.out.symm)).trans (But.set _ ⟨h, 2, none⟩ _ (.inr (.inl rfl)))
            · have := z12.out; have := X9.out.size; have := hcs.out.size; simp; omega
          case measure => simp [intOf]; omega
        · obtain rfl : m2 = i := by omega
          have i1 : ¬ ((m2 : Int) < (m2 : Int)) := by omega
          have Or := hideP (O7.out.far ent_moves HC.out fun k hk => by have := hgB.out; have := hhB.out; have := HB2.out; rcases hk with rfl | rfl | hk <;> omega)
          have Z8 := hideP (row_but2 HC.out Z7.out (by have := hrg.out; have := hrh.out; have := hhB2.out; omega))
          have B8 := hideP (B7.out.trans (But.low HC.out (B := w.heap.size) (fun k hk => by have := hwg.out; have := hgh.out; have := hhB2.out; rcases hk with rfl | rfl | hk <;> omega) B7.out.size))
          have hrl := hideP (show r0 < B0 by have := hrh.out; have := hhB.out; omega)
          have hMem := hideP (fun W (hW : But (fun b => b < B0 ∨ wr.heap.size ≤ b) wr W) => nodeMem_of (k := k) (Or.out.far ent_moves hW fun k hk => hk) (HO.out.far kid_moves hW fun k hk => by have := hBB.out; omega))
          have hl1 := congrArg List.length Hq1.out
          have hl2 := congrArg List.length Hq2.out
          rw [List.length_map, Hql.out] at hl1
          rw [List.length_map, Hql2.out] at hl2
          rw [Hq1.out, Hq2.out] at hMem
          have hnn := HNN.out
          obtain ⟨⟨KL, l8, e8⟩, h8⟩ : ∃ q, q = rKids d m2 l4 e4 := ⟨_, rfl⟩
          rw [← h8] at hMem hnn hl2 HR
          dsimp only at hMem hnn hl2 HR
          obtain ⟨pd, hpd⟩ : ∃ p, p = (⟨A1, c1, fun i => (qs.getD i default).2, A2, c2, fun i => (ks.getD i default).2⟩ : NodeP) := ⟨_, rfl⟩
          obtain ⟨nd, hnd⟩ : ∃ n, n = (⟨k, E, KL⟩ : NodeD) := ⟨_, rfl⟩
          have hnc : nodeC nd pd = nodeV k A1 m c1 A2 m2 c2 := by rw [hnd, hpd]; unfold nodeC; dsimp only; rw [← hl1, ← hl2]
          rw [← hpd, ← hnd] at hMem
          rw [← hnd] at hnn
          have hRS := HRS.out
          have hnok := hok.out
          rw [hnn] at hRS hnok
          dsimp only at hRS hnok
          have t3 := hideP (show (Try.prog.info? 27).map (·.size) = some 3 by kernel_rfl)
          have tz := hideP (show (Try.prog.info? 27).map (·.size) = some (nodeV 0 none 0 0 none 0 0).length from t3.out)
          obtain ⟨C3, hC3⟩ : ∃ C, C = nodeC nd pd := ⟨_, rfl⟩
          have hC3' : nodeV k A1 m c1 A2 m2 c2 = C3 := by rw [hC3, hnc]
          rw [hC3'] at HY
          have l3 : C3.length = 3 := by rw [← hC3']; rfl
          have tC := hideP (show (Try.prog.info? 27).map (·.size) = some C3.toArray.size by rw [List.size_toArray, l3]; exact t3.out)
          have tl := hideP (show (Try.prog.info? 27).map (·.size) = some C3.length by rw [l3]; exact t3.out)
          have tso0 : C3.toArray.size = 3 := by rw [List.size_toArray]; exact l3
          have tso := hideP (show (nodeV 0 none 0 0 none 0 0).toArray.size = C3.toArray.size by rw [tso0]; simp)
          clear tso0
          have tone := hideP (show C3.toArray.all (·.oneCell') = true by rw [← hC3']; simp [Value.oneCell'])
          have Hok := hideP hnok
          have HRS2 := hideP hRS
          have HC3 := hideP hC3
          clear hl1 hl2 hnn h8 hpd hnd hnc hRS hnok hC3 hC3' l3 HO Or HC O7 Z7 B7 Hq1 Hq2 hok HRS HNN
          obtain ⟨AQ, cQ, hTwo, _, _, _⟩ := HR.out
          have q0 := hTwo.c0
          have q1 := hTwo.c1
          obtain ⟨ln, hln⟩ : ∃ x, x = l8.length := ⟨_, rfl⟩
          rw [← hln] at q0
          clear hTwo
          have hgw := hideP HR.out.lt
          by_cases he : e8 = 0
          · subst he
            by_cases h0 : 0 < ln
            · have i0 : (0 : Int) < (ln : Int) := by omega
              have hne : ¬ ln = 0 := by omega
              have hne' : ln ≠ 0 := hne
              have hN1 := hideP (show RS = none by
                rw [HRS2.out, if_neg]
                rintro ⟨hh, _⟩
                unfold rEnd at hh
                rcases l8 with _ | ⟨y, l8⟩
                · simp at hln; omega
                · simp at hh)
              clear HRS2 hln
              go_wp2_with (refine wpList_store_row rfl 27 (.tmp 4) (.tmp 97) rfl r0 (nodeV 0 none 0 0 none 0 0).toArray rfl rfl 27 (nodeV 0 none 0 0 none 0 0).toArray Z8.out tz.out rfl nodeV_one ?_)
              refine ret_rowt rfl rfl rfl (Row.setRow Z8.out (nodeV 0 none 0 0 none 0 0)) Try.underlying27 tz.out rfl ⟨?_, .inl ⟨hN1.out, rfl⟩⟩
              exact below_setRow' B8.out (Nat.le_of_eq hr'.out.symm) _
            · have i0 : ¬ (0 : Int) < (ln : Int) := by omega
              have hl0 : l8 = [] := List.eq_nil_of_length_eq_zero (by omega)
              have hRS3 := HRS2.out
              rw [hl0, show rEnd [] 0 = 0 from rfl] at hRS3
              obtain ⟨qr, hqr⟩ : ∃ q, q = nodeR nd d := ⟨_, rfl⟩
              have hRt := rnright_any nd pd d wr Hok.out (hMem.out wr (But.refl _))
              rw [← hqr] at hRt hRS3
              rw [← HC3.out] at hRt
              have hRt' := hideP hRt
              have U0 := hideP (But.refl (S := fun b => b < B0 ∨ wr.heap.size ≤ b) wr)
              clear hRt HRS2 hqr hl0 hln
              rcases qr with _ | _
              · have hN1 := hideP (show RS = none by rw [hRS3]; simp)
                clear hRS3
                go_wp2_with (first
                  | (refine wpList_loadG rfl 27 (.tmp 7) rfl h 0 rfl C3 _ (Row.range HY.out) Try.underlying27 rfl tl.out ?_)
                  | (go_at_call 27; refine hRt'.out.mono ?_; rintro e_ w9 ⟨rfl, b_⟩; have B10 := hideP (bstep B8.out b_); have Z10 := hideP (Row.after Z8.out b_); clear b_)
                  | (refine wpList_store_row rfl 27 (.tmp 4) (.tmp 97) rfl r0 (nodeV 0 none 0 0 none 0 0).toArray rfl rfl 27 (nodeV 0 none 0 0 none 0 0).toArray Z10.out tz.out rfl nodeV_one ?_))
                refine ret_rowt rfl rfl rfl (Row.setRow Z10.out (nodeV 0 none 0 0 none 0 0)) Try.underlying27 tz.out rfl ⟨?_, .inl ⟨hN1.out, rfl⟩⟩
                exact below_setRow' B10.out (Nat.le_of_eq hr'.out.symm) _
              · have hN1 := hideP (show RS = some nd by rw [hRS3]; simp)
                clear hRS3
                go_wp2_with (first
                  | (refine wpList_loadG rfl 27 (.tmp 7) rfl h 0 rfl C3 _ (Row.range HY.out) Try.underlying27 rfl tl.out ?_)
                  | (go_at_call 27; refine hRt'.out.mono ?_; rintro e_ w9 ⟨rfl, b_⟩; have B10 := hideP (bstep B8.out b_); have Z10 := hideP (Row.after Z8.out b_); have Y10 := hideP (Row.after HY.out b_); have U10 := hideP (U0.out.then_new b_ (Nat.le_refl _)); clear b_)
                  | (refine wpList_load_row rfl 27 (.tmp 7) rfl h rfl 27 C3.toArray (0, 0) _ Y10.out Try.underlying27 rfl tC.out ?_)
                  | (refine wpList_store_row rfl 27 (.tmp 4) (.tmp 98) rfl r0 C3.toArray rfl rfl 27 (nodeV 0 none 0 0 none 0 0).toArray Z10.out tC.out tso.out tone.out ?_))
                refine ret_rowt rfl rfl rfl (Row.setRow Z10.out C3) Try.underlying27 tl.out rfl ⟨?_, .inr ⟨nd, pd, hN1.out, by rw [HC3.out]; rfl, ?_⟩⟩
                · exact below_setRow' B10.out (Nat.le_of_eq hr'.out.symm) _
                · exact hMem.out _ (U10.out.trans (But.setRow _ r0 _ (.inl hrl.out)))
          · have he' : (e8 != 0) = true := by simpa using he
            have hN1 := hideP (show RS = none by
              rw [HRS2.out, if_neg]
              rintro ⟨hh, _⟩
              unfold rEnd at hh
              simp [he] at hh)
            clear he HRS2 hln
            go_wp2_with (refine wpList_store_row rfl 27 (.tmp 4) (.tmp 97) rfl r0 (nodeV 0 none 0 0 none 0 0).toArray rfl rfl 27 (nodeV 0 none 0 0 none 0 0).toArray Z8.out tz.out rfl nodeV_one ?_)
            refine ret_rowt rfl rfl rfl (Row.setRow Z8.out (nodeV 0 none 0 0 none 0 0)) Try.underlying27 tz.out rfl ⟨?_, .inl ⟨hN1.out, rfl⟩⟩
            exact below_setRow' B8.out (Nat.le_of_eq hr'.out.symm) _
end Go.Proofs.Ytgcbodpjidoanaa
