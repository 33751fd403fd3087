/- Contract of zrange's Skip. -/
import Derived.Test.YtjdbpeblbejllaaZr8
import Derived.Deep.DeepCutAuto
set_option linter.unusedVariables false
set_option linter.unusedSimpArgs false
namespace Go.Proofs.Ytjdbpeblbejllaa
open Go.RowKit
theorem run_rem_nat {P : Program} (W : World) (T : TypeId) (t n : Nat) (hn : 0 < n) : (binOp .rem T (.int .i64 (t : Int)) (.int .i64 (n : Int))).run P W = .ok (.int .i64 ((t % n : Nat) : Int)) W := by
  have h0 : ¬ (n : Int) = 0 := by omega
  have h1 : (t : Int).tmod (n : Int) = ((t % n : Nat) : Int) := by rw [Int.tmod_eq_emod_of_nonneg (by omega)]; rfl
  rw [binOp_rem]
  unfold Op.intDiv
  rw [if_neg h0, ← h1]
  rfl
theorem run_quo_nat {P : Program} (W : World) (T : TypeId) (t n : Nat) (hn : 0 < n) (ht : t < 9223372036854775808) : (binOp .quo T (.int .i64 (t : Int)) (.int .i64 (n : Int))).run P W = .ok (.int .i64 ((t / n : Nat) : Int)) W := by
  have h0 : ¬ (n : Int) = 0 := by omega
  have h1 : (t : Int).tdiv (n : Int) = ((t / n : Nat) : Int) := by rw [Int.tdiv_eq_ediv_of_nonneg (by omega)]; rfl
  obtain ⟨q, hq⟩ : ∃ q, q = t / n := ⟨_, rfl⟩
  have h2 : q ≤ t := by rw [hq]; exact Nat.div_le_self t n
  rw [← hq] at h1 ⊢
  have h3 : IntKind.i64.wrap (q : Int) = (q : Int) := IntWalk.i64_in _ (by omega)
  rw [binOp_quo]
  unfold Op.intDiv
  rw [if_neg h0]
  show Sem.run P (pure (Value.int IntKind.i64 (IntKind.i64.wrap ((t : Int).tdiv (n : Int))))) W = _
  rw [h1, h3]
  rfl
theorem exec_rem {o : Oper} {a : Act} {W : World} (T T' : TypeId) (x y : Operand) (ho : o.op = .binOp .rem T x y T') (t n : Nat) (hx : a.eval x = .int .i64 (t : Int)) (hy : a.eval y = .int .i64 (n : Int)) (hn : 0 < n) : (execOp a.eval o).run Try.prog W = .ok (.value (.int .i64 ((t % n : Nat) : Int))) W := by
  have h := run_rem_nat (P := Try.prog) W T t n hn
  unfold execOp
  simp only [ho, hx, hy, eqGuard_rem, Sem.run_bind, Sem.run_pure, Result.andThen_ok, h]
theorem exec_quo {o : Oper} {a : Act} {W : World} (T T' : TypeId) (x y : Operand) (ho : o.op = .binOp .quo T x y T') (t n : Nat) (hx : a.eval x = .int .i64 (t : Int)) (hy : a.eval y = .int .i64 (n : Int)) (hn : 0 < n) (ht : t < 9223372036854775808) : (execOp a.eval o).run Try.prog W = .ok (.value (.int .i64 ((t / n : Nat) : Int))) W := by
  have h := run_quo_nat (P := Try.prog) W T t n hn ht
  unfold execOp
  simp only [ho, hx, hy, eqGuard_quo, Sem.run_bind, Sem.run_pure, Result.andThen_ok, h]
/-- Skip, as the program reckons it: what is left of the box, bit by bit -/
def skipGo (c : List Nat) (d : Nat) : Nat → Nat → List Int → List Int → Option (List Nat) → Option (List Nat)
  | 0, _, _, _, _ => some c
  | f + 1, t, xl, xh, best =>
    if bitAt c t = 0 then
      if pl (xl.getD (t % d) 0) / 2 ^ (63 - t / d) % 2 = 1 then some (code xl)
      else if pl (xh.getD (t % d) 0) / 2 ^ (63 - t / d) % 2 = 1 then skipGo c d f (t + 1) xl (xh.set (t % d) (toI (upN (pl (xh.getD (t % d) 0)) (63 - t / d)))) (some (code (xl.set (t % d) (toI (loN (pl (xl.getD (t % d) 0)) (63 - t / d))))))
      else skipGo c d f (t + 1) xl xh best
    else
      if pl (xh.getD (t % d) 0) / 2 ^ (63 - t / d) % 2 = 0 then best
      else if pl (xl.getD (t % d) 0) / 2 ^ (63 - t / d) % 2 = 0 then skipGo c d f (t + 1) (xl.set (t % d) (toI (loN (pl (xl.getD (t % d) 0)) (63 - t / d)))) xh best
      else skipGo c d f (t + 1) xl xh best
/-- the best code so far, as it lies in memory -/
def BestIs (w : World) (n r q : Nat) (A : Option Addr) (len cap : Nat) : Option (List Nat) → Prop
  | none => A = none ∧ len = 0 ∧ cap = 0
  | some l => ∃ g, A = some ⟨g, 0, none⟩ ∧ len = 8 * n ∧ l.length = 8 * n ∧ g ≠ r ∧ g ≠ q ∧ w.rowIs g 5 (8 * n) (u8s l)
theorem rowIs_ext {w W : World} {g n : Nat} {T : TypeId} {f : Nat → Value} (h : w.rowIs g T n f) (hW : Ext w W) : W.rowIs g T n f := by
  obtain ⟨cs, hg, hs, hc⟩ := h
  exact ⟨cs, (hW.block g (Array.getElem?_eq_some_iff.1 hg).1).trans hg, hs, hc⟩
theorem best_ext {w W : World} {n r q : Nat} {A : Option Addr} {len cap : Nat} {best : Option (List Nat)} (h : BestIs w n r q A len cap best) (hW : Ext w W) : BestIs W n r q A len cap best := by
  cases best with
  | none => exact h
  | some l =>
    obtain ⟨g, h1, h2, h3, h4, h5, h6⟩ := h
    exact ⟨g, h1, h2, h3, h4, h5, rowIs_ext h6 hW⟩
theorem isI_set {l : List Int} (h : IsI l) {k : Nat} {v : Int} (hv : -9223372036854775808 ≤ v ∧ v ≤ 9223372036854775807) : IsI (l.set k v) := fun i => by
  unfold List.getD
  rw [List.getElem?_set]
  split
  · split
    · exact hv
    · simp
  · exact h i
theorem rowIs_set {w : World} {g n : Nat} {T : TypeId} {f : Nat → Value} (h : w.rowIs g T n f) {a : Addr} (ha : g ≠ a.block) (v : Value) : (w.setCell a v).rowIs g T n f := by
  obtain ⟨cs, hg, hs, hc⟩ := h
  exact ⟨cs, (Below.heap_setCell _ _ _ _ ha).trans hg, hs, hc⟩
theorem best_set {w : World} {n r q : Nat} {A : Option Addr} {len cap : Nat} {best : Option (List Nat)} (h : BestIs w n r q A len cap best) {a : Addr} {v : Value} (ha : a.block = r ∨ a.block = q) : BestIs (w.setCell a v) n r q A len cap best := by
  cases best with
  | none => exact h
  | some l =>
    obtain ⟨g, h1, h2, h3, h4, h5, h6⟩ := h
    exact ⟨g, h1, h2, h3, h4, h5, rowIs_set h6 (by rcases ha with e | e <;> rw [e] <;> assumption) v⟩
theorem rowArr {w : World} {g n m : Nat} {t : TypeId} {f : Nat → Value} (h : w.rowIs g t m f) (hn : n = m) : Arr w w.heap.size (some ⟨g, 0, none⟩) n f := Arr.of_row h (Nat.le_of_eq hn)
/-- the box under way -/
def Way (w0 w : World) (B n gx r s q u : Nat) (xl xh : List Int) : Prop :=
  Two w gx 91 (.slice (some ⟨r, 0, none⟩) n s) (.slice (some ⟨q, 0, none⟩) n u) ∧ Own w B (some ⟨r, 0, none⟩) s xl ∧ Own w B (some ⟨q, 0, none⟩) u xh ∧ xl.length = n ∧ xh.length = n ∧ IsI xl ∧ IsI xh ∧ Below w0.heap.size w0 w
/-- what is returned -/
def Told (w0 w : World) (e : Ending) (n : Nat) : Option (List Nat) → Prop
  | none => e = .returned (.tuple #[.slice none 0 0, .bool false]) ∧ Below w0.heap.size w0 w
  | some l => ∃ R d, e = .returned (.tuple #[.slice R (8 * n) d, .bool true]) ∧ l.length = 8 * n ∧ Arr w w.heap.size R (8 * n) (u8s l) ∧ Below w0.heap.size w0 w
/-- what stands behind the copy of a box under way with one side's row anew -/
def UpIs (w0 wx : World) (gu ru sc : Nat) (xs : List Int) (a b : Value) : Prop :=
  Two wx gu 91 a b ∧ Own wx w0.heap.size (some ⟨ru, 0, none⟩) sc xs ∧ Ext w0 wx ∧ w0.heap.size ≤ gu ∧ ru ≠ gu
theorem upIs_mk {w0 W : World} {gu ru sc : Nat} {xs : List Int} {x y : Value} (t : Two W gu 91 x y) (hx : Ext w0 W) (o : Own W w0.heap.size (some ⟨ru, 0, none⟩) sc xs) (h1 : w0.heap.size ≤ gu) (h2 : ru ≠ gu) (a b : Value) :
    UpIs w0 ((W.setCell ⟨gu, 0, none⟩ a).setCell ⟨gu, 1, none⟩ b) gu ru sc xs a b :=
  ⟨t.set2 _ _, own_two o h2, Ext.of_below ((hx.below.setCell (p := ⟨gu, 0, none⟩) h1 _).setCell (p := ⟨gu, 1, none⟩) h1 _), h1, h2⟩
set_option maxRecDepth 100000 in
set_option maxHeartbeats 4000000 in
theorem skip_in (A L H : Option Addr) (c : List Nat) (lo hi : List Int) (ca dl sh : Nat) (w : World) (hA : Arr w w.heap.size A c.length (u8s c)) (hc : IsB c) (hL : Arr w w.heap.size L lo.length (i64s lo)) (hH : Arr w w.heap.size H hi.length (i64s hi)) (hp : IsI lo) (hq : IsI hi)
    (hR : rightB lo hi lo.length = true) (hcl : c.length = 8 * lo.length) :
    Calls Try.prog 39 #[.slice A c.length ca, .agg #[.slice L lo.length dl, .slice H hi.length sh]] w fun e w' => Told w w' e lo.length (skipGo c lo.length (64 * lo.length) 0 lo hi none) := by
  have hf := rightB_len hR
  have tR := fun W h h' => zright_any A L H lo hi c.length ca dl sh W h h' (by omega)
  rw [hR, hcl] at tR
  have tO := fun W h h' => of_any L H lo hi dl sh W h h' (by omega) (by omega)
  obtain ⟨RR, hRR⟩ : ∃ R, R = skipGo c lo.length (64 * lo.length) 0 lo hi none := ⟨_, rfl⟩
  rw [← hRR]
  rw [hcl] at hA ⊢
  obtain ⟨n, hn⟩ : ∃ n, n = lo.length := ⟨_, rfl⟩
  have Hlol := hideP hn.symm
  have Hhil := hideP (show hi.length = n by omega)
  rw [← hn] at hL tR tO hcl hA hRR ⊢
  rw [Hhil.out] at hH tR tO ⊢
  have h1 : 1 ≤ n := by omega
  have h8 : n ≤ 8 := by omega
  simp only [decide_true, Bool.and_self] at tR
  clear hn hR hf
  have HhA := hideP hA; have Hhc := hideP hc; have HhL := hideP hL; have HhH := hideP hH; have HtR := hideP tR; have HtO := hideP tO; have Hhp := hideP hp; have Hhq := hideP hq; have Hhcl := hideP hcl; have HhRR := hideP hRR; clear hA hc hL hH tR tO hp hq hcl hRR
  go_enter Try.func39, Try.ntmps39
  go_upto_region 1 with fail
  obtain ⟨w1, hw1⟩ : ∃ w1, w1 = w.alloc (Obj.cells #[.slice L n dl, .slice H n sh] 58) := ⟨_, rfl⟩
  have c1 := hideP (show Two w1 w.heap.size 58 (.slice L n dl) (.slice H n sh) by rw [hw1]; exact Two.new _ _ _ _)
  have cb := hideP (show Below w.heap.size w w1 by rw [hw1]; exact below_new _ _)
  rw [← hw1]
  clear hw1
  have kc10 := c1.out.c0; have kc11 := c1.out.c1
  go_wp2_with fail
  refine (HtR.out w1 (HhL.out.after cb.out) (HhH.out.after cb.out)).mono ?_
  rintro e w2 ⟨rfl, hb⟩
  clear kc10 kc11
  replace c1 := hideP (c1.out.after hb)
  replace cb := hideP (bstep cb.out hb)
  clear hb
  have kc10 := c1.out.c0; have kc11 := c1.out.c1
  have hlt2 := hideP c1.out.lt
  go_wp2_with fail
  refine (HtO.out w2 (HhL.out.after cb.out) (HhH.out.after cb.out)).mono ?_
  rintro e w3 ⟨RA, s, QA, u, rfl, hb, ho, hq', hs⟩
  obtain ⟨r, rfl, r1, r2⟩ := ho.at Hlol.out h1
  obtain ⟨q, rfl, q1, q2⟩ := hq'.at Hhil.out h1
  have hne := hideP (sep_ne hs)
  obtain ⟨B, hB⟩ : ∃ B, B = w2.heap.size := ⟨_, rfl⟩
  rw [← hB] at ho hq' r1 q1
  have o1 := hideP ho
  have p1 := hideP hq'
  clear kc10 kc11
  replace c1 := hideP (c1.out.after hb)
  replace cb := hideP (bstep cb.out hb)
  clear hb
  have hBw := hideP (show w.heap.size < B by rw [hB]; exact hlt2.out)
  have rw3 := hideP (show r < w3.heap.size ∧ q < w3.heap.size ∧ B ≤ r ∧ B ≤ q from ⟨r2, q2, r1, q1⟩)
  clear ho hq' hs r1 r2 q1 q2 hB hlt2
  go_upto_region 5 with (refine wpList_store_two rfl 91 (.tmp 7) (.tmp 21) rfl w3.heap.size _ _ 91 _ _ rfl rfl (Two.new w3 _ _ _) size_cor rfl rfl ?_)
  obtain ⟨gx, hgx⟩ : ∃ g, g = w3.heap.size := ⟨_, rfl⟩
  obtain ⟨w4, hw4⟩ : ∃ W, W = ((w3.alloc (Obj.cells #[.slice none 0 0, .slice none 0 0] 91)).setCell ⟨w3.heap.size, 0, none⟩ (.slice (some ⟨r, 0, none⟩) n s)).setCell ⟨w3.heap.size, 1, none⟩ (.slice (some ⟨q, 0, none⟩) n u) := ⟨_, rfl⟩
  have ap := hideP (show B ≤ gx ∧ r ≠ gx ∧ q ≠ gx by have := rw3.out; omega)
  have t7 := hideP (show Two w4 gx 91 (.slice (some ⟨r, 0, none⟩) n s) (.slice (some ⟨q, 0, none⟩) n u) by rw [hw4, hgx]; exact (Two.new w3 _ _ _).set2 _ _)
  have o4 := hideP (show Own w4 B (some ⟨r, 0, none⟩) s lo by rw [hw4, ← hgx]; exact own_two (o1.out.ext (Ext.alloc _ _)) ap.out.2.1)
  have p4 := hideP (show Own w4 B (some ⟨q, 0, none⟩) u hi by rw [hw4, ← hgx]; exact own_two (p1.out.ext (Ext.alloc _ _)) ap.out.2.2)
  have c4 := hideP (show Two w4 w.heap.size 58 (.slice L n dl) (.slice H n sh) by
    rw [hw4]
    exact ((c1.out.alloc _).setOther (a := ⟨w3.heap.size, 0, none⟩) (by have := c1.out.lt; simp; omega) _).setOther (a := ⟨w3.heap.size, 1, none⟩) (by have := c1.out.lt; simp; omega) _)
  have b4 := hideP (show Below w.heap.size w w4 by
    rw [hw4]
    exact ((cb.out.alloc cb.out.size _).setCell (p := ⟨w3.heap.size, 0, none⟩) (by have := cb.out.size; simpa using this) _).setCell (p := ⟨w3.heap.size, 1, none⟩) (by have := cb.out.size; simpa using this) _)
  rw [← hw4, ← hgx]
  try simp only [Act.put]
  clear hw4 hgx o1 p1 c1 cb
  have k0 := c4.out.c0
  go_wp2
  clear k0
  have hN := hideP (show 64 * n ≤ 512 by omega)
  go_loopw [6, 27] (fun v6 v27 wr => ∃ (t : Nat) (xl xh : List Int) (best : Option (List Nat)) (bA : Option Addr) (bl bc : Nat), t ≤ 64 * n ∧ v27 = .int .i64 t ∧ v6 = .slice bA bl bc ∧ Hid (BestIs wr n r q bA bl bc best ∧ Way w wr B n gx r s q u xl xh ∧ RR = skipGo c n (64 * n - t) t xl xh best)) (fun _ v _ => 64 * n - (intOf v).toNat)
  case atStart => exact ⟨0, lo, hi, none, none, 0, 0, Nat.zero_le _, rfl, rfl, ⟨⟨rfl, rfl, rfl⟩, ⟨t7.out, o4.out, p4.out, Hlol.out, Hhil.out, Hhp.out, Hhq.out, b4.out⟩, HhRR.out⟩⟩
  case round =>
    obtain ⟨t, xl, xh, best, bA, bl, bc, htn, rfl, rfl, hI⟩ := hrel
    clear t7 o4 p4 c4 b4
    have hW := hideP hI.out.2.1
    by_cases hlt : t < 64 * n
    · obtain ⟨k, hk⟩ : ∃ k, k = t % n := ⟨_, rfl⟩
      obtain ⟨j, hj⟩ : ∃ j, j = t / n := ⟨_, rfl⟩
      have hkn : k < n := by rw [hk]; exact Nat.mod_lt _ (by omega)
      have hj64 : j < 64 := by rw [hj]; exact Nat.div_lt_of_lt_mul (by rw [Nat.mul_comm]; exact hlt)
      have e4 : IntKind.i64.wrap (63 - (j : Int)) = ((63 - j : Nat) : Int) := by rw [IntWalk.i64_in _ (by omega)]; omega
      have Hk := hideP hk
      have Hj := hideP hj
      clear hk hj
      have n0 : 0 < n := by omega
      have tl : t < 9223372036854775808 := by omega
      go_upto_region 9 with fail
      refine wp_region_eager 9 [(true, 0), (true, 1), (true, 2), (true, 3), (true, 4), (true, 5), (true, 6), (true, 7), (true, 8)] (by kernel_rfl) (by kernel_rfl) ?_
      simp only [pick, List.map_cons, List.map_nil, nthO_zero, nthO_succ]
      repeat (first
        | (refine wpPlan_skipK (by rfl) (fun K hK => ?_); go_simp; refine hK _ ?_; clear hK K)
        | (refine wpPlan_valK (by rfl) (fun K hK => ?_); refine ⟨.int .i64 (k : Int), fun W hW => by rw [Hk.out]; exact exec_rem 3 3 (.tmp 30) (.tmp 31) rfl t n rfl rfl n0, ?_⟩; go_simp; refine hK _ ?_; clear hK K)
        | (refine wpPlan_valK (by rfl) (fun K hK => ?_); refine ⟨.int .i64 (j : Int), fun W hW => by rw [Hj.out]; exact exec_quo 3 3 (.tmp 33) (.tmp 34) rfl t n rfl rfl n0 tl, ?_⟩; go_simp; refine hK _ ?_; clear hK K)
        | (refine wpPlan_valK (by rfl) (fun K hK => ?_); apply Exists.intro; refine ⟨fun W hW => ?_, ?_⟩; (focus (go_simp; (try rfl); done)); go_simp; refine hK _ ?_; clear hK K))
      refine wpPlan_nil (fun W9 hW0 => ?_)
      simp only [List.drop_succ_cons, List.drop_zero, List.drop_nil]
      have x9 := hideP hW0.drew_left
      clear e4 hW0 n0 tl
      obtain ⟨sb, hsb⟩ : ∃ sb, sb = 63 - j := ⟨_, rfl⟩
      rw [← hsb]
      have hs63 : sb ≤ 63 := by omega
      have hBest := hideP hI.out.1
      have hRes := hideP hI.out.2.2
      have t7 := hideP (hW.out.1.ext x9.out)
      have o7 := hideP (hW.out.2.1.ext x9.out)
      have p7 := hideP (hW.out.2.2.1.ext x9.out)
      have xll := hideP hW.out.2.2.2.1
      have xhl := hideP hW.out.2.2.2.2.1
      have xlI := hideP hW.out.2.2.2.2.2.1
      have xhI := hideP hW.out.2.2.2.2.2.2.1
      have b7 := hideP (below_ext hW.out.2.2.2.2.2.2.2 x9.out)
      have bs7 := hideP (best_ext hBest.out x9.out)
      clear hI hW hBest x9
      obtain ⟨z1, hz1⟩ : ∃ z, z = xl.getD k 0 := ⟨_, rfl⟩
      obtain ⟨z2, hz2⟩ : ∃ z, z = xh.getD k 0 := ⟨_, rfl⟩
      have hb1 := xlI.out k
      have hb2 := xhI.out k
      rw [← hz1] at hb1
      rw [← hz2] at hb2
      obtain ⟨z, hz⟩ : ∃ z, z = bitAt c t := ⟨_, rfl⟩
      obtain ⟨l, hl⟩ : ∃ z, z = pl z1 / 2 ^ sb % 2 := ⟨_, rfl⟩
      obtain ⟨h, hh⟩ : ∃ z, z = pl z2 / 2 ^ sb % 2 := ⟨_, rfl⟩
      have hzb : z = 0 ∨ z = 1 := by have := bitAt_le c t; omega
      have hlb : l = 0 ∨ l = 1 := by omega
      have hhb : h = 0 ∨ h = 1 := by omega
      have hAr := hideP (show Arr W9 W9.heap.size A (8 * n) (u8s c) from HhA.out.after b7.out)
      have k1 := hideP (fun (W : World) (hA : Arr W W.heap.size A c.length (u8s c)) => bit_in A c ca (t : Int) W hA Hhc.out (by have := Hhcl.out; omega) (by omega) (by have := Hhcl.out; omega))
      rw [show ((t : Int)).toNat = t by omega, Hhcl.out, ← hz] at k1
      have k2 := hideP (fun W => bitOf_any z1 sb W hb1.1 hb1.2 hs63)
      have k3 := hideP (fun W => bitOf_any z2 sb W hb2.1 hb2.2 hs63)
      rw [← hl] at k2
      rw [← hh] at k3
      have kU := hideP (fun W => upper_any z2 sb W hb2.1 hb2.2 hs63)
      have kV := hideP (fun W => lower_any z1 sb W hb1.1 hb1.2 hs63)
      have hst := hideP (show skipGo c n (64 * n - t) t xl xh best = (if z = 0 then if l = 1 then some (code xl) else if h = 1 then skipGo c n (64 * n - (t + 1)) (t + 1) xl (xh.set k (toI (upN (pl z2) sb))) (some (code (xl.set k (toI (loN (pl z1) sb))))) else skipGo c n (64 * n - (t + 1)) (t + 1) xl xh best
          else if h = 0 then best else if l = 0 then skipGo c n (64 * n - (t + 1)) (t + 1) (xl.set k (toI (loN (pl z1) sb))) xh best else skipGo c n (64 * n - (t + 1)) (t + 1) xl xh best) by
        rw [show 64 * n - t = (64 * n - (t + 1)) + 1 by omega]
        rw [hz, hl, hh, hz1, hz2, hsb, Hk.out, Hj.out]
        rfl)
      have hUb := hideP (toI_bd _ (upN_lt (pl z2) sb (pl_lt z2 hb2.2) hs63))
      have hVb := hideP (toI_bd _ (loN_lt (pl z1) sb (pl_lt z1 hb1.2) hs63))
      obtain ⟨U, hU⟩ : ∃ U, U = toI (upN (pl z2) sb) := ⟨_, rfl⟩
      obtain ⟨V, hV⟩ : ∃ U, U = toI (loN (pl z1) sb) := ⟨_, rfl⟩
      rw [← hU] at kU hst hUb
      rw [← hV] at kV hst hVb
      have hxl1 := hideP (show W9.cell? ⟨r, k, none⟩ = some (.int .i64 z1) by have := o7.out.cell k (by rw [xll.out]; exact hkn); rw [this, hz1])
      have hxh1 := hideP (show W9.cell? ⟨q, k, none⟩ = some (.int .i64 z2) by have := p7.out.cell k (by rw [xhl.out]; exact hkn); rw [this, hz2])
      have HZ1 := hideP hz1.symm
      have HZ2 := hideP hz2.symm
      clear hz1 hz2 hz hl hh hU hV hb1 hb2 hj64 hsb
      go_upto_region 10 with fail
      have m0 := t7.out.c0
      have m1 := t7.out.c1
      have m2 := hxl1.out
      have m3 := hxh1.out
      refine wp_region_eager 20 [(true, 0), (true, 1), (true, 2), (true, 3), (true, 4), (true, 5), (true, 6), (true, 7), (true, 8), (true, 9), (true, 10), (true, 11), (true, 12), (true, 13), (true, 14), (true, 15), (true, 16), (true, 17), (true, 18), (true, 19)] (by kernel_rfl) (by kernel_rfl) ?_
      simp only [pick, List.map_cons, List.map_nil, nthO_zero, nthO_succ]
      repeat (first
        | (refine wpPlan_skipK (by rfl) (fun K hK => ?_); go_simp; refine hK _ ?_; clear hK K)
        | (refine wpPlan_valK (by rfl) (fun K hK => ?_); apply Exists.intro; refine ⟨fun W hW => ?_, ?_⟩; (focus (have hs0 := hW.cell m0; have hs1 := hW.cell m1; have hs2 := hW.cell m2; have hs3 := hW.cell m3; go_simp; (try rfl); done)); go_simp; refine hK _ ?_; clear hK K)
        | (refine wpPlan_callK (.int .u8 (z : Int)) 67 #[.slice A (8 * n) ca, .int .i64 (t : Int)] (by rfl) ?_ (fun W hW => (k1.out W (hAr.out.ext hW.drew_left)).mono fun e w2 h => ⟨h.1, h.2 ▸ Ext.refl _⟩) (fun K hK => ?_); (focus (intro W; go_simp; done)); go_simp; refine hK _ ?_; clear hK K)
        | (refine wpPlan_callK (.int .u64 (l : Int)) 68 #[.int .i64 z1, .int .i64 (sb : Int)] (by rfl) ?_ (fun W hW => (k2.out W).mono fun e w2 h => ⟨h.1, h.2 ▸ Ext.refl _⟩) (fun K hK => ?_); (focus (intro W; go_simp; done)); go_simp; refine hK _ ?_; clear hK K)
        | (refine wpPlan_callK (.int .u64 (h : Int)) 68 #[.int .i64 z2, .int .i64 (sb : Int)] (by rfl) ?_ (fun W hW => (k3.out W).mono fun e w2 h => ⟨h.1, h.2 ▸ Ext.refl _⟩) (fun K hK => ?_); (focus (intro W; go_simp; done)); go_simp; refine hK _ ?_; clear hK K))
      refine wpPlan_nil (fun W10 hW0 => ?_)
      simp only [List.drop_succ_cons, List.drop_zero, List.drop_nil]
      have x10 := hideP hW0.drew_left
      have t8 := hideP (t7.out.ext x10.out)
      have o8 := hideP (o7.out.ext x10.out)
      have p8 := hideP (p7.out.ext x10.out)
      have b8 := hideP (below_ext b7.out x10.out)
      have bs8 := hideP (best_ext bs7.out x10.out)
      have yl := hideP (x10.out.cell hxl1.out)
      have yh := hideP (x10.out.cell hxh1.out)
      clear hW0 m0 m1 m2 m3 x10 t7 o7 p7 b7 bs7 hxl1 hxh1 k1 k2 k3 hAr
      have m0 := t8.out.c0
      have m1 := t8.out.c1
      rcases hzb with rfl | rfl
      · rcases hlb with rfl | rfl
        · rcases hhb with rfl | rfl
          · have hst' := hideP (show RR = skipGo c n (64 * n - (t + 1)) (t + 1) xl xh best by rw [hRes.out, hst.out]; simp)
            go_wp2
            go_roundw
            case rel => exact ⟨t + 1, xl, xh, best, bA, bl, bc, by omega, by go_num, rfl, ⟨bs8.out, ⟨t8.out, o8.out, p8.out, xll.out, xhl.out, xlI.out, xhI.out, b8.out⟩, hst'.out⟩⟩
            case measure => simp [intOf]; omega
          · have hst' := hideP (show RR = skipGo c n (64 * n - (t + 1)) (t + 1) xl (xh.set k U) (some (code (xl.set k V))) by rw [hRes.out, hst.out]; simp)
            go_upto_region 16 with fail
            have hcl3 := hideP (fun (W : World) hA => clone_any (some ⟨r, 0, none⟩) xl s W hA (by have := xll.out; omega))
            rw [xll.out] at hcl3
            have hA3 := hideP (Own.arr o8.out)
            rw [xll.out] at hA3
            go_cut [15] (fun v15 wx => ∃ gu ru sc : Nat, v15 = .pointer (some ⟨gu, 0, none⟩) ∧ Hid (UpIs W10 wx gu ru sc xl (.slice (some ⟨ru, 0, none⟩) n sc) (.slice (some ⟨q, 0, none⟩) n u)))
            case first =>
              refine wp_region_fork 7 (.q 0 (.q 1 (.q 3 (.q 4 (.alt (.l 2 (.q 5 (.l 6 .nil))) (.l 6 (.l 2 (.q 5 .nil)))))))) (by kernel_rfl) (by kernel_rfl) ?_
              simp only [pickT, nthO_zero, nthO_succ]
              iterate 4 (refine wpT_valK (by rfl) (fun K hK => ?_); apply Exists.intro; refine ⟨fun W hW => ?_, ?_⟩; (focus (have hs0 := hW.cell m0; have hs1 := hW.cell m1; go_simp; (try rfl); done)); go_simp; refine hK _ ?_; clear hK K)
              clear m0 m1
              refine wpT_alt ?_ ?_
              · refine wpT_loudK 70 #[.slice (some ⟨r, 0, none⟩) n s] (by rfl) (fun W => by go_simp) (fun W hW => (hcl3.out W (hA3.out.ext hW.drew_left)).mono ?_)
                rintro e wc ⟨RC, sc, rfl, hb, hown⟩
                refine ⟨_, rfl, Ext.of_below hb, fun K hK => ?_⟩
                go_simp
                refine hK _ ?_
                clear hK K
                obtain ⟨ru, rfl, ru1, ru2⟩ := hown.at xll.out h1
                have xc := hideP (hW.drew_left.trans (Ext.of_below hb))
                have oc := hideP (hown.mono (show W10.heap.size ≤ W.heap.size from hW.drew_left.size))
                have rc := hideP ru2
                clear hb hown hW ru1 ru2
                refine wpT_valK (by rfl) (fun K hK => ?_); apply Exists.intro; refine ⟨fun W hW => ?_, ?_⟩; (focus (go_simp; (try rfl); done)); go_simp; refine hK _ ?_; clear hK K
                refine wpT_buildK (by rfl) (fun V4 hV4 => ?_)
                refine ⟨.pointer (some ⟨V4.heap.size, 0, none⟩), V4.alloc (.cells #[.slice none 0 0, .slice none 0 0] 91), ⟨by go_simp, Ext.alloc _ _⟩, fun K hK => ?_⟩
                go_simp
                refine hK _ ?_
                clear hK K
                refine wpT_nil (fun W11 hW0 => ?_)
                simp only [List.drop_succ_cons, List.drop_zero, List.drop_nil]
                have tu := hideP ((Two.new V4 91 (.slice none 0 0) (.slice none 0 0)).ext hW0)
                have xx := hideP (xc.out.trans (hV4.trans ((Ext.alloc _ _).trans hW0)))
                have oo := hideP (oc.out.ext (hV4.trans ((Ext.alloc _ _).trans hW0)))
                have dd := hideP (show W10.heap.size ≤ V4.heap.size ∧ ru ≠ V4.heap.size by have := xc.out.size; have := hV4.size; have := rc.out; omega)
                clear xc oc rc hV4 hW0
                go_wp2_with (refine wpList_store_two rfl 91 (.tmp 15) (.tmp 85) rfl V4.heap.size _ _ 91 _ _ rfl rfl tu.out size_cor rfl rfl ?_)
                go_meet
                exact ⟨V4.heap.size, ru, sc, rfl, upIs_mk tu.out xx.out oo.out dd.out.1 dd.out.2 _ _⟩
              · refine wpT_buildK (by rfl) (fun V4 hV4 => ?_)
                refine ⟨.pointer (some ⟨V4.heap.size, 0, none⟩), V4.alloc (.cells #[.slice none 0 0, .slice none 0 0] 91), ⟨by go_simp, Ext.alloc _ _⟩, fun K hK => ?_⟩
                go_simp
                refine hK _ ?_
                clear hK K
                obtain ⟨V5, hV5⟩ : ∃ V, V = V4.alloc (.cells #[.slice none 0 0, .slice none 0 0] 91) := ⟨_, rfl⟩
                have tv := hideP (show Two V5 V4.heap.size 91 (.slice none 0 0) (.slice none 0 0) by rw [hV5]; exact Two.new _ _ _ _)
                have xv := hideP (show Ext W10 V5 by rw [hV5]; exact hV4.drew_left.trans (Ext.alloc _ _))
                have sv := hideP (show W10.heap.size ≤ V4.heap.size from hV4.drew_left.size)
                rw [← hV5]
                clear hV5 hV4
                refine wpT_loudK 70 #[.slice (some ⟨r, 0, none⟩) n s] (by rfl) (fun W => by go_simp) (fun W hW => (hcl3.out W (hA3.out.ext (xv.out.trans hW))).mono ?_)
                rintro e wc ⟨RC, sc, rfl, hb, hown⟩
                refine ⟨_, rfl, Ext.of_below hb, fun K hK => ?_⟩
                go_simp
                refine hK _ ?_
                clear hK K
                obtain ⟨ru, rfl, ru1, ru2⟩ := hown.at xll.out h1
                have xc := hideP (xv.out.trans (hW.trans (Ext.of_below hb)))
                have tc := hideP (tv.out.ext (hW.trans (Ext.of_below hb)))
                have oc := hideP (hown.mono (show W10.heap.size ≤ W.heap.size from (xv.out.trans hW).size))
                have dd := hideP (show W10.heap.size ≤ V4.heap.size ∧ ru ≠ V4.heap.size by have := sv.out; have := (tv.out.ext hW).lt; omega)
                clear hb hown hW ru1 ru2 xv sv tv
                refine wpT_valK (by rfl) (fun K hK => ?_); apply Exists.intro; refine ⟨fun W hW => ?_, ?_⟩; (focus (go_simp; (try rfl); done)); go_simp; refine hK _ ?_; clear hK K
                refine wpT_nil (fun W11 hW0 => ?_)
                simp only [List.drop_succ_cons, List.drop_zero, List.drop_nil]
                have tu := hideP (tc.out.ext hW0)
                have xx := hideP (xc.out.trans hW0)
                have oo := hideP (oc.out.ext hW0)
                clear xc oc tc hW0
                go_wp2_with (refine wpList_store_two rfl 91 (.tmp 15) (.tmp 85) rfl V4.heap.size _ _ 91 _ _ rfl rfl tu.out size_cor rfl rfl ?_)
                go_meet
                exact ⟨V4.heap.size, ru, sc, rfl, upIs_mk tu.out xx.out oo.out dd.out.1 dd.out.2 _ _⟩
            case rest =>
              obtain ⟨gu, ru, sc, rfl, hU⟩ := hcut
              have hrl := hideP (show r < W10.heap.size by obtain ⟨_, he, _, hl⟩ := o8.out.at xll.out h1; injection he with he; injection he with he; omega)
              have hql := hideP (show q < W10.heap.size by obtain ⟨_, he, _, hl⟩ := p8.out.at xhl.out h1; injection he with he; injection he with he; omega)
              have xU := hideP hU.out.2.2.1
              have tu := hideP hU.out.1
              have ou := hideP hU.out.2.1
              have gd := hideP (show gu ≠ ru ∧ gu ≠ gx ∧ gu ≠ r ∧ gu ≠ q ∧ ru ≠ gx ∧ ru ≠ r ∧ ru ≠ q ∧ w.heap.size ≤ ru ∧ w.heap.size ≤ gu by
                have := hU.out.2.2.2.1
                have := hU.out.2.2.2.2
                have := hrl.out
                have := hql.out
                have := t8.out.lt
                have := b8.out.size
                obtain ⟨_, he, _, hl⟩ := hU.out.2.1.at xll.out h1
                injection he with he; injection he with he
                omega)
              have t9 := hideP (t8.out.ext xU.out)
              have o9 := hideP (o8.out.ext xU.out)
              have p9 := hideP (p8.out.ext xU.out)
              have b9 := hideP (below_ext b8.out xU.out)
              clear hU t8 o8 p8 b8 bs8 yl yh hrl hql xU m0 m1
              have m0 := tu.out.c0
              have m1 := t9.out.c0
              have m2 := o9.out.cell k (by rw [xll.out]; exact hkn)
              rw [HZ1.out] at m2
              go_upto_region 17 with fail
              refine wp_region_eager 10 [(true, 0), (true, 1), (true, 2), (true, 3), (true, 4), (true, 5), (true, 6), (true, 7), (true, 8), (true, 9)] (by kernel_rfl) (by kernel_rfl) ?_
              simp only [pick, List.map_cons, List.map_nil, nthO_zero, nthO_succ]
              repeat (first
                | (refine wpPlan_skipK (by rfl) (fun K hK => ?_); go_simp; refine hK _ ?_; clear hK K)
                | (refine wpPlan_valK (by rfl) (fun K hK => ?_); apply Exists.intro; refine ⟨fun W hW => ?_, ?_⟩; (focus (have hs0 := hW.cell m0; have hs1 := hW.cell m1; have hs2 := hW.cell m2; go_simp; (try rfl); done)); go_simp; refine hK _ ?_; clear hK K)
                | (refine wpPlan_callK (.int .i64 V) 56 #[.int .i64 z1, .int .i64 (sb : Int)] (by rfl) ?_ (fun W hW => (kV.out W).mono fun e w2 h => ⟨h.1, h.2⟩) (fun K hK => ?_); (focus (intro W; go_simp; done)); go_simp; refine hK _ ?_; clear hK K))
              refine wpPlan_nil (fun W13 hW0 => ?_)
              simp only [List.drop_succ_cons, List.drop_zero, List.drop_nil]
              have x13 := hideP hW0.drew_left
              replace tu := hideP (tu.out.ext x13.out)
              replace ou := hideP (ou.out.ext x13.out)
              replace t9 := hideP (t9.out.ext x13.out)
              replace o9 := hideP (o9.out.ext x13.out)
              replace p9 := hideP (p9.out.ext x13.out)
              replace b9 := hideP (below_ext b9.out x13.out)
              clear m0 m1 m2 hW0 x13
              have s1_ := ou.out.cell k (by rw [xll.out]; exact hkn)
              have s2_ := ou.out.fz k
              go_upto_region 18 with fail
              replace tu := hideP (tu.out.setOther (a := ⟨ru, k, none⟩) (by have := gd.out; simp; omega) (.int .i64 V))
              replace t9 := hideP (t9.out.setOther (a := ⟨ru, k, none⟩) (by have := gd.out; simp; omega) (.int .i64 V))
              replace o9 := hideP (o9.out.other (a := ⟨ru, k, none⟩) (by have := gd.out; simp [Value.ownBlock]; omega) (.int .i64 V))
              replace p9 := hideP (p9.out.other (a := ⟨ru, k, none⟩) (by have := gd.out; simp [Value.ownBlock]; omega) (.int .i64 V))
              replace b9 := hideP (b9.out.setCell (p := ⟨ru, k, none⟩) (by have := gd.out; simp; omega) (.int .i64 V))
              replace ou := hideP (ou.out.store k V)
              obtain ⟨W14, hW14⟩ : ∃ W, W = W13.setCell ⟨ru, k, none⟩ (.int .i64 V) := ⟨_, rfl⟩
              rw [← hW14] at tu t9 o9 p9 b9 ou ⊢
              clear hW14 s1_ s2_
              have hA5 := hideP (Own.arr ou.out)
              rw [List.length_set, xll.out] at hA5
              have hII := hideP (isI_set xlI.out (k := k) hVb.out)
              have hIL := hideP (show (xl.set k V).length = n by rw [List.length_set]; exact xll.out)
              have f1 := hideP (fun (W : World) hA => first_any (some ⟨ru, 0, none⟩) (some ⟨q, 0, none⟩) (xl.set k V) n sc u W hA hII.out hIL.out h1 h8)
              obtain ⟨cc, hcc⟩ : ∃ cc, cc = code (xl.set k V) := ⟨_, rfl⟩
              have hccl := hideP (show cc.length = 8 * n by rw [hcc, code_len, hIL.out])
              rw [← hcc] at f1 hst'
              clear hcc
              have LT := hideP (show ru < W14.heap.size ∧ gx < W14.heap.size ∧ r < W14.heap.size ∧ q < W14.heap.size by
                obtain ⟨_, he1, _, hl1⟩ := ou.out.at hIL.out h1
                obtain ⟨_, he2, _, hl2⟩ := o9.out.at xll.out h1
                obtain ⟨_, he3, _, hl3⟩ := p9.out.at xhl.out h1
                injection he1 with he1; injection he1 with he1; injection he2 with he2; injection he2 with he2; injection he3 with he3; injection he3 with he3
                have := t9.out.lt
                omega)
              have ktu0 := tu.out.c0; have ktu1 := tu.out.c1
              go_wp2_with fail
              refine (f1.out W14 hA5.out).mono ?_
              rintro e W15 ⟨g, rfl, hg, hr, hb⟩
              have gw := hideP (show g ≠ r ∧ g ≠ q by have := LT.out; omega)
              have HR := hideP hr
              replace t9 := hideP (t9.out.after hb)
              replace o9 := hideP (o9.out.ext (Ext.of_below hb))
              replace p9 := hideP (p9.out.ext (Ext.of_below hb))
              replace b9 := hideP (bstep b9.out hb)
              clear hg hr hb tu ou hA5 f1 ktu0 ktu1
              go_upto_region 19 with fail
              have m0 := t9.out.c1
              have m2 := p9.out.cell k (by rw [xhl.out]; exact hkn)
              rw [HZ2.out] at m2
              refine wp_region_eager 10 [(true, 0), (true, 1), (true, 2), (true, 3), (true, 4), (true, 5), (true, 6), (true, 7), (true, 8), (true, 9)] (by kernel_rfl) (by kernel_rfl) ?_
              simp only [pick, List.map_cons, List.map_nil, nthO_zero, nthO_succ]
              repeat (first
                | (refine wpPlan_skipK (by rfl) (fun K hK => ?_); go_simp; refine hK _ ?_; clear hK K)
                | (refine wpPlan_valK (by rfl) (fun K hK => ?_); apply Exists.intro; refine ⟨fun W hW => ?_, ?_⟩; (focus (have hs0 := hW.cell m0; have hs1 := hW.cell m2; go_simp; (try rfl); done)); go_simp; refine hK _ ?_; clear hK K)
                | (refine wpPlan_callK (.int .i64 U) 55 #[.int .i64 z2, .int .i64 (sb : Int)] (by rfl) ?_ (fun W hW => (kU.out W).mono fun e w2 h => ⟨h.1, h.2 ▸ Ext.refl _⟩) (fun K hK => ?_); (focus (intro W; go_simp; done)); go_simp; refine hK _ ?_; clear hK K))
              refine wpPlan_nil (fun W16 hW0 => ?_)
              simp only [List.drop_succ_cons, List.drop_zero, List.drop_nil]
              have x16 := hideP hW0.drew_left
              replace t9 := hideP (t9.out.ext x16.out)
              replace o9 := hideP (o9.out.ext x16.out)
              replace p9 := hideP (p9.out.ext x16.out)
              replace b9 := hideP (below_ext b9.out x16.out)
              replace HR := hideP (rowIs_ext HR.out x16.out)
              clear m0 m2 hW0 x16
              have s1_ := p9.out.cell k (by rw [xhl.out]; exact hkn)
              have s2_ := p9.out.fz k
              go_wp2
              clear s1_ s2_
              go_roundw
              case rel =>
                refine ⟨t + 1, xl, xh.set k U, some cc, some ⟨g, 0, none⟩, 8 * n, 8 * n, by omega, by go_num, rfl, ⟨⟨g, rfl, rfl, hccl.out, gw.out.1, gw.out.2, rowIs_set HR.out (a := ⟨q, k, none⟩) gw.out.2 _⟩, ⟨t9.out.setOther (a := ⟨q, k, none⟩) (by have := ap.out; simp; omega) _, o9.out.other (a := ⟨q, k, none⟩) (by have := hne.out; simp [Value.ownBlock]; omega) _, p9.out.store k U, xll.out, by rw [List.length_set]; exact xhl.out, xlI.out, isI_set xhI.out hUb.out, b9.out.setCell (p := ⟨q, k, none⟩) (by have := rw3.out; have := hBw.out; simp; omega) _⟩, hst'.out⟩⟩
              case measure => simp [intOf]; omega
        · have hst' := hideP (show RR = some (code xl) by rw [hRes.out, hst.out]; simp)
          have hA2 := hideP (Own.arr o8.out)
          rw [xll.out] at hA2
          go_wp2_with fail
          refine (first_any (some ⟨r, 0, none⟩) (some ⟨q, 0, none⟩) xl n s u W10 hA2.out xlI.out xll.out h1 h8).mono ?_
          rintro e w5 ⟨g, rfl, hg, hr, hb⟩
          have HR := hideP hr; have HB := hideP hb
          clear hg hr hb
          go_wp2
          go_ret2
          rw [hst'.out]
          exact ⟨some ⟨g, 0, none⟩, 8 * n, rfl, by rw [code_len, xll.out], rowArr HR.out rfl, b8.out.trans (HB.out.mono b8.out.size)⟩
      · rcases hhb with rfl | rfl
        · have hst' := hideP (show RR = best by rw [hRes.out, hst.out]; simp)
          cases best with
          | none =>
            obtain ⟨rfl, rfl, rfl⟩ := bs8.out
            have hq0 := fun (W : World) => run_neq_slice_nil (P := Try.prog) W 22 5 none 0 0 Try.underlying22
            simp only [Option.isNone_none, Bool.not_true] at hq0
            go_wp2
            go_ret2
            rw [hst'.out]
            exact ⟨rfl, b8.out⟩
          | some lb =>
            obtain ⟨g, rfl, rfl, hlb2, hgr, hgq, hrow⟩ := bs8.out
            have hq0 := fun (W : World) => run_neq_slice_nil (P := Try.prog) W 22 5 (some ⟨g, 0, none⟩) (8 * n) bc Try.underlying22
            simp only [Option.isNone_some, Bool.not_false] at hq0
            have HR := hideP hrow
            have HL := hideP hlb2
            clear hrow hlb2 hgr hgq
            go_wp2
            go_ret2
            rw [hst'.out]
            exact ⟨some ⟨g, 0, none⟩, bc, rfl, HL.out, rowArr HR.out rfl, b8.out⟩
        · rcases hlb with rfl | rfl
          · have hst' := hideP (show RR = skipGo c n (64 * n - (t + 1)) (t + 1) (xl.set k V) xh best by rw [hRes.out, hst.out]; simp)
            go_upto_region 21 with fail
            have m2 := yl.out
            refine wp_region_eager 10 [(true, 0), (true, 1), (true, 2), (true, 3), (true, 4), (true, 5), (true, 6), (true, 7), (true, 8), (true, 9)] (by kernel_rfl) (by kernel_rfl) ?_
            simp only [pick, List.map_cons, List.map_nil, nthO_zero, nthO_succ]
            repeat (first
              | (refine wpPlan_skipK (by rfl) (fun K hK => ?_); go_simp; refine hK _ ?_; clear hK K)
              | (refine wpPlan_valK (by rfl) (fun K hK => ?_); apply Exists.intro; refine ⟨fun W hW => ?_, ?_⟩; (focus (have hs0 := hW.cell m0; have hs1 := hW.cell m1; have hs2 := hW.cell m2; go_simp; (try rfl); done)); go_simp; refine hK _ ?_; clear hK K)
              | (refine wpPlan_callK (.int .i64 V) 56 #[.int .i64 z1, .int .i64 (sb : Int)] (by rfl) ?_ (fun W hW => (kV.out W).mono fun e w2 h => ⟨h.1, h.2⟩) (fun K hK => ?_); (focus (intro W; go_simp; done)); go_simp; refine hK _ ?_; clear hK K))
            refine wpPlan_nil (fun W11 hW0 => ?_)
            simp only [List.drop_succ_cons, List.drop_zero, List.drop_nil]
            have x11 := hideP hW0.drew_left
            have t9 := hideP (t8.out.ext x11.out)
            have o9 := hideP (o8.out.ext x11.out)
            have p9 := hideP (p8.out.ext x11.out)
            have b9 := hideP (below_ext b8.out x11.out)
            have bs9 := hideP (best_ext bs8.out x11.out)
            clear hW0 m0 m1 m2 x11 t8 o8 p8 b8 bs8 yl yh
            have s1_ := o9.out.cell k (by rw [xll.out]; exact hkn)
            have s2_ := o9.out.fz k
            go_wp2
            clear s1_ s2_
            go_roundw
            case rel =>
              refine ⟨t + 1, xl.set k V, xh, best, bA, bl, bc, by omega, by go_num, rfl, ⟨best_set bs9.out (.inl rfl), ⟨t9.out.setOther (a := ⟨r, k, none⟩) (by have := ap.out; simp; omega) _, o9.out.store k V, p9.out.other (a := ⟨r, k, none⟩) (by have := hne.out; simp [Value.ownBlock]; omega) _, by rw [List.length_set]; exact xll.out, xhl.out, isI_set xlI.out hVb.out, xhI.out, b9.out.setCell (p := ⟨r, k, none⟩) (by have := rw3.out; have := hBw.out; simp; omega) _⟩, hst'.out⟩⟩
            case measure => simp [intOf]; omega
          · have hst' := hideP (show RR = skipGo c n (64 * n - (t + 1)) (t + 1) xl xh best by rw [hRes.out, hst.out]; simp)
            go_wp2
            go_roundw
            case rel => exact ⟨t + 1, xl, xh, best, bA, bl, bc, by omega, by go_num, rfl, ⟨bs8.out, ⟨t8.out, o8.out, p8.out, xll.out, xhl.out, xlI.out, xhI.out, b8.out⟩, hst'.out⟩⟩
            case measure => simp [intOf]; omega
    · obtain rfl : t = 64 * n := by omega
      have hst' := hideP (show RR = some c by rw [hI.out.2.2, Nat.sub_self]; rfl)
      have hAr := hideP (HhA.out.after hW.out.2.2.2.2.2.2.2)
      have hcl2 := hideP (fun (hA : Arr wr wr.heap.size A c.length (u8s c)) => sclone_any A c ca wr hA (by have := Hhcl.out; omega))
      rw [Hhcl.out] at hcl2
      go_wp2_with fail
      refine (hcl2.out hAr.out).mono ?_
      rintro e w5 ⟨RR2, d2, rfl, hr, hb⟩
      have HR := hideP hr; have HB := hideP hb
      clear hr hb
      go_wp2
      go_ret2
      rw [hst'.out]
      exact ⟨RR2, d2, rfl, Hhcl.out, HR.out, hW.out.2.2.2.2.2.2.2.trans (HB.out.mono hW.out.2.2.2.2.2.2.2.size)⟩
end Go.Proofs.Ytjdbpeblbejllaa
