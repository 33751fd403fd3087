/- Contracts of package sha's New, Write. -/
import Derived.Test.YtedokpgkjcnoiaaGreatQ33
import Derived.Test.YtedokpgkjcnoiaaGreatQ34
set_option linter.unusedVariables false
set_option linter.unusedSimpArgs false
namespace Go.Proofs.YtedokpgkjcnoiaaGreat
open Go.RowKit
def setL (cs : List Value) (o : Nat) : List Value → List Value
 | [] => cs
 | v :: r => setL (cs.set o v) (o + 1) r
theorem setL_mid (c : List Value) : ∀ (v a b : List Value), b.length = v.length → setL (a ++ b ++ c) a.length v = a ++ v ++ c
 | [], a, b, h => by
  obtain rfl : b = [] := List.length_eq_zero_iff.1 (by simpa using h)
  rfl
 | x :: v, a, [], h => by simp at h
 | x :: v, a, y :: b, h => by
  have := setL_mid c v (a ++ [x]) b (by simpa using h)
  have e1 : (a ++ y :: b ++ c).set a.length x = a ++ [x] ++ b ++ c := by rw [List.append_assoc, List.set_append_right _ _ (by omega)]; simp
  have e2 : (a ++ [x]).length = a.length + 1 := by simp
  rw [e2] at this
  unfold setL
  rw [e1, this]
  simp
theorem Row.setCells {g : Nat} {t : TypeId} : ∀ (vs : List Value) (o : Nat) {w : World} {cs : List Value}, Row w g t cs → Row (w.setCells g o vs) g t (setL cs o vs)
 | [], _, _, _, h => h
 | v :: r, o, w, cs, h => Row.setCells r (o + 1) (Row.set h o v)
theorem below_setCells {B g : Nat} (hB : B ≤ g) : ∀ (vs : List Value) (o : Nat) {w0 w : World}, Below B w0 w → Below B w0 (w.setCells g o vs)
 | [], _, _, _, h => h
 | v :: r, o, _, _, h => below_setCells hB r (o + 1) (h.setCell (p := ⟨g, o, none⟩) hB v)
/-- a sum under way -/
def ShSt (w : World) (g : Nat) (h : List UInt32) (r n : Value) : Prop := h.length = 8 ∧ Row w g 197 (h.map v32 ++ [r, n])
section
variable {w W : World} {g : Nat} {h : List UInt32} {r n : Value}
theorem ShSt.lt (s : ShSt w g h r n) : g < w.heap.size := Row.lt s.2
theorem ShSt.range (s : ShSt w g h r n) : w.rangeAt g 0 (h.map v32) := fun j v hv => by
 have hj : j < (h.map v32).length := (List.getElem?_eq_some_iff.1 hv).1
 rw [Nat.zero_add, Row.cell s.2 j, List.getElem?_append_left hj, hv]
theorem ShSt.there (s : ShSt w g h r n) : w.there g 0 8 := fun j hj => by
 rw [Nat.zero_add]
 refine ⟨?_, Row.fz s.2 j⟩
 rw [Row.cell s.2 j, List.getElem?_append_left (by simpa [s.1] using hj)]
 simp [s.1, hj]
theorem ShSt.rcell (s : ShSt w g h r n) : w.cell? ⟨g, 8, none⟩ = some r := by
 rw [Row.cell s.2 8, List.getElem?_append_right (by simp [s.1])]; simp [s.1]
theorem ShSt.ncell (s : ShSt w g h r n) : w.cell? ⟨g, 9, none⟩ = some n := by
 rw [Row.cell s.2 9, List.getElem?_append_right (by simp [s.1])]; simp [s.1]
theorem ShSt.setH (s : ShSt w g h r n) (k : List UInt32) (hk : k.length = 8) : ShSt (w.setCells g 0 (k.map v32)) g k r n := by
 refine ⟨hk, ?_⟩
 have := Row.setCells (k.map v32) 0 s.2
 rwa [show h.map v32 ++ [r, n] = [] ++ h.map v32 ++ [r, n] from rfl, show (0 : Nat) = ([] : List Value).length from rfl, setL_mid _ _ _ _ (by simp [s.1, hk])] at this
theorem ShSt.setR (s : ShSt w g h r n) (x : Value) : ShSt (w.setCell ⟨g, 8, none⟩ x) g h x n := by
 refine ⟨s.1, ?_⟩
 have := Row.set s.2 8 x
 rwa [List.set_append_right _ _ (by simp [s.1]), show 8 - (h.map v32).length = 0 by simp [s.1]] at this
theorem ShSt.setN (s : ShSt w g h r n) (x : Value) : ShSt (w.setCell ⟨g, 9, none⟩ x) g h r x := by
 refine ⟨s.1, ?_⟩
 have := Row.set s.2 9 x
 rwa [List.set_append_right _ _ (by simp [s.1]), show 9 - (h.map v32).length = 1 by simp [s.1]] at this
theorem ShSt.after (s : ShSt w g h r n) (hb : Below w.heap.size w W) : ShSt W g h r n := ⟨s.1, Row.after s.2 hb⟩
end
theorem size_w8' : (Tryz.prog.info? 194).map (·.size) = some 8 := by kernel_rfl
theorem ShSt.ext {w W : World} {g : Nat} {h : List UInt32} {r n : Value} (s : ShSt w g h r n) (hW : Ext w W) : ShSt W g h r n := ⟨s.1, Row.ext s.2 hW⟩
theorem exec_load_mid {a : Act} {o : Oper} {W : World} (ty : TypeId) (x : Operand) (ho : o.op = .load ty x) (b of : Nat) (hx : a.eval x = .pointer (some ⟨b, of, none⟩)) (cs : List Value) (d : TypeDesc) (hc : W.rangeAt b of cs)
    (hu : Tryz.prog.underlying ty = some d) (hd : d.isRow = true) (hi : (Tryz.prog.info? ty).map (·.size) = some cs.length) : (execOp a.eval o).run Tryz.prog W = .ok (.value (.agg cs.toArray)) W := by
  unfold execOp
  simp only [ho, hx, Instr.loadAt, Instr.sureAddr, Sem.run_bind, Sem.run_pure, Result.andThen_ok, run_loadVar_mid W b of ty cs d hc hu hd hi]
/-- bytes that lie in another block than g -/
def ArrX (w : World) (g : Nat) (A : Option Addr) (n : Nat) (l : List Nat) : Prop := 0 < n → ∃ b off, A = some ⟨b, off, none⟩ ∧ b < w.heap.size ∧ b ≠ g ∧ ∀ i, i < n → w.cell? ⟨b, off + i, none⟩ = some (u8s l i)
section
variable {w W : World} {g n : Nat} {A : Option Addr} {l : List Nat}
theorem ArrX.arr (h : ArrX w g A n l) : Arr w w.heap.size A n (u8s l) := fun hn => by obtain ⟨b, off, e, hb, _, hc⟩ := h hn; exact ⟨b, off, e, hb, hc⟩
theorem ArrX.after (h : ArrX w g A n l) (hb : Below w.heap.size w W) : ArrX W g A n l := fun hn => by
 obtain ⟨b, off, e, hB, hg, hc⟩ := h hn
 exact ⟨b, off, e, Nat.lt_of_lt_of_le hB hb.size, hg, fun i hi => by rw [hb.cell hB]; exact hc i hi⟩
theorem ArrX.setCell (h : ArrX w g A n l) (o : Nat) (v : Value) : ArrX (w.setCell ⟨g, o, none⟩ v) g A n l := fun hn => by
 obtain ⟨b, off, e, hB, hg, hc⟩ := h hn
 exact ⟨b, off, e, by simpa [World.setCell] using hB, hg, fun i hi => by rw [World.cell?_setCell_other _ _ _ _ (by intro e2; injection e2 with e2 _ _; exact hg e2.symm)]; exact hc i hi⟩
theorem ArrX.setCells (h : ArrX w g A n l) : ∀ (vs : List Value) (o : Nat), ArrX (w.setCells g o vs) g A n l := fun vs => by
 induction vs generalizing w with
 | nil => intro _; exact h
 | cons v r ih => intro o; exact ih (h.setCell o v) (o + 1)
theorem ArrX.cut {cap : Nat} (h : ArrX w g A n l) (k : Nat) (hk : k ≤ n) (hc : n ≤ cap) : ArrX w g (if cap = k then A else A.map (·.add k)) (n - k) (l.drop k) := fun hn => by
 obtain ⟨b, off, rfl, hB, hg, hcell⟩ := h (by omega)
 rw [if_neg (by omega)]
 refine ⟨b, off + k, ?_, hB, hg, fun i hi => ?_⟩
 ·simp only [Option.map_some, Addr.add]
  split
  ·simp_all
  ·rfl
 ·rw [Nat.add_assoc, hcell _ (by omega)]; unfold u8s List.getD; rw [List.getElem?_drop]
theorem ArrX.of_own {base : Nat} {c : Nat} (h : OwnB w base A c l) (hg : g < base) : ArrX w g A l.length l := fun hn => by
 obtain ⟨b, rfl, h1, h2, _, hc⟩ := h.at hn
 exact ⟨b, 0, rfl, h2, by omega, fun i hi => by rw [Nat.zero_add]; exact hc i hi⟩
end
theorem OwnB.cap {w : World} {base : Nat} {A : Option Addr} {c : Nat} {l : List Nat} (h : OwnB w base A c l) : l.length ≤ c := by
 rcases Nat.eq_zero_or_pos l.length with e | e
 ·omega
 ·obtain ⟨_, _, _, _, h, _⟩ := h.at e; exact h
theorem drop_blk (t : List Nat) (i : Nat) : (t.drop (64 * i)).take 64 = blk t i := rfl
set_option maxRecDepth 100000 in
set_option maxHeartbeats 1000000 in
theorem new_any (w : World) : Calls Tryz.prog 143 #[] w fun e w' => ∃ g, e = .returned (.pointer (some ⟨g, 0, none⟩)) ∧ Below w.heap.size w w' ∧ w.heap.size ≤ g ∧ ShSt w' g h0 (.slice none 0 0) (.int .u64 0) := by
 go_enter Tryz.func143, Tryz.ntmps143
 go_wp2_with (go_at_call 154; refine (begin_any _).mono ?_; rintro e w1 ⟨rfl, hb1⟩)
 go_ret
 exact ⟨w1.heap.size, rfl, hb1.alloc hb1.size _, hb1.size, rfl, Row.new w1 _ (h0.map v32 ++ [.slice none 0 0, .int .u64 0])⟩
set_option maxRecDepth 100000 in
set_option maxHeartbeats 2000000 in
theorem write_any (B g : Nat) (A : Option Addr) (t : List Nat) (c : Nat) (w : World) (hB : B ≤ g) (hS : ShSt w g h0 (.slice none 0 0) (.int .u64 0)) (hA : Arr w B A t.length (u8s t)) (ht : IsB t) (hn : t.length ≤ 1000000000) :
    Calls Tryz.prog 144 #[.pointer (some ⟨g, 0, none⟩), .slice A t.length c] w fun e w' => e = .returned (.tuple #[]) ∧ Below B w w' ∧
      ∃ A' c' r, r = t.drop (64 * (t.length / 64)) ∧ ShSt w' g (compN h0 t (t.length / 64)) (.slice A' r.length c') (.int .u64 t.length) ∧ Arr w' w'.heap.size A' r.length (u8s r) := by
  obtain ⟨T, hT⟩ : ∃ T, T = t.length := ⟨_, rfl⟩
  rw [← hT] at hA hn ⊢
  obtain ⟨H, hH⟩ : ∃ H, H = h0 := ⟨_, rfl⟩
  rw [← hH] at hS ⊢
  have hHs := hideP (show (Tryz.prog.info? 194).map (·.size) = some (H.map v32).toArray.size by rw [size_w8', hH]; rfl)
  have hHl := hideP (show H.length = 8 by rw [hH]; rfl)
  have hBl := hideP (Nat.lt_of_le_of_lt hB hS.lt)
  have k9 := hS.ncell
  have f9 := Row.fz hS.2 9
  have HhA := hideP hA; have Hht := hideP ht; have HhT := hideP hT; have HhS := hideP hS; have HhB := hideP hB; have HhH := hideP hH; clear hA ht hT hS hB hH
  go_enter Tryz.func144, Tryz.ntmps144
  go_upto_region 1 with fail
  clear k9 f9
  go_upto_region 2 with (first
    | (go_at_call 154; refine (begin_any _).mono ?_; rintro e w1 ⟨rfl, hb1⟩; rw [← HhH.out]; have s1 := hideP (HhS.out.after hb1); have b1 := hb1.mono (Nat.le_of_lt hBl.out))
    | (refine wpList_store_mid rfl 194 (.tmp 13) (.tmp 11) rfl g 0 (H.map v32).toArray rfl rfl (by simpa [hHl.out] using s1.out.there) hHs.out (all_v32 H) ?_))
  have s2 := hideP (s1.out.setH H hHl.out)
  have b2 := hideP (below_setCells HhB.out (H.map v32) 0 b1)
  obtain ⟨w2, hw2⟩ : ∃ w2, w2 = w1.setCells g 0 (H.map v32) := ⟨_, rfl⟩
  rw [← hw2] at s2 b2
  rw [← hw2]
  clear hw2 s1 b1 hb1 w1
  have k9 := s2.out.ncell
  have f9 := Row.fz s2.out.2 9
  have eT : IntKind.u64.wrap (T : Int) = (T : Int) := by rw [IntKind.wrap_u64]; omega
  have s3 := hideP (s2.out.setN (.int .u64 T))
  have b3 := hideP (b2.out.setCell (p := ⟨g, 9, none⟩) HhB.out (.int .u64 T))
  go_upto_region 3 with fail
  clear k9 f9
  obtain ⟨w3, hw3⟩ : ∃ w3, w3 = w2.setCell ⟨g, 9, none⟩ (.int .u64 T) := ⟨_, rfl⟩
  rw [← hw3] at s3 b3 ⊢
  clear hw3 s2 b2 eT
  have s4 := hideP (s3.out.after (below_new w3 (Obj.cells #[] 5)))
  have b4 := hideP (b3.out.alloc (Nat.le_of_lt (Nat.lt_of_le_of_lt HhB.out s3.out.lt)) (Obj.cells #[] 5))
  have k8 := s4.out.rcell
  have o4 := hideP (OwnB.lit0 w3)
  have z4 := hideP (show w3.heap.size ≤ (w3.alloc (Obj.cells #[] 5)).heap.size by simp)
  have A4 := hideP (HhA.out.below b4.out)
  have hgB := hideP s3.out.lt
  go_wp2_with (first
    | (at_builtin; refine wpList_appn rfl (.tmp 24) (.tmp 28) rfl w3.heap.size (some ⟨w3.heap.size, 0, none⟩) 0 0 [] rfl rfl o4.out 0 none 0 0 [] rfl rfl Arr.none_ (by omega) z4.out ?_; intro A5 c5 w5 o5 b5; have z5 := Nat.le_trans z4.out b5.size; have A5' := hideP (A4.out.below (b5.mono (Nat.le_trans HhB.out (Nat.le_of_lt hgB.out)))); have o5' := hideP o5)
    | (at_builtin; refine wpList_appn rfl (.tmp 29) (.tmp 30) rfl w3.heap.size A5 c5 0 ([] ++ []) rfl rfl o5'.out B A T c t HhT.out rfl A5'.out (by omega) z5 ?_; intro A6 c6 w6 o6 b6))
  have o7 := hideP (show OwnB w6 w3.heap.size A6 c6 t from o6)
  have s7 := hideP (show ShSt w6 g H (.slice none 0 0) (.int .u64 T) from ⟨s4.out.1, Row.below (Row.below s4.out.2 b5 hgB.out) b6 hgB.out⟩)
  have hm := Nat.le_trans HhB.out (Nat.le_of_lt hgB.out)
  have b7 := hideP ((b4.out.trans (b5.mono hm)).trans (b6.mono hm))
  have x7 := hideP (show ArrX w6 g A6 T t by have := ArrX.of_own o7.out hgB.out; rwa [← HhT.out] at this)
  have hcap := o7.out.cap
  rw [← HhT.out] at hcap
  clear o7 o6 b6 o5 b5 o5' A5' A4 z4 z5 o4 k8 b4 s4 b3 s3 hm
  go_loopw [4] (fun v4 wr => ∃ (i n : Nat) (A : Option Addr) (c : Nat), n ≤ c ∧ 64 * i + n = T ∧ v4 = .slice A n c ∧ Hid (ShSt wr g (compN H t i) (.slice none 0 0) (.int .u64 T) ∧ Below B w wr ∧ ArrX wr g A n (t.drop (64 * i)))) (fun v4 _ => match v4 with | .slice _ n _ => n | _ => 0)
  case atStart => exact ⟨0, T, A6, c6, hcap, by omega, by simp, s7.out, b7.out, x7.out⟩
  case round =>
    clear s7 b7 x7 hcap
    obtain ⟨i, n, Av, cv, hnc, hin, rfl, hV⟩ := hrel
    by_cases hlt : 64 ≤ n
    · have t' : decide ((64 : Int) ≤ (n : Int)) = true := by simp; omega
      have i1 : (64 : Int) ≤ (cv : Int) := by omega
      have i2 : (64 : Int) ≤ (n : Int) := by omega
      obtain ⟨h, hh⟩ : ∃ h, h = compN H t i := ⟨_, rfl⟩
      rw [← hh] at hV
      have hhl := hideP hV.out.1.1
      have hN := hideP (show turnS h (blk t i) = compN H t (i + 1) by rw [hh]; rfl)
      have hAb := hideP (show Arr wr wr.heap.size Av 64 (u8s (blk t i)) from ((hV.out.2.2.arr).front hlt).congr fun j hj => by unfold u8s; rw [← drop_blk]; unfold List.getD; rw [List.getElem?_take, if_pos hj])
      have hbb := hideP (isB_blk Hht.out i)
      have hrg := hideP hV.out.1
      have hms := hideP (show (Tryz.prog.info? 194).map (·.size) = some (h.map v32).length by rw [size_w8']; simp [hhl.out])
      have Hhh := hideP hh; clear hh
      go_wp2_with fail
      refine wp_region_eager 10 [(true, 0), (true, 1), (true, 2), (true, 3), (true, 4), (true, 5), (true, 6), (true, 7), (true, 8), (true, 9)] (by kernel_rfl) (by kernel_rfl) ?_
      simp only [pick, List.map_cons, List.map_nil, nthO_zero, nthO_succ]
      repeat (first
        | (refine wpPlan_skipK (by rfl) (fun K hK => ?_); go_simp; refine hK _ ?_; clear hK K)
        | (refine wpPlan_valK (by rfl) (fun K hK => ?_); refine ⟨.agg (h.map v32).toArray, fun W hW => exec_load_mid 194 (.tmp 38) rfl g 0 rfl (h.map v32) _ (ShSt.range (hrg.out.ext hW.drew_left)) Tryz.underlying194 rfl hms.out, ?_⟩; go_simp; refine hK _ ?_; clear hK K)
        | (refine wpPlan_valK (by rfl) (fun K hK => ?_); apply Exists.intro; refine ⟨fun W hW => ?_, ?_⟩; (focus (go_simp; (try rfl); done)); go_simp; refine hK _ ?_; clear hK K)
        | (refine wpPlan_callK (.agg ((turnS h (blk t i)).map v32).toArray) 155 #[.agg (h.map v32).toArray, .slice Av 64 cv] (by rfl) ?_ (fun W hW => (turn_any h hhl.out Av (blk t i) cv W (hAb.out.ext hW.drew_left) hbb.out).mono fun e w' h => ⟨h.1, Ext.of_below h.2⟩) (fun K hK => ?_); (focus (intro W; go_simp; done)); go_simp; refine hK _ ?_; clear hK K))
      refine wpPlan_nil (fun W1 hW0 => ?_)
      simp only [List.drop_succ_cons, List.drop_zero, List.drop_nil]
      have s1 := hideP (hV.out.1.ext hW0.drew_left)
      have b1 := hideP (hV.out.2.1.trans (hW0.drew_left.below.mono (Nat.le_trans HhB.out (Nat.le_of_lt hV.out.1.lt))))
      have x1 := hideP (hV.out.2.2.after hW0.drew_left.below)
      have hYl := hideP (show (turnS h (blk t i)).length = 8 from turnS_len _ _)
      obtain ⟨Y, hY⟩ : ∃ Y, Y = turnS h (blk t i) := ⟨_, rfl⟩
      rw [← hY] at hYl hN ⊢
      clear hY hV hW0 hAb hbb hrg
      have hYs := hideP (show (Tryz.prog.info? 194).map (·.size) = some (Y.map v32).toArray.size by rw [size_w8']; simp [hYl.out])
      refine wpList_store_mid rfl 194 (.tmp 44) (.tmp 42) rfl g 0 (Y.map v32).toArray rfl rfl (by simpa [hYl.out] using s1.out.there) hYs.out (all_v32 Y) ?_
      have s2 := hideP (s1.out.setH Y hYl.out)
      have b2 := hideP (below_setCells HhB.out (Y.map v32) 0 b1.out)
      have x2 := hideP (x1.out.setCells (Y.map v32) 0)
      obtain ⟨w2, hw2⟩ : ∃ w2, w2 = W1.setCells g 0 (Y.map v32) := ⟨_, rfl⟩
      rw [← hw2] at s2 b2 x2
      rw [← hw2]
      clear hw2 s1 b1 x1
      have x3 := hideP (x2.out.cut 64 hlt hnc)
      go_wp2_with fail
      go_roundw
      case rel => exact ⟨i + 1, n - 64, _, _, by omega, by omega, rfl, by rw [← hN.out]; exact s2.out, b2.out, by have := x3.out; rwa [List.drop_drop, show 64 * i + 64 = 64 * (i + 1) by omega] at this⟩
      case measure => simp; omega
    · have t' : decide ((64 : Int) ≤ (n : Int)) = false := by simp; omega
      have hie : i = T / 64 := by omega
      have s1 := hideP hV.out.1
      have b1 := hideP hV.out.2.1
      have x1 := hideP hV.out.2.2
      have hnl := hideP (show n = (t.drop (64 * (T / 64))).length by rw [List.length_drop, ← HhT.out]; omega)
      rw [hie] at s1 x1
      have k8 := s1.out.rcell
      have f8 := Row.fz s1.out.2 8
      have s2 := hideP (s1.out.setR (.slice Av n cv))
      have b2 := hideP (b1.out.setCell (p := ⟨g, 8, none⟩) HhB.out (.slice Av n cv))
      have x2 := hideP (x1.out.setCell 8 (.slice Av n cv))
      clear hV hie
      go_wp2_with fail
      refine bodyPost_end (results_none rfl _ _ _) rfl ⟨rfl, b2.out, Av, cv, _, rfl, ?_, ?_⟩
      · rw [← hnl.out]; exact s2.out
      · rw [← hnl.out]; exact x2.out.arr
end Go.Proofs.YtedokpgkjcnoiaaGreat
