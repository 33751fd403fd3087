/- Kids of nodes, as data and in memory; slices.Equal of rows; box.Same. The zero head is one. Contracts of node.Same, Empty, KidRight and of the reference's. -/
import Derived.Test.YtgcbodpjidoanaaK4
import Derived.Test.YtgcbodpjidoanaaK23
import Derived.Test.YtgcbodpjidoanaaK24
set_option linter.unusedVariables false
set_option linter.unusedSimpArgs false
namespace Go.Proofs.Ytgcbodpjidoanaa
open Go.RowKit
structure KidD where
  sum : List Nat
  lo : List Int
  hi : List Int
  live : Int
  size : Int
  key : List Int
deriving DecidableEq, Inhabited
/-- where a kid's rows lie, and their room -/
structure KidP where
  lA : Option Addr
  lc : Nat
  hA : Option Addr
  hc : Nat
  kA : Option Addr
  kc : Nat
deriving Inhabited
structure KidOk (k : KidD) : Prop where
  s : k.sum.length = 32
  sB : IsB k.sum
  lI : IsI k.lo
  hI : IsI k.hi
  kI : IsI k.key
  l1 : -9223372036854775808 ≤ k.live ∧ k.live ≤ 9223372036854775807
  z1 : -9223372036854775808 ≤ k.size ∧ k.size ≤ 9223372036854775807
  lo : k.lo.length ≤ 1000000
  hi : k.hi.length ≤ 1000000
  key : k.key.length ≤ 1000000
/-- the cells behind the sum -/
def kidT (k : KidD) (p : KidP) : List Value := [.slice p.lA k.lo.length p.lc, .slice p.hA k.hi.length p.hc, .int .i64 k.live, .int .i64 k.size, .slice p.kA k.key.length p.kc]
def kidC (k : KidD) (p : KidP) : List Value := k.sum.map b8 ++ kidT k p
structure KidMem (w : World) (B : Nat) (k : KidD) (p : KidP) : Prop where
  lo : Arr w B p.lA k.lo.length (i64s k.lo)
  hi : Arr w B p.hA k.hi.length (i64s k.hi)
  key : Arr w B p.kA k.key.length (i64s k.key)
section
variable {w w' : World} {B B' : Nat} {k : KidD} {p : KidP}
theorem KidMem.below (h : KidMem w B k p) (hb : Below B w w') : KidMem w' B k p := ⟨h.lo.below hb, h.hi.below hb, h.key.below hb⟩
theorem KidMem.more (h : KidMem w B k p) (hB : B ≤ B') : KidMem w B' k p := ⟨h.lo.more hB, h.hi.more hB, h.key.more hB⟩
theorem KidMem.after (h : KidMem w w.heap.size k p) (hb : Below w.heap.size w w') : KidMem w' w'.heap.size k p := (h.below hb).more hb.size
theorem KidOk.cells (h : KidOk k) (p : KidP) : (kidC k p).length = 37 := by simp [kidC, kidT, h.s]
theorem kidC_one (k : KidD) (p : KidP) : (kidC k p).toArray.all (·.oneCell') = true := all_one fun v hv => by
  unfold kidC kidT at hv
  rcases List.mem_append.1 hv with h | h
  · obtain ⟨x, _, rfl⟩ := List.mem_map.1 h; rfl
  · simp only [List.mem_cons, List.not_mem_nil, or_false] at h
    rcases h with rfl | rfl | rfl | rfl | rfl <;> rfl
end
theorem size_k37 {cs : List Value} (h : cs.length = 37) : (Try.prog.info? 43).map (·.size) = some cs.length := by rw [h]; kernel_rfl

section
variable {w : World} {b o : Nat} {k : KidD} {p : KidP}
theorem kid_sum (h : KidOk k) (r : w.rangeAt b o (kidC k p)) : w.rangeAt b o (k.sum.map b8) := fun j v hv => by
  refine r j v ?_
  unfold kidC
  have hj := (List.getElem?_eq_some_iff.1 hv).1
  rw [List.getElem?_append_left hj]; exact hv
theorem kid_at (h : KidOk k) (r : w.rangeAt b o (kidC k p)) (j : Nat) {v : Value} (hv : (kidT k p)[j]? = some v) : w.cell? ⟨b, o + (32 + j), none⟩ = some v := by
  refine r (32 + j) v ?_
  unfold kidC
  have e : (k.sum.map b8).length = 32 := by simp [h.s]
  rw [List.getElem?_append_right (by omega), e, Nat.add_sub_cancel_left]; exact hv
theorem kid_box (h : KidOk k) (r : w.rangeAt b o (kidC k p)) : w.rangeAt b (o + 32) [.slice p.lA k.lo.length p.lc, .slice p.hA k.hi.length p.hc] := fun j v hv => by
  have hj := (List.getElem?_eq_some_iff.1 hv).1
  simp only [List.length_cons, List.length_nil] at hj
  have e : (kidT k p)[j]? = some v := by
    rw [← hv]
    unfold kidT
    match j, hj with
    | 0, _ => rfl
    | 1, _ => rfl
  rw [show o + 32 + j = o + (32 + j) by omega]
  exact kid_at h r j e
end
theorem take_nextI {l m : List Int} {k : Nat} (hl : k < l.length) (hm : k < m.length) (h : l.take k = m.take k) (e : l.getD k 0 = m.getD k 0) : l.take (k + 1) = m.take (k + 1) := by
  rw [List.take_add_one, List.take_add_one, h, List.getElem?_eq_getElem hl, List.getElem?_eq_getElem hm]
  simp only [List.getD, List.getElem?_eq_getElem hl, List.getElem?_eq_getElem hm, Option.getD_some] at e
  rw [e]
set_option maxRecDepth 100000 in
set_option maxHeartbeats 1000000 in
theorem isequal_any (A B : Option Addr) (l m : List Int) (c d : Nat) (w : World) (hA : Arr w w.heap.size A l.length (i64s l)) (hB : Arr w w.heap.size B m.length (i64s m)) (h1 : l.length ≤ 140737488351232) :
    Calls Try.prog 104 #[.slice A l.length c, .slice B m.length d] w fun e w' => e = .returned (.bool (decide (l = m))) ∧ Below w.heap.size w w' := by
  obtain ⟨RS, hRS⟩ : ∃ RS, RS = decide (l = m) := ⟨_, rfl⟩
  rw [← hRS]
  obtain ⟨n, hn⟩ : ∃ n, n = l.length := ⟨_, rfl⟩
  obtain ⟨k, hk⟩ : ∃ n, n = m.length := ⟨_, rfl⟩
  rw [← hn] at hA h1 ⊢
  rw [← hk] at hB ⊢
  by_cases hnk : n = k
  · have hnk' : ((n : Int) != (k : Int)) = false := by simp; omega
    subst hnk
    have HhRS := hideP hRS; have HhA := hideP hA; have HhB := hideP hB; have Hhn := hideP hn; have Hhk := hideP hk; clear hRS hA hB hn hk
    clear hnk'
    go_enter Try.func104, Try.ntmps104
    go_wp2_with fail
    go_loopw [13] (fun v13 wr => ∃ i : Nat, i ≤ n ∧ v13 = .int .i64 (i : Nat) ∧ Hid (l.take i = m.take i ∧ Below w.heap.size w wr)) (fun v13 _ => n - (intOf v13).toNat)
    case atStart => exact ⟨0, Nat.zero_le _, rfl, rfl, Below.refl _ _⟩
    case round =>
      obtain ⟨i, hi, rfl, hV⟩ := hrel
      by_cases hlt : i < n
      · have i1 : (i : Int) < (n : Int) := by omega
        obtain ⟨b0, off, hA, hB0, hc⟩ := HhA.out (by omega)
        obtain ⟨b1, of1, hB, hB1, hd⟩ := HhB.out (by omega)
        subst hA hB
        have c0 := (hV.out.2.cell (p := ⟨b0, off + i, none⟩) hB0).trans (hc i hlt)
        have c1 := (hV.out.2.cell (p := ⟨b1, of1 + i, none⟩) hB1).trans (hd i hlt)
        unfold i64s at c0 c1
        have hst := hideP (take_nextI (l := l) (m := m) (k := i) (by have := Hhn.out; omega) (by have := Hhk.out; omega) hV.out.1)
        have hne : l.getD i 0 ≠ m.getD i 0 → RS = false := fun h => by
          rw [HhRS.out]; simp; intro e; exact h (by rw [e])
        have Hne := hideP hne
        obtain ⟨x, hx⟩ : ∃ x, x = l.getD i 0 := ⟨_, rfl⟩
        obtain ⟨y, hy⟩ : ∃ x, x = m.getD i 0 := ⟨_, rfl⟩
        rw [← hx] at c0 hst Hne
        rw [← hy] at c1 hst Hne
        clear hx hy hc hd hne
        by_cases hxy : x = y
        · have hok := hideP (hst.out hxy)
          subst hxy
          go_wp2_with fail
          go_quiet (fail)
          go_wp2_with fail
          go_roundw
          case rel => exact ⟨i + 1, by omega, by go_num, hok.out, below_drewN hV.out.2 _⟩
          case measure => simp [intOf]; omega
        · have hf := hideP (Hne.out hxy)
          have e1 : (x != y) = true := by simpa using hxy
          clear hxy
          go_wp2_with fail
          go_quiet (fail)
          go_wp2_with fail
          go_ret
          exact ⟨ret_bool hf.out.symm, below_drewN hV.out.2 _⟩
      · obtain rfl : n = i := by omega
        have i1 : ¬ ((n : Int) < (n : Int)) := by omega
        have hf := hideP (show RS = true by
          rw [HhRS.out]; have := hV.out.1; rw [List.take_of_length_le (by have := Hhn.out; omega), List.take_of_length_le (by have := Hhk.out; omega)] at this; simpa using this)
        go_wp2_with fail
        go_ret
        exact ⟨ret_bool hf.out.symm, hV.out.2⟩
  · have hnk' : ((n : Int) != (k : Int)) = true := by simp; omega
    have hf := hideP (show RS = false by rw [hRS]; simp; intro e; exact hnk (by rw [hn, hk, e]))
    clear hRS hA hB hn hk hnk
    go_enter Try.func104, Try.ntmps104
    go_wp2_with fail
    go_ret
    exact ⟨ret_bool hf.out.symm, Below.refl _ _⟩
set_option maxRecDepth 100000 in
set_option maxHeartbeats 1000000 in
theorem bsame_any (L H L' H' : Option Addr) (lo hi lo' hi' : List Int) (dl sh dl' sh' : Nat) (w : World) (hL : Arr w w.heap.size L lo.length (i64s lo)) (hH : Arr w w.heap.size H hi.length (i64s hi))
    (hL' : Arr w w.heap.size L' lo'.length (i64s lo')) (hH' : Arr w w.heap.size H' hi'.length (i64s hi')) (hn : lo.length ≤ 17592186043904) (hm : hi.length ≤ 17592186043904) :
    Calls Try.prog 103 #[.agg #[.slice L lo.length dl, .slice H hi.length sh], .agg #[.slice L' lo'.length dl', .slice H' hi'.length sh']] w fun e w' => e = .returned (.bool (decide (lo = lo' ∧ hi = hi'))) ∧ Below w.heap.size w w' := by
  have t1 := fun W h h' => isequal_any L L' lo lo' dl dl' W h h' (Nat.le_trans hn (by decide))
  have t2 := fun W h h' => isequal_any H H' hi hi' sh sh' W h h' (Nat.le_trans hm (by decide))
  obtain ⟨p, hp⟩ : ∃ p, p = decide (lo = lo') := ⟨_, rfl⟩
  obtain ⟨q, hq⟩ : ∃ p, p = decide (hi = hi') := ⟨_, rfl⟩
  have hb := hideP (show decide (lo = lo' ∧ hi = hi') = (p && q) by rw [hp, hq]; simp)
  rw [← hp] at t1
  rw [← hq] at t2
  clear hp hq hn hm
  have Ht1 := hideP t1; have Ht2 := hideP t2; have HhL := hideP hL; have HhH := hideP hH; have HhL' := hideP hL'; have HhH' := hideP hH'; clear t1 t2 hL hH hL' hH'
  go_enter Try.func103, Try.ntmps103
  go_wp2_with fail
  obtain ⟨w1, hw1⟩ : ∃ w1, w1 = (w.alloc (Obj.cells #[.slice L lo.length dl, .slice H hi.length sh] 41)).alloc (Obj.cells #[.slice L' lo'.length dl', .slice H' hi'.length sh'] 41) := ⟨_, rfl⟩
  have c1 := hideP (show Two w1 w.heap.size 41 (.slice L lo.length dl) (.slice H hi.length sh) by rw [hw1]; exact (Two.new _ _ _ _).alloc _)
  have c2 := hideP (show Two w1 (w.heap.size + 1) 41 (.slice L' lo'.length dl') (.slice H' hi'.length sh') by rw [hw1]; exact Two.new' _ _ _ _ _ (by simp))
  have cb := hideP (show Below w.heap.size w w1 by rw [hw1]; exact (below_new _ _).alloc (by simp) _)
  rw [← hw1]
  clear hw1
  have kc10 := c1.out.c0; have kc11 := c1.out.c1
  have kc20 := c2.out.c0; have kc21 := c2.out.c1
  refine (Ht1.out w1 (HhL.out.after cb.out) (HhL'.out.after cb.out)).mono ?_
  rintro e w2 ⟨rfl, hb'⟩
  clear kc10 kc11 kc20 kc21
  replace c1 := hideP (c1.out.after hb')
  replace c2 := hideP (c2.out.after hb')
  replace cb := hideP (bstep cb.out hb')
  clear hb'
  cases p
  · go_wp2
    go_ret
    exact ⟨by rw [hb.out]; rfl, cb.out⟩
  · skip
    have kc10 := c1.out.c0; have kc11 := c1.out.c1
    have kc20 := c2.out.c0; have kc21 := c2.out.c1
    go_wp2_with fail
    refine (Ht2.out w2 (HhH.out.after cb.out) (HhH'.out.after cb.out)).mono ?_
    rintro e w3 ⟨rfl, hb'⟩
    clear kc10 kc11 kc20 kc21
    replace cb := hideP (bstep cb.out hb')
    clear hb'
    go_wp2
    go_ret
    exact ⟨by rw [hb.out]; rfl, cb.out⟩
end Go.Proofs.Ytgcbodpjidoanaa
namespace Go.Proofs.Ytgcbodpjidoanaa
open Go.RowKit
theorem headZ_okz : HeadOk headZ := ⟨rfl, rfl, rfl, fun i => by unfold headZ; simp only [List.getD, List.getElem?_replicate]; split <;> decide, fun i => by unfold headZ; simp only [List.getD, List.getElem?_replicate]; split <;> decide, fun i => by unfold headZ; simp only [List.getD, List.getElem?_replicate]; split <;> decide, by decide, by decide⟩
end Go.Proofs.Ytgcbodpjidoanaa
namespace Go.Proofs.Ytgcbodpjidoanaa
open Go.RowKit
theorem kid_eq (k k' : KidD) : decide (k = k') = (decide (k.sum = k'.sum) && (decide (k.live = k'.live) && (decide (k.size = k'.size) && (decide (k.lo = k'.lo ∧ k.hi = k'.hi) && decide (k.key = k'.key))))) := by
  rw [Bool.eq_iff_iff]
  simp only [decide_eq_true_eq, Bool.and_eq_true]
  constructor
  · rintro rfl; simp
  · rintro ⟨h1, h2, h3, ⟨h4, h5⟩, h6⟩
    cases k; cases k'; simp_all
set_option maxRecDepth 100000 in
set_option maxHeartbeats 2000000 in
theorem nsame_any (k k' : KidD) (p p' : KidP) (w : World) (hk : KidOk k) (hk' : KidOk k') (hm : KidMem w w.heap.size k p) (hm' : KidMem w w.heap.size k' p') :
    Calls Try.prog 22 #[.agg (kidC k p).toArray, .agg (kidC k' p').toArray] w fun e w' => e = .returned (.bool (decide (k = k'))) ∧ Below w.heap.size w w' := by
  have t1 := fun W (hW : Below w.heap.size w W) => bsame_any p.lA p.hA p'.lA p'.hA k.lo k.hi k'.lo k'.hi p.lc p.hc p'.lc p'.hc W (hm.after hW).lo (hm.after hW).hi (hm'.after hW).lo (hm'.after hW).hi (Nat.le_trans hk.lo (by decide)) (Nat.le_trans hk.hi (by decide))
  have t2 := fun W (hW : Below w.heap.size w W) => isequal_any p.kA p'.kA k.key k'.key p.kc p'.kc W (hm.after hW).key (hm'.after hW).key (Nat.le_trans hk.key (by decide))
  have hE := fun W => run_eql_dge k.sum k'.sum hk.s hk'.s hk.sB hk'.sB W
  have hres := hideP (kid_eq k k')
  obtain ⟨b1, e1⟩ : ∃ b, b = decide (k.sum = k'.sum) := ⟨_, rfl⟩
  obtain ⟨b2, e2⟩ : ∃ b, b = decide (k.live = k'.live) := ⟨_, rfl⟩
  obtain ⟨b3, e3⟩ : ∃ b, b = decide (k.size = k'.size) := ⟨_, rfl⟩
  obtain ⟨b4, e4⟩ : ∃ b, b = decide (k.lo = k'.lo ∧ k.hi = k'.hi) := ⟨_, rfl⟩
  obtain ⟨b5, e5⟩ : ∃ b, b = decide (k.key = k'.key) := ⟨_, rfl⟩
  have f2 : (k.live == k'.live) = b2 := by rw [e2, Bool.eq_iff_iff]; simp
  have f3 : (k.size == k'.size) = b3 := by rw [e3, Bool.eq_iff_iff]; simp
  rw [← e4] at t1
  rw [← e5] at t2
  rw [← e1] at hE
  rw [← e1, ← e2, ← e3, ← e4, ← e5] at hres
  obtain ⟨v, hv⟩ : ∃ v, v = (w.alloc (.cells (kidC k p).toArray 43)).alloc (.cells (kidC k' p').toArray 43) := ⟨_, rfl⟩
  obtain ⟨g, hg⟩ : ∃ g, g = w.heap.size := ⟨_, rfl⟩
  obtain ⟨g', hg'⟩ : ∃ g', g' = w.heap.size + 1 := ⟨_, rfl⟩
  have X := hideP (show Row v g 43 (kidC k p) by rw [hv, hg]; exact (Row.new w 43 (kidC k p)).alloc _)
  have Y := hideP (show Row v g' 43 (kidC k' p') by rw [hv]; exact Row.new' _ _ _ _ (by simp [hg']))
  have B := hideP (show Below w.heap.size w v by rw [hv]; exact (below_new _ _).alloc (by simp) _)
  have XS := hideP (kid_sum hk (Row.range X.out))
  have YS := hideP (kid_sum hk' (Row.range Y.out))
  have x0 : v.cell? ⟨g, 32, none⟩ = some (.slice p.lA k.lo.length p.lc) := kid_at hk (Row.range X.out) 0 rfl
  have x1 : v.cell? ⟨g, 33, none⟩ = some (.slice p.hA k.hi.length p.hc) := kid_at hk (Row.range X.out) 1 rfl
  have y0 : v.cell? ⟨g', 32, none⟩ = some (.slice p'.lA k'.lo.length p'.lc) := kid_at hk' (Row.range Y.out) 0 rfl
  have y1 : v.cell? ⟨g', 33, none⟩ = some (.slice p'.hA k'.hi.length p'.hc) := kid_at hk' (Row.range Y.out) 1 rfl
  have x2 : v.cell? ⟨g, 34, none⟩ = some (.int .i64 k.live) := kid_at hk (Row.range X.out) 2 rfl
  have x3 : v.cell? ⟨g, 35, none⟩ = some (.int .i64 k.size) := kid_at hk (Row.range X.out) 3 rfl
  have y2 : v.cell? ⟨g', 34, none⟩ = some (.int .i64 k'.live) := kid_at hk' (Row.range Y.out) 2 rfl
  have y3 : v.cell? ⟨g', 35, none⟩ = some (.int .i64 k'.size) := kid_at hk' (Row.range Y.out) 3 rfl
  have x4 := hideP (fun W (hW : Ext v W) => show W.cell? ⟨g, 36, none⟩ = some (.slice p.kA k.key.length p.kc) from kid_at hk (Row.range (Row.ext X.out hW)) 4 rfl)
  have y4 := hideP (fun W (hW : Ext v W) => show W.cell? ⟨g', 36, none⟩ = some (.slice p'.kA k'.key.length p'.kc) from kid_at hk' (Row.range (Row.ext Y.out hW)) 4 rfl)
  have ls := hideP (size_d32 hk.s)
  have ls' := hideP (size_d32 hk'.s)
  obtain ⟨live, q1⟩ : ∃ z, z = k.live := ⟨_, rfl⟩
  obtain ⟨live', q2⟩ : ∃ z, z = k'.live := ⟨_, rfl⟩
  obtain ⟨sz, q3⟩ : ∃ z, z = k.size := ⟨_, rfl⟩
  obtain ⟨sz', q4⟩ : ∃ z, z = k'.size := ⟨_, rfl⟩
  rw [← q1, ← q2] at f2
  rw [← q3, ← q4] at f3
  rw [← q1] at x2; rw [← q2] at y2; rw [← q3] at x3; rw [← q4] at y3
  obtain ⟨C, hC⟩ : ∃ C, C = kidC k p := ⟨_, rfl⟩
  obtain ⟨C', hC'⟩ : ∃ C, C = kidC k' p' := ⟨_, rfl⟩
  obtain ⟨S, hS⟩ : ∃ C, C = k.sum := ⟨_, rfl⟩
  obtain ⟨S', hS'⟩ : ∃ C, C = k'.sum := ⟨_, rfl⟩
  rw [← hC] at hv ⊢
  rw [← hC'] at hv ⊢
  rw [← hS] at XS ls hE
  rw [← hS'] at YS ls' hE
  have Hv := hideP hv
  have HE := hideP hE
  have Ht1 := hideP t1; have Ht2 := hideP t2; have Hf2 := hideP f2; have Hf3 := hideP f3; have Hx0 := hideP x0; have Hx1 := hideP x1; have Hy0 := hideP y0; have Hy1 := hideP y1; have Hx2 := hideP x2; have Hx3 := hideP x3; have Hy2 := hideP y2; have Hy3 := hideP y3; clear t1 t2 f2 f3 x0 x1 y0 y1 x2 x3 y2 y3
  clear e1 e2 e3 e4 e5 q1 q2 q3 q4 hC hC' hS hS' hv hE hm hm' X Y
  obtain ⟨lA, lc, hA, hc, kA, kc⟩ := p
  obtain ⟨lA', lc', hA', hc', kA', kc'⟩ := p'
  obtain ⟨nl, hnl⟩ : ∃ n, n = k.lo.length := ⟨_, rfl⟩
  obtain ⟨nh, hnh⟩ : ∃ n, n = k.hi.length := ⟨_, rfl⟩
  obtain ⟨nk, hnk⟩ : ∃ n, n = k.key.length := ⟨_, rfl⟩
  obtain ⟨nl', hnl'⟩ : ∃ n, n = k'.lo.length := ⟨_, rfl⟩
  obtain ⟨nh', hnh'⟩ : ∃ n, n = k'.hi.length := ⟨_, rfl⟩
  obtain ⟨nk', hnk'⟩ : ∃ n, n = k'.key.length := ⟨_, rfl⟩
  dsimp only at Ht1 Ht2 Hx0 Hx1 Hy0 Hy1 x4 y4
  rw [← hnl] at Hx0
  rw [← hnh] at Hx1
  rw [← hnl'] at Hy0
  rw [← hnh'] at Hy1
  rw [← hnl, ← hnh, ← hnl', ← hnh'] at Ht1
  rw [← hnk, ← hnk'] at Ht2
  rw [← hnk] at x4
  rw [← hnk'] at y4
  rw [hres.out]
  clear hnl hnh hnk hnl' hnh' hnk' hres hk hk'
  go_enter Try.func22, Try.ntmps22
  go_upto_region 1 with fail
  rw [← hg', ← hg]
  rw [← Hv.out]
  clear hg hg' Hv
  rcases b1 with _ | _
  · have he := HE.out
    go_wp2_with (first
      | (refine wpList_load_mid rfl 37 (.tmp 5) rfl g 0 rfl (S.map b8) _ XS.out Try.underlying37 rfl ls.out ?_)
      | (refine wpList_load_mid rfl 37 (.tmp 7) rfl g' 0 rfl (S'.map b8) _ YS.out Try.underlying37 rfl ls'.out ?_)
      | fail)
    go_ret
    exact ⟨rfl, B.out⟩
  · have he := HE.out
    have k2 := Hx2.out; have k3 := Hx3.out; have l2 := Hy2.out; have l3 := Hy3.out; have g2 := Hf2.out; have g3 := Hf3.out
    rcases b2 with _ | _
    · skip
      go_wp2_with (first
        | (refine wpList_load_mid rfl 37 (.tmp 5) rfl g 0 rfl (S.map b8) _ XS.out Try.underlying37 rfl ls.out ?_)
        | (refine wpList_load_mid rfl 37 (.tmp 7) rfl g' 0 rfl (S'.map b8) _ YS.out Try.underlying37 rfl ls'.out ?_)
        | fail)
      go_ret
      exact ⟨rfl, B.out⟩
    rcases b3 with _ | _
    · skip
      go_wp2_with (first
        | (refine wpList_load_mid rfl 37 (.tmp 5) rfl g 0 rfl (S.map b8) _ XS.out Try.underlying37 rfl ls.out ?_)
        | (refine wpList_load_mid rfl 37 (.tmp 7) rfl g' 0 rfl (S'.map b8) _ YS.out Try.underlying37 rfl ls'.out ?_)
        | fail)
      go_ret
      exact ⟨rfl, B.out⟩
    have k0 := Hx0.out; have k1 := Hx1.out; have l0 := Hy0.out; have l1 := Hy1.out
    rcases b4 with _ | _
    · go_wp2_with (first
        | (refine wpList_load_mid rfl 37 (.tmp 5) rfl g 0 rfl (S.map b8) _ XS.out Try.underlying37 rfl ls.out ?_)
        | (refine wpList_load_mid rfl 37 (.tmp 7) rfl g' 0 rfl (S'.map b8) _ YS.out Try.underlying37 rfl ls'.out ?_)
        | (go_at_call 103; refine (Ht1.out v B.out).mono ?_; rintro e w1 ⟨rfl, b_⟩; have B1 := hideP (bstep B.out b_); clear b_))
      go_ret
      exact ⟨rfl, B1.out⟩
    · go_wp2_with (first
        | (refine wpList_load_mid rfl 37 (.tmp 5) rfl g 0 rfl (S.map b8) _ XS.out Try.underlying37 rfl ls.out ?_)
        | (refine wpList_load_mid rfl 37 (.tmp 7) rfl g' 0 rfl (S'.map b8) _ YS.out Try.underlying37 rfl ls'.out ?_)
        | (go_at_call 103; refine (Ht1.out v B.out).mono ?_; rintro e w1 ⟨rfl, b_⟩; have B1 := hideP (bstep B.out b_); have m4 := x4.out w1 (Ext.of_below b_); have n4 := y4.out w1 (Ext.of_below b_); clear b_ k0 k1 l0 l1 k2 k3 l2 l3)
        | (go_at_call 104; refine (Ht2.out w1 B1.out).mono ?_; rintro e w2 ⟨rfl, b_⟩; have B2 := hideP (bstep B1.out b_); clear b_ m4 n4))
      go_ret
      exact ⟨rfl, B2.out⟩
set_option maxRecDepth 100000 in
set_option maxHeartbeats 2000000 in
theorem rnsame_any (k k' : KidD) (p p' : KidP) (w : World) (hk : KidOk k) (hk' : KidOk k') (hm : KidMem w w.heap.size k p) (hm' : KidMem w w.heap.size k' p') :
    Calls Try.prog 23 #[.agg (kidC k p).toArray, .agg (kidC k' p').toArray] w fun e w' => e = .returned (.bool (decide (k = k'))) ∧ Below w.heap.size w w' := by
  have t1 := fun W (hW : Below w.heap.size w W) => same_any p.lA p.hA p'.lA p'.hA k.lo k.hi k'.lo k'.hi p.lc p.hc p'.lc p'.hc W (hm.after hW).lo (hm.after hW).hi (hm'.after hW).lo (hm'.after hW).hi (Nat.le_trans hk.lo (by decide)) (Nat.le_trans hk.hi (by decide))
  have t2 := fun W (hW : Below w.heap.size w W) => sameRow_any p.kA p'.kA k.key k'.key p.kc p'.kc W (hm.after hW).key (hm'.after hW).key (Nat.le_trans hk.key (by decide))
  have hE := fun W => run_eql_dge k.sum k'.sum hk.s hk'.s hk.sB hk'.sB W
  have hres := hideP (kid_eq k k')
  obtain ⟨b1, e1⟩ : ∃ b, b = decide (k.sum = k'.sum) := ⟨_, rfl⟩
  obtain ⟨b2, e2⟩ : ∃ b, b = decide (k.live = k'.live) := ⟨_, rfl⟩
  obtain ⟨b3, e3⟩ : ∃ b, b = decide (k.size = k'.size) := ⟨_, rfl⟩
  obtain ⟨b4, e4⟩ : ∃ b, b = decide (k.lo = k'.lo ∧ k.hi = k'.hi) := ⟨_, rfl⟩
  obtain ⟨b5, e5⟩ : ∃ b, b = decide (k.key = k'.key) := ⟨_, rfl⟩
  have f2 : (k.live == k'.live) = b2 := by rw [e2, Bool.eq_iff_iff]; simp
  have f3 : (k.size == k'.size) = b3 := by rw [e3, Bool.eq_iff_iff]; simp
  rw [← e4] at t1
  rw [← e5] at t2
  rw [← e1] at hE
  rw [← e1, ← e2, ← e3, ← e4, ← e5] at hres
  obtain ⟨v, hv⟩ : ∃ v, v = (w.alloc (.cells (kidC k p).toArray 43)).alloc (.cells (kidC k' p').toArray 43) := ⟨_, rfl⟩
  obtain ⟨g, hg⟩ : ∃ g, g = w.heap.size := ⟨_, rfl⟩
  obtain ⟨g', hg'⟩ : ∃ g', g' = w.heap.size + 1 := ⟨_, rfl⟩
  have X := hideP (show Row v g 43 (kidC k p) by rw [hv, hg]; exact (Row.new w 43 (kidC k p)).alloc _)
  have Y := hideP (show Row v g' 43 (kidC k' p') by rw [hv]; exact Row.new' _ _ _ _ (by simp [hg']))
  have B := hideP (show Below w.heap.size w v by rw [hv]; exact (below_new _ _).alloc (by simp) _)
  have XS := hideP (kid_sum hk (Row.range X.out))
  have YS := hideP (kid_sum hk' (Row.range Y.out))
  have x0 : v.cell? ⟨g, 32, none⟩ = some (.slice p.lA k.lo.length p.lc) := kid_at hk (Row.range X.out) 0 rfl
  have x1 : v.cell? ⟨g, 33, none⟩ = some (.slice p.hA k.hi.length p.hc) := kid_at hk (Row.range X.out) 1 rfl
  have y0 : v.cell? ⟨g', 32, none⟩ = some (.slice p'.lA k'.lo.length p'.lc) := kid_at hk' (Row.range Y.out) 0 rfl
  have y1 : v.cell? ⟨g', 33, none⟩ = some (.slice p'.hA k'.hi.length p'.hc) := kid_at hk' (Row.range Y.out) 1 rfl
  have x2 : v.cell? ⟨g, 34, none⟩ = some (.int .i64 k.live) := kid_at hk (Row.range X.out) 2 rfl
  have x3 : v.cell? ⟨g, 35, none⟩ = some (.int .i64 k.size) := kid_at hk (Row.range X.out) 3 rfl
  have y2 : v.cell? ⟨g', 34, none⟩ = some (.int .i64 k'.live) := kid_at hk' (Row.range Y.out) 2 rfl
  have y3 : v.cell? ⟨g', 35, none⟩ = some (.int .i64 k'.size) := kid_at hk' (Row.range Y.out) 3 rfl
  have x4 := hideP (fun W (hW : Ext v W) => show W.cell? ⟨g, 36, none⟩ = some (.slice p.kA k.key.length p.kc) from kid_at hk (Row.range (Row.ext X.out hW)) 4 rfl)
  have y4 := hideP (fun W (hW : Ext v W) => show W.cell? ⟨g', 36, none⟩ = some (.slice p'.kA k'.key.length p'.kc) from kid_at hk' (Row.range (Row.ext Y.out hW)) 4 rfl)
  have ls := hideP (size_d32 hk.s)
  have ls' := hideP (size_d32 hk'.s)
  obtain ⟨live, q1⟩ : ∃ z, z = k.live := ⟨_, rfl⟩
  obtain ⟨live', q2⟩ : ∃ z, z = k'.live := ⟨_, rfl⟩
  obtain ⟨sz, q3⟩ : ∃ z, z = k.size := ⟨_, rfl⟩
  obtain ⟨sz', q4⟩ : ∃ z, z = k'.size := ⟨_, rfl⟩
  rw [← q1, ← q2] at f2
  rw [← q3, ← q4] at f3
  rw [← q1] at x2; rw [← q2] at y2; rw [← q3] at x3; rw [← q4] at y3
  obtain ⟨C, hC⟩ : ∃ C, C = kidC k p := ⟨_, rfl⟩
  obtain ⟨C', hC'⟩ : ∃ C, C = kidC k' p' := ⟨_, rfl⟩
  obtain ⟨S, hS⟩ : ∃ C, C = k.sum := ⟨_, rfl⟩
  obtain ⟨S', hS'⟩ : ∃ C, C = k'.sum := ⟨_, rfl⟩
  rw [← hC] at hv ⊢
  rw [← hC'] at hv ⊢
  rw [← hS] at XS ls hE
  rw [← hS'] at YS ls' hE
  have Hv := hideP hv
  have HE := hideP hE
  have Ht1 := hideP t1; have Ht2 := hideP t2; have Hf2 := hideP f2; have Hf3 := hideP f3; have Hx0 := hideP x0; have Hx1 := hideP x1; have Hy0 := hideP y0; have Hy1 := hideP y1; have Hx2 := hideP x2; have Hx3 := hideP x3; have Hy2 := hideP y2; have Hy3 := hideP y3; clear t1 t2 f2 f3 x0 x1 y0 y1 x2 x3 y2 y3
  clear e1 e2 e3 e4 e5 q1 q2 q3 q4 hC hC' hS hS' hv hE hm hm' X Y
  obtain ⟨lA, lc, hA, hc, kA, kc⟩ := p
  obtain ⟨lA', lc', hA', hc', kA', kc'⟩ := p'
  obtain ⟨nl, hnl⟩ : ∃ n, n = k.lo.length := ⟨_, rfl⟩
  obtain ⟨nh, hnh⟩ : ∃ n, n = k.hi.length := ⟨_, rfl⟩
  obtain ⟨nk, hnk⟩ : ∃ n, n = k.key.length := ⟨_, rfl⟩
  obtain ⟨nl', hnl'⟩ : ∃ n, n = k'.lo.length := ⟨_, rfl⟩
  obtain ⟨nh', hnh'⟩ : ∃ n, n = k'.hi.length := ⟨_, rfl⟩
  obtain ⟨nk', hnk'⟩ : ∃ n, n = k'.key.length := ⟨_, rfl⟩
  dsimp only at Ht1 Ht2 Hx0 Hx1 Hy0 Hy1 x4 y4
  rw [← hnl] at Hx0
  rw [← hnh] at Hx1
  rw [← hnl'] at Hy0
  rw [← hnh'] at Hy1
  rw [← hnl, ← hnh, ← hnl', ← hnh'] at Ht1
  rw [← hnk, ← hnk'] at Ht2
  rw [← hnk] at x4
  rw [← hnk'] at y4
  rw [hres.out]
  clear hnl hnh hnk hnl' hnh' hnk' hres hk hk'
  go_enter Try.func23, Try.ntmps23
  go_upto_region 1 with fail
  rw [← hg', ← hg]
  rw [← Hv.out]
  clear hg hg' Hv
  rcases b1 with _ | _
  · have he := HE.out
    go_wp2_with (first
      | (refine wpList_load_mid rfl 37 (.tmp 5) rfl g 0 rfl (S.map b8) _ XS.out Try.underlying37 rfl ls.out ?_)
      | (refine wpList_load_mid rfl 37 (.tmp 7) rfl g' 0 rfl (S'.map b8) _ YS.out Try.underlying37 rfl ls'.out ?_)
      | fail)
    go_ret
    exact ⟨rfl, B.out⟩
  · have he := HE.out
    have k2 := Hx2.out; have k3 := Hx3.out; have l2 := Hy2.out; have l3 := Hy3.out; have g2 := Hf2.out; have g3 := Hf3.out
    rcases b2 with _ | _
    · skip
      go_wp2_with (first
        | (refine wpList_load_mid rfl 37 (.tmp 5) rfl g 0 rfl (S.map b8) _ XS.out Try.underlying37 rfl ls.out ?_)
        | (refine wpList_load_mid rfl 37 (.tmp 7) rfl g' 0 rfl (S'.map b8) _ YS.out Try.underlying37 rfl ls'.out ?_)
        | fail)
      go_ret
      exact ⟨rfl, B.out⟩
    rcases b3 with _ | _
    · skip
      go_wp2_with (first
        | (refine wpList_load_mid rfl 37 (.tmp 5) rfl g 0 rfl (S.map b8) _ XS.out Try.underlying37 rfl ls.out ?_)
        | (refine wpList_load_mid rfl 37 (.tmp 7) rfl g' 0 rfl (S'.map b8) _ YS.out Try.underlying37 rfl ls'.out ?_)
        | fail)
      go_ret
      exact ⟨rfl, B.out⟩
    have k0 := Hx0.out; have k1 := Hx1.out; have l0 := Hy0.out; have l1 := Hy1.out
    rcases b4 with _ | _
    · go_wp2_with (first
        | (refine wpList_load_mid rfl 37 (.tmp 5) rfl g 0 rfl (S.map b8) _ XS.out Try.underlying37 rfl ls.out ?_)
        | (refine wpList_load_mid rfl 37 (.tmp 7) rfl g' 0 rfl (S'.map b8) _ YS.out Try.underlying37 rfl ls'.out ?_)
        | (go_at_call 83; refine (Ht1.out v B.out).mono ?_; rintro e w1 ⟨rfl, b_⟩; have B1 := hideP (bstep B.out b_); clear b_))
      go_ret
      exact ⟨rfl, B1.out⟩
    · go_wp2_with (first
        | (refine wpList_load_mid rfl 37 (.tmp 5) rfl g 0 rfl (S.map b8) _ XS.out Try.underlying37 rfl ls.out ?_)
        | (refine wpList_load_mid rfl 37 (.tmp 7) rfl g' 0 rfl (S'.map b8) _ YS.out Try.underlying37 rfl ls'.out ?_)
        | (go_at_call 83; refine (Ht1.out v B.out).mono ?_; rintro e w1 ⟨rfl, b_⟩; have B1 := hideP (bstep B.out b_); have m4 := x4.out w1 (Ext.of_below b_); have n4 := y4.out w1 (Ext.of_below b_); clear b_ k0 k1 l0 l1 k2 k3 l2 l3)
        | (go_at_call 84; refine (Ht2.out w1 B1.out).mono ?_; rintro e w2 ⟨rfl, b_⟩; have B2 := hideP (bstep B1.out b_); clear b_ m4 n4))
      go_ret
      exact ⟨rfl, B2.out⟩
end Go.Proofs.Ytgcbodpjidoanaa
