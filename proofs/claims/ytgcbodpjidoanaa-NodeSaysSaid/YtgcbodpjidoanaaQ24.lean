/- Heads of blocks; contract of block.Head. Contracts of block.Preimage, block.Sum. Heads read: plain, and the contract of block.ReadHead. Contract of block.ReadHead. Digests and heads are compared. Plain laws of distances: the same both ways, 0 just of the same point, by a third point no shorter; of boxes. Contracts of the document's package for chapter 4: SameRow, Same. Kids of nodes, as data and in memory; slices.Equal of rows; box.Same. The zero head is one. -/
import Derived.Laws.ResultCell
import Derived.Deep.MidRow
import Derived.Stop.BytesEq
import Derived.Test.YtgcbodpjidoanaaQ3
import Derived.Test.YtgcbodpjidoanaaQ4
import Derived.Test.YtgcbodpjidoanaaQ23
set_option linter.unusedVariables false
set_option linter.unusedSimpArgs false
namespace Go.Proofs.Ytgcbodpjidoanaa
open Go.RowKit
/-- a head -/
structure HeadD where
  prev : List Nat
  num : Int
  ops : List Nat
  tabs : List Nat
structure HeadOk (h : HeadD) : Prop where
  p : h.prev.length = 32
  o : h.ops.length = 32
  t : h.tabs.length = 32
  pB : IsB h.prev
  oB : IsB h.ops
  tB : IsB h.tabs
  n1 : -9223372036854775808 ≤ h.num
  n2 : h.num ≤ 9223372036854775807
def headC (h : HeadD) : List Value := h.prev.map b8 ++ (.int .i64 h.num :: (h.ops.map b8 ++ h.tabs.map b8))
/-- a head's bytes -/
def headB (h : HeadD) : List Nat := h.prev ++ num8 h.num ++ h.ops ++ h.tabs
def headR (h : HeadD) : Bool := decide (0 ≤ h.num) && decide (h.num ≤ 1099511627776)
theorem HeadOk.cells {h : HeadD} (k : HeadOk h) : (headC h).length = 97 := by simp [headC, k.p, k.o, k.t]
theorem HeadOk.len {h : HeadD} (k : HeadOk h) : (headB h).length = 104 := by simp [headB, k.p, k.o, k.t, num8_len]
theorem HeadOk.isB {h : HeadD} (k : HeadOk h) : IsB (headB h) := isB_append (isB_append (isB_append k.pB (isB_be8 _)) k.oB) k.tB
section
variable {w : World} {g : Nat} {T : TypeId} {h : HeadD}
end
theorem size_d32 {l : List Nat} (h : l.length = 32) : (Try.prog.info? 37).map (·.size) = some (l.map b8).length := by rw [size_dig]; simp [h]
end Go.Proofs.Ytgcbodpjidoanaa
namespace Go.Proofs.Ytgcbodpjidoanaa
open Go.RowKit
end Go.Proofs.Ytgcbodpjidoanaa
namespace Go.Proofs.Ytgcbodpjidoanaa
open Go.RowKit
/-- the end of a function with a row in a variable and one or two results more -/
theorem ret_rowt {fn : Func} {p q : Tmp} {ty : TypeId} {a : Act} {w : World} {R : Ending → World → Prop} (h : fn.results = #[.cell p ty, .tmp q]) {g : Nat} {t : TypeId} {cs : List Value} {v : Value} {fs : Array Field}
    (hp : a.tmps.getD p undef = .pointer (some ⟨g, 0, none⟩)) (hq : a.tmps.getD q undef = v) (hg : Row w g t cs) (hu : Try.prog.underlying ty = some (.struct fs)) (hi : (Try.prog.info? ty).map (·.size) = some cs.length)
    (hd : a.defers = []) (hR : R (.returned (.tuple #[.agg cs.toArray, v])) w) : bodyPost Try.prog fn R .ret a w := by
  refine bodyPost_ret (v := .tuple #[.agg cs.toArray, v]) ?_ hd hR
  rw [results_cell_tmp h, hp, hq]
  simp [asAddr, run_loadVar_row w g t ty cs.toArray (0, 0) _ hg hu rfl (by simpa using hi)]
/-! ### plain -/
def headZ : HeadD := ⟨List.replicate 32 0, 0, List.replicate 32 0, List.replicate 32 0⟩
def rHead (b : List Nat) : Option HeadD :=
  let s1 := (rTake 32 b 0).2
  let s2 := (rTake 8 s1.1 s1.2).2
  let s3 := (rTake 32 s2.1 s2.2).2
  let s4 := (rTake 32 s3.1 s3.2).2
  if rEnd s4.1 s4.2 = 0 ∧ 0 ≤ rNum s1.1 s1.2 ∧ rNum s1.1 s1.2 ≤ 1099511627776 then some ⟨rDig b 0, rNum s1.1 s1.2, rDig s2.1 s2.2, rDig s3.1 s3.2⟩ else none
theorem rEnd_zero {l : List Nat} {e : Int} (h : rEnd l e = 0) : l = [] ∧ e = 0 := by
  unfold rEnd at h
  split at h
  · exact absurd h (by decide)
  · rename_i h2
    refine ⟨?_, h⟩
    rcases l with _ | ⟨x, l⟩
    · rfl
    · exact absurd ⟨by simp, h⟩ h2
end Go.Proofs.Ytgcbodpjidoanaa
namespace Go.Proofs.Ytgcbodpjidoanaa
open Go.RowKit
/-- what ReadHead answers -/
def HeadGot (w : World) (g : Option HeadD) (e : Ending) (w' : World) : Prop :=
  Below w.heap.size w w' ∧ ((g = none ∧ e = .returned (.tuple #[.agg (headC headZ).toArray, .int .i64 21])) ∨ ∃ h, g = some h ∧ e = .returned (.tuple #[.agg (headC h).toArray, .int .i64 0]))
theorem all_one {cs : List Value} (h : ∀ v ∈ cs, v.oneCell' = true) : cs.toArray.all (·.oneCell') = true := Array.all_eq_true_iff_forall_mem.2 (fun v hv => h v (by simpa using hv))
theorem rDig_len (l : List Nat) (e : Int) : (rDig l e).length = 32 := by
  unfold rDig
  rcases hq : rTake 32 l e with ⟨_ | t, m⟩
  · rfl
  · unfold rTake at hq
    split at hq
    · cases hq
    · split at hq
      · cases hq
      · injection hq with hq _; injection hq with hq; subst hq; simp; omega
end Go.Proofs.Ytgcbodpjidoanaa
namespace Go.Proofs.Ytgcbodpjidoanaa
open Go.RowKit
theorem sizeU8e (w : World) : (sizeOf 5).run Try.prog w = .ok 1 w := by kernel_rfl
theorem cells_b8e {l : List Nat} (h : IsB l) : l.map b8 = (l.map UInt8.ofNat).map Extern.Stop.cell := by
  rw [List.map_map]
  refine List.map_congr_left fun x hx => ?_
  obtain ⟨i, hi, rfl⟩ := List.getElem_of_mem hx
  have := h i
  simp only [List.getD, List.getElem?_eq_getElem hi, Option.getD_some] at this
  simp only [Function.comp_apply, b8, Extern.Stop.cell, Value.int.injEq, true_and]
  rw [UInt8.toNat_ofNat', Nat.mod_eq_of_lt this]
  rfl
theorem ofNat_beq {l m : List Nat} (bl : IsB l) (bm : IsB m) : (l.map UInt8.ofNat == m.map UInt8.ofNat) = decide (l = m) := by
  rw [Bool.eq_iff_iff]
  simp only [beq_iff_eq, decide_eq_true_eq]
  exact ⟨fun h => map_ofNat_inj l m bl bm h, fun h => by rw [h]⟩
theorem run_equalIn_dg (d : Nat) (l m : List Nat) (hl : l.length = 32) (hm : m.length = 32) (bl : IsB l) (bm : IsB m) (w : World) :
    (Op.equalIn (d + 2) 37 (.agg (l.map b8).toArray) (.agg (m.map b8).toArray)).run Try.prog w = .ok (decide (l = m)) w := by
  rw [cells_b8e bl, cells_b8e bm, run_equalIn_bytes w d 37 5 32 Try.underlying37 Try.underlying5 sizeU8e _ _ (by simpa using hl) (by simpa using hm), ofNat_beq bl bm]
theorem run_eql_dge (l m : List Nat) (hl : l.length = 32) (hm : m.length = 32) (bl : IsB l) (bm : IsB m) (w : World) :
    (binOp .eql 37 (.agg (l.map b8).toArray) (.agg (m.map b8).toArray)).run Try.prog w = .ok (.bool (decide (l = m))) w := by
  rw [run_eql_struct, run_equalIn_dg 9998 l m hl hm bl bm w]; rfl
def eqH (h k : HeadD) : Bool := decide (h.prev = k.prev) && (decide (h.num = k.num) && (decide (h.ops = k.ops) && decide (h.tabs = k.tabs)))
end Go.Proofs.Ytgcbodpjidoanaa
namespace Go.Proofs.Ytgcbodpjidoanaa
open Go.RowKit

/-- the first k numbers are the same -/
def eqTo (p q : List Int) (k : Nat) : Bool := (List.range k).all fun i => p.getD i 0 == q.getD i 0
theorem eqTo_succ (p q : List Int) (k : Nat) : eqTo p q (k + 1) = (eqTo p q k && (p.getD k 0 == q.getD k 0)) := by simp [eqTo, List.range_succ]
theorem eqTo_iff (p q : List Int) (k : Nat) : eqTo p q k = true ↔ ∀ i, i < k → p.getD i 0 = q.getD i 0 := by simp [eqTo]
/-- the nearest number of a side -/
def clamp (x lo hi : Int) : Int := if hi < if x < lo then lo else x then hi else if x < lo then lo else x
/-- side by side -/
def clamps (q lo hi : List Int) (k : Nat) : List Int := (List.range k).map fun i => clamp (q.getD i 0) (lo.getD i 0) (hi.getD i 0)
/-- the way by a third point, as the law reckons it -/
theorem third (C D : Nat) (hC : C < 147573952589676412928) (hD : D < 147573952589676412928) :
    (C + D % 18446744073709551616) % 340282366920938463463374607431768211456 = C + D % 18446744073709551616 ∧
    IntKind.u64.wrap (((C + D % 18446744073709551616) / 18446744073709551616 : Nat) + (D / 18446744073709551616 : Nat) : Int) = ((C + D) / 18446744073709551616 : Nat) ∧
    (C + D % 18446744073709551616) % 18446744073709551616 = (C + D) % 18446744073709551616 := by
  refine ⟨by omega, ?_, by omega⟩
  simp only [IntKind.wrap, IntKind.signed, IntKind.bits]
  simp
  omega
end Go.Proofs.Ytgcbodpjidoanaa
namespace Go.Proofs.Ytgcbodpjidoanaa
open Go.RowKit
theorem eqTo_all {p q : List Int} (h : q.length = p.length) : eqTo p q p.length = decide (p = q) := by
  rw [Bool.eq_iff_iff, eqTo_iff, decide_eq_true_iff]
  constructor
  · intro he
    refine List.ext_getElem? fun i => ?_
    rcases Nat.lt_or_ge i p.length with hi | hi
    · have := he i hi
      unfold List.getD at this
      rw [List.getElem?_eq_getElem hi, List.getElem?_eq_getElem (by omega)] at this ⊢
      simpa using this
    · simp [hi, h]
  · intro he; subst he; intros; rfl

set_option maxRecDepth 100000 in
set_option maxHeartbeats 1000000 in
theorem sameRow_any (A B : Option Addr) (p q : List Int) (c d : Nat) (w : World) (hA : Arr w w.heap.size A p.length (i64s p)) (hB : Arr w w.heap.size B q.length (i64s q)) (hn : p.length ≤ 17592186043904) :
    Calls Try.prog 84 #[.slice A p.length c, .slice B q.length d] w fun e w' => e = .returned (.bool (decide (p = q))) ∧ Below w.heap.size w w' := by
  by_cases hl : q.length = p.length
  case neg =>
    have t : ((p.length : Int) != q.length) = true := by simp; omega
    have hr := hideP (show decide (p = q) = false by simp; intro h; subst h; exact hl rfl)
    clear hl
    go_enter Try.func84, Try.ntmps84
    go_wp2
    go_ret
    exact ⟨by rw [hr.out]; rfl, Below.refl _ _⟩
  have hr := hideP (eqTo_all hl)
  rw [hl] at hB ⊢
  obtain ⟨n, hn'⟩ : ∃ n, n = p.length := ⟨_, rfl⟩
  rw [← hn'] at hA hB hn hr ⊢
  clear hl hn'
  have HhA := hideP hA; have HhB := hideP hB; clear hA hB
  go_enter Try.func84, Try.ntmps84
  go_wp2
  go_loopw [5] (fun v5 wr => ∃ k : Nat, k ≤ n ∧ v5 = .int .i64 k ∧ Hid (eqTo p q k = true ∧ Below w.heap.size w wr)) (fun v5 _ => n - (intOf v5).toNat)
  case atStart => exact ⟨0, by omega, rfl, rfl, Below.refl _ _⟩
  case round =>
    obtain ⟨k, hk, rfl, hW⟩ := hrel
    by_cases hlt : k < n
    · have t' : decide ((k : Int) < n) = true := by simp; omega
      obtain ⟨b, off, rfl, hb, hc⟩ := (HhA.out.below hW.out.2) (by omega)
      obtain ⟨b', off', rfl, hb', hc'⟩ := (HhB.out.below hW.out.2) (by omega)
      have k1 := hc k hlt
      have k2 := hc' k hlt
      unfold i64s at k1 k2
      have hst := eqTo_succ p q k
      have hfl := fun h : eqTo p q (k + 1) = false => (show eqTo p q n = false by
        have : ¬ eqTo p q n = true := fun h2 => by
          rw [eqTo_iff] at h2
          have : eqTo p q (k + 1) = true := by rw [eqTo_iff]; exact fun i hi => h2 i (by omega)
          rw [h] at this; cases this
        simpa using this)
      obtain ⟨x, ex⟩ : ∃ x, x = p.getD k 0 := ⟨_, rfl⟩
      obtain ⟨y, ey⟩ : ∃ y, y = q.getD k 0 := ⟨_, rfl⟩
      rw [← ex] at k1 hst
      rw [← ey] at k2 hst
      rw [hW.out.1, Bool.true_and] at hst
      clear ex ey hc hc' hb hb'
      by_cases hxy : x = y
      · subst hxy
        have t : (x != x) = false := by simp
        have hs := hideP (show eqTo p q (k + 1) = true by rw [hst]; simp)
        clear hst hfl
        go_wp2
        refine wp_region_eager 9 [(true, 0), (true, 1), (true, 2), (true, 3), (true, 4), (true, 5), (true, 6), (true, 7), (true, 8)] (by kernel_rfl) (by kernel_rfl) ?_
        simp only [pick, List.map_cons, List.map_nil, nthO_zero, nthO_succ]
        repeat (first
          | (refine wpPlan_skipK (by rfl) (fun K hK => ?_); go_simp; refine hK _ ?_; clear hK K)
          | (refine wpPlan_valK (by rfl) (fun K hK => ?_); apply Exists.intro; refine ⟨fun W hW => ?_, ?_⟩; (focus (have hs0 := hW.cell k1; have hs1 := hW.cell k2; go_simp; (try rfl); done)); go_simp; refine hK _ ?_; clear hK K))
        refine wpPlan_nil (fun W1 hW0 => ?_)
        simp only [List.drop_succ_cons, List.drop_zero, List.drop_nil]
        have fb := hideP (below_ext hW.out.2 hW0.drew_left)
        clear hW hW0 k1 k2
        go_wp2
        go_roundw
        case rel => exact ⟨k + 1, by omega, by go_num, hs.out, fb.out⟩
        case measure => simp [intOf]; omega
      · have t : (x != y) = true := by simp [hxy]
        have hs := hideP (hfl (by rw [hst]; simp [hxy]))
        clear hst hfl hxy
        go_wp2
        refine wp_region_eager 9 [(true, 0), (true, 1), (true, 2), (true, 3), (true, 4), (true, 5), (true, 6), (true, 7), (true, 8)] (by kernel_rfl) (by kernel_rfl) ?_
        simp only [pick, List.map_cons, List.map_nil, nthO_zero, nthO_succ]
        repeat (first
          | (refine wpPlan_skipK (by rfl) (fun K hK => ?_); go_simp; refine hK _ ?_; clear hK K)
          | (refine wpPlan_valK (by rfl) (fun K hK => ?_); apply Exists.intro; refine ⟨fun W hW => ?_, ?_⟩; (focus (have hs0 := hW.cell k1; have hs1 := hW.cell k2; go_simp; (try rfl); done)); go_simp; refine hK _ ?_; clear hK K))
        refine wpPlan_nil (fun W1 hW0 => ?_)
        simp only [List.drop_succ_cons, List.drop_zero, List.drop_nil]
        have fb := hideP (below_ext hW.out.2 hW0.drew_left)
        clear hW hW0 k1 k2
        go_wp2
        go_ret
        exact ⟨by rw [← hr.out, hs.out]; rfl, fb.out⟩
    · have t' : decide ((k : Int) < n) = false := by simp; omega
      obtain rfl : k = n := by omega
      go_wp2
      go_ret
      exact ⟨by rw [← hr.out, hW.out.1]; rfl, hW.out.2⟩

set_option maxRecDepth 100000 in
set_option maxHeartbeats 1000000 in
theorem same_any (L H L' H' : Option Addr) (lo hi lo' hi' : List Int) (dl sh dl' sh' : Nat) (w : World) (hL : Arr w w.heap.size L lo.length (i64s lo)) (hH : Arr w w.heap.size H hi.length (i64s hi))
    (hL' : Arr w w.heap.size L' lo'.length (i64s lo')) (hH' : Arr w w.heap.size H' hi'.length (i64s hi')) (hn : lo.length ≤ 17592186043904) (hm : hi.length ≤ 17592186043904) :
    Calls Try.prog 83 #[.agg #[.slice L lo.length dl, .slice H hi.length sh], .agg #[.slice L' lo'.length dl', .slice H' hi'.length sh']] w fun e w' => e = .returned (.bool (decide (lo = lo' ∧ hi = hi'))) ∧ Below w.heap.size w w' := by
  have t1 := fun W h h' => sameRow_any L L' lo lo' dl dl' W h h' hn
  have t2 := fun W h h' => sameRow_any H H' hi hi' sh sh' W h h' hm
  obtain ⟨p, hp⟩ : ∃ p, p = decide (lo = lo') := ⟨_, rfl⟩
  obtain ⟨q, hq⟩ : ∃ p, p = decide (hi = hi') := ⟨_, rfl⟩
  have hb := hideP (show decide (lo = lo' ∧ hi = hi') = (p && q) by rw [hp, hq]; simp)
  rw [← hp] at t1
  rw [← hq] at t2
  clear hp hq hn hm
  have Ht1 := hideP t1; have Ht2 := hideP t2; have HhL := hideP hL; have HhH := hideP hH; have HhL' := hideP hL'; have HhH' := hideP hH'; clear t1 t2 hL hH hL' hH'
  go_enter Try.func83, Try.ntmps83
  go_wp2_with fail
  obtain ⟨w1, hw1⟩ : ∃ w1, w1 = (w.alloc (Obj.cells #[.slice L lo.length dl, .slice H hi.length sh] 41)).alloc (Obj.cells #[.slice L' lo'.length dl', .slice H' hi'.length sh'] 41) := ⟨_, rfl⟩
  have c1 := hideP (show Two w1 w.heap.size 41 (.slice L lo.length dl) (.slice H hi.length sh) by rw [hw1]; exact (Two.new _ _ _ _).alloc _)
  have c2 := hideP (show Two w1 (w.heap.size + 1) 41 (.slice L' lo'.length dl') (.slice H' hi'.length sh') by rw [hw1]; exact Two.new' _ _ _ _ _ (by simp))
  have cb := hideP (show Below w.heap.size w w1 by rw [hw1]; exact (below_new _ _).alloc (by simp) _)
  rw [← hw1]
  clear hw1
  have kc10 := c1.out.c0; have kc11 := c1.out.c1
  have kc20 := c2.out.c0; have kc21 := c2.out.c1
  refine (Ht1.out w1 (HhL.out.after cb.out) (HhL'.out.after cb.out)).mono ?_
  rintro e w2 ⟨rfl, hb'⟩
  clear kc10 kc11 kc20 kc21
  replace c1 := hideP (c1.out.after hb')
  replace c2 := hideP (c2.out.after hb')
  replace cb := hideP (bstep cb.out hb')
  clear hb'
  cases p
  · go_wp2
    go_ret
    exact ⟨by rw [hb.out]; rfl, cb.out⟩
  · skip
    have kc10 := c1.out.c0; have kc11 := c1.out.c1
    have kc20 := c2.out.c0; have kc21 := c2.out.c1
    go_wp2_with fail
    refine (Ht2.out w2 (HhH.out.after cb.out) (HhH'.out.after cb.out)).mono ?_
    rintro e w3 ⟨rfl, hb'⟩
    clear kc10 kc11 kc20 kc21
    replace cb := hideP (bstep cb.out hb')
    clear hb'
    go_wp2
    go_ret
    exact ⟨by rw [hb.out]; rfl, cb.out⟩
end Go.Proofs.Ytgcbodpjidoanaa
namespace Go.Proofs.Ytgcbodpjidoanaa
open Go.RowKit
structure KidD where
  sum : List Nat
  lo : List Int
  hi : List Int
  live : Int
  size : Int
  key : List Int
deriving DecidableEq, Inhabited
/-- where a kid's rows lie, and their room -/
structure KidP where
  lA : Option Addr
  lc : Nat
  hA : Option Addr
  hc : Nat
  kA : Option Addr
  kc : Nat
deriving Inhabited
structure KidOk (k : KidD) : Prop where
  s : k.sum.length = 32
  sB : IsB k.sum
  lI : IsI k.lo
  hI : IsI k.hi
  kI : IsI k.key
  l1 : -9223372036854775808 ≤ k.live ∧ k.live ≤ 9223372036854775807
  z1 : -9223372036854775808 ≤ k.size ∧ k.size ≤ 9223372036854775807
  lo : k.lo.length ≤ 1000000
  hi : k.hi.length ≤ 1000000
  key : k.key.length ≤ 1000000
/-- the cells behind the sum -/
def kidT (k : KidD) (p : KidP) : List Value := [.slice p.lA k.lo.length p.lc, .slice p.hA k.hi.length p.hc, .int .i64 k.live, .int .i64 k.size, .slice p.kA k.key.length p.kc]
def kidC (k : KidD) (p : KidP) : List Value := k.sum.map b8 ++ kidT k p
structure KidMem (w : World) (B : Nat) (k : KidD) (p : KidP) : Prop where
  lo : Arr w B p.lA k.lo.length (i64s k.lo)
  hi : Arr w B p.hA k.hi.length (i64s k.hi)
  key : Arr w B p.kA k.key.length (i64s k.key)
section
variable {w w' : World} {B B' : Nat} {k : KidD} {p : KidP}
theorem KidMem.below (h : KidMem w B k p) (hb : Below B w w') : KidMem w' B k p := ⟨h.lo.below hb, h.hi.below hb, h.key.below hb⟩
theorem KidMem.more (h : KidMem w B k p) (hB : B ≤ B') : KidMem w B' k p := ⟨h.lo.more hB, h.hi.more hB, h.key.more hB⟩
theorem KidMem.after (h : KidMem w w.heap.size k p) (hb : Below w.heap.size w w') : KidMem w' w'.heap.size k p := (h.below hb).more hb.size
theorem KidOk.cells (h : KidOk k) (p : KidP) : (kidC k p).length = 37 := by simp [kidC, kidT, h.s]
theorem kidC_one (k : KidD) (p : KidP) : (kidC k p).toArray.all (·.oneCell') = true := all_one fun v hv => by
  unfold kidC kidT at hv
  rcases List.mem_append.1 hv with h | h
  · obtain ⟨x, _, rfl⟩ := List.mem_map.1 h; rfl
  · simp only [List.mem_cons, List.not_mem_nil, or_false] at h
    rcases h with rfl | rfl | rfl | rfl | rfl <;> rfl
end
theorem size_k37 {cs : List Value} (h : cs.length = 37) : (Try.prog.info? 43).map (·.size) = some cs.length := by rw [h]; kernel_rfl

section
variable {w : World} {b o : Nat} {k : KidD} {p : KidP}
theorem kid_sum (h : KidOk k) (r : w.rangeAt b o (kidC k p)) : w.rangeAt b o (k.sum.map b8) := fun j v hv => by
  refine r j v ?_
  unfold kidC
  have hj := (List.getElem?_eq_some_iff.1 hv).1
  rw [List.getElem?_append_left hj]; exact hv
theorem kid_at (h : KidOk k) (r : w.rangeAt b o (kidC k p)) (j : Nat) {v : Value} (hv : (kidT k p)[j]? = some v) : w.cell? ⟨b, o + (32 + j), none⟩ = some v := by
  refine r (32 + j) v ?_
  unfold kidC
  have e : (k.sum.map b8).length = 32 := by simp [h.s]
  rw [List.getElem?_append_right (by omega), e, Nat.add_sub_cancel_left]; exact hv
end
theorem take_nextI {l m : List Int} {k : Nat} (hl : k < l.length) (hm : k < m.length) (h : l.take k = m.take k) (e : l.getD k 0 = m.getD k 0) : l.take (k + 1) = m.take (k + 1) := by
  rw [List.take_add_one, List.take_add_one, h, List.getElem?_eq_getElem hl, List.getElem?_eq_getElem hm]
  simp only [List.getD, List.getElem?_eq_getElem hl, List.getElem?_eq_getElem hm, Option.getD_some] at e
  rw [e]
set_option maxRecDepth 100000 in
set_option maxHeartbeats 1000000 in
theorem isequal_any (A B : Option Addr) (l m : List Int) (c d : Nat) (w : World) (hA : Arr w w.heap.size A l.length (i64s l)) (hB : Arr w w.heap.size B m.length (i64s m)) (h1 : l.length ≤ 140737488351232) :
    Calls Try.prog 104 #[.slice A l.length c, .slice B m.length d] w fun e w' => e = .returned (.bool (decide (l = m))) ∧ Below w.heap.size w w' := by
  obtain ⟨RS, hRS⟩ : ∃ RS, RS = decide (l = m) := ⟨_, rfl⟩
  rw [← hRS]
  obtain ⟨n, hn⟩ : ∃ n, n = l.length := ⟨_, rfl⟩
  obtain ⟨k, hk⟩ : ∃ n, n = m.length := ⟨_, rfl⟩
  rw [← hn] at hA h1 ⊢
  rw [← hk] at hB ⊢
  by_cases hnk : n = k
  · have hnk' : ((n : Int) != (k : Int)) = false := by simp; omega
    subst hnk
    have HhRS := hideP hRS; have HhA := hideP hA; have HhB := hideP hB; have Hhn := hideP hn; have Hhk := hideP hk; clear hRS hA hB hn hk
    clear hnk'
    go_enter Try.func104, Try.ntmps104
    go_wp2_with fail
    go_loopw [13] (fun v13 wr => ∃ i : Nat, i ≤ n ∧ v13 = .int .i64 (i : Nat) ∧ Hid (l.take i = m.take i ∧ Below w.heap.size w wr)) (fun v13 _ => n - (intOf v13).toNat)
    case atStart => exact ⟨0, Nat.zero_le _, rfl, rfl, Below.refl _ _⟩
    case round =>
      obtain ⟨i, hi, rfl, hV⟩ := hrel
      by_cases hlt : i < n
      · have i1 : (i : Int) < (n : Int) := by omega
        obtain ⟨b0, off, hA, hB0, hc⟩ := HhA.out (by omega)
        obtain ⟨b1, of1, hB, hB1, hd⟩ := HhB.out (by omega)
        subst hA hB
        have c0 := (hV.out.2.cell (p := ⟨b0, off + i, none⟩) hB0).trans (hc i hlt)
        have c1 := (hV.out.2.cell (p := ⟨b1, of1 + i, none⟩) hB1).trans (hd i hlt)
        unfold i64s at c0 c1
        have hst := hideP (take_nextI (l := l) (m := m) (k := i) (by have := Hhn.out; omega) (by have := Hhk.out; omega) hV.out.1)
        have hne : l.getD i 0 ≠ m.getD i 0 → RS = false := fun h => by
          rw [HhRS.out]; simp; intro e; exact h (by rw [e])
        have Hne := hideP hne
        obtain ⟨x, hx⟩ : ∃ x, x = l.getD i 0 := ⟨_, rfl⟩
        obtain ⟨y, hy⟩ : ∃ x, x = m.getD i 0 := ⟨_, rfl⟩
        rw [← hx] at c0 hst Hne
        rw [← hy] at c1 hst Hne
        clear hx hy hc hd hne
        by_cases hxy : x = y
        · have hok := hideP (hst.out hxy)
          subst hxy
          go_wp2_with fail
          go_quiet (fail)
          go_wp2_with fail
          go_roundw
          case rel => exact ⟨i + 1, by omega, by go_num, hok.out, below_drewN hV.out.2 _⟩
          case measure => simp [intOf]; omega
        · have hf := hideP (Hne.out hxy)
          have e1 : (x != y) = true := by simpa using hxy
          clear hxy
          go_wp2_with fail
          go_quiet (fail)
          go_wp2_with fail
          go_ret
          exact ⟨ret_bool hf.out.symm, below_drewN hV.out.2 _⟩
      · obtain rfl : n = i := by omega
        have i1 : ¬ ((n : Int) < (n : Int)) := by omega
        have hf := hideP (show RS = true by
          rw [HhRS.out]; have := hV.out.1; rw [List.take_of_length_le (by have := Hhn.out; omega), List.take_of_length_le (by have := Hhk.out; omega)] at this; simpa using this)
        go_wp2_with fail
        go_ret
        exact ⟨ret_bool hf.out.symm, hV.out.2⟩
  · have hnk' : ((n : Int) != (k : Int)) = true := by simp; omega
    have hf := hideP (show RS = false by rw [hRS]; simp; intro e; exact hnk (by rw [hn, hk, e]))
    clear hRS hA hB hn hk hnk
    go_enter Try.func104, Try.ntmps104
    go_wp2_with fail
    go_ret
    exact ⟨ret_bool hf.out.symm, Below.refl _ _⟩
set_option maxRecDepth 100000 in
set_option maxHeartbeats 1000000 in
theorem bsame_any (L H L' H' : Option Addr) (lo hi lo' hi' : List Int) (dl sh dl' sh' : Nat) (w : World) (hL : Arr w w.heap.size L lo.length (i64s lo)) (hH : Arr w w.heap.size H hi.length (i64s hi))
    (hL' : Arr w w.heap.size L' lo'.length (i64s lo')) (hH' : Arr w w.heap.size H' hi'.length (i64s hi')) (hn : lo.length ≤ 17592186043904) (hm : hi.length ≤ 17592186043904) :
    Calls Try.prog 103 #[.agg #[.slice L lo.length dl, .slice H hi.length sh], .agg #[.slice L' lo'.length dl', .slice H' hi'.length sh']] w fun e w' => e = .returned (.bool (decide (lo = lo' ∧ hi = hi'))) ∧ Below w.heap.size w w' := by
  have t1 := fun W h h' => isequal_any L L' lo lo' dl dl' W h h' (Nat.le_trans hn (by decide))
  have t2 := fun W h h' => isequal_any H H' hi hi' sh sh' W h h' (Nat.le_trans hm (by decide))
  obtain ⟨p, hp⟩ : ∃ p, p = decide (lo = lo') := ⟨_, rfl⟩
  obtain ⟨q, hq⟩ : ∃ p, p = decide (hi = hi') := ⟨_, rfl⟩
  have hb := hideP (show decide (lo = lo' ∧ hi = hi') = (p && q) by rw [hp, hq]; simp)
  rw [← hp] at t1
  rw [← hq] at t2
  clear hp hq hn hm
  have Ht1 := hideP t1; have Ht2 := hideP t2; have HhL := hideP hL; have HhH := hideP hH; have HhL' := hideP hL'; have HhH' := hideP hH'; clear t1 t2 hL hH hL' hH'
  go_enter Try.func103, Try.ntmps103
  go_wp2_with fail
  obtain ⟨w1, hw1⟩ : ∃ w1, w1 = (w.alloc (Obj.cells #[.slice L lo.length dl, .slice H hi.length sh] 41)).alloc (Obj.cells #[.slice L' lo'.length dl', .slice H' hi'.length sh'] 41) := ⟨_, rfl⟩
  have c1 := hideP (show Two w1 w.heap.size 41 (.slice L lo.length dl) (.slice H hi.length sh) by rw [hw1]; exact (Two.new _ _ _ _).alloc _)
  have c2 := hideP (show Two w1 (w.heap.size + 1) 41 (.slice L' lo'.length dl') (.slice H' hi'.length sh') by rw [hw1]; exact Two.new' _ _ _ _ _ (by simp))
  have cb := hideP (show Below w.heap.size w w1 by rw [hw1]; exact (below_new _ _).alloc (by simp) _)
  rw [← hw1]
  clear hw1
  have kc10 := c1.out.c0; have kc11 := c1.out.c1
  have kc20 := c2.out.c0; have kc21 := c2.out.c1
  refine (Ht1.out w1 (HhL.out.after cb.out) (HhL'.out.after cb.out)).mono ?_
  rintro e w2 ⟨rfl, hb'⟩
  clear kc10 kc11 kc20 kc21
  replace c1 := hideP (c1.out.after hb')
  replace c2 := hideP (c2.out.after hb')
  replace cb := hideP (bstep cb.out hb')
  clear hb'
  cases p
  · go_wp2
    go_ret
    exact ⟨by rw [hb.out]; rfl, cb.out⟩
  · skip
    have kc10 := c1.out.c0; have kc11 := c1.out.c1
    have kc20 := c2.out.c0; have kc21 := c2.out.c1
    go_wp2_with fail
    refine (Ht2.out w2 (HhH.out.after cb.out) (HhH'.out.after cb.out)).mono ?_
    rintro e w3 ⟨rfl, hb'⟩
    clear kc10 kc11 kc20 kc21
    replace cb := hideP (bstep cb.out hb')
    clear hb'
    go_wp2
    go_ret
    exact ⟨by rw [hb.out]; rfl, cb.out⟩
end Go.Proofs.Ytgcbodpjidoanaa
namespace Go.Proofs.Ytgcbodpjidoanaa
open Go.RowKit
end Go.Proofs.Ytgcbodpjidoanaa
