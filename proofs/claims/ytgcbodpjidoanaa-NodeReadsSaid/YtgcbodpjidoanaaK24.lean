/- Contract of block.ReadOps. The writer's contracts, told from the world where it began. Heads of blocks; contract of block.Head. Contracts of block.Preimage, block.Sum. Heads read: plain, and the contract of block.ReadHead. Contract of block.ReadHead. Digests and heads are compared. Plain laws of distances: the same both ways, 0 just of the same point, by a third point no shorter; of boxes. Contracts of the document's package for chapter 4: SameRow, Same. -/
import Derived.Laws.ResultCell
import Derived.Deep.MidRow
import Derived.Stop.BytesEq
import Derived.Test.YtgcbodpjidoanaaK3
import Derived.Test.YtgcbodpjidoanaaK4
import Derived.Test.YtgcbodpjidoanaaK11
import Derived.Test.YtgcbodpjidoanaaK23
set_option linter.unusedVariables false
set_option linter.unusedSimpArgs false
namespace Go.Proofs.Ytgcbodpjidoanaa
open Go.RowKit
/-- what ReadOps answers -/
def ReadsGot (w : World) (RS : Option (List OpD)) (e : Ending) (w' : World) : Prop :=
  Below w.heap.size w w' ∧ ((RS = none ∧ e = .returned (.tuple #[.slice none 0 0, .int .i64 21])) ∨
    ∃ m R d ps n, RS = some m ∧ n = m.length ∧ e = .returned (.tuple #[.slice R n d, .int .i64 0]) ∧ OpsH w' w.heap.size R m ps)
theorem rCount_bad {most : Nat} {l : List Nat} {e : Int} (h : (rCount most l e).2.2 ≠ 0) : (rCount most l e).1 = 0 := by
  unfold rCount at h ⊢
  split <;> rename_i hq
  · rfl
  · rw [hq] at h
    dsimp only at h ⊢
    split
    · rfl
    · rename_i h2
      rw [if_neg h2] at h
      exact absurd rfl h
theorem Rd.butBelow {w W : World} {g B : Nat} {l : List Nat} {e : Int} (h : Rd w g l e) (b : But (fun k => k = g) w W) (hB : B ≤ g) : Below B w W :=
  ⟨b.os, b.tape, b.output, b.size, fun k hk => b.block k (by have := h.lt; omega) (by omega)⟩
theorem opsB_len {l : List OpD} (h : ∀ i, i < l.length → OpOk (l.getD i default)) (hl : l.length ≤ 256) : (opsB l).length ≤ 1000000000000 := by
  unfold opsB
  rw [List.length_append]
  have := ops_len h l.length (Nat.le_refl _)
  rw [List.take_length] at this
  have h3 : (be3 l.length).length = 3 := rfl
  omega
/-- behind i changes -/
def ReadsTo (w : World) (B0 g : Nat) (n : Nat) (e0 : Int) (R0 : Option (List OpD × List Nat)) (wr : World) (A : Option Addr) (c i : Nat) : Prop :=
  ∃ (qs : List OpQ) (l : List Nat), qs.length = i ∧ OpsOwn wr B0 g A c qs ∧ Rd wr g l e0 ∧ Below w.heap.size w wr ∧ B0 ≤ wr.heap.size ∧ R0 = rOps 8 (fun _ => true) (n - i) l (qs.map Prod.fst) ∧ ∀ q ∈ qs, OpOk q.1
theorem rOps_one (n : Nat) (l : List Nat) (acc : List OpD) (o : OpD) (l' : List Nat) (e : Int) (h : rOp 8 l 0 = (o, l', e)) : rOps 8 (fun _ => true) (n + 1) l acc = if e = 0 then rOps 8 (fun _ => true) n l' (acc ++ [o]) else none := by
  simp [rOps, h]
def opZ : List Value := opV 0 ByteArray.empty none 0 0 none 0 0
end Go.Proofs.Ytgcbodpjidoanaa
namespace Go.Proofs.Ytgcbodpjidoanaa
open Go.RowKit
section
variable {S : Nat → Prop} {v w : World} {g : Nat} {l : List Nat} {e : Int}
theorem wdigestP (d : List Nat) (h : WrP S v w g l e) (hd : d.length = 32) (hI : IsB d) (hn : l.length ≤ 140737488000000) :
    Calls Try.prog 174 #[.pointer (some ⟨g, 0, none⟩), dg d] w fun e' w' => e' = .returned (.tuple #[]) ∧ WrP S v w' g (l ++ d) e := by
  obtain ⟨S1, m1, v1⟩ := h
  exact (wdigest_any S1 g l d e w v1 hd hI hn).mono fun e' w' h => ⟨h.1, WrP.then m1 h.2⟩
theorem wnumP (x : Int) (h : WrP S v w g l e) (h1 : -9223372036854775808 ≤ x) (h2 : x ≤ 9223372036854775807) (hn : l.length ≤ 140737488353000) :
    Calls Try.prog 225 #[.pointer (some ⟨g, 0, none⟩), .int .i64 x] w fun e' w' => e' = .returned (.tuple #[]) ∧ WrP S v w' g (l ++ num8 x) e := by
  obtain ⟨S1, m1, v1⟩ := h
  exact (wnum_any S1 g l x e w v1 h1 h2 hn).mono fun e' w' h => ⟨h.1, WrP.then m1 h.2⟩
theorem wbyteP (x : Nat) (h : WrP S v w g l e) (hx : x < 256) (hn : l.length ≤ 140737488354000) :
    Calls Try.prog 120 #[.pointer (some ⟨g, 0, none⟩), .int .u8 (x : Nat)] w fun e' w' => e' = .returned (.tuple #[]) ∧ WrP S v w' g (l ++ [x]) e := by
  obtain ⟨S1, m1, v1⟩ := h
  exact (wbyte_any S1 g l x e w v1 hx hn).mono fun e' w' h => ⟨h.1, WrP.then m1 h.2⟩
theorem wcountP (n : Nat) (h : WrP S v w g l e) (hx : n ≤ 1048576) (hn : l.length ≤ 140737488354000) :
    Calls Try.prog 175 #[.pointer (some ⟨g, 0, none⟩), .int .i64 (n : Nat)] w fun e' w' => e' = .returned (.tuple #[]) ∧ WrP S v w' g (l ++ be3 n) e := by
  obtain ⟨S1, m1, v1⟩ := h
  exact (wcount_any S1 g l n e w v1 hx hn).mono fun e' w' h => ⟨h.1, WrP.then m1 h.2⟩
theorem wtruthP (x : Bool) (h : WrP S v w g l e) (hn : l.length ≤ 140737488354000) :
    Calls Try.prog 172 #[.pointer (some ⟨g, 0, none⟩), .bool x] w fun e' w' => e' = .returned (.tuple #[]) ∧ WrP S v w' g (l ++ [if x then 1 else 0]) e := by
  obtain ⟨S1, m1, v1⟩ := h
  exact (wtruth_any S1 g l x e w v1 hn).mono fun e' w' h => ⟨h.1, WrP.then m1 h.2⟩
/-- a text that lies below the writer -/
theorem wtextP (k : List Nat) (X : Option Addr) (K c B : Nat) (hv : Wr v S g [] 0) (h : WrP S v w g l e) (hK : K = k.length) (hX : Arr w B X K (u8s k)) (hB : B ≤ g) (hk : IsB k) (hx : K ≤ 1048576) (hn : l.length ≤ 140737480000000) :
    Calls Try.prog 121 #[.pointer (some ⟨g, 0, none⟩), .slice X K c] w fun e' w' => e' = .returned (.tuple #[]) ∧ WrP S v w' g (l ++ (be3 K ++ k)) e := by
  obtain ⟨S1, m1, v1⟩ := h
  exact (wtext_any S1 g l k X K c e w v1 hK (ArrN.of_low hX (Nat.le_trans hB (Nat.le_of_lt v1.lt)) fun b hb => Nat.le_trans hB (v1.low b hb)) hk hx hn).mono fun e' w' h => ⟨h.1, WrP.then m1 h.2⟩
theorem wtextP_long (X : Option Addr) (K c : Nat) (h : WrP S v w g l e) (hx : 1048576 < K) :
    Calls Try.prog 121 #[.pointer (some ⟨g, 0, none⟩), .slice X K c] w fun e' w' => e' = .returned (.tuple #[]) ∧ WrP S v w' g l 10 := by
  obtain ⟨S1, m1, v1⟩ := h
  exact (wtext_long S1 g l X K c e w v1 hx).mono fun e' w' h => ⟨h.1, WrP.then m1 h.2⟩
theorem wrowP (r : List Int) (R : Option Addr) (n c B : Nat) (h : WrP S v w g l e) (hnr : n = r.length) (hR : Arr w B R n (i64s r)) (hB : B ≤ g) (hI : IsI r) (hr : n ≤ 255) (hn : l.length ≤ 140737488000000) :
    Calls Try.prog 173 #[.pointer (some ⟨g, 0, none⟩), .slice R n c] w fun e' w' => e' = .returned (.tuple #[]) ∧ WrP S v w' g (l ++ rowB r) e := by
  subst hnr
  obtain ⟨S1, m1, v1⟩ := h
  exact (wrow_any S1 g l r R c e w v1 (ArrN.of_low hR (Nat.le_trans hB (Nat.le_of_lt v1.lt)) fun b hb => Nat.le_trans hB (v1.low b hb)) hI hr hn).mono fun e' w' h => ⟨h.1, WrP.then m1 h.2⟩
theorem wbytesP (h : WrP S v w g l 0) (hn : l.length ≤ 140737488351232) :
    Calls Try.prog 123 #[.pointer (some ⟨g, 0, none⟩)] w fun e w' => ∃ R d, e = .returned (.slice R l.length d) ∧ OwnB w' w.heap.size R d l ∧ Below w.heap.size w w' ∧ WrP S v w' g l 0 := by
  obtain ⟨S1, m1, v1⟩ := h
  refine (wbytes_ok S1 g l w v1 hn).mono ?_
  rintro e w' ⟨R, d, h1, h2, h3⟩
  exact ⟨R, d, h1, h2, h3, S1, m1.trans (Mv.ext _ (Ext.of_below h3)), v1.after h3⟩
theorem wbytesP_err (he : e ≠ 0) (h : WrP S v w g l e) :
    Calls Try.prog 123 #[.pointer (some ⟨g, 0, none⟩)] w fun e' w' => e' = .returned (.slice none 0 0) ∧ w' = w := by
  obtain ⟨S1, m1, v1⟩ := h
  exact wbytes_err S1 g l e he w v1
theorem werrP (h : WrP S v w g l e) : Calls Try.prog 124 #[.pointer (some ⟨g, 0, none⟩)] w fun e' w' => e' = .returned (.int .i64 e) ∧ w' = w := by
  obtain ⟨S1, m1, v1⟩ := h
  exact werr_any S1 g l e w v1
theorem WrP.refl (h : Wr v S g l e) : WrP S v v g l e := ⟨S, Mv.refl _ _, h⟩
theorem WrP.after {w' : World} (h : WrP S v w g l e) (hb : Below w.heap.size w w') : WrP S v w' g l e := by
  obtain ⟨S1, m1, v1⟩ := h
  exact ⟨S1, m1.trans (Mv.ext _ (Ext.of_below hb)), v1.after hb⟩
theorem Wr.new_at {u : World} {g0 : Nat} (hv : v = u.alloc (.cells #[.slice none 0 0, .int .i64 0] 168)) (hg : g0 = u.heap.size) : Wr v (fun b => b = g0) g0 [] 0 := by subst hv hg; exact ⟨none, 0, Two.new u _ _ _, OwnB.nil _ _, fun i => by simp, rfl, (fun b off s h => by cases h), (fun b hb => by subst hb; exact ⟨Nat.le_refl _, by simp⟩)⟩
end
end Go.Proofs.Ytgcbodpjidoanaa
namespace Go.Proofs.Ytgcbodpjidoanaa
open Go.RowKit
/-- a head -/
structure HeadD where
  prev : List Nat
  num : Int
  ops : List Nat
  tabs : List Nat
structure HeadOk (h : HeadD) : Prop where
  p : h.prev.length = 32
  o : h.ops.length = 32
  t : h.tabs.length = 32
  pB : IsB h.prev
  oB : IsB h.ops
  tB : IsB h.tabs
  n1 : -9223372036854775808 ≤ h.num
  n2 : h.num ≤ 9223372036854775807
def headC (h : HeadD) : List Value := h.prev.map b8 ++ (.int .i64 h.num :: (h.ops.map b8 ++ h.tabs.map b8))
/-- a head's bytes -/
def headB (h : HeadD) : List Nat := h.prev ++ num8 h.num ++ h.ops ++ h.tabs
def headR (h : HeadD) : Bool := decide (0 ≤ h.num) && decide (h.num ≤ 1099511627776)
theorem HeadOk.cells {h : HeadD} (k : HeadOk h) : (headC h).length = 97 := by simp [headC, k.p, k.o, k.t]
theorem HeadOk.len {h : HeadD} (k : HeadOk h) : (headB h).length = 104 := by simp [headB, k.p, k.o, k.t, num8_len]
theorem HeadOk.isB {h : HeadD} (k : HeadOk h) : IsB (headB h) := isB_append (isB_append (isB_append k.pB (isB_be8 _)) k.oB) k.tB
section
variable {w : World} {g : Nat} {T : TypeId} {h : HeadD}
theorem range_part {cs : List Value} (r : Row w g T cs) (a b c : List Value) (e : cs = a ++ (b ++ c)) : w.rangeAt g a.length b := fun j v hv => by
  have hj : j < b.length := (List.getElem?_eq_some_iff.1 hv).1
  rw [Row.cell r, e, List.getElem?_append_right (by omega), show a.length + j - a.length = j by omega, List.getElem?_append_left hj, hv]
theorem head_prev (k : HeadOk h) (r : Row w g T (headC h)) : w.rangeAt g 0 (h.prev.map b8) := range_part r [] _ _ rfl
theorem head_num (k : HeadOk h) (r : Row w g T (headC h)) : w.cell? ⟨g, 32, none⟩ = some (.int .i64 h.num) := by
  rw [Row.cell r]; unfold headC; rw [List.getElem?_append_right (by simp [k.p])]; simp [k.p]
theorem head_ops (k : HeadOk h) (r : Row w g T (headC h)) : w.rangeAt g 33 (h.ops.map b8) := by
  have := range_part r (h.prev.map b8 ++ [.int .i64 h.num]) (h.ops.map b8) (h.tabs.map b8) (by simp [headC])
  simpa [k.p] using this
theorem head_tabs (k : HeadOk h) (r : Row w g T (headC h)) : w.rangeAt g 65 (h.tabs.map b8) := by
  have := range_part r (h.prev.map b8 ++ [.int .i64 h.num] ++ h.ops.map b8) (h.tabs.map b8) [] (by simp [headC])
  simpa [k.p, k.o] using this
end
theorem size_d32 {l : List Nat} (h : l.length = 32) : (Try.prog.info? 37).map (·.size) = some (l.map b8).length := by rw [size_dig]; simp [h]
end Go.Proofs.Ytgcbodpjidoanaa
namespace Go.Proofs.Ytgcbodpjidoanaa
open Go.RowKit
theorem preN_len1 (tag : Nat) (t : List Nat) : (preN tag [t]).length = 9 + t.length := by unfold preN; simp [prePart, be8_len]; omega
end Go.Proofs.Ytgcbodpjidoanaa
namespace Go.Proofs.Ytgcbodpjidoanaa
open Go.RowKit
/-- the end of a function with a row in a variable and one or two results more -/
theorem ret_rowt {fn : Func} {p q : Tmp} {ty : TypeId} {a : Act} {w : World} {R : Ending → World → Prop} (h : fn.results = #[.cell p ty, .tmp q]) {g : Nat} {t : TypeId} {cs : List Value} {v : Value} {fs : Array Field}
    (hp : a.tmps.getD p undef = .pointer (some ⟨g, 0, none⟩)) (hq : a.tmps.getD q undef = v) (hg : Row w g t cs) (hu : Try.prog.underlying ty = some (.struct fs)) (hi : (Try.prog.info? ty).map (·.size) = some cs.length)
    (hd : a.defers = []) (hR : R (.returned (.tuple #[.agg cs.toArray, v])) w) : bodyPost Try.prog fn R .ret a w := by
  refine bodyPost_ret (v := .tuple #[.agg cs.toArray, v]) ?_ hd hR
  rw [results_cell_tmp h, hp, hq]
  simp [asAddr, run_loadVar_row w g t ty cs.toArray (0, 0) _ hg hu rfl (by simpa using hi)]
theorem results_cell_tmp2w {fn : Func} {p u v : Tmp} {ty : TypeId} (h : fn.results = #[.cell p ty, .tmp u, .tmp v]) (tmps : Array Value) (P : Program) (w : World) :
    (results fn tmps).run P w =
      ((asAddr (tmps.getD p undef)).run P w).andThen fun a w₁ => ((loadVar ty a).run P w₁).andThen fun x w₂ => .ok (.tuple #[x, tmps.getD u undef, tmps.getD v undef]) w₂ := by
  simp only [results, h]
  simp [Sem.run_bind, Result.andThen]
theorem ret_rowt2 {fn : Func} {p q q' : Tmp} {ty : TypeId} {a : Act} {w : World} {R : Ending → World → Prop} (h : fn.results = #[.cell p ty, .tmp q, .tmp q']) {g : Nat} {t : TypeId} {cs : List Value} {v v' : Value} {fs : Array Field}
    (hp : a.tmps.getD p undef = .pointer (some ⟨g, 0, none⟩)) (hq : a.tmps.getD q undef = v) (hq' : a.tmps.getD q' undef = v') (hg : Row w g t cs) (hu : Try.prog.underlying ty = some (.struct fs)) (hi : (Try.prog.info? ty).map (·.size) = some cs.length)
    (hd : a.defers = []) (hR : R (.returned (.tuple #[.agg cs.toArray, v, v'])) w) : bodyPost Try.prog fn R .ret a w := by
  refine bodyPost_ret (v := .tuple #[.agg cs.toArray, v, v']) ?_ hd hR
  rw [results_cell_tmp2w h, hp, hq, hq']
  simp [asAddr, run_loadVar_row w g t ty cs.toArray (0, 0) _ hg hu rfl (by simpa using hi)]
/-! ### plain -/
def headZ : HeadD := ⟨List.replicate 32 0, 0, List.replicate 32 0, List.replicate 32 0⟩
def rHead (b : List Nat) : Option HeadD :=
  let s1 := (rTake 32 b 0).2
  let s2 := (rTake 8 s1.1 s1.2).2
  let s3 := (rTake 32 s2.1 s2.2).2
  let s4 := (rTake 32 s3.1 s3.2).2
  if rEnd s4.1 s4.2 = 0 ∧ 0 ≤ rNum s1.1 s1.2 ∧ rNum s1.1 s1.2 ≤ 1099511627776 then some ⟨rDig b 0, rNum s1.1 s1.2, rDig s2.1 s2.2, rDig s3.1 s3.2⟩ else none
theorem rHead_app (h : HeadD) (k : HeadOk h) (hr : headR h = true) : rHead (headB h) = some h := by
  simp only [headR, Bool.and_eq_true, decide_eq_true_eq] at hr
  have h1 := dig_app h.prev (num8 h.num ++ (h.ops ++ h.tabs)) k.p
  have h2 := num_app h.num (h.ops ++ h.tabs) k.n1 k.n2
  have h3 := dig_app h.ops h.tabs k.o
  have h4 := dig_app h.tabs [] k.t
  rw [List.append_nil] at h4
  have e : headB h = h.prev ++ (num8 h.num ++ (h.ops ++ h.tabs)) := by simp [headB]
  unfold rHead
  rw [e]
  simp only [h1.1, h1.2, h2.1, h2.2, h3.1, h3.2, h4.1, h4.2]
  rw [if_pos ⟨rfl, hr⟩]
theorem rEnd_zero {l : List Nat} {e : Int} (h : rEnd l e = 0) : l = [] ∧ e = 0 := by
  unfold rEnd at h
  split at h
  · exact absurd h (by decide)
  · rename_i h2
    refine ⟨?_, h⟩
    rcases l with _ | ⟨x, l⟩
    · rfl
    · exact absurd ⟨by simp, h⟩ h2
theorem rHead_inv {b : List Nat} {h : HeadD} (hb : IsB b) (hr : rHead b = some h) : b = headB h ∧ HeadOk h ∧ headR h = true := by
  unfold rHead at hr
  rcases q1 : (rTake 32 b 0).2 with ⟨l1, e1⟩
  rw [q1] at hr
  dsimp only at hr
  rcases q2 : (rTake 8 l1 e1).2 with ⟨l2, e2⟩
  rw [q2] at hr
  dsimp only at hr
  rcases q3 : (rTake 32 l2 e2).2 with ⟨l3, e3⟩
  rw [q3] at hr
  dsimp only at hr
  rcases q4 : (rTake 32 l3 e3).2 with ⟨l4, e4⟩
  rw [q4] at hr
  dsimp only at hr
  split at hr
  case isFalse => cases hr
  rename_i hc
  obtain ⟨c1, c2, c3⟩ := hc
  obtain ⟨rfl, rfl⟩ := rEnd_zero c1
  obtain ⟨rfl, d1, d2⟩ := dig_inv q4
  obtain ⟨rfl, d3, d4⟩ := dig_inv q3
  have b1 : IsB l1 := by have := (take_suf 32 b 0).isB hb; rwa [q1] at this
  have b2 : IsB l2 := by have := (take_suf 8 l1 e1).isB b1; rwa [q2] at this
  have b3 : IsB l3 := by have := (take_suf 32 l2 0).isB b2; rwa [q3] at this
  obtain ⟨rfl, d5, d6, d7⟩ := num_inv b1 q2
  obtain ⟨_, d8, d9⟩ := dig_inv q1
  injection hr with hr
  subst hr
  refine ⟨?_, ⟨d9, d4, d2, ?_, ?_, ?_, d6, d7⟩, by simp [headR, c2, c3]⟩
  · unfold headB
    dsimp only
    simp only [List.append_assoc]
    rw [List.append_nil] at d1
    rw [← d1, ← d3, ← d5, ← d8]
  · exact (isB_app (d8 ▸ hb)).1
  · exact (isB_app (d3 ▸ b2)).1
  · exact (isB_app (d1 ▸ b3)).1
end Go.Proofs.Ytgcbodpjidoanaa
namespace Go.Proofs.Ytgcbodpjidoanaa
open Go.RowKit
/-- what ReadHead answers -/
def HeadGot (w : World) (g : Option HeadD) (e : Ending) (w' : World) : Prop :=
  Below w.heap.size w w' ∧ ((g = none ∧ e = .returned (.tuple #[.agg (headC headZ).toArray, .int .i64 21])) ∨ ∃ h, g = some h ∧ e = .returned (.tuple #[.agg (headC h).toArray, .int .i64 0]))
theorem all_one {cs : List Value} (h : ∀ v ∈ cs, v.oneCell' = true) : cs.toArray.all (·.oneCell') = true := Array.all_eq_true_iff_forall_mem.2 (fun v hv => h v (by simpa using hv))
theorem headC_one (h : HeadD) : (headC h).toArray.all (·.oneCell') = true := all_one fun v hv => by
  simp only [headC, List.mem_append, List.mem_cons, List.mem_map] at hv
  rcases hv with ⟨_, _, rfl⟩ | rfl | ⟨_, _, rfl⟩ | ⟨_, _, rfl⟩ <;> rfl
theorem there_row {w : World} {g : Nat} {T : TypeId} {cs : List Value} (r : Row w g T cs) (o n : Nat) (h : o + n ≤ cs.length) : w.there g o n := fun j hj => by
  refine ⟨?_, Row.fz r (o + j)⟩
  rw [Row.cell r (o + j), List.getElem?_eq_getElem (by omega)]; rfl
theorem row_setOps {w : World} {g : Nat} {T : TypeId} {p o t : List Nat} {n : Int} (r : Row w g T (headC ⟨p, n, o, t⟩)) (x : List Nat) (hp : p.length = 32) (ho : o.length = x.length) : Row (w.setCells g 33 (x.map b8)) g T (headC ⟨p, n, x, t⟩) := by
  have := Row.setCells (x.map b8) 33 r
  have e : headC ⟨p, n, o, t⟩ = (p.map b8 ++ [.int .i64 n]) ++ o.map b8 ++ t.map b8 := by simp [headC]
  rw [e, show (33 : Nat) = (p.map b8 ++ [Value.int .i64 n]).length by simp [hp], setL_mid _ _ _ _ (by simp [ho])] at this
  rw [show headC ⟨p, n, x, t⟩ = (p.map b8 ++ [.int .i64 n]) ++ x.map b8 ++ t.map b8 by simp [headC], show (33 : Nat) = (p.map b8 ++ [Value.int .i64 n]).length by simp [hp]]
  exact this
theorem row_setTabs {w : World} {g : Nat} {T : TypeId} {p o t : List Nat} {n : Int} (r : Row w g T (headC ⟨p, n, o, t⟩)) (x : List Nat) (hp : p.length = 32) (ho : o.length = 32) (ht : t.length = x.length) : Row (w.setCells g 65 (x.map b8)) g T (headC ⟨p, n, o, x⟩) := by
  have := Row.setCells (x.map b8) 65 r
  have e : headC ⟨p, n, o, t⟩ = (p.map b8 ++ ([.int .i64 n] ++ o.map b8)) ++ t.map b8 ++ [] := by simp [headC]
  rw [e, show (65 : Nat) = (p.map b8 ++ ([Value.int .i64 n] ++ o.map b8)).length by simp [hp, ho], setL_mid _ _ _ _ (by simp [ht])] at this
  rw [show headC ⟨p, n, o, x⟩ = (p.map b8 ++ ([.int .i64 n] ++ o.map b8)) ++ x.map b8 ++ [] by simp [headC], show (65 : Nat) = (p.map b8 ++ ([Value.int .i64 n] ++ o.map b8)).length by simp [hp, ho]]
  exact this
theorem row_setNum {w : World} {g : Nat} {T : TypeId} {p o t : List Nat} {n : Int} (r : Row w g T (headC ⟨p, n, o, t⟩)) (x : Int) (hp : p.length = 32) : Row (w.setCell ⟨g, 32, none⟩ (.int .i64 x)) g T (headC ⟨p, x, o, t⟩) := by
  have := Row.set r 32 (.int .i64 x)
  rw [show headC ⟨p, n, o, t⟩ = p.map b8 ++ (.int .i64 n :: (o.map b8 ++ t.map b8)) from rfl, List.set_append_right _ _ (by simp [hp])] at this
  simpa [headC, hp] using this
theorem rDig_len (l : List Nat) (e : Int) : (rDig l e).length = 32 := by
  unfold rDig
  rcases hq : rTake 32 l e with ⟨_ | t, m⟩
  · rfl
  · unfold rTake at hq
    split at hq
    · cases hq
    · split at hq
      · cases hq
      · injection hq with hq _; injection hq with hq; subst hq; simp; omega
theorem head_numL {w : World} {g : Nat} {T : TypeId} {h : HeadD} (k : h.prev.length = 32) (r : Row w g T (headC h)) : w.cell? ⟨g, 32, none⟩ = some (.int .i64 h.num) := by
  rw [Row.cell r]; unfold headC; rw [List.getElem?_append_right (by simp [k])]; simp [k]
end Go.Proofs.Ytgcbodpjidoanaa
namespace Go.Proofs.Ytgcbodpjidoanaa
open Go.RowKit
theorem sizeU8e (w : World) : (sizeOf 5).run Try.prog w = .ok 1 w := by kernel_rfl
theorem cells_b8e {l : List Nat} (h : IsB l) : l.map b8 = (l.map UInt8.ofNat).map Extern.Stop.cell := by
  rw [List.map_map]
  refine List.map_congr_left fun x hx => ?_
  obtain ⟨i, hi, rfl⟩ := List.getElem_of_mem hx
  have := h i
  simp only [List.getD, List.getElem?_eq_getElem hi, Option.getD_some] at this
  simp only [Function.comp_apply, b8, Extern.Stop.cell, Value.int.injEq, true_and]
  rw [UInt8.toNat_ofNat', Nat.mod_eq_of_lt this]
  rfl
theorem ofNat_beq {l m : List Nat} (bl : IsB l) (bm : IsB m) : (l.map UInt8.ofNat == m.map UInt8.ofNat) = decide (l = m) := by
  rw [Bool.eq_iff_iff]
  simp only [beq_iff_eq, decide_eq_true_eq]
  exact ⟨fun h => map_ofNat_inj l m bl bm h, fun h => by rw [h]⟩
theorem run_equalIn_dg (d : Nat) (l m : List Nat) (hl : l.length = 32) (hm : m.length = 32) (bl : IsB l) (bm : IsB m) (w : World) :
    (Op.equalIn (d + 2) 37 (.agg (l.map b8).toArray) (.agg (m.map b8).toArray)).run Try.prog w = .ok (decide (l = m)) w := by
  rw [cells_b8e bl, cells_b8e bm, run_equalIn_bytes w d 37 5 32 Try.underlying37 Try.underlying5 sizeU8e _ _ (by simpa using hl) (by simpa using hm), ofNat_beq bl bm]
theorem run_eql_dge (l m : List Nat) (hl : l.length = 32) (hm : m.length = 32) (bl : IsB l) (bm : IsB m) (w : World) :
    (binOp .eql 37 (.agg (l.map b8).toArray) (.agg (m.map b8).toArray)).run Try.prog w = .ok (.bool (decide (l = m))) w := by
  rw [run_eql_struct, run_equalIn_dg 9998 l m hl hm bl bm w]; rfl
theorem run_neq_dge (l m : List Nat) (hl : l.length = 32) (hm : m.length = 32) (bl : IsB l) (bm : IsB m) (w : World) :
    (binOp .neq 37 (.agg (l.map b8).toArray) (.agg (m.map b8).toArray)).run Try.prog w = .ok (.bool (!decide (l = m))) w := by
  rw [run_neq_struct, run_equalIn_dg 9998 l m hl hm bl bm w]; rfl
theorem ext_mid (a b c : List Value) : (a ++ (b ++ c)).toArray.extract a.length (a.length + b.length) = b.toArray := by
  apply Array.toList_inj.1
  simp [List.extract_eq_take_drop]
theorem part_row (w : World) (xs : Array Value) (off : Nat) (a b c : List Value) (e : xs = (a ++ (b ++ c)).toArray) (ha : a.length = off) (hb : b.length = 32) : (part 37 xs off).run Try.prog w = .ok (.agg b.toArray) w := by
  have hs : (sizeOf 37).run Try.prog w = .ok 32 w := by kernel_rfl
  have hi : (isAgg 37).run Try.prog w = .ok true w := by kernel_rfl
  unfold part
  simp only [Sem.run_bind, hi, Result.andThen_ok, if_true, hs, Sem.run_pure]
  subst ha e
  rw [← hb, ext_mid]
theorem part_num (w : World) (xs : Array Value) (v : Value) (h : xs[32]? = some v) : (part 3 xs 32).run Try.prog w = .ok v w := by
  have hi : (isAgg 3).run Try.prog w = .ok false w := by kernel_rfl
  unfold part
  simp only [Sem.run_bind, hi, Result.andThen_ok, Bool.false_eq_true, if_false, h, Sem.run_pure]
theorem eqF_cons {P : Program} {d : Nat} {xs ys : Array Value} {f : Field} {fs : List Field} {w : World} {a b : Value} {r q : Bool} (hn : f.name ≠ "_") (pa : (part f.type xs f.offset).run P w = .ok a w) (pb : (part f.type ys f.offset).run P w = .ok b w)
    (he : (Op.equalIn d f.type a b).run P w = .ok r w) (hr : (Op.eqFields d xs ys fs).run P w = .ok q w) : (Op.eqFields d xs ys (f :: fs)).run P w = .ok (r && q) w := by
  unfold Op.eqFields
  rw [if_pos hn]
  simp only [Sem.run_bind, pa, pb, he, Result.andThen_ok, Sem.run_ite]
  cases r
  · rfl
  · exact hr
theorem eqF_last {P : Program} {d : Nat} {xs ys : Array Value} {f : Field} {w : World} {a b : Value} {r : Bool} (hn : f.name ≠ "_") (pa : (part f.type xs f.offset).run P w = .ok a w) (pb : (part f.type ys f.offset).run P w = .ok b w)
    (he : (Op.equalIn d f.type a b).run P w = .ok r w) : (Op.eqFields d xs ys [f]).run P w = .ok r w := by
  have := eqF_cons (fs := []) (q := true) hn pa pb he (by unfold Op.eqFields; rfl)
  rwa [Bool.and_true] at this
theorem headD_eq (h k : HeadD) : (decide (h.prev = k.prev) && (decide (h.num = k.num) && (decide (h.ops = k.ops) && decide (h.tabs = k.tabs)))) = true ↔ h = k := by
  simp only [Bool.and_eq_true, decide_eq_true_eq]
  constructor
  · rintro ⟨a, b, c, d⟩; cases h; cases k; simp_all
  · rintro rfl; exact ⟨rfl, rfl, rfl, rfl⟩
def eqH (h k : HeadD) : Bool := decide (h.prev = k.prev) && (decide (h.num = k.num) && (decide (h.ops = k.ops) && decide (h.tabs = k.tabs)))
theorem eqH_iff (h k : HeadD) : eqH h k = true ↔ h = k := headD_eq h k
theorem eqH_refl (h : HeadD) : eqH h h = true := (eqH_iff h h).2 rfl
end Go.Proofs.Ytgcbodpjidoanaa
namespace Go.Proofs.Ytgcbodpjidoanaa
open Go.RowKit

theorem sides_succ (f : Nat → Nat) (k : Nat) : (sides f (k + 1)).sum = (sides f k).sum + f k := by simp [sides, List.range_succ]
theorem sides_congr (f g : Nat → Nat) : ∀ k, (∀ i, i < k → f i = g i) → (sides f k).sum = (sides g k).sum
  | 0, _ => rfl
  | k + 1, h => by rw [sides_succ, sides_succ, sides_congr f g k fun i hi => h i (by omega), h k (by omega)]
theorem sides_mono (f g : Nat → Nat) : ∀ k, (∀ i, i < k → f i ≤ g i) → (sides f k).sum ≤ (sides g k).sum
  | 0, _ => Nat.le_refl _
  | k + 1, h => by rw [sides_succ, sides_succ]; have := sides_mono f g k fun i hi => h i (by omega); have := h k (by omega); omega
theorem sides_add (f g : Nat → Nat) : ∀ k, (sides (fun i => f i + g i) k).sum = (sides f k).sum + (sides g k).sum
  | 0 => rfl
  | k + 1 => by rw [sides_succ, sides_succ, sides_succ, sides_add f g k]; omega
theorem sides_zero (f : Nat → Nat) : ∀ k, (sides f k).sum = 0 ↔ ∀ i, i < k → f i = 0
  | 0 => by simp [sides]
  | k + 1 => by
    rw [sides_succ]
    constructor
    · intro h i hi
      have h1 := (sides_zero f k).1 (by omega)
      rcases Nat.lt_or_ge i k with h2 | h2
      · exact h1 i h2
      · obtain rfl : i = k := by omega
        omega
    · intro h
      rw [(sides_zero f k).2 fun i hi => h i (by omega), h k (by omega)]
theorem dpt_comm (p q : List Int) (n : Nat) : dpt p q n = dpt q p n := sides_congr _ _ n fun i _ => by unfold apart; omega
/-- the first k numbers are the same -/
def eqTo (p q : List Int) (k : Nat) : Bool := (List.range k).all fun i => p.getD i 0 == q.getD i 0
theorem eqTo_succ (p q : List Int) (k : Nat) : eqTo p q (k + 1) = (eqTo p q k && (p.getD k 0 == q.getD k 0)) := by simp [eqTo, List.range_succ]
theorem eqTo_iff (p q : List Int) (k : Nat) : eqTo p q k = true ↔ ∀ i, i < k → p.getD i 0 = q.getD i 0 := by simp [eqTo]
theorem dpt_zero (p q : List Int) (n : Nat) : dpt p q n = 0 ↔ eqTo p q n = true := by
  rw [eqTo_iff]
  unfold dpt
  rw [sides_zero]
  constructor
  · intro h i hi; have := h i hi; unfold apart at this; omega
  · intro h i hi; have := h i hi; show apart _ _ = 0; unfold apart; omega
theorem dpt_tri (p q r : List Int) (n : Nat) : dpt p q n ≤ dpt p r n + dpt r q n := by
  unfold dpt
  rw [← sides_add]
  exact sides_mono _ _ n fun i _ => by unfold apart; omega
/-- the nearest number of a side -/
def clamp (x lo hi : Int) : Int := if hi < if x < lo then lo else x then hi else if x < lo then lo else x
theorem gap_le (x y lo hi : Int) (h : lo ≤ hi) : gap x lo hi ≤ apart x (clamp y lo hi) := by
  unfold gap apart clamp
  (repeat' split) <;> omega
theorem gap_eq (x lo hi : Int) (h : lo ≤ hi) : gap x lo hi = apart x (clamp x lo hi) := by
  unfold gap apart clamp
  (repeat' split) <;> omega
/-- side by side -/
def clamps (q lo hi : List Int) (k : Nat) : List Int := (List.range k).map fun i => clamp (q.getD i 0) (lo.getD i 0) (hi.getD i 0)
theorem clamps_len (q lo hi : List Int) (k : Nat) : (clamps q lo hi k).length = k := by simp [clamps]
theorem clamps_get (q lo hi : List Int) (k i : Nat) (h : i < k) : (clamps q lo hi k).getD i 0 = clamp (q.getD i 0) (lo.getD i 0) (hi.getD i 0) := by simp [clamps, List.getD, List.getElem?_map, List.getElem?_range h]
theorem clamp_I {q lo hi : Int} (h1 : I64 q) (h2 : I64 lo) (h3 : I64 hi) : I64 (clamp q lo hi) := by unfold clamp I64 at *; (repeat' split) <;> omega
theorem clamps_I (q lo hi : List Int) (k : Nat) (h1 : IsI q) (h2 : IsI lo) (h3 : IsI hi) : IsI (clamps q lo hi k) := fun i => by
  rcases Nat.lt_or_ge i k with h | h
  · rw [clamps_get _ _ _ _ _ h]; exact clamp_I (h1 i) (h2 i) (h3 i)
  · rw [getD_out _ _ _ (by rw [clamps_len]; omega)]; omega
theorem dbox_le (p q lo hi : List Int) (n : Nat) (h : ∀ i, i < n → lo.getD i 0 ≤ hi.getD i 0) : dbox p lo hi n ≤ dpt p (clamps q lo hi n) n :=
  sides_mono _ _ n fun i hi' => by rw [clamps_get _ _ _ _ _ hi']; exact gap_le _ _ _ _ (h i hi')
theorem dbox_eq (p lo hi : List Int) (n : Nat) (h : ∀ i, i < n → lo.getD i 0 ≤ hi.getD i 0) : dbox p lo hi n = dpt p (clamps p lo hi n) n :=
  sides_congr _ _ n fun i hi' => by rw [clamps_get _ _ _ _ _ hi']; exact gap_eq _ _ _ (h i hi')
/-- the way by a third point, as the law reckons it -/
theorem third (C D : Nat) (hC : C < 147573952589676412928) (hD : D < 147573952589676412928) :
    (C + D % 18446744073709551616) % 340282366920938463463374607431768211456 = C + D % 18446744073709551616 ∧
    IntKind.u64.wrap (((C + D % 18446744073709551616) / 18446744073709551616 : Nat) + (D / 18446744073709551616 : Nat) : Int) = ((C + D) / 18446744073709551616 : Nat) ∧
    (C + D % 18446744073709551616) % 18446744073709551616 = (C + D) % 18446744073709551616 := by
  refine ⟨by omega, ?_, by omega⟩
  simp only [IntKind.wrap, IntKind.signed, IntKind.bits]
  simp
  omega
end Go.Proofs.Ytgcbodpjidoanaa
namespace Go.Proofs.Ytgcbodpjidoanaa
open Go.RowKit
theorem eqTo_all {p q : List Int} (h : q.length = p.length) : eqTo p q p.length = decide (p = q) := by
  rw [Bool.eq_iff_iff, eqTo_iff, decide_eq_true_iff]
  constructor
  · intro he
    refine List.ext_getElem? fun i => ?_
    rcases Nat.lt_or_ge i p.length with hi | hi
    · have := he i hi
      unfold List.getD at this
      rw [List.getElem?_eq_getElem hi, List.getElem?_eq_getElem (by omega)] at this ⊢
      simpa using this
    · simp [hi, h]
  · intro he; subst he; intros; rfl

set_option maxRecDepth 100000 in
set_option maxHeartbeats 1000000 in
theorem sameRow_any (A B : Option Addr) (p q : List Int) (c d : Nat) (w : World) (hA : Arr w w.heap.size A p.length (i64s p)) (hB : Arr w w.heap.size B q.length (i64s q)) (hn : p.length ≤ 17592186043904) :
    Calls Try.prog 84 #[.slice A p.length c, .slice B q.length d] w fun e w' => e = .returned (.bool (decide (p = q))) ∧ Below w.heap.size w w' := by
  by_cases hl : q.length = p.length
  case neg =>
    have t : ((p.length : Int) != q.length) = true := by simp; omega
    have hr := hideP (show decide (p = q) = false by simp; intro h; subst h; exact hl rfl)
    clear hl
    go_enter Try.func84, Try.ntmps84
    go_wp2
    go_ret
    exact ⟨by rw [hr.out]; rfl, Below.refl _ _⟩
  have hr := hideP (eqTo_all hl)
  rw [hl] at hB ⊢
  obtain ⟨n, hn'⟩ : ∃ n, n = p.length := ⟨_, rfl⟩
  rw [← hn'] at hA hB hn hr ⊢
  clear hl hn'
  have HhA := hideP hA; have HhB := hideP hB; clear hA hB
  go_enter Try.func84, Try.ntmps84
  go_wp2
  go_loopw [5] (fun v5 wr => ∃ k : Nat, k ≤ n ∧ v5 = .int .i64 k ∧ Hid (eqTo p q k = true ∧ Below w.heap.size w wr)) (fun v5 _ => n - (intOf v5).toNat)
  case atStart => exact ⟨0, by omega, rfl, rfl, Below.refl _ _⟩
  case round =>
    obtain ⟨k, hk, rfl, hW⟩ := hrel
    by_cases hlt : k < n
    · have t' : decide ((k : Int) < n) = true := by simp; omega
      obtain ⟨b, off, rfl, hb, hc⟩ := (HhA.out.below hW.out.2) (by omega)
      obtain ⟨b', off', rfl, hb', hc'⟩ := (HhB.out.below hW.out.2) (by omega)
      have k1 := hc k hlt
      have k2 := hc' k hlt
      unfold i64s at k1 k2
      have hst := eqTo_succ p q k
      have hfl := fun h : eqTo p q (k + 1) = false => (show eqTo p q n = false by
        have : ¬ eqTo p q n = true := fun h2 => by
          rw [eqTo_iff] at h2
          have : eqTo p q (k + 1) = true := by rw [eqTo_iff]; exact fun i hi => h2 i (by omega)
          rw [h] at this; cases this
        simpa using this)
      obtain ⟨x, ex⟩ : ∃ x, x = p.getD k 0 := ⟨_, rfl⟩
      obtain ⟨y, ey⟩ : ∃ y, y = q.getD k 0 := ⟨_, rfl⟩
      rw [← ex] at k1 hst
      rw [← ey] at k2 hst
      rw [hW.out.1, Bool.true_and] at hst
      clear ex ey hc hc' hb hb'
      by_cases hxy : x = y
      · subst hxy
        have t : (x != x) = false := by simp
        have hs := hideP (show eqTo p q (k + 1) = true by rw [hst]; simp)
        clear hst hfl
        go_wp2
        refine wp_region_eager 9 [(true, 0), (true, 1), (true, 2), (true, 3), (true, 4), (true, 5), (true, 6), (true, 7), (true, 8)] (by kernel_rfl) (by kernel_rfl) ?_
        simp only [pick, List.map_cons, List.map_nil, nthO_zero, nthO_succ]
        repeat (first
          | (refine wpPlan_skipK (by rfl) (fun K hK => ?_); go_simp; refine hK _ ?_; clear hK K)
          | (refine wpPlan_valK (by rfl) (fun K hK => ?_); apply Exists.intro; refine ⟨fun W hW => ?_, ?_⟩; (focus (have hs0 := hW.cell k1; have hs1 := hW.cell k2; go_simp; (try rfl); done)); go_simp; refine hK _ ?_; clear hK K))
        refine wpPlan_nil (fun W1 hW0 => ?_)
        simp only [List.drop_succ_cons, List.drop_zero, List.drop_nil]
        have fb := hideP (below_ext hW.out.2 hW0.drew_left)
        clear hW hW0 k1 k2
        go_wp2
        go_roundw
        case rel => exact ⟨k + 1, by omega, by go_num, hs.out, fb.out⟩
        case measure => simp [intOf]; omega
      · have t : (x != y) = true := by simp [hxy]
        have hs := hideP (hfl (by rw [hst]; simp [hxy]))
        clear hst hfl hxy
        go_wp2
        refine wp_region_eager 9 [(true, 0), (true, 1), (true, 2), (true, 3), (true, 4), (true, 5), (true, 6), (true, 7), (true, 8)] (by kernel_rfl) (by kernel_rfl) ?_
        simp only [pick, List.map_cons, List.map_nil, nthO_zero, nthO_succ]
        repeat (first
          | (refine wpPlan_skipK (by rfl) (fun K hK => ?_); go_simp; refine hK _ ?_; clear hK K)
          | (refine wpPlan_valK (by rfl) (fun K hK => ?_); apply Exists.intro; refine ⟨fun W hW => ?_, ?_⟩; (focus (have hs0 := hW.cell k1; have hs1 := hW.cell k2; go_simp; (try rfl); done)); go_simp; refine hK _ ?_; clear hK K))
        refine wpPlan_nil (fun W1 hW0 => ?_)
        simp only [List.drop_succ_cons, List.drop_zero, List.drop_nil]
        have fb := hideP (below_ext hW.out.2 hW0.drew_left)
        clear hW hW0 k1 k2
        go_wp2
        go_ret
        exact ⟨by rw [← hr.out, hs.out]; rfl, fb.out⟩
    · have t' : decide ((k : Int) < n) = false := by simp; omega
      obtain rfl : k = n := by omega
      go_wp2
      go_ret
      exact ⟨by rw [← hr.out, hW.out.1]; rfl, hW.out.2⟩

set_option maxRecDepth 100000 in
set_option maxHeartbeats 1000000 in
theorem same_any (L H L' H' : Option Addr) (lo hi lo' hi' : List Int) (dl sh dl' sh' : Nat) (w : World) (hL : Arr w w.heap.size L lo.length (i64s lo)) (hH : Arr w w.heap.size H hi.length (i64s hi))
    (hL' : Arr w w.heap.size L' lo'.length (i64s lo')) (hH' : Arr w w.heap.size H' hi'.length (i64s hi')) (hn : lo.length ≤ 17592186043904) (hm : hi.length ≤ 17592186043904) :
    Calls Try.prog 83 #[.agg #[.slice L lo.length dl, .slice H hi.length sh], .agg #[.slice L' lo'.length dl', .slice H' hi'.length sh']] w fun e w' => e = .returned (.bool (decide (lo = lo' ∧ hi = hi'))) ∧ Below w.heap.size w w' := by
  have t1 := fun W h h' => sameRow_any L L' lo lo' dl dl' W h h' hn
  have t2 := fun W h h' => sameRow_any H H' hi hi' sh sh' W h h' hm
  obtain ⟨p, hp⟩ : ∃ p, p = decide (lo = lo') := ⟨_, rfl⟩
  obtain ⟨q, hq⟩ : ∃ p, p = decide (hi = hi') := ⟨_, rfl⟩
  have hb := hideP (show decide (lo = lo' ∧ hi = hi') = (p && q) by rw [hp, hq]; simp)
  rw [← hp] at t1
  rw [← hq] at t2
  clear hp hq hn hm
  have Ht1 := hideP t1; have Ht2 := hideP t2; have HhL := hideP hL; have HhH := hideP hH; have HhL' := hideP hL'; have HhH' := hideP hH'; clear t1 t2 hL hH hL' hH'
  go_enter Try.func83, Try.ntmps83
  go_wp2_with fail
  obtain ⟨w1, hw1⟩ : ∃ w1, w1 = (w.alloc (Obj.cells #[.slice L lo.length dl, .slice H hi.length sh] 41)).alloc (Obj.cells #[.slice L' lo'.length dl', .slice H' hi'.length sh'] 41) := ⟨_, rfl⟩
  have c1 := hideP (show Two w1 w.heap.size 41 (.slice L lo.length dl) (.slice H hi.length sh) by rw [hw1]; exact (Two.new _ _ _ _).alloc _)
  have c2 := hideP (show Two w1 (w.heap.size + 1) 41 (.slice L' lo'.length dl') (.slice H' hi'.length sh') by rw [hw1]; exact Two.new' _ _ _ _ _ (by simp))
  have cb := hideP (show Below w.heap.size w w1 by rw [hw1]; exact (below_new _ _).alloc (by simp) _)
  rw [← hw1]
  clear hw1
  have kc10 := c1.out.c0; have kc11 := c1.out.c1
  have kc20 := c2.out.c0; have kc21 := c2.out.c1
  refine (Ht1.out w1 (HhL.out.after cb.out) (HhL'.out.after cb.out)).mono ?_
  rintro e w2 ⟨rfl, hb'⟩
  clear kc10 kc11 kc20 kc21
  replace c1 := hideP (c1.out.after hb')
  replace c2 := hideP (c2.out.after hb')
  replace cb := hideP (bstep cb.out hb')
  clear hb'
  cases p
  · go_wp2
    go_ret
    exact ⟨by rw [hb.out]; rfl, cb.out⟩
  · skip
    have kc10 := c1.out.c0; have kc11 := c1.out.c1
    have kc20 := c2.out.c0; have kc21 := c2.out.c1
    go_wp2_with fail
    refine (Ht2.out w2 (HhH.out.after cb.out) (HhH'.out.after cb.out)).mono ?_
    rintro e w3 ⟨rfl, hb'⟩
    clear kc10 kc11 kc20 kc21
    replace cb := hideP (bstep cb.out hb')
    clear hb'
    go_wp2
    go_ret
    exact ⟨by rw [hb.out]; rfl, cb.out⟩
end Go.Proofs.Ytgcbodpjidoanaa
