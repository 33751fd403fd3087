/- Contracts of codec.Writer's put, Byte, Truth, Count. Contracts of codec.Writer's Count, Text, Err, Bytes. Plain laws of Morton codes: bits, bytes, words. Contract of codec.Writer's Num. -/
import Derived.Test.YtgcbodpjidoanaaK1
import Derived.Test.YtgcbodpjidoanaaK2
import Derived.Test.YtgcbodpjidoanaaK5
import Derived.Test.YtgcbodpjidoanaaK9
set_option linter.unusedVariables false
set_option linter.unusedSimpArgs false
namespace Go.Proofs.Ytgcbodpjidoanaa
open Go.RowKit
/-- from w to w' only blocks of S have changed; S' is S and some new ones -/
structure Mv (S : Nat → Prop) (w : World) (S' : Nat → Prop) (w' : World) : Prop where
  but : But S w w'
  new : ∀ b, S' b → S b ∨ w.heap.size ≤ b
section
variable {S S1 S2 : Nat → Prop} {w w1 w2 : World}
theorem Mv.refl (S : Nat → Prop) (w : World) : Mv S w S w := ⟨But.refl w, fun _ h => .inl h⟩
theorem Mv.size (h : Mv S w S1 w1) : w.heap.size ≤ w1.heap.size := h.but.size
theorem Mv.trans (h : Mv S w S1 w1) (k : Mv S1 w1 S2 w2) : Mv S w S2 w2 := by
  refine ⟨⟨Nat.le_trans h.but.size k.but.size, fun b hb hn => ?_, k.but.os.trans h.but.os, k.but.tape.trans h.but.tape, k.but.output.trans h.but.output⟩, fun b hb => ?_⟩
  · refine (k.but.block b (Nat.lt_of_lt_of_le hb h.but.size) fun h1 => ?_).trans (h.but.block b hb hn)
    rcases h.new b h1 with h2 | h2
    · exact hn h2
    · omega
  · rcases k.new b hb with h1 | h1
    · exact h.new b h1
    · exact .inr (Nat.le_trans h.but.size h1)
theorem Mv.ext (S : Nat → Prop) (h : Ext w w1) : Mv S w S w1 := ⟨But.of_ext h, fun _ h => .inl h⟩
theorem Mv.alloc (S : Nat → Prop) (w : World) (o : Obj) : Mv S w S (w.alloc o) := Mv.ext S (Ext.alloc w o)
theorem Mv.below {B : Nat} (h : Mv S w S1 w1) (hS : ∀ b, S b → B ≤ b) (hB : B ≤ w.heap.size) : Below B w w1 :=
  ⟨h.but.os, h.but.tape, h.but.output, h.but.size, fun k hk => h.but.block k (Nat.lt_of_lt_of_le hk hB) fun hs => by have := hS k hs; omega⟩
theorem Mv.not {b : Nat} (h : Mv S w S1 w1) (hb : b < w.heap.size) (hn : ¬ S b) : ¬ S1 b := fun hs => by
  rcases h.new b hs with h1 | h1
  · exact hn h1
  · omega
theorem Mv.cell {p : Addr} {v : Value} (h : Mv S w S1 w1) (hn : ¬ S p.block) (hc : w.cell? p = some v) : w1.cell? p = some v := h.but.cell hc hn
end
/-- n elements of one cell each, in a block that is none of S's -/
def ArrN (S : Nat → Prop) (w : World) (A : Option Addr) (n : Nat) (f : Nat → Value) : Prop := 0 < n → ∃ b off, A = some ⟨b, off, none⟩ ∧ b < w.heap.size ∧ ¬ S b ∧ ∀ i, i < n → w.cell? ⟨b, off + i, none⟩ = some (f i)
section
variable {S S1 : Nat → Prop} {w w1 : World} {A : Option Addr} {n : Nat} {f : Nat → Value}
theorem ArrN.mv (h : ArrN S w A n f) (m : Mv S w S1 w1) : ArrN S1 w1 A n f := fun hn => by
  obtain ⟨b, off, e, hb, hs, hc⟩ := h hn
  exact ⟨b, off, e, Nat.lt_of_lt_of_le hb m.size, m.not hb hs, fun i hi => m.cell hs (hc i hi)⟩
theorem ArrN.arr (h : ArrN S w A n f) : Arr w w.heap.size A n f := fun hn => by
  obtain ⟨b, off, e, hb, _, hc⟩ := h hn
  exact ⟨b, off, e, hb, hc⟩
theorem ArrN.of_low {B : Nat} (h : Arr w B A n f) (hB : B ≤ w.heap.size) (hS : ∀ b, S b → B ≤ b) : ArrN S w A n f := fun hn => by
  obtain ⟨b, off, e, hb, hc⟩ := h hn
  exact ⟨b, off, e, Nat.lt_of_lt_of_le hb hB, fun hs => by have := hS b hs; omega, hc⟩
/-- what lay ahead of w1's making is none of S's, S's being older -/
theorem ArrN.of_new {g : Nat} (hS : ∀ b, S b → b < g) (h : Arr w w.heap.size A n f) (hA : ∀ b off s, A = some ⟨b, off, s⟩ → g ≤ b) : ArrN S w A n f := fun hn => by
  obtain ⟨b, off, e, hb, hc⟩ := h hn
  exact ⟨b, off, e, hb, fun hs => by have := hS b hs; have := hA b off none e; omega, hc⟩
theorem ArrN.front (h : ArrN S w A n f) {k : Nat} (hk : k ≤ n) : ArrN S w A k f := fun hn => by
  obtain ⟨b, off, e, hb, hs, hc⟩ := h (by omega)
  exact ⟨b, off, e, hb, hs, fun i hi => hc i (by omega)⟩
end
theorem butA {w w' : World} {A : Option Addr} {n c : Nat} (h : w.grownBy w' (Value.slice A n c).ownBlock) : But (fun b => ∃ off s, A = some ⟨b, off, s⟩) w w' :=
  ⟨h.size, fun k hk hn => h.block k hk (fun e => by
    rcases A with _ | ⟨b, off, s⟩
    · simp [Value.ownBlock] at e
    · simp [Value.ownBlock] at e
      exact hn ⟨off, s, by rw [e]⟩), h.os, h.tape, h.output⟩
theorem wpList_appN {ops : Array Oper} {rest : List Oper} {o : Oper} {a : Act} {w : World} {Q : Exit → Act → World → Prop} (hgd : o.guard = none) (s x : Operand)
    (ho : o.op = .call { callee := .builtin .append, args := #[s, x], argTypes := #[22, 22] }) (base : Nat) (A : Option Addr) (c n : Nat) (l : List Nat) (hl : n = l.length) (hs : a.eval s = .slice A n c) (hown : OwnB w base A c l)
    (B : Nat) (X : Option Addr) (m d : Nat) (k : List Nat) (hk : m = k.length) (hx : a.eval x = .slice X m d) (hX : Arr w B X m (u8s k)) (hn : n + m ≤ 140737488355000) (hbase : base ≤ w.heap.size)
    (h : ∀ A' c' w', OwnB w' base A' c' (l ++ k) → But (fun b => ∃ off s, A = some ⟨b, off, s⟩) w w' → (∀ b off s, A' = some ⟨b, off, s⟩ → (∃ off s, A = some ⟨b, off, s⟩) ∨ w.heap.size ≤ b) → wpList Try.prog ops Q rest (a.put o.dst (.slice A' (n + m) c')) w') : wpList Try.prog ops Q (o :: rest) a w := by
  obtain ⟨i0, hi0, hz0, hz1, hz2⟩ := info_parts info_b8
  subst hl hk
  refine wpList_append_arr w hgd s x 22 ho base 5 i0 _ 1 Try.underlying22 hi0 hz0 hz1 hz2 rfl (.slice A l.length c) l.length (l.map b8) hs hown B X k.length d (u8s k) hx hX (fun _ => rfl) (by unfold maxLen; omega) (by omega) hbase ?_
  intro A3 c3 w3 hown3 hg3 hat3
  refine h _ _ w3 ?_ (butA hg3) fun b off s e => ?_
  · unfold OwnB
    rw [List.length_append, List.map_append, ← map_u8s k]
    exact hown3
  · subst e
    rcases hat3 with h1 | h1
    · rcases A with _ | ⟨b', off', s'⟩
      · simp [Value.ownBlock] at h1
      · simp [Value.ownBlock] at h1
        exact .inl ⟨off', s', by rw [h1]⟩
    · simp [Value.ownBlock] at h1
      exact .inr (by omega)
/-- a writer that has written l, its error e; S: its blocks -/
def Wr (w : World) (S : Nat → Prop) (g : Nat) (l : List Nat) (e : Int) : Prop :=
  ∃ A c, Two w g 168 (.slice A l.length c) (.int .i64 e) ∧ OwnB w (g + 1) A c l ∧ IsB l ∧ S g ∧ (∀ b off s, A = some ⟨b, off, s⟩ → S b) ∧ ∀ b, S b → g ≤ b ∧ b < w.heap.size
/-- what a call has done to a writer of S -/
def WrP (S : Nat → Prop) (w w' : World) (g : Nat) (l : List Nat) (e : Int) : Prop := ∃ S', Mv S w S' w' ∧ Wr w' S' g l e
section
variable {w w' : World} {S : Nat → Prop} {g : Nat} {l : List Nat} {e : Int}
theorem Wr.lt (h : Wr w S g l e) : g < w.heap.size := by obtain ⟨A, c, h1, _⟩ := h; exact h1.lt
theorem Wr.isB (h : Wr w S g l e) : IsB l := by obtain ⟨A, c, _, _, h, _⟩ := h; exact h
theorem Wr.low (h : Wr w S g l e) : ∀ b, S b → g ≤ b := by obtain ⟨A, c, _, _, _, _, _, h⟩ := h; exact fun b hb => (h b hb).1
theorem Wr.old (h : Wr w S g l e) : ∀ b, S b → b < w.heap.size := by obtain ⟨A, c, _, _, _, _, _, h⟩ := h; exact fun b hb => (h b hb).2
theorem Wr.ext (h : Wr w S g l e) (hW : Ext w w') : Wr w' S g l e := by
  obtain ⟨A, c, h1, h2, h3, h4, h5, h6⟩ := h
  exact ⟨A, c, h1.ext hW, h2.ext hW, h3, h4, h5, fun b hb => ⟨(h6 b hb).1, Nat.lt_of_lt_of_le (h6 b hb).2 hW.size⟩⟩
theorem Wr.after (h : Wr w S g l e) (hW : Below w.heap.size w w') : Wr w' S g l e := h.ext (Ext.of_below hW)
theorem Wr.notnew (h : Wr w S g l e) : ¬ S w.heap.size := fun hs => Nat.lt_irrefl _ (h.old _ hs)
theorem WrP.below (hS : Wr w S g l e) {l' : List Nat} {e' : Int} (h : WrP S w w' g l' e') : Below g w w' := by
  obtain ⟨S', m, _⟩ := h
  exact m.below hS.low (Nat.le_of_lt hS.lt)
theorem WrP.then {S1 : Nat → Prop} {w1 : World} {l' : List Nat} {e' : Int} (m : Mv S w S1 w1) (h : WrP S1 w1 w' g l' e') : WrP S w w' g l' e' := by
  obtain ⟨S', m', h'⟩ := h
  exact ⟨S', m.trans m', h'⟩
end
theorem Two.set0 {w : World} {g : Nat} {t : TypeId} {x y : Value} (h : Two w g t x y) (u : Value) : Two (w.setCell ⟨g, 0, none⟩ u) g t u y := by
  have := Row.set (show Row w g t [x, y] from h) 0 u; exact this
theorem Two.set1 {w : World} {g : Nat} {t : TypeId} {x y : Value} (h : Two w g t x y) (u : Value) : Two (w.setCell ⟨g, 1, none⟩ u) g t x u := by
  have := Row.set (show Row w g t [x, y] from h) 1 u; exact this
theorem OwnB.setLow {w : World} {base c g : Nat} {A : Option Addr} {l : List Nat} (h : OwnB w base A c l) (hg : g < base) (o : Nat) (v : Value) : OwnB (w.setCell ⟨g, o, none⟩ v) base A c l := by
  unfold OwnB at h ⊢
  exact ownsRow_setCell_below h hg v
theorem own_lt {w : World} {base c : Nat} {A : Option Addr} {l : List Nat} {b off : Nat} {s : _} (h : OwnB w base A c l) (hA : A = some ⟨b, off, s⟩) : b < w.heap.size := by
  rcases h.2 with ⟨hv, _⟩ | ⟨g, cap, cur, hv, hg, hh, _⟩
  · injection hv with h1 _ _; rw [hA] at h1; cases h1
  · injection hv with h1 _ _
    rw [hA] at h1
    injection h1 with h1
    injection h1 with h1 _ _
    rw [h1]
    exact (Array.getElem?_eq_some_iff.1 hh).1
theorem own_ge {w : World} {base c : Nat} {A : Option Addr} {l : List Nat} {b off : Nat} {s : _} (h : OwnB w base A c l) (hA : A = some ⟨b, off, s⟩) : base ≤ b := by
  rcases h.2 with ⟨hv, _⟩ | ⟨g, cap, cur, hv, hg, hh, _⟩
  · injection hv with h1 _ _; rw [hA] at h1; cases h1
  · injection hv with h1 _ _
    rw [hA] at h1
    injection h1 with h1
    injection h1 with h1 _ _
    rw [h1]
    exact hg
theorem own_two {w w' : World} {g c : Nat} {A : Option Addr} {l : List Nat} {t : TypeId} {x y : Value} (hT : Two w g t x y) (hO : OwnB w (g + 1) A c l) (b : But (fun b => ∃ off s, A = some ⟨b, off, s⟩) w w') : Two w' g t x y :=
  (b.block g hT.lt fun ⟨off, s, h⟩ => by have := own_ge hO h; omega).trans hT
theorem wr_err {w : World} {S : Nat → Prop} {g : Nat} {l : List Nat} {e : Int} (h : Wr w S g l e) (f : Int) : WrP S w (w.setCell ⟨g, 1, none⟩ (.int .i64 f)) g l f := by
  obtain ⟨A, c, h1, h2, h3, h4, h5, h6⟩ := h
  exact ⟨S, ⟨But.set w ⟨g, 1, none⟩ _ h4, fun _ h => .inl h⟩, A, c, h1.set1 _, h2.setLow (Nat.lt_succ_self g) 1 _, h3, h4, h5, fun b hb => ⟨(h6 b hb).1, by simpa using (h6 b hb).2⟩⟩
theorem isB_one {x : Nat} (hx : x < 256) : IsB [x] := fun i => by
  rcases i with _ | i
  · simpa [List.getD] using hx
  · simp [List.getD]
set_option maxRecDepth 100000 in
set_option maxHeartbeats 1000000 in
theorem put_true (S : Nat → Prop) (g : Nat) (l k : List Nat) (e : Int) (X : Option Addr) (B c : Nat) (w : World) (hS : Wr w S g l e) (hX : Arr w B X k.length (u8s k)) (hk : IsB k) (hn : l.length + k.length ≤ 140737488355000) :
    Calls Try.prog 190 #[.pointer (some ⟨g, 0, none⟩), .bool true, .slice X k.length c] w fun e' w' => e' = .returned (.tuple #[]) ∧ WrP S w w' g (l ++ k) e := by
  obtain ⟨A, d, hT, hO, hl, hg, hA, hB⟩ := hS
  obtain ⟨K, hK⟩ : ∃ K, K = k.length := ⟨_, rfl⟩
  obtain ⟨L, hL⟩ : ∃ L, L = l.length := ⟨_, rfl⟩
  rw [← hK] at hX hn ⊢
  rw [← hL] at hT hn
  have c0 := hT.c0
  have f0 := hT.fz 0
  have z0 := hideP hT.lt
  have HhT := hideP hT; have HhO := hideP hO; have HhX := hideP hX; have HhK := hideP hK; have HhL := hideP hL; have Hhl := hideP hl; have Hhk := hideP hk; have Hhg := hideP hg; have HhA := hideP hA; have HhB := hideP hB; clear hT hO hX hK hL hl hk hg hA hB
  go_enter Try.func190, Try.ntmps190
  go_wp2_with (at_builtin; refine wpList_appN rfl (.tmp 15) (.tmp 16) rfl (g + 1) A d L l HhL.out rfl HhO.out B X K c k HhK.out rfl HhX.out (by omega) (by have := z0.out; omega) ?_; intro A3 c3 w3 o3 b3 n3; have T3 := hideP (own_two HhT.out HhO.out b3); have O3 := hideP o3; have B3 := hideP b3; have N3 := hideP n3; clear o3 b3 n3 c0 f0; have c0 := T3.out.c0; have f0 := T3.out.fz 0)
  refine bodyPost_end (results_none rfl _ _ _) rfl ⟨rfl, fun b => S b ∨ (w.heap.size ≤ b ∧ b < w3.heap.size), ⟨⟨?_, ?_, ?_, ?_, ?_⟩, ?_⟩, A3, c3, ?_, ?_, isB_append Hhl.out Hhk.out, .inl Hhg.out, ?_, ?_⟩
  · simpa using B3.out.size
  · intro b hb hn
    rw [Below.heap_setCell _ _ _ _ (show b ≠ g from fun h => hn (h ▸ Hhg.out))]
    exact B3.out.block b hb fun ⟨off, s, h⟩ => hn (HhA.out b off s h)
  · exact B3.out.os
  · exact B3.out.tape
  · exact B3.out.output
  · exact fun b hb => hb.imp id (·.1)
  · have := T3.out.set0 (.slice A3 (L + K) c3)
    rw [List.length_append, ← HhL.out, ← HhK.out]
    exact this
  · exact O3.out.setLow (Nat.lt_succ_self g) 0 _
  · intro b off s h
    have hlt : b < w3.heap.size := own_lt O3.out h
    rcases N3.out b off s h with ⟨o', s', h1⟩ | h1
    · exact .inl (HhA.out b o' s' h1)
    · exact .inr ⟨h1, hlt⟩
  · have hsz : w.heap.size ≤ w3.heap.size := B3.out.size
    intro b hb
    rcases hb with hb | hb
    · exact ⟨(HhB.out b hb).1, by simpa using Nat.lt_of_lt_of_le (HhB.out b hb).2 hsz⟩
    · exact ⟨by have := z0.out; omega, by simpa using hb.2⟩
set_option maxRecDepth 100000 in
set_option maxHeartbeats 1000000 in
theorem put_false (S : Nat → Prop) (g : Nat) (l : List Nat) (e : Int) (X : Value) (w : World) (hS : Wr w S g l e) :
    Calls Try.prog 190 #[.pointer (some ⟨g, 0, none⟩), .bool false, X] w fun e' w' => e' = .returned (.tuple #[]) ∧ WrP S w w' g l 10 := by
  have HS := hideP hS
  obtain ⟨A, d, hT, hO, hl, hg, hA, hB⟩ := hS
  have c0 := hT.c1
  have f0 := hT.fz 1
  have HhT := hideP hT; have HhO := hideP hO; have Hhl := hideP hl; have Hhg := hideP hg; have HhA := hideP hA; have HhB := hideP hB; clear hT hO hl hg hA hB
  go_enter Try.func190, Try.ntmps190
  go_wp2
  refine bodyPost_ret (results_none rfl _ _ _) rfl ⟨rfl, wr_err HS.out 10⟩
set_option maxRecDepth 100000 in
set_option maxHeartbeats 1000000 in
theorem wbyte_any (S : Nat → Prop) (g : Nat) (l : List Nat) (x : Nat) (e : Int) (w : World) (hS : Wr w S g l e) (hx : x < 256) (hn : l.length ≤ 140737488354000) :
    Calls Try.prog 120 #[.pointer (some ⟨g, 0, none⟩), .int .u8 (x : Nat)] w fun e' w' => e' = .returned (.tuple #[]) ∧ WrP S w w' g (l ++ [x]) e := by
  have hX := hideP (show Arr (w.alloc (.cells #[.int .u8 (x : Nat)] 5)) _ (some ⟨w.heap.size, 0, none⟩) [x].length (u8s [x]) from (OwnB.lit1 w x).arr)
  have h1 := hideP (show Wr (w.alloc (.cells #[.int .u8 (x : Nat)] 5)) S g l e from hS.ext (Ext.alloc _ _))
  have hk := hideP (isB_one hx)
  have HhS := hideP hS; clear hS
  go_enter Try.func120, Try.ntmps120
  go_wp2_with (go_at_call 190; refine (put_true S g l [x] e _ _ 1 _ h1.out hX.out hk.out (by simpa using (show l.length + 1 ≤ 140737488355000 by omega))).mono ?_; rintro e1 w1 ⟨rfl, s1⟩)
  exact bodyPost_end (results_none rfl _ _ _) rfl ⟨rfl, WrP.then (Mv.alloc _ _ _) s1⟩
set_option maxRecDepth 100000 in
set_option maxHeartbeats 1000000 in
theorem wtruth_any (S : Nat → Prop) (g : Nat) (l : List Nat) (x : Bool) (e : Int) (w : World) (hS : Wr w S g l e) (hn : l.length ≤ 140737488354000) :
    Calls Try.prog 172 #[.pointer (some ⟨g, 0, none⟩), .bool x] w fun e' w' => e' = .returned (.tuple #[]) ∧ WrP S w w' g (l ++ [if x then 1 else 0]) e := by
  have HhS := hideP hS; clear hS
  cases x
  · go_enter Try.func172, Try.ntmps172
    go_wp2_with (go_at_call 120; refine (wbyte_any S g l 0 e _ HhS.out (by decide) hn).mono ?_; rintro e1 w1 ⟨rfl, s1⟩)
    exact bodyPost_end (results_none rfl _ _ _) rfl ⟨rfl, s1⟩
  · go_enter Try.func172, Try.ntmps172
    go_wp2_with (go_at_call 120; refine (wbyte_any S g l 1 e _ HhS.out (by decide) hn).mono ?_; rintro e1 w1 ⟨rfl, s1⟩)
    exact bodyPost_ret (results_none rfl _ _ _) rfl ⟨rfl, s1⟩
end Go.Proofs.Ytgcbodpjidoanaa
namespace Go.Proofs.Ytgcbodpjidoanaa
open Go.RowKit
/-- a count's bytes -/
def be3 (n : Nat) : List Nat := [n / 65536 % 256, n / 256 % 256, n % 256]
theorem isB_be3 (n : Nat) : IsB (be3 n) := fun i => by
  rcases i with _ | _ | _ | i <;> simp [be3, List.getD] <;> omega
theorem lit3 (w : World) (a b c : Nat) : OwnB (w.alloc (.cells #[b8 a, b8 b, b8 c] 5)) w.heap.size (some ⟨w.heap.size, 0, none⟩) 3 [a, b, c] := World.ownsRow_lit w #[b8 a, b8 b, b8 c] 3 (Nat.le_refl _) (by decide) rfl
set_option maxRecDepth 100000 in
set_option maxHeartbeats 400000 in
theorem wcount_any (S : Nat → Prop) (g : Nat) (l : List Nat) (n : Nat) (e : Int) (w : World) (hS : Wr w S g l e) (hx : n ≤ 1048576) (hn : l.length ≤ 140737488354000) :
    Calls Try.prog 175 #[.pointer (some ⟨g, 0, none⟩), .int .i64 (n : Nat)] w fun e' w' => e' = .returned (.tuple #[]) ∧ WrP S w w' g (l ++ be3 n) e := by
  obtain ⟨a, ha⟩ : ∃ a, a = n / 65536 := ⟨_, rfl⟩
  obtain ⟨b, hb⟩ : ∃ b, b = n / 256 % 256 := ⟨_, rfl⟩
  obtain ⟨c, hc⟩ : ∃ c, c = n % 256 := ⟨_, rfl⟩
  have hE := hideP (show be3 n = [a, b, c] by rw [ha, hb, hc]; unfold be3; rw [Nat.mod_eq_of_lt (show n / 65536 < 256 by omega)])
  have ha' : (n : Int) / 65536 = (a : Int) := by omega
  have hb' : (n : Int) / 256 % 256 = (b : Int) := by omega
  have hc' : (n : Int) % 256 = (c : Int) := by omega
  have hz := hideP (Nat.le_of_lt hS.lt)
  have hX := hideP (show Arr (w.alloc (.cells #[b8 a, b8 b, b8 c] 5)) _ (some ⟨w.heap.size, 0, none⟩) [a, b, c].length (u8s [a, b, c]) from (lit3 w a b c).arr)
  have h1 := hideP (show Wr (w.alloc (.cells #[b8 a, b8 b, b8 c] 5)) S g l e from hS.ext (Ext.alloc _ _))
  have hk := hideP (show IsB [a, b, c] by rw [← hE.out]; exact isB_be3 n)
  clear ha hb hc
  have HhS := hideP hS; clear hS
  have i0 : (n : Int) ≤ 1048576 := by omega
  go_enter Try.func175, Try.ntmps175
  go_wp2_with (go_at_call 190; refine (put_true S g l [a, b, c] e _ _ 3 _ h1.out hX.out hk.out (by simpa using (show l.length + 3 ≤ 140737488355000 by omega))).mono ?_; rintro e1 w1 ⟨rfl, s1⟩)
  rw [← hE.out] at s1
  exact bodyPost_end (results_none rfl _ _ _) rfl ⟨rfl, WrP.then (Mv.alloc _ _ _) s1⟩
theorem put_trueK (S : Nat → Prop) (g : Nat) (l k : List Nat) (e : Int) (X : Option Addr) (B c K : Nat) (w : World) (hK : K = k.length) (hS : Wr w S g l e) (hX : Arr w B X K (u8s k)) (hk : IsB k) (hn : l.length + k.length ≤ 140737488355000) :
    Calls Try.prog 190 #[.pointer (some ⟨g, 0, none⟩), .bool true, .slice X K c] w fun e' w' => e' = .returned (.tuple #[]) ∧ WrP S w w' g (l ++ k) e := by
  subst hK
  exact put_true S g l k e X B c w hS hX hk hn
set_option maxRecDepth 100000 in
set_option maxHeartbeats 400000 in
theorem wtext_any (S : Nat → Prop) (g : Nat) (l k : List Nat) (X : Option Addr) (K c : Nat) (e : Int) (w : World) (hS : Wr w S g l e) (hK : K = k.length) (hX : ArrN S w X K (u8s k)) (hk : IsB k) (hx : K ≤ 1048576) (hn : l.length ≤ 140737480000000) :
    Calls Try.prog 121 #[.pointer (some ⟨g, 0, none⟩), .slice X K c] w fun e' w' => e' = .returned (.tuple #[]) ∧ WrP S w w' g (l ++ (be3 K ++ k)) e := by
  have t2 : decide (1048576 < (K : Int)) = false := by simp; omega
  have hlen := hideP (show (l ++ be3 K).length + k.length ≤ 140737488355000 by rw [List.length_append, ← hK]; simp only [be3, List.length_cons, List.length_nil]; omega)
  have HhS := hideP hS; have HhX := hideP hX; have Hhk := hideP hk; have HhK := hideP hK; have Hhx := hideP hx; clear hS hX hk hK hx
  go_enter Try.func121, Try.ntmps121
  go_wp2_with (first
    | (go_at_call 175; refine (wcount_any S g l K e _ HhS.out Hhx.out (by omega)).mono ?_; rintro e1 w1 ⟨rfl, S1, m1, s1⟩; have SS := hideP s1; have M1 := hideP m1; have X1 := hideP (HhX.out.mv m1); clear s1 m1)
    | (go_at_call 190; refine (put_trueK S1 g (l ++ be3 K) k e X _ c K _ HhK.out SS.out X1.out.arr Hhk.out hlen.out).mono ?_; rintro e2 w2 ⟨rfl, s2⟩))
  rw [List.append_assoc] at s2
  exact bodyPost_end (results_none rfl _ _ _) rfl ⟨rfl, WrP.then M1.out s2⟩
set_option maxRecDepth 100000 in
set_option maxHeartbeats 400000 in
theorem wtext_long (S : Nat → Prop) (g : Nat) (l : List Nat) (X : Option Addr) (K c : Nat) (e : Int) (w : World) (hS : Wr w S g l e) (hx : 1048576 < K) :
    Calls Try.prog 121 #[.pointer (some ⟨g, 0, none⟩), .slice X K c] w fun e' w' => e' = .returned (.tuple #[]) ∧ WrP S w w' g l 10 := by
  have t1 : 1048576 < (K : Int) := by omega
  have HS := hideP hS
  obtain ⟨A, d, hT, hO, hl⟩ := hS
  have c0 := hT.c1
  have f0 := hT.fz 1
  have HhT := hideP hT; have HhO := hideP hO; have Hhl := hideP hl; clear hT hO hl
  go_enter Try.func121, Try.ntmps121
  go_wp2
  refine bodyPost_ret (results_none rfl _ _ _) rfl ⟨rfl, wr_err HS.out 10⟩
theorem werr_any (S : Nat → Prop) (g : Nat) (l : List Nat) (e : Int) (w : World) (hS : Wr w S g l e) :
    Calls Try.prog 124 #[.pointer (some ⟨g, 0, none⟩)] w fun e' w' => e' = .returned (.int .i64 e) ∧ w' = w := by
  obtain ⟨A, d, hT, hO, hl⟩ := hS
  have c0 := hT.c1
  have f0 := hT.fz 1
  have HhT := hideP hT; have HhO := hideP hO; have Hhl := hideP hl; clear hT hO hl
  go_enter Try.func124, Try.ntmps124
  go_wp2
  go_ret
  exact ⟨rfl, rfl⟩
end Go.Proofs.Ytgcbodpjidoanaa
namespace Go.Proofs.Ytgcbodpjidoanaa
open Go.RowKit
def pl (z : Int) : Nat := (z + 9223372036854775808).toNat
def rbit (p : List Int) (i : Nat) : Nat := pl (p.getD (i % p.length) 0) / 2 ^ (63 - i / p.length) % 2
def cutF (f : Nat → Nat) (n i : Nat) : Nat := if i < n then f i else 0
def byteOf (f : Nat → Nat) (j : Nat) : Nat := f (8*j) * 128 + f (8*j+1) * 64 + f (8*j+2) * 32 + f (8*j+3) * 16 + f (8*j+4) * 8 + f (8*j+5) * 4 + f (8*j+6) * 2 + f (8*j+7)
def bitAt (l : List Nat) (i : Nat) : Nat := l.getD (i / 8) 0 / 2 ^ (7 - i % 8) % 2
def code (p : List Int) : List Nat := (List.range (8 * p.length)).map (byteOf (rbit p))

theorem rbit_le (p : List Int) (i : Nat) : rbit p i ≤ 1 := by unfold rbit; omega
theorem cutF_le (f : Nat → Nat) (hf : ∀ i, f i ≤ 1) (n i : Nat) : cutF f n i ≤ 1 := by unfold cutF; split; exact hf i; omega
theorem byteOf_lt (f : Nat → Nat) (hf : ∀ i, f i ≤ 1) (j : Nat) : byteOf f j < 256 := by
  unfold byteOf
  have h0 := hf (8*j); have h1 := hf (8*j+1); have h2 := hf (8*j+2); have h3 := hf (8*j+3)
  have h4 := hf (8*j+4); have h5 := hf (8*j+5); have h6 := hf (8*j+6); have h7 := hf (8*j+7)
  omega
theorem byteOf_congr (f g : Nat → Nat) (j : Nat) (h : ∀ i, i < 8 → f (8*j+i) = g (8*j+i)) : byteOf f j = byteOf g j := by
  unfold byteOf
  have h0 := h 0 (by omega); have h1 := h 1 (by omega); have h2 := h 2 (by omega); have h3 := h 3 (by omega)
  have h4 := h 4 (by omega); have h5 := h 5 (by omega); have h6 := h 6 (by omega); have h7 := h 7 (by omega)
  simp only [Nat.add_zero] at h0
  rw [h0, h1, h2, h3, h4, h5, h6, h7]
theorem byteOf_cut0 (f : Nat → Nat) (j : Nat) : byteOf (cutF f 0) j = 0 := by simp [byteOf, cutF]
theorem byteOf_far (f : Nat → Nat) (t j : Nat) (h : j ≠ t / 8) : byteOf (cutF f (t + 1)) j = byteOf (cutF f t) j := by
  refine byteOf_congr _ _ _ fun i hi => ?_
  unfold cutF
  by_cases h1 : 8 * j + i < t
  · rw [if_pos (by omega), if_pos h1]
  · rw [if_neg (by omega), if_neg h1]
theorem byteOf_near (f : Nat → Nat) (q r : Nat) (hr : r < 8) (hf : ∀ i, f i ≤ 1) :
    byteOf (cutF f (8 * q + r)) q ||| (f (8 * q + r) * 2 ^ (7 - r)) = byteOf (cutF f (8 * q + r + 1)) q := by
  have e : ∀ i n, cutF f (8 * q + n) (8 * q + i) = if i < n then f (8 * q + i) else 0 := fun i n => by
    unfold cutF
    by_cases h : i < n
    · rw [if_pos h, if_pos (by omega)]
    · rw [if_neg h, if_neg (by omega)]
  have e0 : ∀ n, cutF f (8 * q + n) (8 * q) = if 0 < n then f (8 * q) else 0 := fun n => e 0 n
  have e1 : ∀ i n, cutF f (8 * q + n + 1) (8 * q + i) = if i < n + 1 then f (8 * q + i) else 0 := fun i n => e i (n + 1)
  have e2 : ∀ n, cutF f (8 * q + n + 1) (8 * q) = f (8 * q) := fun n => by
    have := e 0 (n + 1)
    simp only [Nat.add_zero, Nat.zero_lt_succ, if_true] at this
    exact this
  have b := hf (8 * q + r)
  have hj : byteOf (cutF f (8 * q + r)) q % 2 ^ (8 - r) = 0 := by
    unfold byteOf
    simp only [e, e0]
    rcases (by omega : r = 0 ∨ r = 1 ∨ r = 2 ∨ r = 3 ∨ r = 4 ∨ r = 5 ∨ r = 6 ∨ r = 7) with rfl|rfl|rfl|rfl|rfl|rfl|rfl|rfl <;> simp <;> omega
  have hy : f (8 * q + r) * 2 ^ (7 - r) < 2 ^ (8 - r) := by
    have h2 : 2 ^ (8 - r) = 2 * 2 ^ (7 - r) := by rw [show 8 - r = (7 - r) + 1 by omega, Nat.pow_succ]; omega
    rw [h2]
    have hp : 0 < 2 ^ (7 - r) := Nat.pow_pos (by omega)
    have := Nat.mul_le_mul_right (2 ^ (7 - r)) b
    omega
  rw [Go.nat_join _ _ _ hj hy]
  unfold byteOf
  simp only [e1, e2, e, e0]
  rcases (by omega : r = 0 ∨ r = 1 ∨ r = 2 ∨ r = 3 ∨ r = 4 ∨ r = 5 ∨ r = 6 ∨ r = 7) with rfl|rfl|rfl|rfl|rfl|rfl|rfl|rfl <;> simp <;> omega
theorem byteOf_step (f : Nat → Nat) (t : Nat) (hf : ∀ i, f i ≤ 1) : byteOf (cutF f t) (t / 8) ||| (f t * 2 ^ (7 - t % 8)) = byteOf (cutF f (t + 1)) (t / 8) := by
  have h := byteOf_near f (t / 8) (t % 8) (by omega) hf
  rwa [Nat.div_add_mod t 8] at h
theorem byteOf_all (f : Nat → Nat) (n j : Nat) (h : 8 * j + 7 < n) : byteOf (cutF f n) j = byteOf f j :=
  byteOf_congr _ _ _ fun i hi => by unfold cutF; rw [if_pos (by omega)]
theorem xor63 (x : Nat) (hx : x < 9223372036854775808) : x ^^^ 9223372036854775808 = x + 9223372036854775808 := by
  have e63 : (9223372036854775808 : Nat) = 2 ^ 63 := by decide
  rw [e63, Nat.add_comm, show 2 ^ 63 + x = 2 ^ 63 * 1 + x from by omega, Nat.two_pow_add_eq_or_of_lt (by omega)]
  refine Nat.eq_of_testBit_eq fun i => ?_
  rw [Nat.testBit_xor, Nat.testBit_or, Nat.mul_one, Nat.testBit_two_pow]
  by_cases hi : 63 = i
  · subst hi; rw [Nat.testBit_lt_two_pow (by omega)]; rfl
  · simp [hi]
theorem unxor63 (x : Nat) (hx : x < 18446744073709551616) : wrap64 (bits BinOp.xor IntKind.u64 (x : Int) 9223372036854775808) = (x : Int) - 9223372036854775808 := by
  rw [← IntWalk.i64_left]
  have h := u64_xor_nat x 9223372036854775808 hx (by omega)
  rw [show ((9223372036854775808 : Nat) : Int) = 9223372036854775808 from rfl] at h
  rw [h, IntKind.wrap_i64]
  by_cases h1 : x < 9223372036854775808
  · rw [xor63 x h1]; omega
  · obtain ⟨y, hy⟩ : ∃ y, y = x - 9223372036854775808 := ⟨_, rfl⟩
    have hyl : y < 9223372036854775808 := by omega
    have : x = y ^^^ 9223372036854775808 := by rw [xor63 y hyl]; omega
    rw [this, Nat.xor_assoc, Nat.xor_self, Nat.xor_zero, xor63 y hyl]; omega
theorem plain_eq (d : Int) (h1 : -9223372036854775808 ≤ d) (h2 : d ≤ 9223372036854775807) : bits BinOp.xor IntKind.u64 (IntKind.u64.wrap d) 9223372036854775808 = (pl d : Int) := by
  have hw : IntKind.u64.wrap d = ((d % 18446744073709551616).toNat : Nat) := by
    simp only [IntKind.wrap, IntKind.bits, IntKind.signed]; simp; omega
  have hx := u64_xor_nat (d % 18446744073709551616).toNat 9223372036854775808 (by omega) (by omega)
  rw [hw]
  refine hx.trans ?_
  unfold pl
  have e63 : (9223372036854775808 : Nat) = 2 ^ 63 := by decide
  have key : ∀ x : Nat, x < 9223372036854775808 → x ^^^ 9223372036854775808 = x + 9223372036854775808 := fun x hx => by
    rw [e63, Nat.add_comm, show 2 ^ 63 + x = 2 ^ 63 * 1 + x from by omega, Nat.two_pow_add_eq_or_of_lt (by omega)]
    refine Nat.eq_of_testBit_eq fun i => ?_
    rw [Nat.testBit_xor, Nat.testBit_or, Nat.mul_one, Nat.testBit_two_pow]
    by_cases hi : 63 = i
    · subst hi; rw [Nat.testBit_lt_two_pow (by omega)]; rfl
    · simp [hi]
  by_cases hd : 0 ≤ d
  · rw [key _ (by omega)]; omega
  · obtain ⟨x, hx⟩ : ∃ x : Nat, x = (d + 9223372036854775808).toNat := ⟨_, rfl⟩
    have hxl : x < 9223372036854775808 := by omega
    have : (d % 18446744073709551616).toNat = x ^^^ 9223372036854775808 := by rw [key x hxl]; omega
    rw [this, Nat.xor_assoc, Nat.xor_self, Nat.xor_zero, hx]
theorem uw_xor (u v : Int) (h1 : -9223372036854775808 ≤ u) (h2 : u ≤ 9223372036854775807) (h3 : -9223372036854775808 ≤ v) (h4 : v ≤ 9223372036854775807) :
    bits BinOp.xor IntKind.u64 (IntKind.u64.wrap u) (IntKind.u64.wrap v) = ((pl u ^^^ pl v : Nat) : Int) := by
  have hw : ∀ d, IntKind.u64.wrap d = ((d % 18446744073709551616).toNat : Nat) := fun d => by
    simp only [IntKind.wrap, IntKind.bits, IntKind.signed]; simp; omega
  have e1 := plain_eq u h1 h2
  have e2 := plain_eq v h3 h4
  rw [hw] at e1 e2
  rw [hw, hw]
  obtain ⟨a, ha⟩ : ∃ a, a = (u % 18446744073709551616).toNat := ⟨_, rfl⟩
  obtain ⟨b, hb⟩ : ∃ b, b = (v % 18446744073709551616).toNat := ⟨_, rfl⟩
  have hal : a < 18446744073709551616 := by omega
  have hbl : b < 18446744073709551616 := by omega
  rw [← ha] at e1 ⊢
  rw [← hb] at e2 ⊢
  have x1 := u64_xor_nat a 9223372036854775808 hal (by omega)
  have x2 := u64_xor_nat b 9223372036854775808 hbl (by omega)
  rw [show ((9223372036854775808 : Nat) : Int) = 9223372036854775808 from rfl] at x1 x2
  rw [x1] at e1
  rw [x2] at e2
  have f1 : pl u = a ^^^ 9223372036854775808 := by omega
  have f2 : pl v = b ^^^ 9223372036854775808 := by omega
  rw [u64_xor_nat a b hal hbl, f1, f2]
  congr 1
  rw [Nat.xor_comm b, Nat.xor_assoc, ← Nat.xor_assoc 9223372036854775808, Nat.xor_self, Nat.zero_xor]
theorem wrap_pl (z : Int) (h1 : -9223372036854775808 ≤ z) (h2 : z ≤ 9223372036854775807) : IntKind.u64.wrap (IntKind.u64.wrap z + 9223372036854775808) = (pl z : Nat) := by
  have hw : ∀ x, IntKind.u64.wrap x = x % 18446744073709551616 := fun x => by simp only [IntKind.wrap, IntKind.bits, IntKind.signed]; simp
  rw [hw, hw]; unfold pl; omega
theorem tmod_bit (x k : Nat) : ((x : Int) / 2 ^ k).tmod 2 = ((x / 2 ^ k % 2 : Nat) : Int) := by
  have h : ((x : Int) / 2 ^ k) = ((x / 2 ^ k : Nat) : Int) := by simp
  rw [h]; rfl
theorem tmod_bit8 (x k : Nat) : ((x : Int) / 2 ^ k).tmod 2 % 256 = ((x / 2 ^ k % 2 : Nat) : Int) := by
  rw [tmod_bit]; omega
theorem pl_lt (d : Int) (h2 : d ≤ 9223372036854775807) : pl d < 18446744073709551616 := by unfold pl; omega
/-- what one step of Code stores -/
theorem code_store (f : Nat → Nat) (t m x y : Nat) (hf : ∀ i, f i ≤ 1) (hy : y = byteOf (cutF f t) (t / 8)) (hm : m < 64) (hx : x < 18446744073709551616) (hb : f t = x / 2 ^ (63 - m) % 2) :
    bits BinOp.or IntKind.u8 (y : Int) (bits BinOp.and IntKind.u64 ((x : Int) / 2 ^ (63 - m)) 1 % 256 * 2 ^ (7 - t % 8) % 256) = (byteOf (cutF f (t + 1)) (t / 8) : Nat) := by
  have hxx : x / 2 ^ (63 - m) < 18446744073709551616 := Nat.lt_of_le_of_lt (Nat.div_le_self _ _) hx
  have h1 : bits BinOp.and IntKind.u64 ((x : Int) / 2 ^ (63 - m)) 1 = (f t : Nat) := by
    have h := u64_and_nat (x / 2 ^ (63 - m)) 1 hxx (by omega)
    rw [nat_mask1, ← hb] at h
    rw [← h]
    simp
  have hft := hf t
  have h2 : (f t : Int) % 256 * 2 ^ (7 - t % 8) % 256 = (f t * 2 ^ (7 - t % 8) : Nat) := by
    rcases (by omega : t % 8 = 0 ∨ t % 8 = 1 ∨ t % 8 = 2 ∨ t % 8 = 3 ∨ t % 8 = 4 ∨ t % 8 = 5 ∨ t % 8 = 6 ∨ t % 8 = 7) with h|h|h|h|h|h|h|h <;> rw [h] <;> simp <;> omega
  have h3 : f t * 2 ^ (7 - t % 8) < 256 := by
    rcases (by omega : t % 8 = 0 ∨ t % 8 = 1 ∨ t % 8 = 2 ∨ t % 8 = 3 ∨ t % 8 = 4 ∨ t % 8 = 5 ∨ t % 8 = 6 ∨ t % 8 = 7) with h|h|h|h|h|h|h|h <;> rw [h] <;> simp <;> omega
  rw [h1, h2, u8_or_nat _ _ (by rw [hy]; exact byteOf_lt _ (cutF_le f hf t) _) h3, hy, byteOf_step f t hf]
theorem rbit_at (p : List Int) (m k : Nat) (hk : k < p.length) : rbit p (m * p.length + k) = pl (p.getD k 0) / 2 ^ (63 - m) % 2 := by
  have h0 : 0 < p.length := by omega
  unfold rbit
  rw [show (m * p.length + k) % p.length = k from by rw [Nat.mul_comm, Nat.mul_add_mod, Nat.mod_eq_of_lt hk], show (m * p.length + k) / p.length = m from by rw [Nat.mul_comm, Nat.mul_add_div h0, Nat.div_eq_of_lt hk, Nat.add_zero]]
def codeCell (p : List Int) (n j : Nat) : Value := .int .u8 (byteOf (cutF (rbit p) n) j : Nat)
theorem code_len (p : List Int) : (code p).length = 8 * p.length := by simp [code]
theorem codeCell_all (p : List Int) (j : Nat) (h : j < 8 * p.length) : codeCell p (64 * p.length) j = u8s (code p) j := by
  unfold codeCell u8s
  rw [byteOf_all _ _ _ (by omega)]
  simp [code, List.getD, List.getElem?_map, List.getElem?_range h]
theorem code_lt (p : List Int) : IsB (code p) := fun i => by
  by_cases h : i < 8 * p.length
  · simp only [code, List.getD, List.getElem?_map, List.getElem?_range h]
    exact byteOf_lt _ (rbit_le p) i
  · rw [getD_out _ _ _ (by rw [code_len]; omega)]; omega
def hornN (f : Nat → Nat) : Nat → Nat
  | 0 => 0
  | k + 1 => 2 * hornN f k + f k
theorem hornN_lt (f : Nat → Nat) (hf : ∀ i, f i ≤ 1) : ∀ k, hornN f k < 2 ^ k
  | 0 => by simp [hornN]
  | k + 1 => by have := hornN_lt f hf k; have := hf k; rw [hornN, Nat.pow_succ]; omega
theorem hornN_8 (f : Nat → Nat) (j : Nat) : hornN (fun k => f (8 * j + k)) 8 = byteOf f j := by
  simp only [hornN, byteOf, Nat.add_zero]; omega
theorem hornN_lt64 (f : Nat → Nat) (hf : ∀ i, f i ≤ 1) (k : Nat) (hk : k ≤ 64) : hornN f k < 18446744073709551616 := by
  have h1 := hornN_lt f hf k
  have h2 : 2 ^ k ≤ 2 ^ 64 := Nat.pow_le_pow_right (by omega) hk
  omega
theorem bitAt_le (l : List Nat) (i : Nat) : bitAt l i ≤ 1 := by unfold bitAt; omega
/-- the point of a code: number k of d -/
def ptNum (c : List Nat) (d k : Nat) : Int := (hornN (fun b => bitAt c (b * d + k)) 64 : Int) - 9223372036854775808
def ptVals (c : List Nat) (d n : Nat) : List Value := (List.range n).map fun k => .int .i64 (ptNum c d k)
theorem ptVals_succ (c : List Nat) (d n : Nat) : ptVals c d (n + 1) = ptVals c d n ++ [.int .i64 (ptNum c d n)] := by simp [ptVals, List.range_succ]
theorem i64_of_u64 (u : Nat) (hu : u < 18446744073709551616) : wrap64 (IntKind.u64.wrap ((u : Int) - 9223372036854775808)) = (u : Int) - 9223372036854775808 := by
  rw [← IntWalk.i64_left]
  have hw : ∀ x, IntKind.u64.wrap x = x % 18446744073709551616 := fun x => by simp only [IntKind.wrap, IntKind.bits, IntKind.signed]; simp
  rw [hw, IntKind.wrap_i64]; omega

end Go.Proofs.Ytgcbodpjidoanaa
namespace Go.Proofs.Ytgcbodpjidoanaa
open Go.RowKit
theorem xor_upw (x : Int) (h1 : -9223372036854775808 ≤ x) (h2 : x ≤ 9223372036854775807) : bits BinOp.xor IntKind.u64 (IntKind.u64.wrap x) 9223372036854775808 = ((x + 9223372036854775808).toNat : Nat) := by
  obtain ⟨u, hu⟩ : ∃ u : Nat, IntKind.u64.wrap x = (u : Int) ∧ u < 18446744073709551616 ∧ (u : Int) = x % 18446744073709551616 := by
    refine ⟨(x % 18446744073709551616).toNat, ?_, by omega, by omega⟩
    rw [IntKind.wrap_u64]; omega
  rw [hu.1]
  have := bits_xor_u64_nat u 9223372036854775808 hu.2.1 (by decide)
  rw [show ((9223372036854775808 : Nat) : Int) = 9223372036854775808 from rfl] at this
  rw [this]
  by_cases h : u < 9223372036854775808
  · rw [xor63 u h]; omega
  · obtain ⟨y, hy⟩ : ∃ y, u = y + 9223372036854775808 := ⟨u - 9223372036854775808, by omega⟩
    have hyl : y < 9223372036854775808 := by omega
    rw [hy, ← xor63 y hyl, Nat.xor_assoc, Nat.xor_self, Nat.xor_zero]
    omega
/-- a number's bytes -/
def num8 (x : Int) : List Nat := be8 (x + 9223372036854775808).toNat
theorem num8_len (x : Int) : (num8 x).length = 8 := by simp [num8, be8]
set_option maxRecDepth 100000 in
set_option maxHeartbeats 1000000 in
theorem wnum_any (S : Nat → Prop) (g : Nat) (l : List Nat) (x : Int) (e : Int) (w : World) (hS : Wr w S g l e) (h1 : -9223372036854775808 ≤ x) (h2 : x ≤ 9223372036854775807) (hn : l.length ≤ 140737488353000) :
    Calls Try.prog 225 #[.pointer (some ⟨g, 0, none⟩), .int .i64 x] w fun e' w' => e' = .returned (.tuple #[]) ∧ WrP S w w' g (l ++ num8 x) e := by
  have t := xor_upw x h1 h2
  obtain ⟨n, hu⟩ : ∃ u, u = (x + 9223372036854775808).toNat := ⟨_, rfl⟩
  have hn64 : n < 18446744073709551616 := by omega
  have hE := hideP (show num8 x = be8 n by rw [hu]; rfl)
  rw [hE.out]
  rw [← hu] at t
  clear hu
  have HhS := hideP hS; clear hS
  go_enter Try.func225, Try.ntmps225
  go_wp2_with fail
  go_loopw [5] (fun v5 wr => ∃ (k : Nat), k ≤ 8 ∧ v5 = .int .i64 (56 - 8 * (k : Int)) ∧ Hid (WrP S w wr g (l ++ (be8 n).take k) e)) (fun v5 _ => (intOf v5 + 8).toNat)
  case atStart => exact ⟨0, by omega, rfl, S, Mv.refl _ _, by simpa using HhS.out⟩
  case round =>
    obtain ⟨k, hk, rfl, hV⟩ := hrel
    by_cases hlt : k < 8
    · have t' : decide ((0 : Int) ≤ 56 - 8 * (k : Int)) = true := by simp; omega
      have t2' : decide (8 * (k : Int) ≤ 56) = true := by simp; omega
      have i1 : (0 : Int) ≤ 56 - 8 * (k : Int) := by omega
      have i2 : 8 * (k : Int) ≤ 56 := by omega
      have e1 : ((56 : Int) - 8 * (k : Int)).toNat = 56 - 8 * k := by omega
      have m1 : IntKind.i64.wrap (56 - 8 * (k : Int) - 8) = 56 - 8 * ((k : Int) + 1) := by rw [show (56 : Int) - 8 * (k : Int) - 8 = 56 - 8 * ((k : Int) + 1) by omega]; exact IntWalk.i64_in _ (by omega)
      obtain ⟨y, hy⟩ : ∃ y, y = n / 2 ^ (56 - 8 * k) % 256 := ⟨_, rfl⟩
      have hy' : (n : Int) / 2 ^ (56 - 8 * k) % 256 = (y : Int) := by rw [hy]; simp
      have hE := hideP (show (be8 n).take k ++ [y] = (be8 n).take (k + 1) by rw [hy]; exact be8_succ n k hlt)
      have hl := hideP (show (l ++ (be8 n).take k).length ≤ 140737488354000 by rw [List.length_append, List.length_take]; omega)
      have hyb := hideP (show y < 256 by rw [hy]; omega)
      clear hy
      obtain ⟨S1, m1, v1⟩ := hV.out
      have M1 := hideP m1
      have V1 := hideP v1
      clear m1 v1
      go_wp2_with (go_at_call 120; refine (wbyte_any S1 g _ y e _ V1.out hyb.out hl.out).mono ?_; rintro e1 w1 ⟨rfl, s1⟩)
      rw [List.append_assoc, hE.out] at s1
      have ho := hideP (WrP.then M1.out s1)
      clear hV s1
      go_roundw
      case rel => exact ⟨k + 1, by omega, by rw [show ((k + 1 : Nat) : Int) = (k : Int) + 1 by omega], ho.out⟩
      case measure => simp [intOf]; omega
    · have t' : decide ((0 : Int) ≤ 56 - 8 * (k : Int)) = false := by simp; omega
      have t2' : decide (8 * (k : Int) ≤ 56) = false := by simp; omega
      have hk8 : k = 8 := by omega
      have ho := hideP hV.out
      rw [hk8, show (be8 n).take 8 = be8 n from List.take_of_length_le (by simp [be8])] at ho
      clear hV hlt hk
      go_wp2_with fail
      exact bodyPost_end (results_none rfl _ _ _) rfl ⟨rfl, ho.out⟩
end Go.Proofs.Ytgcbodpjidoanaa
