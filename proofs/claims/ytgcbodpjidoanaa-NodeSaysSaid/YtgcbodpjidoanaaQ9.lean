/- Contracts of codec.Writer's put, Byte, Truth, Count. Contracts of codec.Writer's Count, Text, Err, Bytes. Plain laws of Morton codes: bits, bytes, words. Contract of codec.Writer's Num. -/
import Derived.Test.YtgcbodpjidoanaaQ1
import Derived.Test.YtgcbodpjidoanaaQ2
import Derived.Test.YtgcbodpjidoanaaQ5
import Derived.Test.YtgcbodpjidoanaaQ8
set_option linter.unusedVariables false
set_option linter.unusedSimpArgs false
namespace Go.Proofs.Ytgcbodpjidoanaa
open Go.RowKit
/-- from w to w' only blocks of S have changed; S' is S and some new ones -/
structure Mv (S : Nat → Prop) (w : World) (S' : Nat → Prop) (w' : World) : Prop where
  but : But S w w'
  new : ∀ b, S' b → S b ∨ w.heap.size ≤ b
section
variable {S S1 S2 : Nat → Prop} {w w1 w2 : World}
theorem Mv.refl (S : Nat → Prop) (w : World) : Mv S w S w := ⟨But.refl w, fun _ h => .inl h⟩
theorem Mv.size (h : Mv S w S1 w1) : w.heap.size ≤ w1.heap.size := h.but.size
theorem Mv.trans (h : Mv S w S1 w1) (k : Mv S1 w1 S2 w2) : Mv S w S2 w2 := by
  refine ⟨⟨Nat.le_trans h.but.size k.but.size, fun b hb hn => ?_, k.but.os.trans h.but.os, k.but.tape.trans h.but.tape, k.but.output.trans h.but.output⟩, fun b hb => ?_⟩
  · refine (k.but.block b (Nat.lt_of_lt_of_le hb h.but.size) fun h1 => ?_).trans (h.but.block b hb hn)
    rcases h.new b h1 with h2 | h2
    · exact hn h2
    · omega
  · rcases k.new b hb with h1 | h1
    · exact h.new b h1
    · exact .inr (Nat.le_trans h.but.size h1)
theorem Mv.ext (S : Nat → Prop) (h : Ext w w1) : Mv S w S w1 := ⟨But.of_ext h, fun _ h => .inl h⟩
theorem Mv.alloc (S : Nat → Prop) (w : World) (o : Obj) : Mv S w S (w.alloc o) := Mv.ext S (Ext.alloc w o)
theorem Mv.below {B : Nat} (h : Mv S w S1 w1) (hS : ∀ b, S b → B ≤ b) (hB : B ≤ w.heap.size) : Below B w w1 :=
  ⟨h.but.os, h.but.tape, h.but.output, h.but.size, fun k hk => h.but.block k (Nat.lt_of_lt_of_le hk hB) fun hs => by have := hS k hs; omega⟩
theorem Mv.not {b : Nat} (h : Mv S w S1 w1) (hb : b < w.heap.size) (hn : ¬ S b) : ¬ S1 b := fun hs => by
  rcases h.new b hs with h1 | h1
  · exact hn h1
  · omega
theorem Mv.cell {p : Addr} {v : Value} (h : Mv S w S1 w1) (hn : ¬ S p.block) (hc : w.cell? p = some v) : w1.cell? p = some v := h.but.cell hc hn
end
/-- n elements of one cell each, in a block that is none of S's -/
def ArrN (S : Nat → Prop) (w : World) (A : Option Addr) (n : Nat) (f : Nat → Value) : Prop := 0 < n → ∃ b off, A = some ⟨b, off, none⟩ ∧ b < w.heap.size ∧ ¬ S b ∧ ∀ i, i < n → w.cell? ⟨b, off + i, none⟩ = some (f i)
section
variable {S S1 : Nat → Prop} {w w1 : World} {A : Option Addr} {n : Nat} {f : Nat → Value}
theorem ArrN.mv (h : ArrN S w A n f) (m : Mv S w S1 w1) : ArrN S1 w1 A n f := fun hn => by
  obtain ⟨b, off, e, hb, hs, hc⟩ := h hn
  exact ⟨b, off, e, Nat.lt_of_lt_of_le hb m.size, m.not hb hs, fun i hi => m.cell hs (hc i hi)⟩
theorem ArrN.arr (h : ArrN S w A n f) : Arr w w.heap.size A n f := fun hn => by
  obtain ⟨b, off, e, hb, _, hc⟩ := h hn
  exact ⟨b, off, e, hb, hc⟩
theorem ArrN.of_low {B : Nat} (h : Arr w B A n f) (hB : B ≤ w.heap.size) (hS : ∀ b, S b → B ≤ b) : ArrN S w A n f := fun hn => by
  obtain ⟨b, off, e, hb, hc⟩ := h hn
  exact ⟨b, off, e, Nat.lt_of_lt_of_le hb hB, fun hs => by have := hS b hs; omega, hc⟩
/-- what lay ahead of w1's making is none of S's, S's being older -/
theorem ArrN.of_new {g : Nat} (hS : ∀ b, S b → b < g) (h : Arr w w.heap.size A n f) (hA : ∀ b off s, A = some ⟨b, off, s⟩ → g ≤ b) : ArrN S w A n f := fun hn => by
  obtain ⟨b, off, e, hb, hc⟩ := h hn
  exact ⟨b, off, e, hb, fun hs => by have := hS b hs; have := hA b off none e; omega, hc⟩
theorem ArrN.front (h : ArrN S w A n f) {k : Nat} (hk : k ≤ n) : ArrN S w A k f := fun hn => by
  obtain ⟨b, off, e, hb, hs, hc⟩ := h (by omega)
  exact ⟨b, off, e, hb, hs, fun i hi => hc i (by omega)⟩
end
theorem butA {w w' : World} {A : Option Addr} {n c : Nat} (h : w.grownBy w' (Value.slice A n c).ownBlock) : But (fun b => ∃ off s, A = some ⟨b, off, s⟩) w w' :=
  ⟨h.size, fun k hk hn => h.block k hk (fun e => by
    rcases A with _ | ⟨b, off, s⟩
    · simp [Value.ownBlock] at e
    · simp [Value.ownBlock] at e
      exact hn ⟨off, s, by rw [e]⟩), h.os, h.tape, h.output⟩
theorem wpList_appN {ops : Array Oper} {rest : List Oper} {o : Oper} {a : Act} {w : World} {Q : Exit → Act → World → Prop} (hgd : o.guard = none) (s x : Operand)
    (ho : o.op = .call { callee := .builtin .append, args := #[s, x], argTypes := #[22, 22] }) (base : Nat) (A : Option Addr) (c n : Nat) (l : List Nat) (hl : n = l.length) (hs : a.eval s = .slice A n c) (hown : OwnB w base A c l)
    (B : Nat) (X : Option Addr) (m d : Nat) (k : List Nat) (hk : m = k.length) (hx : a.eval x = .slice X m d) (hX : Arr w B X m (u8s k)) (hn : n + m ≤ 140737488355000) (hbase : base ≤ w.heap.size)
    (h : ∀ A' c' w', OwnB w' base A' c' (l ++ k) → But (fun b => ∃ off s, A = some ⟨b, off, s⟩) w w' → (∀ b off s, A' = some ⟨b, off, s⟩ → (∃ off s, A = some ⟨b, off, s⟩) ∨ w.heap.size ≤ b) → wpList Try.prog ops Q rest (a.put o.dst (.slice A' (n + m) c')) w') : wpList Try.prog ops Q (o :: rest) a w := by
  obtain ⟨i0, hi0, hz0, hz1, hz2⟩ := info_parts info_b8
  subst hl hk
  refine wpList_append_arr w hgd s x 22 ho base 5 i0 _ 1 Try.underlying22 hi0 hz0 hz1 hz2 rfl (.slice A l.length c) l.length (l.map b8) hs hown B X k.length d (u8s k) hx hX (fun _ => rfl) (by unfold maxLen; omega) (by omega) hbase ?_
  intro A3 c3 w3 hown3 hg3 hat3
  refine h _ _ w3 ?_ (butA hg3) fun b off s e => ?_
  · unfold OwnB
    rw [List.length_append, List.map_append, ← map_u8s k]
    exact hown3
  · subst e
    rcases hat3 with h1 | h1
    · rcases A with _ | ⟨b', off', s'⟩
      · simp [Value.ownBlock] at h1
      · simp [Value.ownBlock] at h1
        exact .inl ⟨off', s', by rw [h1]⟩
    · simp [Value.ownBlock] at h1
      exact .inr (by omega)
/-- a writer that has written l, its error e; S: its blocks -/
def Wr (w : World) (S : Nat → Prop) (g : Nat) (l : List Nat) (e : Int) : Prop :=
  ∃ A c, Two w g 168 (.slice A l.length c) (.int .i64 e) ∧ OwnB w (g + 1) A c l ∧ IsB l ∧ S g ∧ (∀ b off s, A = some ⟨b, off, s⟩ → S b) ∧ ∀ b, S b → g ≤ b ∧ b < w.heap.size
/-- what a call has done to a writer of S -/
def WrP (S : Nat → Prop) (w w' : World) (g : Nat) (l : List Nat) (e : Int) : Prop := ∃ S', Mv S w S' w' ∧ Wr w' S' g l e
section
variable {w w' : World} {S : Nat → Prop} {g : Nat} {l : List Nat} {e : Int}
theorem Wr.lt (h : Wr w S g l e) : g < w.heap.size := by obtain ⟨A, c, h1, _⟩ := h; exact h1.lt
theorem Wr.isB (h : Wr w S g l e) : IsB l := by obtain ⟨A, c, _, _, h, _⟩ := h; exact h
theorem Wr.low (h : Wr w S g l e) : ∀ b, S b → g ≤ b := by obtain ⟨A, c, _, _, _, _, _, h⟩ := h; exact fun b hb => (h b hb).1
theorem Wr.old (h : Wr w S g l e) : ∀ b, S b → b < w.heap.size := by obtain ⟨A, c, _, _, _, _, _, h⟩ := h; exact fun b hb => (h b hb).2
theorem Wr.ext (h : Wr w S g l e) (hW : Ext w w') : Wr w' S g l e := by
  obtain ⟨A, c, h1, h2, h3, h4, h5, h6⟩ := h
  exact ⟨A, c, h1.ext hW, h2.ext hW, h3, h4, h5, fun b hb => ⟨(h6 b hb).1, Nat.lt_of_lt_of_le (h6 b hb).2 hW.size⟩⟩
theorem Wr.after (h : Wr w S g l e) (hW : Below w.heap.size w w') : Wr w' S g l e := h.ext (Ext.of_below hW)
theorem Wr.notnew (h : Wr w S g l e) : ¬ S w.heap.size := fun hs => Nat.lt_irrefl _ (h.old _ hs)
theorem WrP.below (hS : Wr w S g l e) {l' : List Nat} {e' : Int} (h : WrP S w w' g l' e') : Below g w w' := by
  obtain ⟨S', m, _⟩ := h
  exact m.below hS.low (Nat.le_of_lt hS.lt)
theorem WrP.then {S1 : Nat → Prop} {w1 : World} {l' : List Nat} {e' : Int} (m : Mv S w S1 w1) (h : WrP S1 w1 w' g l' e') : WrP S w w' g l' e' := by
  obtain ⟨S', m', h'⟩ := h
  exact ⟨S', m.trans m', h'⟩
end
theorem Two.set0 {w : World} {g : Nat} {t : TypeId} {x y : Value} (h : Two w g t x y) (u : Value) : Two (w.setCell ⟨g, 0, none⟩ u) g t u y := by
  have := Row.set (show Row w g t [x, y] from h) 0 u; exact this
theorem Two.set1 {w : World} {g : Nat} {t : TypeId} {x y : Value} (h : Two w g t x y) (u : Value) : Two (w.setCell ⟨g, 1, none⟩ u) g t x u := by
  have := Row.set (show Row w g t [x, y] from h) 1 u; exact this
theorem OwnB.setLow {w : World} {base c g : Nat} {A : Option Addr} {l : List Nat} (h : OwnB w base A c l) (hg : g < base) (o : Nat) (v : Value) : OwnB (w.setCell ⟨g, o, none⟩ v) base A c l := by
  unfold OwnB at h ⊢
  exact ownsRow_setCell_below h hg v
theorem own_lt {w : World} {base c : Nat} {A : Option Addr} {l : List Nat} {b off : Nat} {s : _} (h : OwnB w base A c l) (hA : A = some ⟨b, off, s⟩) : b < w.heap.size := by
  rcases h.2 with ⟨hv, _⟩ | ⟨g, cap, cur, hv, hg, hh, _⟩
  · injection hv with h1 _ _; rw [hA] at h1; cases h1
  · injection hv with h1 _ _
    rw [hA] at h1
    injection h1 with h1
    injection h1 with h1 _ _
    rw [h1]
    exact (Array.getElem?_eq_some_iff.1 hh).1
theorem own_ge {w : World} {base c : Nat} {A : Option Addr} {l : List Nat} {b off : Nat} {s : _} (h : OwnB w base A c l) (hA : A = some ⟨b, off, s⟩) : base ≤ b := by
  rcases h.2 with ⟨hv, _⟩ | ⟨g, cap, cur, hv, hg, hh, _⟩
  · injection hv with h1 _ _; rw [hA] at h1; cases h1
  · injection hv with h1 _ _
    rw [hA] at h1
    injection h1 with h1
    injection h1 with h1 _ _
    rw [h1]
    exact hg
theorem own_two {w w' : World} {g c : Nat} {A : Option Addr} {l : List Nat} {t : TypeId} {x y : Value} (hT : Two w g t x y) (hO : OwnB w (g + 1) A c l) (b : But (fun b => ∃ off s, A = some ⟨b, off, s⟩) w w') : Two w' g t x y :=
  (b.block g hT.lt fun ⟨off, s, h⟩ => by have := own_ge hO h; omega).trans hT
theorem isB_one {x : Nat} (hx : x < 256) : IsB [x] := fun i => by
  rcases i with _ | i
  · simpa [List.getD] using hx
  · simp [List.getD]
set_option maxRecDepth 100000 in
set_option maxHeartbeats 1000000 in
theorem put_true (S : Nat → Prop) (g : Nat) (l k : List Nat) (e : Int) (X : Option Addr) (B c : Nat) (w : World) (hS : Wr w S g l e) (hX : Arr w B X k.length (u8s k)) (hk : IsB k) (hn : l.length + k.length ≤ 140737488355000) :
    Calls Try.prog 190 #[.pointer (some ⟨g, 0, none⟩), .bool true, .slice X k.length c] w fun e' w' => e' = .returned (.tuple #[]) ∧ WrP S w w' g (l ++ k) e := by
  obtain ⟨A, d, hT, hO, hl, hg, hA, hB⟩ := hS
  obtain ⟨K, hK⟩ : ∃ K, K = k.length := ⟨_, rfl⟩
  obtain ⟨L, hL⟩ : ∃ L, L = l.length := ⟨_, rfl⟩
  rw [← hK] at hX hn ⊢
  rw [← hL] at hT hn
  have c0 := hT.c0
  have f0 := hT.fz 0
  have z0 := hideP hT.lt
  have HhT := hideP hT; have HhO := hideP hO; have HhX := hideP hX; have HhK := hideP hK; have HhL := hideP hL; have Hhl := hideP hl; have Hhk := hideP hk; have Hhg := hideP hg; have HhA := hideP hA; have HhB := hideP hB; clear hT hO hX hK hL hl hk hg hA hB
  go_enter Try.func190, Try.ntmps190
  go_wp2_with (at_builtin; refine wpList_appN rfl (.tmp 15) (.tmp 16) rfl (g + 1) A d L l HhL.out rfl HhO.out B X K c k HhK.out rfl HhX.out (by omega) (by have := z0.out; omega) ?_; intro A3 c3 w3 o3 b3 n3; have T3 := hideP (own_two HhT.out HhO.out b3); have O3 := hideP o3; have B3 := hideP b3; have N3 := hideP n3; clear o3 b3 n3 c0 f0; have c0 := T3.out.c0; have f0 := T3.out.fz 0)
  refine bodyPost_end (results_none rfl _ _ _) rfl ⟨rfl, fun b => S b ∨ (w.heap.size ≤ b ∧ b < w3.heap.size), ⟨⟨?_, ?_, ?_, ?_, ?_⟩, ?_⟩, A3, c3, ?_, ?_, isB_append Hhl.out Hhk.out, .inl Hhg.out, ?_, ?_⟩
  · simpa using B3.out.size
  · intro b hb hn
    rw [Below.heap_setCell _ _ _ _ (show b ≠ g from fun h => hn (h ▸ Hhg.out))]
    exact B3.out.block b hb fun ⟨off, s, h⟩ => hn (HhA.out b off s h)
  · exact B3.out.os
  · exact B3.out.tape
  · exact B3.out.output
  · exact fun b hb => hb.imp id (·.1)
  · have := T3.out.set0 (.slice A3 (L + K) c3)
    rw [List.length_append, ← HhL.out, ← HhK.out]
    exact this
  · exact O3.out.setLow (Nat.lt_succ_self g) 0 _
  · intro b off s h
    have hlt : b < w3.heap.size := own_lt O3.out h
    rcases N3.out b off s h with ⟨o', s', h1⟩ | h1
    · exact .inl (HhA.out b o' s' h1)
    · exact .inr ⟨h1, hlt⟩
  · have hsz : w.heap.size ≤ w3.heap.size := B3.out.size
    intro b hb
    rcases hb with hb | hb
    · exact ⟨(HhB.out b hb).1, by simpa using Nat.lt_of_lt_of_le (HhB.out b hb).2 hsz⟩
    · exact ⟨by have := z0.out; omega, by simpa using hb.2⟩
set_option maxRecDepth 100000 in
set_option maxHeartbeats 1000000 in
theorem wbyte_any (S : Nat → Prop) (g : Nat) (l : List Nat) (x : Nat) (e : Int) (w : World) (hS : Wr w S g l e) (hx : x < 256) (hn : l.length ≤ 140737488354000) :
    Calls Try.prog 120 #[.pointer (some ⟨g, 0, none⟩), .int .u8 (x : Nat)] w fun e' w' => e' = .returned (.tuple #[]) ∧ WrP S w w' g (l ++ [x]) e := by
  have hX := hideP (show Arr (w.alloc (.cells #[.int .u8 (x : Nat)] 5)) _ (some ⟨w.heap.size, 0, none⟩) [x].length (u8s [x]) from (OwnB.lit1 w x).arr)
  have h1 := hideP (show Wr (w.alloc (.cells #[.int .u8 (x : Nat)] 5)) S g l e from hS.ext (Ext.alloc _ _))
  have hk := hideP (isB_one hx)
  have HhS := hideP hS; clear hS
  go_enter Try.func120, Try.ntmps120
  go_wp2_with (go_at_call 190; refine (put_true S g l [x] e _ _ 1 _ h1.out hX.out hk.out (by simpa using (show l.length + 1 ≤ 140737488355000 by omega))).mono ?_; rintro e1 w1 ⟨rfl, s1⟩)
  exact bodyPost_end (results_none rfl _ _ _) rfl ⟨rfl, WrP.then (Mv.alloc _ _ _) s1⟩
set_option maxRecDepth 100000 in
set_option maxHeartbeats 1000000 in
theorem wtruth_any (S : Nat → Prop) (g : Nat) (l : List Nat) (x : Bool) (e : Int) (w : World) (hS : Wr w S g l e) (hn : l.length ≤ 140737488354000) :
    Calls Try.prog 172 #[.pointer (some ⟨g, 0, none⟩), .bool x] w fun e' w' => e' = .returned (.tuple #[]) ∧ WrP S w w' g (l ++ [if x then 1 else 0]) e := by
  have HhS := hideP hS; clear hS
  cases x
  · go_enter Try.func172, Try.ntmps172
    go_wp2_with (go_at_call 120; refine (wbyte_any S g l 0 e _ HhS.out (by decide) hn).mono ?_; rintro e1 w1 ⟨rfl, s1⟩)
    exact bodyPost_end (results_none rfl _ _ _) rfl ⟨rfl, s1⟩
  · go_enter Try.func172, Try.ntmps172
    go_wp2_with (go_at_call 120; refine (wbyte_any S g l 1 e _ HhS.out (by decide) hn).mono ?_; rintro e1 w1 ⟨rfl, s1⟩)
    exact bodyPost_ret (results_none rfl _ _ _) rfl ⟨rfl, s1⟩
end Go.Proofs.Ytgcbodpjidoanaa
namespace Go.Proofs.Ytgcbodpjidoanaa
open Go.RowKit
/-- a count's bytes -/
def be3 (n : Nat) : List Nat := [n / 65536 % 256, n / 256 % 256, n % 256]
theorem isB_be3 (n : Nat) : IsB (be3 n) := fun i => by
  rcases i with _ | _ | _ | i <;> simp [be3, List.getD] <;> omega
theorem lit3 (w : World) (a b c : Nat) : OwnB (w.alloc (.cells #[b8 a, b8 b, b8 c] 5)) w.heap.size (some ⟨w.heap.size, 0, none⟩) 3 [a, b, c] := World.ownsRow_lit w #[b8 a, b8 b, b8 c] 3 (Nat.le_refl _) (by decide) rfl
set_option maxRecDepth 100000 in
set_option maxHeartbeats 400000 in
theorem wcount_any (S : Nat → Prop) (g : Nat) (l : List Nat) (n : Nat) (e : Int) (w : World) (hS : Wr w S g l e) (hx : n ≤ 1048576) (hn : l.length ≤ 140737488354000) :
    Calls Try.prog 175 #[.pointer (some ⟨g, 0, none⟩), .int .i64 (n : Nat)] w fun e' w' => e' = .returned (.tuple #[]) ∧ WrP S w w' g (l ++ be3 n) e := by
  obtain ⟨a, ha⟩ : ∃ a, a = n / 65536 := ⟨_, rfl⟩
  obtain ⟨b, hb⟩ : ∃ b, b = n / 256 % 256 := ⟨_, rfl⟩
  obtain ⟨c, hc⟩ : ∃ c, c = n % 256 := ⟨_, rfl⟩
  have hE := hideP (show be3 n = [a, b, c] by rw [ha, hb, hc]; unfold be3; rw [Nat.mod_eq_of_lt (show n / 65536 < 256 by omega)])
  have ha' : (n : Int) / 65536 = (a : Int) := by omega
  have hb' : (n : Int) / 256 % 256 = (b : Int) := by omega
  have hc' : (n : Int) % 256 = (c : Int) := by omega
  have hz := hideP (Nat.le_of_lt hS.lt)
  have hX := hideP (show Arr (w.alloc (.cells #[b8 a, b8 b, b8 c] 5)) _ (some ⟨w.heap.size, 0, none⟩) [a, b, c].length (u8s [a, b, c]) from (lit3 w a b c).arr)
  have h1 := hideP (show Wr (w.alloc (.cells #[b8 a, b8 b, b8 c] 5)) S g l e from hS.ext (Ext.alloc _ _))
  have hk := hideP (show IsB [a, b, c] by rw [← hE.out]; exact isB_be3 n)
  clear ha hb hc
  have HhS := hideP hS; clear hS
  have i0 : (n : Int) ≤ 1048576 := by omega
  go_enter Try.func175, Try.ntmps175
  go_wp2_with (go_at_call 190; refine (put_true S g l [a, b, c] e _ _ 3 _ h1.out hX.out hk.out (by simpa using (show l.length + 3 ≤ 140737488355000 by omega))).mono ?_; rintro e1 w1 ⟨rfl, s1⟩)
  rw [← hE.out] at s1
  exact bodyPost_end (results_none rfl _ _ _) rfl ⟨rfl, WrP.then (Mv.alloc _ _ _) s1⟩
theorem put_trueK (S : Nat → Prop) (g : Nat) (l k : List Nat) (e : Int) (X : Option Addr) (B c K : Nat) (w : World) (hK : K = k.length) (hS : Wr w S g l e) (hX : Arr w B X K (u8s k)) (hk : IsB k) (hn : l.length + k.length ≤ 140737488355000) :
    Calls Try.prog 190 #[.pointer (some ⟨g, 0, none⟩), .bool true, .slice X K c] w fun e' w' => e' = .returned (.tuple #[]) ∧ WrP S w w' g (l ++ k) e := by
  subst hK
  exact put_true S g l k e X B c w hS hX hk hn
theorem werr_any (S : Nat → Prop) (g : Nat) (l : List Nat) (e : Int) (w : World) (hS : Wr w S g l e) :
    Calls Try.prog 124 #[.pointer (some ⟨g, 0, none⟩)] w fun e' w' => e' = .returned (.int .i64 e) ∧ w' = w := by
  obtain ⟨A, d, hT, hO, hl⟩ := hS
  have c0 := hT.c1
  have f0 := hT.fz 1
  have HhT := hideP hT; have HhO := hideP hO; have Hhl := hideP hl; clear hT hO hl
  go_enter Try.func124, Try.ntmps124
  go_wp2
  go_ret
  exact ⟨rfl, rfl⟩
end Go.Proofs.Ytgcbodpjidoanaa
namespace Go.Proofs.Ytgcbodpjidoanaa
open Go.RowKit
def pl (z : Int) : Nat := (z + 9223372036854775808).toNat
def rbit (p : List Int) (i : Nat) : Nat := pl (p.getD (i % p.length) 0) / 2 ^ (63 - i / p.length) % 2
def cutF (f : Nat → Nat) (n i : Nat) : Nat := if i < n then f i else 0
def byteOf (f : Nat → Nat) (j : Nat) : Nat := f (8*j) * 128 + f (8*j+1) * 64 + f (8*j+2) * 32 + f (8*j+3) * 16 + f (8*j+4) * 8 + f (8*j+5) * 4 + f (8*j+6) * 2 + f (8*j+7)
def bitAt (l : List Nat) (i : Nat) : Nat := l.getD (i / 8) 0 / 2 ^ (7 - i % 8) % 2
def code (p : List Int) : List Nat := (List.range (8 * p.length)).map (byteOf (rbit p))

theorem xor63 (x : Nat) (hx : x < 9223372036854775808) : x ^^^ 9223372036854775808 = x + 9223372036854775808 := by
  have e63 : (9223372036854775808 : Nat) = 2 ^ 63 := by decide
  rw [e63, Nat.add_comm, show 2 ^ 63 + x = 2 ^ 63 * 1 + x from by omega, Nat.two_pow_add_eq_or_of_lt (by omega)]
  refine Nat.eq_of_testBit_eq fun i => ?_
  rw [Nat.testBit_xor, Nat.testBit_or, Nat.mul_one, Nat.testBit_two_pow]
  by_cases hi : 63 = i
  · subst hi; rw [Nat.testBit_lt_two_pow (by omega)]; rfl
  · simp [hi]
def codeCell (p : List Int) (n j : Nat) : Value := .int .u8 (byteOf (cutF (rbit p) n) j : Nat)
def hornN (f : Nat → Nat) : Nat → Nat
  | 0 => 0
  | k + 1 => 2 * hornN f k + f k
/-- the point of a code: number k of d -/
def ptNum (c : List Nat) (d k : Nat) : Int := (hornN (fun b => bitAt c (b * d + k)) 64 : Int) - 9223372036854775808
def ptVals (c : List Nat) (d n : Nat) : List Value := (List.range n).map fun k => .int .i64 (ptNum c d k)
end Go.Proofs.Ytgcbodpjidoanaa
namespace Go.Proofs.Ytgcbodpjidoanaa
open Go.RowKit
theorem xor_upw (x : Int) (h1 : -9223372036854775808 ≤ x) (h2 : x ≤ 9223372036854775807) : bits BinOp.xor IntKind.u64 (IntKind.u64.wrap x) 9223372036854775808 = ((x + 9223372036854775808).toNat : Nat) := by
  obtain ⟨u, hu⟩ : ∃ u : Nat, IntKind.u64.wrap x = (u : Int) ∧ u < 18446744073709551616 ∧ (u : Int) = x % 18446744073709551616 := by
    refine ⟨(x % 18446744073709551616).toNat, ?_, by omega, by omega⟩
    rw [IntKind.wrap_u64]; omega
  rw [hu.1]
  have := bits_xor_u64_nat u 9223372036854775808 hu.2.1 (by decide)
  rw [show ((9223372036854775808 : Nat) : Int) = 9223372036854775808 from rfl] at this
  rw [this]
  by_cases h : u < 9223372036854775808
  · rw [xor63 u h]; omega
  · obtain ⟨y, hy⟩ : ∃ y, u = y + 9223372036854775808 := ⟨u - 9223372036854775808, by omega⟩
    have hyl : y < 9223372036854775808 := by omega
    rw [hy, ← xor63 y hyl, Nat.xor_assoc, Nat.xor_self, Nat.xor_zero]
    omega
/-- a number's bytes -/
def num8 (x : Int) : List Nat := be8 (x + 9223372036854775808).toNat
theorem num8_len (x : Int) : (num8 x).length = 8 := by simp [num8, be8]
set_option maxRecDepth 100000 in
set_option maxHeartbeats 1000000 in
theorem wnum_any (S : Nat → Prop) (g : Nat) (l : List Nat) (x : Int) (e : Int) (w : World) (hS : Wr w S g l e) (h1 : -9223372036854775808 ≤ x) (h2 : x ≤ 9223372036854775807) (hn : l.length ≤ 140737488353000) :
    Calls Try.prog 225 #[.pointer (some ⟨g, 0, none⟩), .int .i64 x] w fun e' w' => e' = .returned (.tuple #[]) ∧ WrP S w w' g (l ++ num8 x) e := by
  have t := xor_upw x h1 h2
  obtain ⟨n, hu⟩ : ∃ u, u = (x + 9223372036854775808).toNat := ⟨_, rfl⟩
  have hn64 : n < 18446744073709551616 := by omega
  have hE := hideP (show num8 x = be8 n by rw [hu]; rfl)
  rw [hE.out]
  rw [← hu] at t
  clear hu
  have HhS := hideP hS; clear hS
  go_enter Try.func225, Try.ntmps225
  go_wp2_with fail
  go_loopw [5] (fun v5 wr => ∃ (k : Nat), k ≤ 8 ∧ v5 = .int .i64 (56 - 8 * (k : Int)) ∧ Hid (WrP S w wr g (l ++ (be8 n).take k) e)) (fun v5 _ => (intOf v5 + 8).toNat)
  case atStart => exact ⟨0, by omega, rfl, S, Mv.refl _ _, by simpa using HhS.out⟩
  case round =>
    obtain ⟨k, hk, rfl, hV⟩ := hrel
    by_cases hlt : k < 8
    · have t' : decide ((0 : Int) ≤ 56 - 8 * (k : Int)) = true := by simp; omega
      have t2' : decide (8 * (k : Int) ≤ 56) = true := by simp; omega
      have i1 : (0 : Int) ≤ 56 - 8 * (k : Int) := by omega
      have i2 : 8 * (k : Int) ≤ 56 := by omega
      have e1 : ((56 : Int) - 8 * (k : Int)).toNat = 56 - 8 * k := by omega
      have m1 : IntKind.i64.wrap (56 - 8 * (k : Int) - 8) = 56 - 8 * ((k : Int) + 1) := by rw [show (56 : Int) - 8 * (k : Int) - 8 = 56 - 8 * ((k : Int) + 1) by omega]; exact IntWalk.i64_in _ (by omega)
      obtain ⟨y, hy⟩ : ∃ y, y = n / 2 ^ (56 - 8 * k) % 256 := ⟨_, rfl⟩
      have hy' : (n : Int) / 2 ^ (56 - 8 * k) % 256 = (y : Int) := by rw [hy]; simp
      have hE := hideP (show (be8 n).take k ++ [y] = (be8 n).take (k + 1) by rw [hy]; exact be8_succ n k hlt)
      have hl := hideP (show (l ++ (be8 n).take k).length ≤ 140737488354000 by rw [List.length_append, List.length_take]; omega)
      have hyb := hideP (show y < 256 by rw [hy]; omega)
      clear hy
      obtain ⟨S1, m1, v1⟩ := hV.out
      have M1 := hideP m1
      have V1 := hideP v1
      clear m1 v1
      go_wp2_with (go_at_call 120; refine (wbyte_any S1 g _ y e _ V1.out hyb.out hl.out).mono ?_; rintro e1 w1 ⟨rfl, s1⟩)
      rw [List.append_assoc, hE.out] at s1
      have ho := hideP (WrP.then M1.out s1)
      clear hV s1
      go_roundw
      case rel => exact ⟨k + 1, by omega, by rw [show ((k + 1 : Nat) : Int) = (k : Int) + 1 by omega], ho.out⟩
      case measure => simp [intOf]; omega
    · have t' : decide ((0 : Int) ≤ 56 - 8 * (k : Int)) = false := by simp; omega
      have t2' : decide (8 * (k : Int) ≤ 56) = false := by simp; omega
      have hk8 : k = 8 := by omega
      have ho := hideP hV.out
      rw [hk8, show (be8 n).take 8 = be8 n from List.take_of_length_le (by simp [be8])] at ho
      clear hV hlt hk
      go_wp2_with fail
      exact bodyPost_end (results_none rfl _ _ _) rfl ⟨rfl, ho.out⟩
end Go.Proofs.Ytgcbodpjidoanaa
