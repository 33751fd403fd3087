/- Contract of codec.Reader's Digest. Contract of codec.Reader's Row: plain part. Rows of int64 that a call owns: append of one. Contract of codec.Reader's Row. -/
import Derived.Laws.CopyOwn
import Derived.Test.YtgcbodpjidoanaaQ17
set_option linter.unusedVariables false
set_option linter.unusedSimpArgs false
namespace Go.Proofs.Ytgcbodpjidoanaa
open Go.RowKit
/-- a digest that is read -/
def rDig (l : List Nat) (e : Int) : List Nat := (rTake 32 l e).1.getD (List.replicate 32 0)
theorem splice_all (t : List Nat) (h : t.length = 32) : splice z32 0 (t.map b8) = t.map b8 := by
  refine List.ext_getElem? fun i => ?_
  simp [splice, h, z32]
def two32 (w : World) : World := (w.alloc (.cells z32.toArray 37)).alloc (.cells z32.toArray 37)
theorem two32_lit (w : World) : (w.alloc (.cells #[.int .u8 0, .int .u8 0, .int .u8 0, .int .u8 0, .int .u8 0, .int .u8 0, .int .u8 0, .int .u8 0, .int .u8 0, .int .u8 0, .int .u8 0, .int .u8 0, .int .u8 0, .int .u8 0, .int .u8 0, .int .u8 0, .int .u8 0, .int .u8 0, .int .u8 0, .int .u8 0, .int .u8 0, .int .u8 0, .int .u8 0, .int .u8 0, .int .u8 0, .int .u8 0, .int .u8 0, .int .u8 0, .int .u8 0, .int .u8 0, .int .u8 0, .int .u8 0] 37)).alloc (.cells #[.int .u8 0, .int .u8 0, .int .u8 0, .int .u8 0, .int .u8 0, .int .u8 0, .int .u8 0, .int .u8 0, .int .u8 0, .int .u8 0, .int .u8 0, .int .u8 0, .int .u8 0, .int .u8 0, .int .u8 0, .int .u8 0, .int .u8 0, .int .u8 0, .int .u8 0, .int .u8 0, .int .u8 0, .int .u8 0, .int .u8 0, .int .u8 0, .int .u8 0, .int .u8 0, .int .u8 0, .int .u8 0, .int .u8 0, .int .u8 0, .int .u8 0, .int .u8 0] 37) = two32 w := rfl
theorem two32_facts (w : World) (g : Nat) (l : List Nat) (e : Int) (hS : Rd w g l e) : Row (two32 w) w.heap.size 37 z32 ∧ Row (two32 w) (w.heap.size + 1) 37 z32 ∧ Rd (two32 w) g l e ∧ Below w.heap.size w (two32 w) ∧ (two32 w).heap.size = w.heap.size + 2 := by
  have hb : Below w.heap.size w (two32 w) := ((Below.refl _ _).alloc (Nat.le_refl _) _).alloc (by simp) _
  refine ⟨Row.after (Row.new w 37 z32) (below_new _ _), ?_, hS.after hb, hb, by simp [two32]⟩
  have := Row.new (w.alloc (.cells z32.toArray 37)) 37 z32
  simpa [two32] using this
theorem row_but {w w' : World} {g k : Nat} {t : TypeId} {cs : List Value} (b : But (fun b => b = g) w w') (h : Row w k t cs) (hk : k ≠ g) : Row w' k t cs := (b.block k (Row.lt h) hk).trans h
theorem But.then_below {S : Nat → Prop} {w w1 w2 : World} (b : But S w w1) (h : Below w.heap.size w1 w2) : But S w w2 :=
  ⟨Nat.le_trans b.size h.size, fun k hk hn => (h.block k hk).trans (b.block k hk hn), h.os.trans b.os, h.tape.trans b.tape, h.output.trans b.output⟩
theorem add_none (b off j : Nat) : (⟨b, off, none⟩ : Addr).add j = ⟨b, off + j, none⟩ := by
  simp only [Addr.add]
  try split
  all_goals first | rfl | simp_all
theorem src_cells {w : World} {b off : Nat} {t : List Nat} (h : t.length = 32) (hc : ∀ i, i < 32 → w.cell? ⟨b, off + i, none⟩ = some (u8s t i)) : ∀ j v, (t.map b8)[j]? = some v → w.cell? ((⟨b, off, none⟩ : Addr).add j) = some v := fun j v hv => by
  have hj : j < t.length := by have := (List.getElem?_eq_some_iff.1 hv).1; simpa using this
  rw [add_none, hc j (by omega)]
  rw [List.getElem?_map, List.getElem?_eq_getElem hj] at hv
  simpa [u8s, b8, List.getD, List.getElem?_eq_getElem hj] using hv
theorem one_b8 (t : List Nat) : ∀ v ∈ t.map b8, v.oneCell' = true := fun v hv => by
  obtain ⟨x, _, rfl⟩ := List.mem_map.1 hv; rfl
set_option maxRecDepth 100000 in
set_option maxHeartbeats 1000000 in
theorem rdig_any (g : Nat) (l : List Nat) (e : Int) (w : World) (hS : Rd w g l e) :
    Calls Try.prog 163 #[.pointer (some ⟨g, 0, none⟩)] w fun e' w' => e' = .returned (dg (rDig l e)) ∧ But (fun b => b = g) w w' ∧ Rd w' g (rTake 32 l e).2.1 (rTake 32 l e).2.2 := by
  have hT := fun W (h : Rd W g l e) => take_any g l 32 e W h
  obtain ⟨r1, r2, s0, b0, z0⟩ := two32_facts w g l e hS
  have hg := hS.lt
  have hds := hideP size_dig
  unfold rDig
  rcases hq : rTake 32 l e with ⟨_ | t, l', e1⟩ <;> rw [hq] at hT
  · have HT := hideP (hT _ s0)
    have Hr1 := hideP r1; have Hr2 := hideP r2; have Hs0 := hideP s0; have Hb0 := hideP b0; have Hz0 := hideP z0; have HhS := hideP hS; clear r1 r2 s0 b0 z0 hS
    clear hT hq
    dsimp only [Option.getD]
    go_enter Try.func163, Try.ntmps163
    go_wp2_with fail
    rw [two32_lit]
    refine HT.out.mono ?_
    rintro e2 w1 ⟨b1, s1, rfl⟩
    have R1 := hideP (row_but b1 Hr1.out (by omega))
    have R2 := hideP (row_but b1 Hr2.out (by omega))
    have S1 := hideP s1
    have B1 := hideP (But.trans (But.of_below (S := fun b => b = g) Hb0.out) b1)
    clear b1 s1
    simp only []
    go_wp2_with (first
      | (refine wpList_copy_splice rfl (.tmp 11) (.tmp 12) 22 22 rfl 5 Try.underlying22 (by kernel_rfl) (some ⟨w.heap.size + 1, 0, none⟩) none 32 32 0 0 rfl rfl (w.heap.size + 1) 0 z32 37 R2.out [] rfl (fun h => absurd h (by decide)) (by decide) (fun v hv => by simp at hv) (w.heap.size + 1) w1 (Below.refl _ _) (Nat.le_refl _) ?_; intro w2 hg2 hb2)
      | (refine wpList_load_row rfl 37 (.tmp 3) rfl (w.heap.size + 1) rfl 37 z32.toArray (0, 0) _ hg2.out Try.underlying37 rfl hds.out ?_)
      | (refine wpList_store_row rfl 37 (.tmp 2) (.tmp 14) rfl w.heap.size z32.toArray rfl rfl 37 z32.toArray (Row.below R1.out hb2 (Nat.lt_succ_self _)) hds.out rfl (all_b8 (List.replicate 32 0)) ?_))
    have hb3 : Below w.heap.size w1 (w2.setRow w.heap.size z32.toArray) := below_setRow' (hb2.mono (Nat.le_succ _)) (Nat.le_refl _) _
    refine ret_row rfl rfl (Row.setRow (Row.below R1.out hb2 (Nat.lt_succ_self _)) z32) Try.underlying37 (by rw [size_dig]; rfl) rfl ⟨rfl, B1.out.then_below hb3, S1.out.below hb3 hg⟩
  · have HT := hideP (hT _ s0)
    have Hr1 := hideP r1; have Hr2 := hideP r2; have Hs0 := hideP s0; have Hb0 := hideP b0; have Hz0 := hideP z0; have HhS := hideP hS; clear r1 r2 s0 b0 z0 hS
    clear hT hq
    dsimp only [Option.getD]
    go_enter Try.func163, Try.ntmps163
    go_wp2_with fail
    rw [two32_lit]
    refine HT.out.mono ?_
    rintro e2 w1 ⟨b1, s1, hl1, hI1, A, c, rfl, hc1, hX⟩
    obtain ⟨b, off, rfl, hB, hcc⟩ := hX (by decide)
    have R1 := hideP (row_but b1 Hr1.out (by omega))
    have R2 := hideP (row_but b1 Hr2.out (by omega))
    have S1 := hideP s1
    have B1 := hideP (But.trans (But.of_below (S := fun b => b = g) Hb0.out) b1)
    have HL := hideP hl1
    have HC := hideP (src_cells hl1 hcc)
    have hso := hideP (show (t.map b8).toArray.size = z32.toArray.size by simp [hl1, z32])
    have hs2 := hideP (show (Try.prog.info? 37).map (·.size) = some (t.map b8).toArray.size by rw [size_dig]; simp [hl1])
    have hsp := hideP (splice_all t hl1)
    have hlm := hideP (show (t.map b8).length = Nat.min 32 32 by rw [List.length_map, hl1]; rfl)
    have hlf := hideP (show 0 + (t.map b8).length ≤ z32.length by rw [List.length_map, hl1]; decide)
    clear b1 s1 hl1 hI1 hcc hX
    simp only []
    go_wp2_with (first
      | (refine wpList_copy_splice rfl (.tmp 11) (.tmp 12) 22 22 rfl 5 Try.underlying22 (by kernel_rfl) (some ⟨w.heap.size + 1, 0, none⟩) (some ⟨b, off, none⟩) 32 32 32 c rfl rfl (w.heap.size + 1) 0 z32 37 R2.out (t.map b8) hlm.out (fun _ => ⟨rfl, _, rfl, HC.out⟩) hlf.out (one_b8 t) (w.heap.size + 1) w1 (Below.refl _ _) (Nat.le_refl _) ?_; intro w2 hg2 hb2; rw [hsp.out] at hg2)
      | (refine wpList_load_row rfl 37 (.tmp 3) rfl (w.heap.size + 1) rfl 37 (t.map b8).toArray (0, 0) _ hg2.out Try.underlying37 rfl hs2.out ?_)
      | (refine wpList_store_row rfl 37 (.tmp 2) (.tmp 14) rfl w.heap.size (t.map b8).toArray rfl rfl 37 z32.toArray (Row.below R1.out hb2 (Nat.lt_succ_self _)) hs2.out hso.out.symm (all_b8 t) ?_))
    have hb3 : Below w.heap.size w1 (w2.setRow w.heap.size (t.map b8).toArray) := below_setRow' (hb2.mono (Nat.le_succ _)) (Nat.le_refl _) _
    refine ret_row rfl rfl (Row.setRow (Row.below R1.out hb2 (Nat.lt_succ_self _)) (t.map b8)) Try.underlying37 (by rw [size_dig]; simp [HL.out]) rfl ⟨rfl, B1.out.then_below hb3, S1.out.below hb3 hg⟩
end Go.Proofs.Ytgcbodpjidoanaa
namespace Go.Proofs.Ytgcbodpjidoanaa
open Go.RowKit
/-- k numbers that are read in turn: those read well, what is left, the error -/
def rNums : Nat → List Nat → Int → List Int × List Nat × Int
  | 0, l, e => ([], l, e)
  | k + 1, l, e =>
    let s := rNums k l e
    (if (rTake 8 s.2.1 s.2.2).2.2 = 0 then s.1 ++ [rNum s.2.1 s.2.2] else s.1, (rTake 8 s.2.1 s.2.2).2)
/-- the error behind a row's first byte -/
def rRowE (most : Nat) (l : List Nat) (e : Int) : Int := if most < rByte l e ∧ (rTake 1 l e).2.2 = 0 then 10 else (rTake 1 l e).2.2
/-- a row that is read -/
def rRow (most : Nat) (l : List Nat) (e : Int) : List Int × List Nat × Int :=
  let s := rNums (rByte l e) (rTake 1 l e).2.1 (rRowE most l e)
  (if s.2.2 = 0 then s.1 else [], s.2)
theorem rNums_len (k : Nat) (l : List Nat) (e : Int) : (rNums k l e).1.length ≤ k := by
  induction k with
  | zero => simp [rNums]
  | succ k ih =>
    simp only [rNums]
    split
    · simp; omega
    · omega
/-- fail, told at once -/
theorem fail_any (g : Nat) (l : List Nat) (x e : Int) (w : World) (hS : Rd w g l e) :
    Calls Try.prog 161 #[.pointer (some ⟨g, 0, none⟩), .int .i64 x] w fun e' w' => e' = .returned (.tuple #[]) ∧ But (fun b => b = g) w w' ∧ Rd w' g l (if e = 0 then x else e) := by
  by_cases he : e = 0
  · subst he
    rw [if_pos rfl]
    exact fail_new g l x w hS
  · rw [if_neg he]
    refine (fail_old g l x e he w hS).mono ?_
    rintro e' w' ⟨rfl, rfl⟩
    exact ⟨rfl, But.refl _, hS⟩
end Go.Proofs.Ytgcbodpjidoanaa
namespace Go.Proofs.Ytgcbodpjidoanaa
open Go.RowKit
theorem info_i64r : (Try.prog.info? 2).map (fun i => (i.zero, i.size, i.bytes)) = some (some (.int .i64 0), 1, 8) := by kernel_rfl
/-- a row of numbers that the call owns -/
def OwnI (w : World) (base : Nat) (A : Option Addr) (c : Nat) (l : List Int) : Prop := w.ownsRow base 2 1 (.slice A l.length c) l.length (l.map (Value.int .i64))
theorem OwnI.ext {w W : World} {base : Nat} {A : Option Addr} {c : Nat} {l : List Int} (h : OwnI w base A c l) (hW : Ext w W) : OwnI W base A c l := ownsRow_ext h hW
theorem OwnI.nil (w : World) (base : Nat) : OwnI w base none 0 [] := World.ownsRow_nil w base _ _
/-- one number more -/
theorem wpList_appI {ops : Array Oper} {rest : List Oper} {o : Oper} {a : Act} {w : World} {Q : Exit → Act → World → Prop} (hgd : o.guard = none) (s x : Operand)
    (ho : o.op = .call { callee := .builtin .append, args := #[s, x], argTypes := #[39, 39] }) (base : Nat) (A : Option Addr) (c n : Nat) (l : List Int) (hl : n = l.length) (hs : a.eval s = .slice A n c) (hown : OwnI w base A c l)
    (y : Int) (hx : a.eval x = .slice (some ⟨w.heap.size, 0, none⟩) 1 1) (hn : n ≤ 1000000000) (hbase : base ≤ w.heap.size)
    (h : ∀ A' c' w', OwnI w' base A' c' (l ++ [y]) → Below base w w' → wpList Try.prog ops Q rest (a.put o.dst (.slice A' (n + 1) c')) w') : wpList Try.prog ops Q (o :: rest) a (w.alloc (.cells #[.int .i64 y] 2)) := by
  obtain ⟨i0, hi0, hz0, hz1, hz2⟩ := info_parts info_i64r
  subst hl
  refine wpList_append_cells w hgd s x 39 ho base 2 i0 _ 1 8 Try.underlying39 hi0 hz0 hz1 hz2 rfl (by decide) (.slice A l.length c) l.length (l.map (Value.int .i64)) hs hown #[.int .i64 y] 1 hx rfl (by simp [Value.oneCell']) (by omega) (by unfold maxLen; omega) (by omega) hbase ?_
  intro g c3 w3 hown3 hg3 hat3
  refine h _ _ w3 ?_ (below_own hown hg3 (Nat.le_refl _) hbase)
  unfold OwnI
  rw [List.length_append, List.map_append]
  exact hown3
end Go.Proofs.Ytgcbodpjidoanaa
namespace Go.Proofs.Ytgcbodpjidoanaa
open Go.RowKit
theorem OwnI.but {S : Nat → Prop} {w w' : World} {base : Nat} {A : Option Addr} {c : Nat} {l : List Int} (h : OwnI w base A c l) (b : But S w w') (hS : ∀ k, base ≤ k → ¬ S k) : OwnI w' base A c l := by
  refine ⟨h.1, h.2.imp id ?_⟩
  rintro ⟨g, cap, cur, hv, hg, hh, r⟩
  exact ⟨g, cap, cur, hv, hg, (b.block g (Array.getElem?_eq_some_iff.1 hh).1 (hS g hg)).trans hh, r⟩
theorem rByte_lt (l : List Nat) (e : Int) (hl : IsB l) : rByte l e < 256 := by
  unfold rByte rTake
  split
  · decide
  · rename_i t ht
    split at ht
    · cases ht
    · split at ht
      · cases ht
      · cases ht; exact isB_take hl 1 0
end Go.Proofs.Ytgcbodpjidoanaa
