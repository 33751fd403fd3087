/- Contract of node.kid: a kid that is read. -/
import Derived.Test.YtgcbodpjidoanaaQ20
import Derived.Test.YtgcbodpjidoanaaQ28
import Derived.Test.YtgcbodpjidoanaaQ32
set_option linter.unusedVariables false
set_option linter.unusedSimpArgs false
namespace Go.Proofs.Ytgcbodpjidoanaa
open Go.RowKit
theorem OwnI.monoI {w : World} {base base' : Nat} {A : Option Addr} {c : Nat} {l : List Int} (h : OwnI w base A c l) (hb : base' ≤ base) : OwnI w base' A c l := by
  refine ⟨h.1, h.2.imp id ?_⟩
  rintro ⟨g, cap, cur, hv, hg, r⟩
  exact ⟨g, cap, cur, hv, Nat.le_trans hb hg, r⟩
theorem OwnI.setRowI {w : World} {base z : Nat} {A : Option Addr} {c : Nat} {l : List Int} (h : OwnI w base A c l) (hz : z < base) (C : Array Value) : OwnI (w.setRow z C) base A c l :=
  h.but (S := fun k => k = z) (But.setRow w z C rfl) fun k hk e => by omega
theorem But.setRow_new {w0 w : World} {g z : Nat} {C : Array Value} (hz : w0.heap.size ≤ z) : But (fun b => b = g) w0 w → But (fun b => b = g) w0 (w.setRow z C) := fun b =>
  ⟨by simpa [World.setRow] using b.size, fun k hk hn => (setRow_other w z k C (by omega)).trans (b.block k hk hn), b.os, b.tape, b.output⟩
theorem Rd.setRowI {w : World} {g z : Nat} {l : List Nat} {e : Int} (h : Rd w g l e) (hz : g < z) (C : Array Value) : Rd (w.setRow z C) g l e :=
  h.but hz (But.setRow w z C rfl)
/-- a kid that is read, what is left, the error -/
def rKid (d : Int) (l : List Nat) (e : Int) : KidD × List Nat × Int :=
  let s := (rTake 32 l e).2
  let c1 := rCount 1048576 s.1 s.2
  let c2 := rCount 1048576 c1.2.1 c1.2.2
  let r1 := rRowI d c2.2.1 c2.2.2
  let r2 := rRowI d r1.2.1 r1.2.2
  let r3 := rRowI d r2.2.1 r2.2.2
  (⟨rDig l e, r1.1, r2.1, (c1.1 : Int), (c2.1 : Int), r3.1⟩, r3.2)
/-- a kid whose rows the call owns -/
structure KidOwn (w : World) (lo : Nat) (k : KidD) (p : KidP) : Prop where
  l : OwnI w lo p.lA p.lc k.lo
  h : OwnI w lo p.hA p.hc k.hi
  k : OwnI w lo p.kA p.kc k.key
section
variable {w W : World} {lo : Nat} {k : KidD} {p : KidP} {S : Nat → Prop}
theorem KidOwn.but (h : KidOwn w lo k p) (b : But S w W) (hS : ∀ j, lo ≤ j → ¬ S j) : KidOwn W lo k p := ⟨h.l.but b hS, h.h.but b hS, h.k.but b hS⟩
theorem KidOwn.ext (h : KidOwn w lo k p) (b : Ext w W) : KidOwn W lo k p := ⟨h.l.ext b, h.h.ext b, h.k.ext b⟩
theorem ownI_arr {base : Nat} {A : Option Addr} {c : Nat} {l : List Int} (h : OwnI w base A c l) : Arr w w.heap.size A l.length (i64s l) :=
  Arr.of_own h fun i hi => by simp [i64s, List.getD, List.getElem?_map, List.getElem?_eq_getElem hi]
theorem KidOwn.mem (h : KidOwn w lo k p) : KidMem w w.heap.size k p := ⟨ownI_arr h.l, ownI_arr h.h, ownI_arr h.k⟩
end
section
variable {w : World} {x : Nat} {T : TypeId} {M : List Value} {a b c d e u : Value}
theorem rowU_cell (h : Row w x T (M ++ [a, b, c, d, e])) (hM : M.length = 32) : w.cell? ⟨x, 32, none⟩ = some a ∧ w.cell? ⟨x, 33, none⟩ = some b ∧ w.cell? ⟨x, 34, none⟩ = some c ∧ w.cell? ⟨x, 35, none⟩ = some d ∧ w.cell? ⟨x, 36, none⟩ = some e := by
  have hc : ∀ j v, [a, b, c, d, e][j]? = some v → w.cell? ⟨x, 32 + j, none⟩ = some v := fun j v hv => by
    rw [Row.cell h, List.getElem?_append_right (by omega), hM, Nat.add_sub_cancel_left]; exact hv
  exact ⟨hc 0 a rfl, hc 1 b rfl, hc 2 c rfl, hc 3 d rfl, hc 4 e rfl⟩
theorem rowU_set (h : Row w x T (M ++ [a, b, c, d, e])) (hM : M.length = 32) (j : Nat) (u : Value) : Row (w.setCell ⟨x, 32 + j, none⟩ u) x T (M ++ [a, b, c, d, e].set j u) := by
  have := Row.set h (32 + j) u
  rwa [List.set_append_right _ _ (by omega), hM, Nat.add_sub_cancel_left] at this
end
theorem fold_kid32 (a0 a1 a2 a3 a4 a5 a6 a7 a8 a9 a10 a11 a12 a13 a14 a15 a16 a17 a18 a19 a20 a21 a22 a23 a24 a25 a26 a27 a28 a29 a30 a31 : Nat) : List.foldl (fun cs (x : Value × Nat) => Array.setIfInBounds cs x.2 x.1) #[.int .u8 0, .int .u8 0, .int .u8 0, .int .u8 0, .int .u8 0, .int .u8 0, .int .u8 0, .int .u8 0, .int .u8 0, .int .u8 0, .int .u8 0, .int .u8 0, .int .u8 0, .int .u8 0, .int .u8 0, .int .u8 0, .int .u8 0, .int .u8 0, .int .u8 0, .int .u8 0, .int .u8 0, .int .u8 0, .int .u8 0, .int .u8 0, .int .u8 0, .int .u8 0, .int .u8 0, .int .u8 0, .int .u8 0, .int .u8 0, .int .u8 0, .int .u8 0, .slice none 0 0, .slice none 0 0, .int .i64 0, .int .i64 0, .slice none 0 0] ([a0, a1, a2, a3, a4, a5, a6, a7, a8, a9, a10, a11, a12, a13, a14, a15, a16, a17, a18, a19, a20, a21, a22, a23, a24, a25, a26, a27, a28, a29, a30, a31].map b8).zipIdx = ([a0, a1, a2, a3, a4, a5, a6, a7, a8, a9, a10, a11, a12, a13, a14, a15, a16, a17, a18, a19, a20, a21, a22, a23, a24, a25, a26, a27, a28, a29, a30, a31].map b8 ++ ([.slice none 0 0, .slice none 0 0, .int .i64 0, .int .i64 0, .slice none 0 0] : List Value)).toArray := by kernel_rfl
theorem fold_kid (p : List Nat) (hp : p.length = 32) : List.foldl (fun cs (x : Value × Nat) => Array.setIfInBounds cs x.2 x.1) #[.int .u8 0, .int .u8 0, .int .u8 0, .int .u8 0, .int .u8 0, .int .u8 0, .int .u8 0, .int .u8 0, .int .u8 0, .int .u8 0, .int .u8 0, .int .u8 0, .int .u8 0, .int .u8 0, .int .u8 0, .int .u8 0, .int .u8 0, .int .u8 0, .int .u8 0, .int .u8 0, .int .u8 0, .int .u8 0, .int .u8 0, .int .u8 0, .int .u8 0, .int .u8 0, .int .u8 0, .int .u8 0, .int .u8 0, .int .u8 0, .int .u8 0, .int .u8 0, .slice none 0 0, .slice none 0 0, .int .i64 0, .int .i64 0, .slice none 0 0] (p.map b8).zipIdx = (p.map b8 ++ ([.slice none 0 0, .slice none 0 0, .int .i64 0, .int .i64 0, .slice none 0 0] : List Value)).toArray := by
  match p, hp with
  | [a0, a1, a2, a3, a4, a5, a6, a7, a8, a9, a10, a11, a12, a13, a14, a15, a16, a17, a18, a19, a20, a21, a22, a23, a24, a25, a26, a27, a28, a29, a30, a31], _ => exact fold_kid32 a0 a1 a2 a3 a4 a5 a6 a7 a8 a9 a10 a11 a12 a13 a14 a15 a16 a17 a18 a19 a20 a21 a22 a23 a24 a25 a26 a27 a28 a29 a30 a31
abbrev kidL13 : List Value := [.int .u8 0, .int .u8 0, .int .u8 0, .int .u8 0, .int .u8 0, .int .u8 0, .int .u8 0, .int .u8 0, .int .u8 0, .int .u8 0, .int .u8 0, .int .u8 0, .int .u8 0, .int .u8 0, .int .u8 0, .int .u8 0, .int .u8 0, .int .u8 0, .int .u8 0, .int .u8 0, .int .u8 0, .int .u8 0, .int .u8 0, .int .u8 0, .int .u8 0, .int .u8 0, .int .u8 0, .int .u8 0, .int .u8 0, .int .u8 0, .int .u8 0, .int .u8 0, .slice none 0 0, .slice none 0 0, .int .i64 0, .int .i64 0, .slice none 0 0]
set_option maxRecDepth 100000 in
set_option maxHeartbeats 4000000 in
theorem nkid_any (g : Nat) (l : List Nat) (d : Int) (e : Int) (w : World) (hS : Rd w g l e) :
    Calls Try.prog 89 #[.pointer (some ⟨g, 0, none⟩), .int .i64 d] w fun e' w' => ∃ p, e' = .returned (.agg (kidC (rKid d l e).1 p).toArray) ∧ KidOwn w' w.heap.size (rKid d l e).1 p ∧ But (fun b => b = g) w w' ∧ Rd w' g (rKid d l e).2.1 (rKid d l e).2.2 := by
  obtain ⟨RS, hRS⟩ : ∃ RS, RS = rKid d l e := ⟨_, rfl⟩
  rw [← hRS]
  have hD1 := fun W (h : Rd W g l e) => rdig_any g l e W h
  unfold rKid at hRS
  dsimp only at hRS
  have lp := hideP (rDig_len l e)
  obtain ⟨p, hp⟩ : ∃ p, p = rDig l e := ⟨_, rfl⟩
  obtain ⟨⟨o1, l1, e1⟩, q1⟩ : ∃ q, q = rTake 32 l e := ⟨_, rfl⟩
  rw [← hp, ← q1] at hD1 hRS
  rw [← hp] at lp
  dsimp only at hD1 hRS
  have hD2 := fun W (h : Rd W g l1 e1) => rcount_any g l1 1048576 e1 W h
  obtain ⟨⟨n2, l2, e2⟩, q2⟩ : ∃ q, q = rCount 1048576 l1 e1 := ⟨_, rfl⟩
  rw [← q2] at hD2 hRS
  dsimp only at hD2 hRS
  have hD3 := fun W (h : Rd W g l2 e2) => rcount_any g l2 1048576 e2 W h
  obtain ⟨⟨n3, l3, e3⟩, q3⟩ : ∃ q, q = rCount 1048576 l2 e2 := ⟨_, rfl⟩
  rw [← q3] at hD3 hRS
  dsimp only at hD3 hRS
  have hD4 := fun W (h : Rd W g l3 e3) => rrowI_any g l3 d e3 W h
  obtain ⟨⟨r4, l4, e4⟩, q4⟩ : ∃ q, q = rRowI d l3 e3 := ⟨_, rfl⟩
  rw [← q4] at hD4 hRS
  dsimp only at hD4 hRS
  have hD5 := fun W (h : Rd W g l4 e4) => rrowI_any g l4 d e4 W h
  obtain ⟨⟨r5, l5, e5⟩, q5⟩ : ∃ q, q = rRowI d l4 e4 := ⟨_, rfl⟩
  rw [← q5] at hD5 hRS
  dsimp only at hD5 hRS
  have hD6 := fun W (h : Rd W g l5 e5) => rrowI_any g l5 d e5 W h
  obtain ⟨⟨r6, l6, e6⟩, q6⟩ : ∃ q, q = rRowI d l5 e5 := ⟨_, rfl⟩
  rw [← q6] at hD6 hRS
  dsimp only at hD6 hRS
  rw [hRS]
  dsimp only
  obtain ⟨m4, hm4⟩ : ∃ x, x = r4.length := ⟨_, rfl⟩
  obtain ⟨m5, hm5⟩ : ∃ x, x = r5.length := ⟨_, rfl⟩
  obtain ⟨m6, hm6⟩ : ∃ x, x = r6.length := ⟨_, rfl⟩
  rw [← hm4] at hD4; rw [← hm5] at hD5; rw [← hm6] at hD6
  have M4 := hideP hm4; have M5 := hideP hm5; have M6 := hideP hm6
  unfold dg at hD1
  have HhD1 := hideP hD1; have HhD2 := hideP hD2; have HhD3 := hideP hD3; have HhD4 := hideP hD4; have HhD5 := hideP hD5; have HhD6 := hideP hD6; clear hD1 hD2 hD3 hD4 hD5 hD6
  clear hp q1 q2 q3 q4 q5 q6 hRS hm4 hm5 hm6
  obtain ⟨v0, hv0⟩ : ∃ v, v = w.alloc (.cells kidL13.toArray 43) := ⟨_, rfl⟩
  obtain ⟨z, hz⟩ : ∃ z, z = w.heap.size := ⟨_, rfl⟩
  have Z0 := hideP (show Row v0 z 43 kidL13 by rw [hv0, hz]; exact Row.new w _ _)
  have hgz := hideP (show g < z by rw [hz]; exact hS.lt)
  have R0 := hideP (show Rd v0 g l e by rw [hv0]; exact hS.after (below_new w _))
  have b0 := hideP (show But (fun b => b = g) w v0 by rw [hv0]; exact But.of_below (below_new w _))
  have Hv := hideP hv0
  have Hz := hideP hz
  clear hv0 hz hS
  have hwz := hideP (show w.heap.size ≤ z by rw [Hz.out]; exact Nat.le_refl _)
  go_enter Try.func89, Try.ntmps89
  go_upto_region 1 with fail
  rw [← Hz.out, show (w.alloc (.cells #[.int .u8 0, .int .u8 0, .int .u8 0, .int .u8 0, .int .u8 0, .int .u8 0, .int .u8 0, .int .u8 0, .int .u8 0, .int .u8 0, .int .u8 0, .int .u8 0, .int .u8 0, .int .u8 0, .int .u8 0, .int .u8 0, .int .u8 0, .int .u8 0, .int .u8 0, .int .u8 0, .int .u8 0, .int .u8 0, .int .u8 0, .int .u8 0, .int .u8 0, .int .u8 0, .int .u8 0, .int .u8 0, .int .u8 0, .int .u8 0, .int .u8 0, .int .u8 0, .slice none 0 0, .slice none 0 0, .int .i64 0, .int .i64 0, .slice none 0 0] 43)) = v0 from Hv.out.symm]
  have hF := fold_kid p lp.out
  obtain ⟨C0, hC0⟩ : ∃ C, C = p.map b8 ++ [.slice none 0 0, .slice none 0 0, .int .i64 0, .int .i64 0, .slice none 0 0] := ⟨_, rfl⟩
  have h37 : C0.length = 37 := by rw [hC0]; simp [lp.out]
  have hs := hideP (size_k37 h37)
  have ho := hideP (show C0.toArray.all (·.oneCell') = true by
    rw [hC0]
    have := kidC_one ⟨p, [], [], 0, 0, []⟩ kidPZ
    exact this)
  have hs2 := hideP (show kidL13.toArray.size = C0.toArray.size by rw [List.size_toArray, List.size_toArray, h37]; rfl)
  rw [← hC0] at hF
  have HC0 := hideP hC0
  clear hC0 h37
  have hM := hideP (show (p.map b8).length = 32 by simp [lp.out])
  have l32 := lp.out
  go_upto_region 2 with (first
    | (go_at_call 163; refine (HhD1.out _ R0.out).mono ?_; rintro e_ w1 ⟨rfl, b_, s_⟩; have R1 := hideP s_; have Z1 := hideP (row_but2 b_ Z0.out (by have := hgz.out; omega)); have B1 := hideP (b0.out.trans b_); clear b_ s_)
    | (refine wpList_store_row rfl 43 (.tmp 5) (.tmp 8) rfl w1.heap.size C0.toArray rfl rfl 43 kidL13.toArray (Row.new w1 43 kidL13) hs.out hs2.out ho.out ?_))
  clear l32 hF
  simp only [Act.put]
  obtain ⟨x, hx⟩ : ∃ x, x = w1.heap.size := ⟨_, rfl⟩
  obtain ⟨v1, hv1⟩ : ∃ v, v = (w1.alloc (.cells kidL13.toArray 43)).setRow x C0.toArray := ⟨_, rfl⟩
  rw [← hx, ← hv1]
  have hb1 : Below w1.heap.size w1 v1 := by rw [hv1, hx]; exact below_setRow' (below_new w1 _) (Nat.le_refl _) _
  have X2 := hideP (show Row v1 x 43 (p.map b8 ++ [.slice none 0 0, .slice none 0 0, .int .i64 0, .int .i64 0, .slice none 0 0]) by rw [hv1, hx, ← HC0.out]; exact Row.setRow (Row.new w1 43 kidL13) C0)
  have hxg := hideP (show g < x by rw [hx]; exact R1.out.lt)
  have hxz := hideP (show z < x by rw [hx]; exact Row.lt Z1.out)
  have hwx := hideP (show w.heap.size ≤ x by have := hxz.out; have := hwz.out; omega)
  have Z2 := hideP (Row.after Z1.out hb1)
  have R2 := hideP (R1.out.after hb1)
  have B2 := hideP (B1.out.trans (But.of_below hb1))
  clear hx hv1 hb1 R1 Z1 B1
  go_upto_region 3 with (go_at_call 164; refine (HhD2.out _ R2.out).mono ?_; rintro e_ w3 ⟨rfl, b_, s_⟩; have R3 := hideP s_; have Z3 := hideP (row_but2 b_ Z2.out (by have := hgz.out; omega)); have X3 := hideP (row_but2 b_ X2.out (by have := hxg.out; omega)); have B3 := hideP (B2.out.trans b_); have fz : w3.frozen? ⟨x, 34, none⟩ = false := Row.fz X3.out 34; obtain ⟨y0, y1, y2, y3, y4⟩ := rowU_cell X3.out hM.out; clear b_ s_)
  clear fz y0 y1 y2 y3 y4
  obtain ⟨v3, h_⟩ : ∃ v, v = w3.setCell ⟨x, 34, none⟩ (.int .i64 (n2 : Nat)) := ⟨_, rfl⟩
  rw [← h_]
  have X4 := hideP (show Row v3 x 43 (p.map b8 ++ [.slice none 0 0, .slice none 0 0, .int .i64 (n2 : Nat), .int .i64 0, .slice none 0 0]) by rw [h_]; exact rowU_set X3.out hM.out 2 _)
  have Z4 := hideP (show Row v3 z 43 kidL13 by rw [h_]; exact Row.setOther Z3.out (by show z ≠ x; have := hxz.out; omega) _)
  have R4 := hideP (show Rd v3 g l2 e2 by rw [h_]; exact Rd.setNew R3.out hxg.out _)
  have B4 := hideP (show But (fun b => b = g) w v3 by rw [h_]; exact But.setNew B3.out hwx.out _)
  clear h_
  go_upto_region 4 with (go_at_call 164; refine (HhD3.out _ R4.out).mono ?_; rintro e_ w5 ⟨rfl, b_, s_⟩; have R5 := hideP s_; have Z5 := hideP (row_but2 b_ Z4.out (by have := hgz.out; omega)); have X5 := hideP (row_but2 b_ X4.out (by have := hxg.out; omega)); have B5 := hideP (B4.out.trans b_); have fz : w5.frozen? ⟨x, 35, none⟩ = false := Row.fz X5.out 35; obtain ⟨y0, y1, y2, y3, y4⟩ := rowU_cell X5.out hM.out; clear b_ s_)
  clear fz y0 y1 y2 y3 y4
  obtain ⟨v5, h_⟩ : ∃ v, v = w5.setCell ⟨x, 35, none⟩ (.int .i64 (n3 : Nat)) := ⟨_, rfl⟩
  rw [← h_]
  have X6 := hideP (show Row v5 x 43 (p.map b8 ++ [.slice none 0 0, .slice none 0 0, .int .i64 (n2 : Nat), .int .i64 (n3 : Nat), .slice none 0 0]) by rw [h_]; exact rowU_set X5.out hM.out 3 _)
  have Z6 := hideP (show Row v5 z 43 kidL13 by rw [h_]; exact Row.setOther Z5.out (by show z ≠ x; have := hxz.out; omega) _)
  have R6 := hideP (show Rd v5 g l3 e3 by rw [h_]; exact Rd.setNew R5.out hxg.out _)
  have B6 := hideP (show But (fun b => b = g) w v5 by rw [h_]; exact But.setNew B5.out hwx.out _)
  clear h_
  go_upto_region 5 with (go_at_call 88; refine (HhD4.out _ R6.out).mono ?_; rintro e_ w7 ⟨A4, c4, rfl, o_, b_, s_⟩; have O4 := hideP (OwnI.monoI o_ (Row.lt X6.out)); clear o_; have R7 := hideP s_; have Z7 := hideP (row_but2 b_ Z6.out (by have := hgz.out; omega)); have X7 := hideP (row_but2 b_ X6.out (by have := hxg.out; omega)); have B7 := hideP (B6.out.trans b_); have fz : w7.frozen? ⟨x, 32, none⟩ = false := Row.fz X7.out 32; obtain ⟨y0, y1, y2, y3, y4⟩ := rowU_cell X7.out hM.out; clear b_ s_)
  clear fz y0 y1 y2 y3 y4
  obtain ⟨v7, h_⟩ : ∃ v, v = w7.setCell ⟨x, 32, none⟩ (.slice A4 m4 c4) := ⟨_, rfl⟩
  rw [← h_]
  have X8 := hideP (show Row v7 x 43 (p.map b8 ++ [.slice A4 m4 c4, .slice none 0 0, .int .i64 (n2 : Nat), .int .i64 (n3 : Nat), .slice none 0 0]) by rw [h_]; exact rowU_set X7.out hM.out 0 _)
  have Z8 := hideP (show Row v7 z 43 kidL13 by rw [h_]; exact Row.setOther Z7.out (by show z ≠ x; have := hxz.out; omega) _)
  have R8 := hideP (show Rd v7 g l4 e4 by rw [h_]; exact Rd.setNew R7.out hxg.out _)
  have B8 := hideP (show But (fun b => b = g) w v7 by rw [h_]; exact But.setNew B7.out hwx.out _)
  have P4 := hideP (show OwnI v7 (x + 1) A4 c4 r4 by rw [h_]; exact ownsRow_setCell_below O4.out (Nat.lt_succ_self x) _)
  clear h_
  go_upto_region 6 with (go_at_call 88; refine (HhD5.out _ R8.out).mono ?_; rintro e_ w9 ⟨A5, c5, rfl, o_, b_, s_⟩; have O5 := hideP (OwnI.monoI o_ (Row.lt X8.out)); clear o_; have Q4 := hideP (P4.out.but b_ (fun k hk e => by have := hxg.out; omega)); have R9 := hideP s_; have Z9 := hideP (row_but2 b_ Z8.out (by have := hgz.out; omega)); have X9 := hideP (row_but2 b_ X8.out (by have := hxg.out; omega)); have B9 := hideP (B8.out.trans b_); have fz : w9.frozen? ⟨x, 33, none⟩ = false := Row.fz X9.out 33; obtain ⟨y0, y1, y2, y3, y4⟩ := rowU_cell X9.out hM.out; clear b_ s_)
  clear fz y0 y1 y2 y3 y4
  obtain ⟨v9, h_⟩ : ∃ v, v = w9.setCell ⟨x, 33, none⟩ (.slice A5 m5 c5) := ⟨_, rfl⟩
  rw [← h_]
  have X10 := hideP (show Row v9 x 43 (p.map b8 ++ [.slice A4 m4 c4, .slice A5 m5 c5, .int .i64 (n2 : Nat), .int .i64 (n3 : Nat), .slice none 0 0]) by rw [h_]; exact rowU_set X9.out hM.out 1 _)
  have Z10 := hideP (show Row v9 z 43 kidL13 by rw [h_]; exact Row.setOther Z9.out (by show z ≠ x; have := hxz.out; omega) _)
  have R10 := hideP (show Rd v9 g l5 e5 by rw [h_]; exact Rd.setNew R9.out hxg.out _)
  have B10 := hideP (show But (fun b => b = g) w v9 by rw [h_]; exact But.setNew B9.out hwx.out _)
  have P5 := hideP (show OwnI v9 (x + 1) A5 c5 r5 by rw [h_]; exact ownsRow_setCell_below O5.out (Nat.lt_succ_self x) _)
  have U4 := hideP (show OwnI v9 (x + 1) A4 c4 r4 by rw [h_]; exact ownsRow_setCell_below Q4.out (Nat.lt_succ_self x) _)
  clear h_
  go_upto_region 7 with (go_at_call 88; refine (HhD6.out _ R10.out).mono ?_; rintro e_ w11 ⟨A6, c6, rfl, o_, b_, s_⟩; have O6 := hideP (OwnI.monoI o_ (Row.lt X10.out)); clear o_; have Q5 := hideP (P5.out.but b_ (fun k hk e => by have := hxg.out; omega)); have Q6 := hideP (U4.out.but b_ (fun k hk e => by have := hxg.out; omega)); have R11 := hideP s_; have Z11 := hideP (row_but2 b_ Z10.out (by have := hgz.out; omega)); have X11 := hideP (row_but2 b_ X10.out (by have := hxg.out; omega)); have B11 := hideP (B10.out.trans b_); have fz : w11.frozen? ⟨x, 36, none⟩ = false := Row.fz X11.out 36; obtain ⟨y0, y1, y2, y3, y4⟩ := rowU_cell X11.out hM.out; clear b_ s_)
  clear fz y0 y1 y2 y3 y4
  obtain ⟨v11, h_⟩ : ∃ v, v = w11.setCell ⟨x, 36, none⟩ (.slice A6 m6 c6) := ⟨_, rfl⟩
  rw [← h_]
  have X12 := hideP (show Row v11 x 43 (p.map b8 ++ [.slice A4 m4 c4, .slice A5 m5 c5, .int .i64 (n2 : Nat), .int .i64 (n3 : Nat), .slice A6 m6 c6]) by rw [h_]; exact rowU_set X11.out hM.out 4 _)
  have Z12 := hideP (show Row v11 z 43 kidL13 by rw [h_]; exact Row.setOther Z11.out (by show z ≠ x; have := hxz.out; omega) _)
  have R12 := hideP (show Rd v11 g l6 e6 by rw [h_]; exact Rd.setNew R11.out hxg.out _)
  have B12 := hideP (show But (fun b => b = g) w v11 by rw [h_]; exact But.setNew B11.out hwx.out _)
  have P6 := hideP (show OwnI v11 (x + 1) A6 c6 r6 by rw [h_]; exact ownsRow_setCell_below O6.out (Nat.lt_succ_self x) _)
  have U5 := hideP (show OwnI v11 (x + 1) A5 c5 r5 by rw [h_]; exact ownsRow_setCell_below Q5.out (Nat.lt_succ_self x) _)
  have V4 := hideP (show OwnI v11 (x + 1) A4 c4 r4 by rw [h_]; exact ownsRow_setCell_below Q6.out (Nat.lt_succ_self x) _)
  clear h_
  obtain ⟨C1, hC1⟩ : ∃ C, C = p.map b8 ++ [.slice A4 m4 c4, .slice A5 m5 c5, .int .i64 (n2 : Nat), .int .i64 (n3 : Nat), .slice A6 m6 c6] := ⟨_, rfl⟩
  rw [← hC1] at X12
  have HC1 := hideP (show kidC ⟨p, r4, r5, (n2 : Int), (n3 : Int), r6⟩ ⟨A4, c4, A5, c5, A6, c6⟩ = C1 by rw [hC1]; unfold kidC kidT; dsimp only; rw [M4.out, M5.out, M6.out])
  have t37 := hideP (size_k37 (show C1.length = 37 by rw [hC1]; simp [lp.out]))
  have tone := hideP (show C1.toArray.all (·.oneCell') = true by rw [← HC1.out]; exact kidC_one _ _)
  have tso := hideP (show kidL13.toArray.size = C1.toArray.size by rw [List.size_toArray, List.size_toArray, hC1]; simp [lp.out])
  clear hC1
  go_wp2_with (first
    | (refine wpList_load_row rfl 43 (.tmp 5) rfl x rfl 43 C1.toArray (0, 0) _ X12.out Try.underlying43 rfl t37.out ?_)
    | (refine wpList_store_row rfl 43 (.tmp 4) (.tmp 29) rfl z C1.toArray rfl rfl 43 kidL13.toArray Z12.out t37.out tso.out tone.out ?_))
  refine ret_cells rfl rfl (Row.setRow Z12.out C1) Try.underlying43 t37.out rfl ⟨⟨A4, c4, A5, c5, A6, c6⟩, by rw [HC1.out], ?_, ?_, ?_⟩
  · have hzx : z < x + 1 := by have := hxz.out; omega
    have hle : w.heap.size ≤ x + 1 := by have := hwx.out; omega
    exact ⟨OwnI.monoI (OwnI.setRowI V4.out hzx _) hle, OwnI.monoI (OwnI.setRowI U5.out hzx _) hle, OwnI.monoI (OwnI.setRowI P6.out hzx _) hle⟩
  · exact But.setRow_new hwz.out B12.out
  · exact Rd.setRowI R12.out hgz.out _
end Go.Proofs.Ytgcbodpjidoanaa
