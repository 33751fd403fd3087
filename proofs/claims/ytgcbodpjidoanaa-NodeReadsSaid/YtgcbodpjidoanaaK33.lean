/- Contract of node.kid: a kid that is read. The state of a store of pages; contracts of bytes.Clone, bytes.Equal and page's New, Len, Get. What a node says, plain. -/
import Derived.Test.YtgcbodpjidoanaaK5
import Derived.Test.YtgcbodpjidoanaaK8
import Derived.Test.YtgcbodpjidoanaaK11
import Derived.Test.YtgcbodpjidoanaaK21
import Derived.Test.YtgcbodpjidoanaaK23
import Derived.Test.YtgcbodpjidoanaaK28
import Derived.Test.YtgcbodpjidoanaaK29
import Derived.Test.YtgcbodpjidoanaaK30
import Derived.Test.YtgcbodpjidoanaaK32
set_option linter.unusedVariables false
set_option linter.unusedSimpArgs false
namespace Go.Proofs.Ytgcbodpjidoanaa
open Go.RowKit
theorem OwnI.monoI {w : World} {base base' : Nat} {A : Option Addr} {c : Nat} {l : List Int} (h : OwnI w base A c l) (hb : base' ≤ base) : OwnI w base' A c l := by
  refine ⟨h.1, h.2.imp id ?_⟩
  rintro ⟨g, cap, cur, hv, hg, r⟩
  exact ⟨g, cap, cur, hv, Nat.le_trans hb hg, r⟩
theorem OwnI.setRowI {w : World} {base z : Nat} {A : Option Addr} {c : Nat} {l : List Int} (h : OwnI w base A c l) (hz : z < base) (C : Array Value) : OwnI (w.setRow z C) base A c l :=
  h.but (S := fun k => k = z) (But.setRow w z C rfl) fun k hk e => by omega
theorem But.setRow_new {w0 w : World} {g z : Nat} {C : Array Value} (hz : w0.heap.size ≤ z) : But (fun b => b = g) w0 w → But (fun b => b = g) w0 (w.setRow z C) := fun b =>
  ⟨by simpa [World.setRow] using b.size, fun k hk hn => (setRow_other w z k C (by omega)).trans (b.block k hk hn), b.os, b.tape, b.output⟩
theorem Rd.setRowI {w : World} {g z : Nat} {l : List Nat} {e : Int} (h : Rd w g l e) (hz : g < z) (C : Array Value) : Rd (w.setRow z C) g l e :=
  h.but hz (But.setRow w z C rfl)
/-- a kid that is read, what is left, the error -/
def rKid (d : Int) (l : List Nat) (e : Int) : KidD × List Nat × Int :=
  let s := (rTake 32 l e).2
  let c1 := rCount 1048576 s.1 s.2
  let c2 := rCount 1048576 c1.2.1 c1.2.2
  let r1 := rRowI d c2.2.1 c2.2.2
  let r2 := rRowI d r1.2.1 r1.2.2
  let r3 := rRowI d r2.2.1 r2.2.2
  (⟨rDig l e, r1.1, r2.1, (c1.1 : Int), (c2.1 : Int), r3.1⟩, r3.2)
/-- a kid whose rows the call owns -/
structure KidOwn (w : World) (lo : Nat) (k : KidD) (p : KidP) : Prop where
  l : OwnI w lo p.lA p.lc k.lo
  h : OwnI w lo p.hA p.hc k.hi
  k : OwnI w lo p.kA p.kc k.key
section
variable {w W : World} {lo : Nat} {k : KidD} {p : KidP} {S : Nat → Prop}
theorem KidOwn.but (h : KidOwn w lo k p) (b : But S w W) (hS : ∀ j, lo ≤ j → ¬ S j) : KidOwn W lo k p := ⟨h.l.but b hS, h.h.but b hS, h.k.but b hS⟩
theorem KidOwn.ext (h : KidOwn w lo k p) (b : Ext w W) : KidOwn W lo k p := ⟨h.l.ext b, h.h.ext b, h.k.ext b⟩
theorem ownI_arr {base : Nat} {A : Option Addr} {c : Nat} {l : List Int} (h : OwnI w base A c l) : Arr w w.heap.size A l.length (i64s l) :=
  Arr.of_own h fun i hi => by simp [i64s, List.getD, List.getElem?_map, List.getElem?_eq_getElem hi]
theorem KidOwn.mem (h : KidOwn w lo k p) : KidMem w w.heap.size k p := ⟨ownI_arr h.l, ownI_arr h.h, ownI_arr h.k⟩
end
section
variable {w : World} {x : Nat} {T : TypeId} {M : List Value} {a b c d e u : Value}
theorem rowU_cell (h : Row w x T (M ++ [a, b, c, d, e])) (hM : M.length = 32) : w.cell? ⟨x, 32, none⟩ = some a ∧ w.cell? ⟨x, 33, none⟩ = some b ∧ w.cell? ⟨x, 34, none⟩ = some c ∧ w.cell? ⟨x, 35, none⟩ = some d ∧ w.cell? ⟨x, 36, none⟩ = some e := by
  have hc : ∀ j v, [a, b, c, d, e][j]? = some v → w.cell? ⟨x, 32 + j, none⟩ = some v := fun j v hv => by
    rw [Row.cell h, List.getElem?_append_right (by omega), hM, Nat.add_sub_cancel_left]; exact hv
  exact ⟨hc 0 a rfl, hc 1 b rfl, hc 2 c rfl, hc 3 d rfl, hc 4 e rfl⟩
theorem rowU_set (h : Row w x T (M ++ [a, b, c, d, e])) (hM : M.length = 32) (j : Nat) (u : Value) : Row (w.setCell ⟨x, 32 + j, none⟩ u) x T (M ++ [a, b, c, d, e].set j u) := by
  have := Row.set h (32 + j) u
  rwa [List.set_append_right _ _ (by omega), hM, Nat.add_sub_cancel_left] at this
end
theorem fold_kid32 (a0 a1 a2 a3 a4 a5 a6 a7 a8 a9 a10 a11 a12 a13 a14 a15 a16 a17 a18 a19 a20 a21 a22 a23 a24 a25 a26 a27 a28 a29 a30 a31 : Nat) : List.foldl (fun cs (x : Value × Nat) => Array.setIfInBounds cs x.2 x.1) #[.int .u8 0, .int .u8 0, .int .u8 0, .int .u8 0, .int .u8 0, .int .u8 0, .int .u8 0, .int .u8 0, .int .u8 0, .int .u8 0, .int .u8 0, .int .u8 0, .int .u8 0, .int .u8 0, .int .u8 0, .int .u8 0, .int .u8 0, .int .u8 0, .int .u8 0, .int .u8 0, .int .u8 0, .int .u8 0, .int .u8 0, .int .u8 0, .int .u8 0, .int .u8 0, .int .u8 0, .int .u8 0, .int .u8 0, .int .u8 0, .int .u8 0, .int .u8 0, .slice none 0 0, .slice none 0 0, .int .i64 0, .int .i64 0, .slice none 0 0] ([a0, a1, a2, a3, a4, a5, a6, a7, a8, a9, a10, a11, a12, a13, a14, a15, a16, a17, a18, a19, a20, a21, a22, a23, a24, a25, a26, a27, a28, a29, a30, a31].map b8).zipIdx = ([a0, a1, a2, a3, a4, a5, a6, a7, a8, a9, a10, a11, a12, a13, a14, a15, a16, a17, a18, a19, a20, a21, a22, a23, a24, a25, a26, a27, a28, a29, a30, a31].map b8 ++ ([.slice none 0 0, .slice none 0 0, .int .i64 0, .int .i64 0, .slice none 0 0] : List Value)).toArray := by kernel_rfl
theorem fold_kid (p : List Nat) (hp : p.length = 32) : List.foldl (fun cs (x : Value × Nat) => Array.setIfInBounds cs x.2 x.1) #[.int .u8 0, .int .u8 0, .int .u8 0, .int .u8 0, .int .u8 0, .int .u8 0, .int .u8 0, .int .u8 0, .int .u8 0, .int .u8 0, .int .u8 0, .int .u8 0, .int .u8 0, .int .u8 0, .int .u8 0, .int .u8 0, .int .u8 0, .int .u8 0, .int .u8 0, .int .u8 0, .int .u8 0, .int .u8 0, .int .u8 0, .int .u8 0, .int .u8 0, .int .u8 0, .int .u8 0, .int .u8 0, .int .u8 0, .int .u8 0, .int .u8 0, .int .u8 0, .slice none 0 0, .slice none 0 0, .int .i64 0, .int .i64 0, .slice none 0 0] (p.map b8).zipIdx = (p.map b8 ++ ([.slice none 0 0, .slice none 0 0, .int .i64 0, .int .i64 0, .slice none 0 0] : List Value)).toArray := by
  match p, hp with
  | [a0, a1, a2, a3, a4, a5, a6, a7, a8, a9, a10, a11, a12, a13, a14, a15, a16, a17, a18, a19, a20, a21, a22, a23, a24, a25, a26, a27, a28, a29, a30, a31], _ => exact fold_kid32 a0 a1 a2 a3 a4 a5 a6 a7 a8 a9 a10 a11 a12 a13 a14 a15 a16 a17 a18 a19 a20 a21 a22 a23 a24 a25 a26 a27 a28 a29 a30 a31
abbrev kidL13 : List Value := [.int .u8 0, .int .u8 0, .int .u8 0, .int .u8 0, .int .u8 0, .int .u8 0, .int .u8 0, .int .u8 0, .int .u8 0, .int .u8 0, .int .u8 0, .int .u8 0, .int .u8 0, .int .u8 0, .int .u8 0, .int .u8 0, .int .u8 0, .int .u8 0, .int .u8 0, .int .u8 0, .int .u8 0, .int .u8 0, .int .u8 0, .int .u8 0, .int .u8 0, .int .u8 0, .int .u8 0, .int .u8 0, .int .u8 0, .int .u8 0, .int .u8 0, .int .u8 0, .slice none 0 0, .slice none 0 0, .int .i64 0, .int .i64 0, .slice none 0 0]
set_option maxRecDepth 100000 in
set_option maxHeartbeats 4000000 in
theorem nkid_any (g : Nat) (l : List Nat) (d : Int) (e : Int) (w : World) (hS : Rd w g l e) :
    Calls Try.prog 89 #[.pointer (some ⟨g, 0, none⟩), .int .i64 d] w fun e' w' => ∃ p, e' = .returned (.agg (kidC (rKid d l e).1 p).toArray) ∧ KidOwn w' w.heap.size (rKid d l e).1 p ∧ But (fun b => b = g) w w' ∧ Rd w' g (rKid d l e).2.1 (rKid d l e).2.2 := by
  obtain ⟨RS, hRS⟩ : ∃ RS, RS = rKid d l e := ⟨_, rfl⟩
  rw [← hRS]
  have hD1 := fun W (h : Rd W g l e) => rdig_any g l e W h
  unfold rKid at hRS
  dsimp only at hRS
  have lp := hideP (rDig_len l e)
  obtain ⟨p, hp⟩ : ∃ p, p = rDig l e := ⟨_, rfl⟩
  obtain ⟨⟨o1, l1, e1⟩, q1⟩ : ∃ q, q = rTake 32 l e := ⟨_, rfl⟩
  rw [← hp, ← q1] at hD1 hRS
  rw [← hp] at lp
  dsimp only at hD1 hRS
  have hD2 := fun W (h : Rd W g l1 e1) => rcount_any g l1 1048576 e1 W h
  obtain ⟨⟨n2, l2, e2⟩, q2⟩ : ∃ q, q = rCount 1048576 l1 e1 := ⟨_, rfl⟩
  rw [← q2] at hD2 hRS
  dsimp only at hD2 hRS
  have hD3 := fun W (h : Rd W g l2 e2) => rcount_any g l2 1048576 e2 W h
  obtain ⟨⟨n3, l3, e3⟩, q3⟩ : ∃ q, q = rCount 1048576 l2 e2 := ⟨_, rfl⟩
  rw [← q3] at hD3 hRS
  dsimp only at hD3 hRS
  have hD4 := fun W (h : Rd W g l3 e3) => rrowI_any g l3 d e3 W h
  obtain ⟨⟨r4, l4, e4⟩, q4⟩ : ∃ q, q = rRowI d l3 e3 := ⟨_, rfl⟩
  rw [← q4] at hD4 hRS
  dsimp only at hD4 hRS
  have hD5 := fun W (h : Rd W g l4 e4) => rrowI_any g l4 d e4 W h
  obtain ⟨⟨r5, l5, e5⟩, q5⟩ : ∃ q, q = rRowI d l4 e4 := ⟨_, rfl⟩
  rw [← q5] at hD5 hRS
  dsimp only at hD5 hRS
  have hD6 := fun W (h : Rd W g l5 e5) => rrowI_any g l5 d e5 W h
  obtain ⟨⟨r6, l6, e6⟩, q6⟩ : ∃ q, q = rRowI d l5 e5 := ⟨_, rfl⟩
  rw [← q6] at hD6 hRS
  dsimp only at hD6 hRS
  rw [hRS]
  dsimp only
  obtain ⟨m4, hm4⟩ : ∃ x, x = r4.length := ⟨_, rfl⟩
  obtain ⟨m5, hm5⟩ : ∃ x, x = r5.length := ⟨_, rfl⟩
  obtain ⟨m6, hm6⟩ : ∃ x, x = r6.length := ⟨_, rfl⟩
  rw [← hm4] at hD4; rw [← hm5] at hD5; rw [← hm6] at hD6
  have M4 := hideP hm4; have M5 := hideP hm5; have M6 := hideP hm6
  unfold dg at hD1
  have HhD1 := hideP hD1; have HhD2 := hideP hD2; have HhD3 := hideP hD3; have HhD4 := hideP hD4; have HhD5 := hideP hD5; have HhD6 := hideP hD6; clear hD1 hD2 hD3 hD4 hD5 hD6
  clear hp q1 q2 q3 q4 q5 q6 hRS hm4 hm5 hm6
  obtain ⟨v0, hv0⟩ : ∃ v, v = w.alloc (.cells kidL13.toArray 43) := ⟨_, rfl⟩
  obtain ⟨z, hz⟩ : ∃ z, z = w.heap.size := ⟨_, rfl⟩
  have Z0 := hideP (show Row v0 z 43 kidL13 by rw [hv0, hz]; exact Row.new w _ _)
  have hgz := hideP (show g < z by rw [hz]; exact hS.lt)
  have R0 := hideP (show Rd v0 g l e by rw [hv0]; exact hS.after (below_new w _))
  have b0 := hideP (show But (fun b => b = g) w v0 by rw [hv0]; exact But.of_below (below_new w _))
  have Hv := hideP hv0
  have Hz := hideP hz
  clear hv0 hz hS
  have hwz := hideP (show w.heap.size ≤ z by rw [Hz.out]; exact Nat.le_refl _)
  go_enter Try.func89, Try.ntmps89
  go_upto_region 1 with fail
  rw [← Hz.out, show (w.alloc (.cells #[.int .u8 0, .int .u8 0, .int .u8 0, .int .u8 0, .int .u8 0, .int .u8 0, .int .u8 0, .int .u8 0, .int .u8 0, .int .u8 0, .int .u8 0, .int .u8 0, .int .u8 0, .int .u8 0, .int .u8 0, .int .u8 0, .int .u8 0, .int .u8 0, .int .u8 0, .int .u8 0, .int .u8 0, .int .u8 0, .int .u8 0, .int .u8 0, .int .u8 0, .int .u8 0, .int .u8 0, .int .u8 0, .int .u8 0, .int .u8 0, .int .u8 0, .int .u8 0, .slice none 0 0, .slice none 0 0, .int .i64 0, .int .i64 0, .slice none 0 0] 43)) = v0 from Hv.out.symm]
  have hF := fold_kid p lp.out
  obtain ⟨C0, hC0⟩ : ∃ C, C = p.map b8 ++ [.slice none 0 0, .slice none 0 0, .int .i64 0, .int .i64 0, .slice none 0 0] := ⟨_, rfl⟩
  have h37 : C0.length = 37 := by rw [hC0]; simp [lp.out]
  have hs := hideP (size_k37 h37)
  have ho := hideP (show C0.toArray.all (·.oneCell') = true by
    rw [hC0]
    have := kidC_one ⟨p, [], [], 0, 0, []⟩ kidPZ
    exact this)
  have hs2 := hideP (show kidL13.toArray.size = C0.toArray.size by rw [List.size_toArray, List.size_toArray, h37]; rfl)
  rw [← hC0] at hF
  have HC0 := hideP hC0
  clear hC0 h37
  have hM := hideP (show (p.map b8).length = 32 by simp [lp.out])
  have l32 := lp.out
  go_upto_region 2 with (first
    | (go_at_call 163; refine (HhD1.out _ R0.out).mono ?_; rintro e_ w1 ⟨rfl, b_, s_⟩; have R1 := hideP s_; have Z1 := hideP (row_but2 b_ Z0.out (by have := hgz.out; omega)); have B1 := hideP (b0.out.trans b_); clear b_ s_)
    | (refine wpList_store_row rfl 43 (.tmp 5) (.tmp 8) rfl w1.heap.size C0.toArray rfl rfl 43 kidL13.toArray (Row.new w1 43 kidL13) hs.out hs2.out ho.out ?_))
  clear l32 hF
  simp only [Act.put]
  obtain ⟨x, hx⟩ : ∃ x, x = w1.heap.size := ⟨_, rfl⟩
  obtain ⟨v1, hv1⟩ : ∃ v, v = (w1.alloc (.cells kidL13.toArray 43)).setRow x C0.toArray := ⟨_, rfl⟩
  rw [← hx, ← hv1]
  have hb1 : Below w1.heap.size w1 v1 := by rw [hv1, hx]; exact below_setRow' (below_new w1 _) (Nat.le_refl _) _
  have X2 := hideP (show Row v1 x 43 (p.map b8 ++ [.slice none 0 0, .slice none 0 0, .int .i64 0, .int .i64 0, .slice none 0 0]) by rw [hv1, hx, ← HC0.out]; exact Row.setRow (Row.new w1 43 kidL13) C0)
  have hxg := hideP (show g < x by rw [hx]; exact R1.out.lt)
  have hxz := hideP (show z < x by rw [hx]; exact Row.lt Z1.out)
  have hwx := hideP (show w.heap.size ≤ x by have := hxz.out; have := hwz.out; omega)
  have Z2 := hideP (Row.after Z1.out hb1)
  have R2 := hideP (R1.out.after hb1)
  have B2 := hideP (B1.out.trans (But.of_below hb1))
  clear hx hv1 hb1 R1 Z1 B1
  go_upto_region 3 with (go_at_call 164; refine (HhD2.out _ R2.out).mono ?_; rintro e_ w3 ⟨rfl, b_, s_⟩; have R3 := hideP s_; have Z3 := hideP (row_but2 b_ Z2.out (by have := hgz.out; omega)); have X3 := hideP (row_but2 b_ X2.out (by have := hxg.out; omega)); have B3 := hideP (B2.out.trans b_); have fz : w3.frozen? ⟨x, 34, none⟩ = false := Row.fz X3.out 34; obtain ⟨y0, y1, y2, y3, y4⟩ := rowU_cell X3.out hM.out; clear b_ s_)
  clear fz y0 y1 y2 y3 y4
  obtain ⟨v3, h_⟩ : ∃ v, v = w3.setCell ⟨x, 34, none⟩ (.int .i64 (n2 : Nat)) := ⟨_, rfl⟩
  rw [← h_]
  have X4 := hideP (show Row v3 x 43 (p.map b8 ++ [.slice none 0 0, .slice none 0 0, .int .i64 (n2 : Nat), .int .i64 0, .slice none 0 0]) by rw [h_]; exact rowU_set X3.out hM.out 2 _)
  have Z4 := hideP (show Row v3 z 43 kidL13 by rw [h_]; exact Row.setOther Z3.out (by show z ≠ x; have := hxz.out; omega) _)
  have R4 := hideP (show Rd v3 g l2 e2 by rw [h_]; exact Rd.setNew R3.out hxg.out _)
  have B4 := hideP (show But (fun b => b = g) w v3 by rw [h_]; exact But.setNew B3.out hwx.out _)
  clear h_
  go_upto_region 4 with (go_at_call 164; refine (HhD3.out _ R4.out).mono ?_; rintro e_ w5 ⟨rfl, b_, s_⟩; have R5 := hideP s_; have Z5 := hideP (row_but2 b_ Z4.out (by have := hgz.out; omega)); have X5 := hideP (row_but2 b_ X4.out (by have := hxg.out; omega)); have B5 := hideP (B4.out.trans b_); have fz : w5.frozen? ⟨x, 35, none⟩ = false := Row.fz X5.out 35; obtain ⟨y0, y1, y2, y3, y4⟩ := rowU_cell X5.out hM.out; clear b_ s_)
  clear fz y0 y1 y2 y3 y4
  obtain ⟨v5, h_⟩ : ∃ v, v = w5.setCell ⟨x, 35, none⟩ (.int .i64 (n3 : Nat)) := ⟨_, rfl⟩
  rw [← h_]
  have X6 := hideP (show Row v5 x 43 (p.map b8 ++ [.slice none 0 0, .slice none 0 0, .int .i64 (n2 : Nat), .int .i64 (n3 : Nat), .slice none 0 0]) by rw [h_]; exact rowU_set X5.out hM.out 3 _)
  have Z6 := hideP (show Row v5 z 43 kidL13 by rw [h_]; exact Row.setOther Z5.out (by show z ≠ x; have := hxz.out; omega) _)
  have R6 := hideP (show Rd v5 g l3 e3 by rw [h_]; exact Rd.setNew R5.out hxg.out _)
  have B6 := hideP (show But (fun b => b = g) w v5 by rw [h_]; exact But.setNew B5.out hwx.out _)
  clear h_
  go_upto_region 5 with (go_at_call 88; refine (HhD4.out _ R6.out).mono ?_; rintro e_ w7 ⟨A4, c4, rfl, o_, b_, s_⟩; have O4 := hideP (OwnI.monoI o_ (Row.lt X6.out)); clear o_; have R7 := hideP s_; have Z7 := hideP (row_but2 b_ Z6.out (by have := hgz.out; omega)); have X7 := hideP (row_but2 b_ X6.out (by have := hxg.out; omega)); have B7 := hideP (B6.out.trans b_); have fz : w7.frozen? ⟨x, 32, none⟩ = false := Row.fz X7.out 32; obtain ⟨y0, y1, y2, y3, y4⟩ := rowU_cell X7.out hM.out; clear b_ s_)
  clear fz y0 y1 y2 y3 y4
  obtain ⟨v7, h_⟩ : ∃ v, v = w7.setCell ⟨x, 32, none⟩ (.slice A4 m4 c4) := ⟨_, rfl⟩
  rw [← h_]
  have X8 := hideP (show Row v7 x 43 (p.map b8 ++ [.slice A4 m4 c4, .slice none 0 0, .int .i64 (n2 : Nat), .int .i64 (n3 : Nat), .slice none 0 0]) by rw [h_]; exact rowU_set X7.out hM.out 0 _)
  have Z8 := hideP (show Row v7 z 43 kidL13 by rw [h_]; exact Row.setOther Z7.out (by show z ≠ x; have := hxz.out; omega) _)
  have R8 := hideP (show Rd v7 g l4 e4 by rw [h_]; exact Rd.setNew R7.out hxg.out _)
  have B8 := hideP (show But (fun b => b = g) w v7 by rw [h_]; exact But.setNew B7.out hwx.out _)
  have P4 := hideP (show OwnI v7 (x + 1) A4 c4 r4 by rw [h_]; exact ownsRow_setCell_below O4.out (Nat.lt_succ_self x) _)
  clear h_
  go_upto_region 6 with (go_at_call 88; refine (HhD5.out _ R8.out).mono ?_; rintro e_ w9 ⟨A5, c5, rfl, o_, b_, s_⟩; have O5 := hideP (OwnI.monoI o_ (Row.lt X8.out)); clear o_; have Q4 := hideP (P4.out.but b_ (fun k hk e => by have := hxg.out; omega)); have R9 := hideP s_; have Z9 := hideP (row_but2 b_ Z8.out (by have := hgz.out; omega)); have X9 := hideP (row_but2 b_ X8.out (by have := hxg.out; omega)); have B9 := hideP (B8.out.trans b_); have fz : w9.frozen? ⟨x, 33, none⟩ = false := Row.fz X9.out 33; obtain ⟨y0, y1, y2, y3, y4⟩ := rowU_cell X9.out hM.out; clear b_ s_)
  clear fz y0 y1 y2 y3 y4
  obtain ⟨v9, h_⟩ : ∃ v, v = w9.setCell ⟨x, 33, none⟩ (.slice A5 m5 c5) := ⟨_, rfl⟩
  rw [← h_]
  have X10 := hideP (show Row v9 x 43 (p.map b8 ++ [.slice A4 m4 c4, .slice A5 m5 c5, .int .i64 (n2 : Nat), .int .i64 (n3 : Nat), .slice none 0 0]) by rw [h_]; exact rowU_set X9.out hM.out 1 _)
  have Z10 := hideP (show Row v9 z 43 kidL13 by rw [h_]; exact Row.setOther Z9.out (by show z ≠ x; have := hxz.out; omega) _)
  have R10 := hideP (show Rd v9 g l5 e5 by rw [h_]; exact Rd.setNew R9.out hxg.out _)
  have B10 := hideP (show But (fun b => b = g) w v9 by rw [h_]; exact But.setNew B9.out hwx.out _)
  have P5 := hideP (show OwnI v9 (x + 1) A5 c5 r5 by rw [h_]; exact ownsRow_setCell_below O5.out (Nat.lt_succ_self x) _)
  have U4 := hideP (show OwnI v9 (x + 1) A4 c4 r4 by rw [h_]; exact ownsRow_setCell_below Q4.out (Nat.lt_succ_self x) _)
  clear h_
  go_upto_region 7 with (go_at_call 88; refine (HhD6.out _ R10.out).mono ?_; rintro e_ w11 ⟨A6, c6, rfl, o_, b_, s_⟩; have O6 := hideP (OwnI.monoI o_ (Row.lt X10.out)); clear o_; have Q5 := hideP (P5.out.but b_ (fun k hk e => by have := hxg.out; omega)); have Q6 := hideP (U4.out.but b_ (fun k hk e => by have := hxg.out; omega)); have R11 := hideP s_; have Z11 := hideP (row_but2 b_ Z10.out (by have := hgz.out; omega)); have X11 := hideP (row_but2 b_ X10.out (by have := hxg.out; omega)); have B11 := hideP (B10.out.trans b_); have fz : w11.frozen? ⟨x, 36, none⟩ = false := Row.fz X11.out 36; obtain ⟨y0, y1, y2, y3, y4⟩ := rowU_cell X11.out hM.out; clear b_ s_)
  clear fz y0 y1 y2 y3 y4
  obtain ⟨v11, h_⟩ : ∃ v, v = w11.setCell ⟨x, 36, none⟩ (.slice A6 m6 c6) := ⟨_, rfl⟩
  rw [← h_]
  have X12 := hideP (show Row v11 x 43 (p.map b8 ++ [.slice A4 m4 c4, .slice A5 m5 c5, .int .i64 (n2 : Nat), .int .i64 (n3 : Nat), .slice A6 m6 c6]) by rw [h_]; exact rowU_set X11.out hM.out 4 _)
  have Z12 := hideP (show Row v11 z 43 kidL13 by rw [h_]; exact Row.setOther Z11.out (by show z ≠ x; have := hxz.out; omega) _)
  have R12 := hideP (show Rd v11 g l6 e6 by rw [h_]; exact Rd.setNew R11.out hxg.out _)
  have B12 := hideP (show But (fun b => b = g) w v11 by rw [h_]; exact But.setNew B11.out hwx.out _)
  have P6 := hideP (show OwnI v11 (x + 1) A6 c6 r6 by rw [h_]; exact ownsRow_setCell_below O6.out (Nat.lt_succ_self x) _)
  have U5 := hideP (show OwnI v11 (x + 1) A5 c5 r5 by rw [h_]; exact ownsRow_setCell_below Q5.out (Nat.lt_succ_self x) _)
  have V4 := hideP (show OwnI v11 (x + 1) A4 c4 r4 by rw [h_]; exact ownsRow_setCell_below Q6.out (Nat.lt_succ_self x) _)
  clear h_
  obtain ⟨C1, hC1⟩ : ∃ C, C = p.map b8 ++ [.slice A4 m4 c4, .slice A5 m5 c5, .int .i64 (n2 : Nat), .int .i64 (n3 : Nat), .slice A6 m6 c6] := ⟨_, rfl⟩
  rw [← hC1] at X12
  have HC1 := hideP (show kidC ⟨p, r4, r5, (n2 : Int), (n3 : Int), r6⟩ ⟨A4, c4, A5, c5, A6, c6⟩ = C1 by rw [hC1]; unfold kidC kidT; dsimp only; rw [M4.out, M5.out, M6.out])
  have t37 := hideP (size_k37 (show C1.length = 37 by rw [hC1]; simp [lp.out]))
  have tone := hideP (show C1.toArray.all (·.oneCell') = true by rw [← HC1.out]; exact kidC_one _ _)
  have tso := hideP (show kidL13.toArray.size = C1.toArray.size by rw [List.size_toArray, List.size_toArray, hC1]; simp [lp.out])
  clear hC1
  go_wp2_with (first
    | (refine wpList_load_row rfl 43 (.tmp 5) rfl x rfl 43 C1.toArray (0, 0) _ X12.out Try.underlying43 rfl t37.out ?_)
    | (refine wpList_store_row rfl 43 (.tmp 4) (.tmp 29) rfl z C1.toArray rfl rfl 43 kidL13.toArray Z12.out t37.out tso.out tone.out ?_))
  refine ret_cells rfl rfl (Row.setRow Z12.out C1) Try.underlying43 t37.out rfl ⟨⟨A4, c4, A5, c5, A6, c6⟩, by rw [HC1.out], ?_, ?_, ?_⟩
  · have hzx : z < x + 1 := by have := hxz.out; omega
    have hle : w.heap.size ≤ x + 1 := by have := hwx.out; omega
    exact ⟨OwnI.monoI (OwnI.setRowI V4.out hzx _) hle, OwnI.monoI (OwnI.setRowI U5.out hzx _) hle, OwnI.monoI (OwnI.setRowI P6.out hzx _) hle⟩
  · exact But.setRow_new hwz.out B12.out
  · exact Rd.setRowI R12.out hgz.out _
end Go.Proofs.Ytgcbodpjidoanaa
namespace Go.Proofs.Ytgcbodpjidoanaa
open Go.RowKit
open Go.Maps (Keyed)
/-- bytes at A, in a block of S -/
def ArrS (S : Nat → Prop) (w : World) (A : Option Addr) (n : Nat) (f : Nat → Value) : Prop :=
  0 < n → ∃ b off, A = some ⟨b, off, none⟩ ∧ S b ∧ b < w.heap.size ∧ ∀ i, i < n → w.cell? ⟨b, off + i, none⟩ = some (f i)
section
variable {S S' : Nat → Prop} {w w' : World} {A : Option Addr} {n : Nat} {f : Nat → Value}
theorem ArrS.arr (h : ArrS S w A n f) : Arr w w.heap.size A n f := fun hn => by
  obtain ⟨b, off, hA, _, hb, hc⟩ := h hn
  exact ⟨b, off, hA, hb, hc⟩
theorem ArrS.keep (h : ArrS S w A n f) (hw : ∀ b, S b → w'.heap[b]? = w.heap[b]?) (hs : w.heap.size ≤ w'.heap.size) : ArrS S w' A n f := fun hn => by
  obtain ⟨b, off, hA, hS, hb, hc⟩ := h hn
  exact ⟨b, off, hA, hS, by omega, fun i hi => (World.cell?_of_block (w := w) (hw b hS)).trans (hc i hi)⟩
theorem ArrS.mono (h : ArrS S w A n f) (hS : ∀ b, S b → S' b) : ArrS S' w A n f := fun hn => by
  obtain ⟨b, off, hA, h1, hb, hc⟩ := h hn
  exact ⟨b, off, hA, hS b h1, hb, hc⟩
theorem OwnB.arrS {base c : Nat} {l : List Nat} (h : OwnB w base A c l) : ArrS (fun b => base ≤ b) w A l.length (u8s l) := fun hn => by
  obtain ⟨g, hA, hb, hg, _, hc⟩ := h.at hn
  exact ⟨g, 0, hA, hb, hg, fun i hi => by rw [Nat.zero_add]; exact hc i hi⟩
end
/-- the sum of a page, as numbers -/
def sum9 (t : List Nat) : List Nat := dig (sumW (preN 80 [t]))
theorem pageD_eq (t : List Nat) : Value.agg (pageD t).toArray = dg (sum9 t) := rfl
theorem sum9_len (t : List Nat) : (sum9 t).length = 32 := by simp [sum9, dig]
theorem isB_dig (h : List UInt32) : IsB (dig h) := by
  intro i
  unfold dig
  by_cases hi : i < 32
  · simp [List.getD, List.getElem?_map, List.getElem?_range hi]
    omega
  · simp [List.getD, hi]
def entsOf (A : List Nat → Option Addr) (c : List Nat → Nat) (L : List (List Nat)) : List (Value × Value) := L.map fun t => (dg (sum9 t), Value.slice (A t) t.length (c t))
/-- what a store of pages is: its texts in their order, its clash; S: its blocks -/
def PSt (w : World) (S : Nat → Prop) (g : Nat) (L : List (List Nat)) (C : Option (List Nat × List Nat)) : Prop :=
  ∃ (bm : Nat) (A : List Nat → Option Addr) (c : List Nat → Nat) (a b : Option Addr) (ca cb : Nat) (x y : List Nat),
    Row w g 224 [.map (some bm), .slice a x.length ca, .slice b y.length cb, .bool C.isSome] ∧ Ents Try.prog 37 w bm (entsOf A c L) ∧
    S g ∧ S bm ∧ g ≠ bm ∧ (∀ t ∈ L, ArrS S w (A t) t.length (u8s t) ∧ IsB t ∧ t.length ≤ 100000000) ∧ ArrS S w a x.length (u8s x) ∧ ArrS S w b y.length (u8s y) ∧ (∀ b, S b → b < w.heap.size) ∧
    IsB x ∧ IsB y ∧ x.length ≤ 100000000 ∧ y.length ≤ 100000000 ∧ (C = none → x = [] ∧ y = []) ∧ (∀ p, C = some p → p = (x, y) ∧ sum9 x = sum9 y ∧ x ≠ y)
section
variable {S : Nat → Prop} {w w' : World} {g : Nat} {L : List (List Nat)} {C : Option (List Nat × List Nat)}
theorem PSt.keep (h : PSt w S g L C) (hw : ∀ b, S b → w'.heap[b]? = w.heap[b]?) (hs : w.heap.size ≤ w'.heap.size) : PSt w' S g L C := by
  obtain ⟨bm, A, c, a, b, ca, cb, x, y, h1, h2, h3, h4, h5, h6, h7, h8, h9, r⟩ := h
  exact ⟨bm, A, c, a, b, ca, cb, x, y, (hw g h3).trans h1, h2.of_block (hw bm h4), h3, h4, h5, fun t ht => ⟨(h6 t ht).1.keep hw hs, (h6 t ht).2⟩, h7.keep hw hs, h8.keep hw hs, fun b hb => Nat.lt_of_lt_of_le (h9 b hb) hs, r⟩
theorem PSt.fresh (h : PSt w S g L C) : ∀ b, S b → b < w.heap.size := by
  obtain ⟨bm, A, c, a, b, ca, cb, x, y, h1, h2, h3, h4, h5, h6, h7, h8, h9, r⟩ := h
  exact h9
theorem PSt.after (h : PSt w S g L C) (hb : Below w.heap.size w w') : PSt w' S g L C := h.keep (fun b hS => hb.block b (h.fresh b hS)) hb.size
theorem PSt.self (h : PSt w S g L C) : S g := by
  obtain ⟨bm, A, c, a, b, ca, cb, x, y, h1, h2, h3, r⟩ := h
  exact h3
theorem PSt.isB (h : PSt w S g L C) {t : List Nat} (ht : t ∈ L) : IsB t ∧ t.length ≤ 100000000 := by
  obtain ⟨bm, A, c, a, b, ca, cb, x, y, h1, h2, h3, h4, h5, h6, r⟩ := h
  exact (h6 t ht).2
end
theorem But.mono2 {S S1 : Nat → Prop} {w w1 w2 : World} (h : But S w w1) (hS : ∀ b, S1 b → S b ∨ w.heap.size ≤ b) (k : But S1 w1 w2) : But S w w2 :=
  ⟨Nat.le_trans h.size k.size, fun b hb hn => (k.block b (Nat.lt_of_lt_of_le hb h.size) (fun h1 => (hS b h1).elim hn (fun h2 => absurd hb (by omega)))).trans (h.block b hb hn), k.os.trans h.os, k.tape.trans h.tape, k.output.trans h.output⟩
theorem But.below {S : Nat → Prop} {w w' : World} {B : Nat} (h : But S w w') (hS : ∀ b, S b → B ≤ b) (hB : B ≤ w.heap.size) : Below B w w' :=
  ⟨h.os, h.tape, h.output, h.size, fun k hk => h.block k (Nat.lt_of_lt_of_le hk hB) (fun h1 => absurd (hS k h1) (by omega))⟩
theorem bclone_any (A : Option Addr) (l : List Nat) (c : Nat) (w : World) (hA : Arr w w.heap.size A l.length (u8s l)) (hn : l.length ≤ 140737488351232) :
    Calls Try.prog 219 #[.slice A l.length c] w fun e w' => ∃ R d, e = .returned (.slice R l.length d) ∧ OwnB w' w.heap.size R d l ∧ Below w.heap.size w w' := by
  obtain ⟨i0, hi0, hz0, hz1, hz2⟩ := info_parts info_b8
  rcases A with _ | ad
  · have h0 : l.length = 0 := by
      rcases Nat.eq_zero_or_pos l.length with h | h
      · exact h
      · obtain ⟨_, _, h, _⟩ := hA h; cases h
    obtain rfl : l = [] := List.length_eq_zero_iff.1 h0
    have h1 := Lib.run_eql_slice_nil (P := Try.prog) w 22 5 none 0 c 0 0 Try.underlying22
    simp only [Option.isNone_none] at h1
    clear hA h0
    go_enter Try.func219, Try.ntmps219
    go_wp2
    go_ret
    exact ⟨none, 0, rfl, OwnB.nil _ _, Below.refl _ _⟩
  · have h1 := Lib.run_eql_slice_nil (P := Try.prog) w 22 5 (some ad) l.length c 0 0 Try.underlying22
    simp only [Option.isNone_some] at h1
    have HA := hideP hA
    clear hA
    go_enter Try.func219, Try.ntmps219
    go_wp2_with (at_builtin; refine wpList_append_arr _ rfl (.tmp 5) (.tmp 6) 22 rfl w.heap.size 5 i0 _ 1 Try.underlying22 hi0 hz0 hz1 hz2 rfl (.slice (some ⟨w.heap.size, 0, none⟩) 0 0) 0 [] rfl (World.ownsRow_lit w #[] 0 (Nat.le_refl _) (by unfold maxLen; omega) (by simp)) w.heap.size (some ad) l.length c (u8s l) rfl (HA.out.keep fun p hp => World.cell?_alloc_lt w _ p hp) (fun _ => rfl) (by unfold maxLen; omega) (by omega) (by simp) ?_; intro A3 c3 w3 hown3 hg3 hat3)
    simp only [Nat.zero_add, List.nil_append] at hown3
    rw [map_u8s] at hown3
    have HO := hideP hown3
    clear hown3
    go_ret
    refine ⟨A3, c3, by simp, HO.out, ?_⟩
    refine Below.trans ((Below.refl _ _).alloc (Nat.le_refl _) _) ((Below.refl _ _).grown hg3 (by simp) fun k hk => ?_)
    simp [Value.ownBlock] at hk
    omega
theorem bequal_any (A B : Option Addr) (l m : List Nat) (c d : Nat) (w : World) (hA : Arr w w.heap.size A l.length (u8s l)) (hB : Arr w w.heap.size B m.length (u8s m)) (hl : IsB l) (hm : IsB m) :
    Calls Try.prog 220 #[.slice A l.length c, .slice B m.length d] w fun e w' => e = .returned (.bool (l == m)) ∧ w = w' := by
  have h1 := run_str (P := Try.prog) w 22 5 Try.underlying22 Try.underlying5 (c := c) hA rfl 9 Try.underlying9
  have h2 := run_str (P := Try.prog) w 22 5 Try.underlying22 Try.underlying5 (c := d) hB rfl 9 Try.underlying9
  have h3 : ((bstr l).toList == (bstr m).toList) = (l == m) := by
    rw [Bool.eq_iff_iff, toList_bstr, toList_bstr]
    simp only [beq_iff_eq]
    exact ⟨fun h => map_ofNat_inj l m hl hm h, fun h => by rw [h]⟩
  clear hA hB hl hm
  have Hh3 := hideP h3; clear h3
  go_enter Try.func220, Try.ntmps220
  go_wp2
  go_ret
  exact ⟨by rw [← Hh3.out]; rfl, rfl⟩
end Go.Proofs.Ytgcbodpjidoanaa
namespace Go.Proofs.Ytgcbodpjidoanaa
open Go.RowKit
/-- what is said so far: live entries, all entries, the box -/
structure SayS where
  live : Int
  size : Int
  lo : List Int
  hi : List Int
deriving Inhabited
def sayE (s : SayS) (e : EntD) : SayS := if e.live then ⟨s.live + 1, s.size, (hullB (s.lo, s.hi) (e.row, e.row)).1, (hullB (s.lo, s.hi) (e.row, e.row)).2⟩ else s
def sayK (s : SayS) (k : KidD) : SayS := ⟨s.live + k.live, s.size + k.size, (hullB (s.lo, s.hi) (k.lo, k.hi)).1, (hullB (s.lo, s.hi) (k.lo, k.hi)).2⟩
def sayR (n : NodeD) (i : Nat) : SayS := (n.rows.take i).foldl sayE ⟨0, n.rows.length, [], []⟩
def sayA (n : NodeD) (j : Nat) : SayS := (n.kids.take j).foldl sayK (sayR n n.rows.length)
theorem fold_take_succ {α β : Type} [Inhabited α] (f : β → α → β) (s : β) (l : List α) (i : Nat) (hi : i < l.length) : (l.take (i + 1)).foldl f s = f ((l.take i).foldl f s) (l.getD i default) := by
  rw [List.take_add_one, List.foldl_append, List.getElem?_eq_getElem hi]
  simp [List.getD, List.getElem?_eq_getElem hi]
theorem sayR_one (n : NodeD) (i : Nat) (hi : i < n.rows.length) : sayR n (i + 1) = sayE (sayR n i) (n.rows.getD i default) := fold_take_succ _ _ _ i hi
theorem sayA_one (n : NodeD) (j : Nat) (hj : j < n.kids.length) : sayA n (j + 1) = sayK (sayA n j) (n.kids.getD j default) := fold_take_succ _ _ _ j hj
theorem sayR_size (n : NodeD) : ∀ i, i ≤ n.rows.length → (sayR n i).size = n.rows.length
  | 0, _ => rfl
  | i + 1, h => by
    rw [sayR_one n i (by omega)]
    unfold sayE
    split
    · exact sayR_size n i (by omega)
    · exact sayR_size n i (by omega)
def keyN (n : NodeD) : List Int := if n.kind = 2 then (n.rows.getD 0 default).row else if n.kind = 3 then (n.kids.getD 0 default).key else []
/-- the kid that a node says -/
def sayN (n : NodeD) : KidD := ⟨sum9 (nodeB n), (sayA n n.kids.length).lo, (sayA n n.kids.length).hi, (sayA n n.kids.length).live, (sayA n n.kids.length).size, keyN n⟩
structure SayI (d : Nat) (M : Int) (s : SayS) : Prop where
  l : 0 ≤ s.live ∧ s.live ≤ M
  z : 0 ≤ s.size ∧ s.size ≤ M
  b : boxOk (s.lo, s.hi) d
  e : s.live = 0 ↔ s.lo = []
  lI : IsI s.lo
  hI : IsI s.hi
theorem row_right {r : List Int} {d : Nat} (h1 : 1 ≤ d) (h8 : d ≤ 8) (hl : r.length = d) : rightB r r d = true := by
  unfold rightB leAll
  simp only [Bool.and_eq_true, decide_eq_true_eq, List.all_eq_true, List.mem_range]
  exact ⟨⟨⟨⟨by omega, by omega⟩, by omega⟩, by omega⟩, fun i hi' => Int.le_refl _⟩
theorem hull_nil {a b : BoxD} {d : Nat} (ha : boxOk a d) (hb : boxOk b d) : (hullB a b).1 = [] ↔ a.1 = [] ∧ b.1 = [] := by
  unfold hullB
  by_cases ea : a.1 = []
  · simp [ea]
  · rw [if_neg ea]
    by_cases eb : b.1 = []
    · simp [ea, eb]
    · rw [if_neg eb]
      simp only [ea, eb, and_self, iff_false]
      intro h
      have := congrArg List.length h
      rw [hullLo_len] at this
      exact ea (List.eq_nil_of_length_eq_zero this)
theorem SayI.ent {d : Nat} {M : Int} {s : SayS} {e : EntD} (h : SayI d M s) (h1 : 1 ≤ d) (h8 : d ≤ 8) (hl : e.row.length = d) (hI : IsI e.row) : SayI d (M + 1) (sayE s e) := by
  unfold sayE
  have hb : boxOk (e.row, e.row) d := .inl (row_right h1 h8 hl)
  have hn : e.row ≠ [] := fun q => by rw [q] at hl; simp at hl; omega
  split
  · have hi := hullB_isI (a := (s.lo, s.hi)) (b := (e.row, e.row)) h.lI h.hI hI hI
    have hl := h.l
    have hz := h.z
    refine ⟨by dsimp only; omega, by dsimp only; omega, hullB_ok h.b hb, ?_, hi.1, hi.2⟩
    rw [hull_nil h.b hb]
    dsimp only
    constructor
    · intro q; omega
    · rintro ⟨_, q⟩; exact absurd q hn
  · exact ⟨⟨h.l.1, by have := h.l.2; omega⟩, ⟨h.z.1, by have := h.z.2; omega⟩, h.b, h.e, h.lI, h.hI⟩
theorem kidR_box {k : KidD} {d : Nat} (h : kidR k d = true) : boxOk (k.lo, k.hi) d ∧ (k.live = 0 ↔ k.lo = []) ∧ (0 ≤ k.live ∧ k.live ≤ 1048576) ∧ (0 ≤ k.size ∧ k.size ≤ 1048576) := by
  have hf := kidR_facts h
  refine ⟨?_, ?_, hf.1, hf.2.1⟩ <;>
  · unfold kidR at h
    simp only [Bool.or_eq_true, Bool.and_eq_true, decide_eq_true_eq] at h
    rcases h with rfl | ⟨h1, h2, h3, h4, h5⟩
    · first
        | exact .inr ⟨rfl, rfl⟩
        | simp [kidZ]
    · split at h5
      · rename_i e
        simp only [Bool.and_eq_true, decide_eq_true_eq] at h5
        first
          | exact .inr ⟨List.eq_nil_of_length_eq_zero h5.1, List.eq_nil_of_length_eq_zero h5.2⟩
          | exact ⟨fun _ => List.eq_nil_of_length_eq_zero h5.1, fun _ => e⟩
      · rename_i e
        first
          | exact .inl h5
          | (have hl := rightB_len h5; exact ⟨fun q => absurd q e, fun q => by rw [q] at hl; simp at hl; omega⟩)
theorem SayI.kid {d : Nat} {M : Int} {s : SayS} {k : KidD} (h : SayI d M s) (hk : kidR k d = true) (l : IsI k.lo) (r : IsI k.hi) : SayI d (M + 1048576) (sayK s k) := by
  obtain ⟨hb, he, h1, h2⟩ := kidR_box hk
  have hi := hullB_isI (a := (s.lo, s.hi)) (b := (k.lo, k.hi)) h.lI h.hI l r
  have hl := h.l
  have hz := h.z
  have hse := h.e
  unfold sayK
  refine ⟨by dsimp only; omega, by dsimp only; omega, hullB_ok h.b hb, ?_, hi.1, hi.2⟩
  rw [hull_nil h.b hb]
  dsimp only
  rw [← hse, ← he]
  omega
/-- a node that may be, its numbers' count a number -/
structure NodeRt (n : NodeD) (d : Nat) : Prop where
  dd : 1 ≤ d ∧ d ≤ 8
  row : ∀ i, i < n.rows.length → (n.rows.getD i default).row.length = d
  kid : ∀ i, i < n.kids.length → kidR (n.kids.getD i default) d = true
  rows : n.rows.length ≤ 4
  kids : n.kids.length ≤ 4
  leaf : n.kind = 2 → 0 < n.rows.length
  inner : n.kind = 3 → 0 < n.kids.length
  kind : n.kind = 1 ∨ n.kind = 2 ∨ n.kind = 3
  key : ∀ i, i < n.kids.length → (n.kids.getD i default).key.length ≤ 8
theorem nodeR_rt {n : NodeD} {d : Int} (h : nodeR n d = true) : ∃ D : Nat, d = (D : Int) ∧ NodeRt n D := by
  have hf := nodeR_facts h
  obtain ⟨D, rfl⟩ := Int.eq_ofNat_of_zero_le (show 0 ≤ d by have := hf.d.1; omega)
  unfold nodeR at h
  simp only [Bool.and_eq_true, decide_eq_true_eq, List.all_eq_true] at h
  obtain ⟨h1, h2, h3, h4, h5⟩ := h
  refine ⟨D, rfl, ⟨by omega, by omega⟩, fun i hi => by have := h3 _ (getD_mem' hi); omega, fun i hi => h4 _ (getD_mem' hi), hf.rows, hf.kids, ?_, ?_, ?_, fun i hi => (hf.kid i hi).2⟩
  · intro e; unfold kindR at h5; rw [if_neg (by omega), if_pos e] at h5; simp only [Bool.and_eq_true, decide_eq_true_eq] at h5; omega
  · intro e; unfold kindR at h5; rw [if_neg (by omega), if_neg (by omega)] at h5; simp only [Bool.and_eq_true, decide_eq_true_eq] at h5; omega
  · unfold kindR at h5
    split at h5
    · exact .inl ‹_›
    · split at h5
      · exact .inr (.inl ‹_›)
      · simp only [Bool.and_eq_true, decide_eq_true_eq] at h5; exact .inr (.inr h5.1)
theorem sayR_i {n : NodeD} {d : Nat} (h : NodeRt n d) (hn : NodeOk n) : ∀ i, i ≤ n.rows.length → SayI d (4 + i) (sayR n i)
  | 0, _ => by
    have := h.rows
    exact ⟨by simp [sayR], ⟨by simp [sayR], by simp [sayR]; omega⟩, .inr ⟨rfl, rfl⟩, by simp [sayR], fun i => by simp [sayR], fun i => by simp [sayR]⟩
  | i + 1, hi => by
    rw [sayR_one n i (by omega)]
    have := (sayR_i h hn i (by omega)).ent h.dd.1 h.dd.2 (h.row i (by omega)) (hn.row i (by omega)).1
    rwa [show (4 + (i : Int) + 1) = 4 + ((i + 1 : Nat) : Int) by omega] at this
theorem sayA_i {n : NodeD} {d : Nat} (h : NodeRt n d) (hn : NodeOk n) : ∀ j, j ≤ n.kids.length → SayI d (8 + 1048576 * j) (sayA n j)
  | 0, _ => by
    have := sayR_i h hn n.rows.length (Nat.le_refl _)
    have hr := h.rows
    exact ⟨⟨this.l.1, by have := this.l.2; show (sayR n n.rows.length).live ≤ _; omega⟩, ⟨this.z.1, by have := this.z.2; show (sayR n n.rows.length).size ≤ _; omega⟩, this.b, this.e, this.lI, this.hI⟩
  | j + 1, hj => by
    rw [sayA_one n j (by omega)]
    have := (sayA_i h hn j (by omega)).kid (h.kid j (by omega)) (hn.kid j (by omega)).lI (hn.kid j (by omega)).hI
    rwa [show (8 + 1048576 * (j : Int) + 1048576) = 8 + 1048576 * ((j + 1 : Nat) : Int) by omega] at this
theorem keyN_ok {n : NodeD} {d : Nat} (h : NodeRt n d) (hn : NodeOk n) : IsI (keyN n) ∧ (keyN n).length ≤ 8 := by
  unfold keyN
  split
  · rename_i e
    have h0 := h.leaf e
    have := h.row 0 h0
    have := h.dd
    exact ⟨(hn.row 0 h0).1, by omega⟩
  · split
    · rename_i e
      have h0 := h.inner e
      exact ⟨(hn.kid 0 h0).kI, h.key 0 h0⟩
    · exact ⟨fun i => by simp, by simp⟩
theorem sayN_ok {n : NodeD} {d : Nat} (h : NodeRt n d) (hn : NodeOk n) : KidOk (sayN n) := by
  have hs := sayA_i h hn n.kids.length (Nat.le_refl _)
  have hk := keyN_ok h hn
  have hb := boxOk_len hs.b
  have hq := h.kids
  have h1 := hs.l; have h2 := hs.z
  exact ⟨sum9_len _, isB_dig _, hs.lI, hs.hI, hk.1, by show _ ≤ (sayA n _).live ∧ (sayA n _).live ≤ _; omega, by show _ ≤ (sayA n _).size ∧ (sayA n _).size ≤ _; omega, by show (sayA n _).lo.length ≤ _; have := hb.1; dsimp only at this; omega, by show (sayA n _).hi.length ≤ _; have := hb.2.1; dsimp only at this; omega, by show (keyN n).length ≤ _; omega⟩
theorem mem_getDN {α : Type} [Inhabited α] {l : List α} {x : α} (h : x ∈ l) : ∃ i, i < l.length ∧ l.getD i default = x := by
  obtain ⟨i, hi, rfl⟩ := List.getElem_of_mem h
  exact ⟨i, hi, by simp [List.getD, List.getElem?_eq_getElem hi]⟩
theorem kid_len8 {n : NodeD} {d : Nat} (h : NodeRt n d) (i : Nat) (hi : i < n.kids.length) : (n.kids.getD i default).lo.length ≤ 8 ∧ (n.kids.getD i default).hi.length ≤ 8 := by
  have := boxOk_len (kidR_box (h.kid i hi)).1
  exact ⟨this.1, this.2.1⟩
theorem nodeB_isB {n : NodeD} {d : Nat} (h : NodeRt n d) (hn : NodeOk n) : IsB (nodeB n) := by
  have h1 := h.rows
  have h2 := h.kids
  have h3 := h.dd
  unfold nodeB
  refine isB_append (isB_append (isB_append (isB_append (isB_one hn.kind) (isB_one (by omega))) (isB_flat _ ?_)) (isB_one (by omega))) (isB_flat _ ?_)
  · intro x hx
    obtain ⟨e, he, rfl⟩ := List.mem_map.1 hx
    obtain ⟨i, hi, rfl⟩ := mem_getDN he
    have := h.row i hi
    unfold entB
    exact isB_append (isB_one (by split <;> decide)) (isB_rowB _ (by omega))
  · intro x hx
    obtain ⟨e, he, rfl⟩ := List.mem_map.1 hx
    obtain ⟨i, hi, rfl⟩ := mem_getDN he
    have hl := kid_len8 h i hi
    have hk := h.key i hi
    unfold kidB
    exact isB_append (isB_append (isB_append (isB_append (isB_append (hn.kid i hi).sB (isB_be3 _)) (isB_be3 _)) (isB_rowB _ (by omega))) (isB_rowB _ (by omega))) (isB_rowB _ (by omega))
theorem nodeB_len {n : NodeD} {d : Nat} (h : NodeRt n d) (hn : NodeOk n) : (nodeB n).length ≤ 100000 := by
  have h1 := h.rows
  have h2 := h.kids
  have h3 := h.dd
  have a := flat_len_le entB n.rows 66 (fun i hi => entB_len _ (by have := h.row i hi; omega)) n.rows.length (Nat.le_refl _)
  have b := flat_len_le kidB n.kids 233 (fun i hi => kidB_len _ (hn.kid i hi).s (kid_len8 h i hi).1 (kid_len8 h i hi).2 (h.key i hi)) n.kids.length (Nat.le_refl _)
  rw [List.take_length] at a b
  unfold nodeB
  simp only [List.length_append, List.length_cons, List.length_nil]
  omega
end Go.Proofs.Ytgcbodpjidoanaa
