/- DERIVED: THE SHELF's CONTRACTS AT THIS DUMP, IN PLAIN WORDS (tools/lay-plain.mjs out of 'YtedokpgkjcnoiaaGreatShelfTry.lean', which tools/lay-shelf.mjs wrote): THE SAME DECLARATIONS UNDER THE SAME NAMES: 'import', 'namespace', 'open', 'def', 'theorem' AND NOTHING ELSE: no command of the shelf's: FOR A HAND-IN. Each laying: the table of numbers ('.._ren') and one theorem, a field a fact of the dump's own or the kernel's comparison; each contract: ONE APPLICATION. slices.SortFunc of rows as a contract of the new kind; the orders of the k-d tree. Arguments told anew, lists within lists too. -/
import Derived.Shelf.SlSortCmp.Whole1
import Derived.Shelf.SlGeneric
import Derived.Ground.SlsfProg
import Derived.Test.YtedokpgkjcnoiaaGreatProg
import Derived.Test.YtedokpgkjcnoiaaGreatQ22
import Derived.Test.YtedokpgkjcnoiaaGreatQ39
set_option linter.unusedVariables false
set_option linter.unusedSimpArgs false
namespace Go.Proofs
open Go.Shelf
def Tryz.sort34_ren : Go.Shelf.Ren := ⟨fun | 6 => 34 | 15 => 62 | 14 => 61 | 28 => 92 | 29 => 93 | 20 => 84 | 21 => 85 | 22 => 86 | 23 => 87 | 24 => 88 | 25 => 89 | 26 => 90 | 27 => 91 | 46 => 128 | 47 => 129 | 48 => 130 | 49 => 131 | 50 => 132 | 57 => 149 | n => n, fun | 22 => 22 | 24 => 26 | 25 => 84 | 3 => 3 | 39 => 112 | 0 => 0 | 53 => 141 | 55 => 143 | 4 => 4 | 46 => 134 | 45 => 133 | 50 => 138 | 5 => 5 | 9 => 9 | 66 => 171 | 70 => 175 | 76 => 188 | 77 => 189 | n => n, fun | n => n⟩
theorem Tryz.sort34 : Go.Proofs.SlLaysF.n6 Tryz.prog Tryz.sort34_ren := {
 mixed := by kernel_rfl
 f6 := ⟨Tryz.f34.name, by decide, Tryz.func34.trans (congrArg some (by kernel_rfl))⟩
 f14 := ⟨Tryz.f61.name, by decide, Tryz.func61.trans (congrArg some (by kernel_rfl))⟩
 f15 := Tryz.func62.trans (congrArg some (by kernel_rfl))
 f20 := ⟨Tryz.f84.name, by decide, Tryz.func84.trans (congrArg some (by kernel_rfl))⟩
 f21 := ⟨Tryz.f85.name, by decide, Tryz.func85.trans (congrArg some (by kernel_rfl))⟩
 f22 := ⟨Tryz.f86.name, by decide, Tryz.func86.trans (congrArg some (by kernel_rfl))⟩
 f23 := ⟨Tryz.f87.name, by decide, Tryz.func87.trans (congrArg some (by kernel_rfl))⟩
 f24 := ⟨Tryz.f88.name, by decide, Tryz.func88.trans (congrArg some (by kernel_rfl))⟩
 f25 := ⟨Tryz.f89.name, by decide, Tryz.func89.trans (congrArg some (by kernel_rfl))⟩
 f26 := ⟨Tryz.f90.name, by decide, Tryz.func90.trans (congrArg some (by kernel_rfl))⟩
 f27 := ⟨Tryz.f91.name, by decide, Tryz.func91.trans (congrArg some (by kernel_rfl))⟩
 f28 := Tryz.func92.trans (congrArg some (by kernel_rfl))
 f29 := Tryz.func93.trans (congrArg some (by kernel_rfl))
 f46 := ⟨Tryz.f128.name, by decide, Tryz.func128.trans (congrArg some (by kernel_rfl))⟩
 f47 := Tryz.func129.trans (congrArg some (by kernel_rfl))
 f48 := Tryz.func130.trans (congrArg some (by kernel_rfl))
 f49 := ⟨Tryz.f131.name, by decide, Tryz.func131.trans (congrArg some (by kernel_rfl))⟩
 f50 := ⟨Tryz.f132.name, by decide, Tryz.func132.trans (congrArg some (by kernel_rfl))⟩
 f57 := ⟨Tryz.f149.name, by decide, Tryz.func149.trans (congrArg some (by kernel_rfl))⟩
 t0 := Tryz.underlying0
 a0 := Tryz.isAgg0
 z0 := Tryz.sizeOf0
 v0 := Tryz.zeroValue0
 t3 := Tryz.underlying3
 a3 := Tryz.isAgg3
 z3 := Tryz.sizeOf3
 v3 := Tryz.zeroValue3
 t4 := Tryz.underlying4
 a4 := Tryz.isAgg4
 z4 := Tryz.sizeOf4
 v4 := Tryz.zeroValue4
 t5 := Tryz.underlying5
 a5 := Tryz.isAgg5
 z5 := Tryz.sizeOf5
 v5 := Tryz.zeroValue5
 t9 := Tryz.underlying9
 a9 := Tryz.isAgg9
 z9 := Tryz.sizeOf9
 v9 := Tryz.zeroValue9
 t22 := Tryz.underlying22
 a22 := Tryz.isAgg22
 z22 := Tryz.sizeOf22
 v22 := Tryz.zeroValue22
 a24 := Tryz.isAgg26
 z24 := Tryz.sizeOf26
 t25 := Tryz.underlying84
 a25 := Tryz.isAgg84
 z25 := Tryz.sizeOf84
 v25 := Tryz.zeroValue84
 t39 := Tryz.underlying112
 a39 := Tryz.isAgg112
 z39 := Tryz.sizeOf112
 v39 := Tryz.zeroValue112
 t45 := Tryz.underlying133
 a45 := Tryz.isAgg133
 z45 := Tryz.sizeOf133
 v45 := Tryz.zeroValue133
 t46 := Tryz.underlying134
 a46 := Tryz.isAgg134
 z46 := Tryz.sizeOf134
 v46 := Tryz.zeroValue134
 t50 := Tryz.underlying138
 a50 := Tryz.isAgg138
 z50 := Tryz.sizeOf138
 v50 := Tryz.zeroValue138
 t53 := Tryz.underlying141
 a53 := Tryz.isAgg141
 z53 := Tryz.sizeOf141
 v53 := Tryz.zeroValue141
 t55 := Tryz.underlying143
 a55 := Tryz.isAgg143
 z55 := Tryz.sizeOf143
 v55 := Tryz.zeroValue143
 t66 := Tryz.underlying171
 a66 := Tryz.isAgg171
 z66 := Tryz.sizeOf171
 v66 := Tryz.zeroValue171
 t70 := Tryz.underlying175
 a70 := Tryz.isAgg175
 z70 := Tryz.sizeOf175
 v70 := Tryz.zeroValue175
 t76 := Tryz.underlying188
 a76 := Tryz.isAgg188
 z76 := Tryz.sizeOf188
 v76 := Tryz.zeroValue188
 t77 := Tryz.underlying189
 a77 := Tryz.isAgg189
 z77 := Tryz.sizeOf189
 v77 := Tryz.zeroValue189 }
end Go.Proofs
namespace Go.Proofs.YtedokpgkjcnoiaaGreat
open Go.RowKit
set_option maxRecDepth 100000
set_option maxHeartbeats 1000000
def rowF (L : List Rw) (k : Nat) : List DV := [i64L (L.getD k [])]
theorem lies_of {C : Cx} {blk d : Nat} (hb : ∃ o ob, look C.H o = some ob ∧ ob.free = true ∧ (C.vl o).ownBlock = some blk) {r : Rw} {v : Value} (h : RD C.W C.N (i64L r) v) (hd : r.length = d) : Lies C.W blk d (v, r) := by
 refine ⟨hd, ?_⟩
 generalize he : i64L r = x at h
 cases h with
 | v x => cases he
 | p cs b off u hb hu hr => cases he
 | fn f cs us hl hr => cases he
 | sl sz n f A b off c u hA hc hl hu hr =>
  cases he
  refine ⟨A, c, rfl, fun hn => ?_⟩
  obtain ⟨rfl, hN⟩ := hA hn
  refine ⟨b, off, rfl, hN.2.1, fun e => ?_, fun i hi => ?_⟩
  ·subst e
   obtain ⟨o, ob, h1, h2, h3⟩ := hb
   exact hN.2.2 o ob h1 h2 h3
  ·have h1 := (hu i 0 hi (by decide)).1
   have h2 := hr i 0 hi (by decide)
   have h3 : u i 0 = i64s r i := by
    generalize u i 0 = z at h2
    cases h2; rfl
   rw [h3, Nat.mul_one, Nat.add_zero] at h1
   exact h1
/-- a closure that compares rows -/
def Cmps (P : Program) (g d : Nat) (lt : Rw → Rw → Bool) (fv : AV) : Prop := ∀ (C : Cx) (v : Value), Rv C fv v → ∃ cb, v = .func (.func g) #[] cb ∧ ∀ W : World, (∀ k, C.N k → W.heap[k]? = C.W.heap[k]?) →
 ∀ (A B : Option Addr) (l m : Rw) (c e Z : Nat), l.length = d → m.length = d → Arr W Z A l.length (i64s l) → Arr W Z B m.length (i64s m) →
  Calls P g (#[.slice A l.length c, .slice B m.length e] ++ cb) W fun e w' => e = .returned (.int .i64 (Kd.cmpL lt l m)) ∧ ∃ q, w' = W.drewN q
theorem acall_sort {P : Program} {ρ : Go.Shelf.Ren} (Ly : Go.Proofs.SlLaysF.n6 P ρ) (hE : Enters P (ρ.f 6)) (lt : Rw → Rw → Bool) (d g : Nat) (H : Kd.Tot lt (fun r => r.length = d)) (eg : Enters P g) (fv : AV) (hc : Cmps P g d lt fv)
    (ty : Nat) (L : List Rw) (hne : L ≠ []) (hL : L.length ≤ 2000000) (hd : ∀ r ∈ L, r.length = d) :
    ACall P (ρ.f 6) [.own 901 0, fv] [(901, .row ty 1 0 false L.length (rowF L))] (.tup []) [(901, .row ty 1 0 false L.length (rowF (Kd.isort lt L)))] := by
  refine ⟨hE, fun A W vl vs G hl hv => ?_⟩
  obtain ⟨v0, v1, rfl⟩ : ∃ v0 v1, vs = [v0, v1] := by
    match vs, hl with
    | [a, b], _ => exact ⟨a, b, rfl⟩
  obtain ⟨C, hC⟩ : ∃ C : Cx, C = ⟨⟨A, fun b => ∃ o ob, look [(901, Ob.row ty 1 0 false L.length (rowF L))] o = some ob ∧ (vl o).ownBlock = some b, W⟩, W, [(901, .row ty 1 0 false L.length (rowF L))], vl⟩ := ⟨_, rfl⟩
  have eW : C.W = W := by rw [hC]
  have eH : C.H = [(901, .row ty 1 0 false L.length (rowF L))] := by rw [hC]
  have eV : C.vl = vl := by rw [hC]
  have eE : C.E = ⟨A, fun b => ∃ o ob, look [(901, Ob.row ty 1 0 false L.length (rowF L))] o = some ob ∧ (vl o).ownBlock = some b, W⟩ := by rw [hC]
  rw [← hC] at G hv ⊢
  rw [← eE]
  have hlk : look C.H 901 = some (.row ty 1 0 false L.length (rowF L)) := by rw [eH]; rfl
  have hv0 : v0 = C.vl 901 := own_val G (hv 0 (by simp)) hlk rfl (by simp [curG, hlk, Ob.gen])
  obtain ⟨cb, e1, hcl⟩ := hc C v1 (hv 1 (by simp))
  subst e1
  obtain ⟨us, q1, q2, q4, q3⟩ := G.ok 901 _ hlk
  have hlen : us.length = L.length := by have := q1.1; omega
  have hpos : 0 < L.length := List.length_pos_iff.2 hne
  rcases q1.2 with ⟨_, q⟩ | ⟨b, cap, cur, q, _, hh, hnc, hcm, hsz, ht⟩
  · omega
  have hfree : ∃ o ob, look C.H o = some ob ∧ ob.free = true ∧ (C.vl o).ownBlock = some b := ⟨901, _, hlk, rfl, by rw [q]; rfl⟩
  obtain ⟨rows, hrows⟩ : ∃ rows : List (Value × Rw), rows = us.zip L := ⟨_, rfl⟩
  have rl : rows.length = L.length := by rw [hrows, List.length_zip]; omega
  have r2 : rows.map Prod.snd = L := by rw [hrows]; exact List.map_snd_zip (by omega)
  have r1 : rows.map Prod.fst = us := by rw [hrows]; exact List.map_fst_zip (by omega)
  have rget : ∀ j, j < L.length → rows.getD j (.bool false, []) = (us.getD j undef, L.getD j []) := fun j hj => by
    rw [hrows, List.getD_eq_getElem?_getD, List.getElem?_eq_getElem (by rw [List.length_zip]; omega), List.getElem_zip]
    simp [List.getD_eq_getElem?_getD, List.getElem?_eq_getElem (show j < us.length by omega), List.getElem?_eq_getElem hj]
  have good : ∀ x ∈ rows, Lies C.W b d x := fun x hx => by
    obtain ⟨j, hj, rfl⟩ := List.getElem_of_mem hx
    have hj' : j < L.length := by omega
    have e : rows[j] = (us.getD j undef, L.getD j []) := by
      have := rget j hj'
      rw [List.getD_eq_getElem?_getD, List.getElem?_eq_getElem hj] at this
      exact this
    rw [e]
    have := q3 j 0 hj' (by decide)
    rw [Nat.mul_one, Nat.add_zero] at this
    refine lies_of hfree this (hd _ ?_)
    rw [List.getD_eq_getElem?_getD, List.getElem?_eq_getElem hj']
    exact List.getElem_mem hj'
  have hcur : ∀ j, j < rows.length → cur[j]? = some (rows.getD j (.bool false, [])).1 := fun j hj => by
    rw [rget j (by omega)]
    have := congrArg (fun l => l[j]?) ht
    simp only [List.getElem?_take, Nat.mul_one] at this
    rw [if_pos (by omega)] at this
    rw [show cur[j]? = cur.toList[j]? by simp, this, List.getElem?_eq_getElem (by omega)]
    simp [List.getD_eq_getElem?_getD, List.getElem?_eq_getElem (show j < us.length by omega)]
  have hblk : b < C.W.heap.size := by
    rcases Nat.lt_or_ge b C.W.heap.size with z | z
    · exact z
    · rw [Array.getElem?_eq_none z] at hh; cases hh
  have hcmp : ∀ W : World, (∀ k, k < C.W.heap.size → k ≠ b → W.heap[k]? = C.W.heap[k]?) → ∀ x y, Lies C.W b d x → Lies C.W b d y → Calls P g (#[x.1, y.1] ++ cb) W fun e w' => e = .returned (.int .i64 (Kd.cmpL lt x.2 y.2)) ∧ ∃ q, w' = W.drewN q := fun W hW x y hx hy => by
    obtain ⟨A1, c1, e1, a1⟩ := hx.arr hW
    obtain ⟨A2, c2, e2, a2⟩ := hy.arr hW
    rw [e1, e2]
    refine hcl W (fun k hk => hW k hk.2.1 fun e => ?_) A1 A2 x.2 y.2 c1 c2 _ hx.len hy.len a1 a2
    subst e
    obtain ⟨o, ob, h1, h2, h3⟩ := hfree
    exact hk.2.2 o ob h1 h2 h3
  have hcore := sort_core Ly lt d H g cb eg C.W b cap rows (fun e => by rw [e] at rl; simp at rl; omega) hblk (by omega) good cur ty hh hcur hcmp
  rw [rl, r2] at hcore
  rw [hv0, q, ← eW]
  refine hcore.mono ?_
  rintro e W' ⟨rfl, rows', cur', h1, h2, h3, h4, h5, h6, h7, h8, h9, h10⟩
  have hl' : rows'.length = L.length := by rw [h1.length_eq, rl]
  have hsl : (Kd.isort lt L).length = L.length := Kd.isort_len L
  obtain ⟨hF, hG⟩ := G.turn (o := 901) (b' := .row ty 1 0 false L.length (rowF (Kd.isort lt L))) (W' := W') (vo := C.vl 901) h6 h8 h9 h10
    (fun k hk hno => h7 k hk fun e => hno _ hlk rfl (by rw [e, q]; rfl)) (fun k hk => .inr ⟨_, hlk, rfl, hk⟩) (fun ob ho => by rw [hlk] at ho; obtain rfl := Option.some.inj ho; exact .inl ⟨rfl, rfl, rfl⟩) (fun hF => by
    refine ⟨rows'.map Prod.fst, ⟨by simp [hl'], .inr ⟨b, cap, cur', by show updV C.vl 901 (C.vl 901) 901 = _; rw [updV_same, q], Nat.zero_le _, h3, hnc, hcm, by rw [h4]; exact hsz, ?_⟩⟩, fun i hi => rfl, fun u hu => ?_, fun i j hi hj => ?_⟩
    · apply List.ext_getElem?
      intro j
      rw [List.getElem?_take, Nat.mul_one]
      split
      · rename_i hj
        have := h5 j (by omega)
        rw [show cur'.toList[j]? = cur'[j]? by simp, this, List.getElem?_map, List.getD_eq_getElem?_getD, List.getElem?_eq_getElem (show j < rows'.length by omega)]; rfl
      · rw [List.getElem?_eq_none (by simp; omega)]
    · obtain ⟨x, hx, rfl⟩ := List.mem_map.1 hu
      obtain ⟨A1, c1, e1, _⟩ := (good x (h1.mem_iff.1 hx)).val
      rw [e1]; rfl
    · obtain rfl : j = 0 := by omega
      rw [Nat.mul_one, Nat.add_zero]
      have hi' : i < rows'.length := by omega
      have e2 : (Kd.isort lt L).getD i [] = (rows'[i]).2 := by
        rw [← h2, List.getD_eq_getElem?_getD, List.getElem?_map, List.getElem?_eq_getElem hi']; rfl
      have e3 : (rows'.map Prod.fst).getD i undef = (rows'[i]).1 := by
        rw [List.getD_eq_getElem?_getD, List.getElem?_map, List.getElem?_eq_getElem hi']; rfl
      show RD _ _ (i64L ((Kd.isort lt L).getD i [])) _
      rw [e2, e3]
      have hm := h1.mem_iff.1 (List.getElem_mem hi')
      obtain ⟨k, hk, hkx⟩ := List.getElem_of_mem hm
      have hk' : k < L.length := by omega
      have r := q3 k 0 hk' (by decide)
      rw [Nat.mul_one, Nat.add_zero] at r
      have e4 := rget k hk'
      rw [List.getD_eq_getElem?_getD, List.getElem?_eq_getElem hk] at e4
      replace e4 : rows[k] = _ := e4
      rw [hkx] at e4
      rw [e4]
      exact RD.fr hF r)
  refine ⟨.tuple #[], C.put 901 (.row ty 1 0 false L.length (rowF (Kd.isort lt L))) W' (C.vl 901), rfl, rfl, ?_, rfl, hF, hG, ⟨[], rfl, rfl, fun j hj => by cases hj⟩⟩
  show setH C.H 901 _ = _
  rw [eH]; rfl
end Go.Proofs.YtedokpgkjcnoiaaGreat
namespace Go.Proofs.YtedokpgkjcnoiaaGreat
open Go.RowKit
inductive DvE : DV → DV → Prop where
 | refl (x : DV) : DvE x x
 | nil (A : Option Addr) (c sz : Nat) (f : Nat → List DV) : DvE (.v (.slice A 0 c)) (.sl sz 0 f)
 | sl (sz n : Nat) (f f' : Nat → List DV) (hl : ∀ k, k < n → (f k).length = (f' k).length) (h : ∀ k j, k < n → j < (f k).length → DvE ((f k).getD j default) ((f' k).getD j default)) : DvE (.sl sz n f) (.sl sz n f')
 | p (cs ds : List DV) (hl : cs.length = ds.length) (h : ∀ j, j < cs.length → DvE (cs.getD j default) (ds.getD j default)) : DvE (.p cs) (.p ds)
theorem RD.deep {W : World} {N : Nat → Prop} {x y : DV} (e : DvE x y) : ∀ {v : Value}, RD W N x v → RD W N y v := by
 induction e with
 | refl x => exact fun h => h
 | nil A c sz f =>
  intro v h
  cases h
  exact .sl sz 0 f A 0 0 c (fun _ _ => default) (fun h => by omega) (Nat.zero_le _) (fun i hi => by omega) (fun i j hi => by omega) (fun i j hi => by omega)
 | sl sz n f f' hl h ih =>
  intro v hv
  cases hv with
  | sl _ _ _ A b off c u hA hc hl2 hu hr => exact .sl sz n f' A b off c u hA hc (fun i hi => by rw [← hl i hi]; exact hl2 i hi) hu fun i j hi hj => ih i j hi (by rw [hl2 i hi]; exact hj) (hr i j hi hj)
 | p cs ds hl h ih =>
  intro v hv
  cases hv with
  | p _ b off u hb hu hr => exact .p ds b off u hb (fun j hj => hu j (by rw [hl]; exact hj)) fun j hj => ih j (by rw [hl]; exact hj) (hr j (by rw [hl]; exact hj))
inductive DvL : List DV → List DV → Prop where
 | nil : DvL [] []
 | cons {x y : DV} {l m : List DV} (h : DvE x y) (r : DvL l m) : DvL (x :: l) (y :: m)
theorem DvL.len {l m : List DV} (h : DvL l m) : l.length = m.length := by
 induction h with
 | nil => rfl
 | cons _ _ ih => simp [ih]
theorem DvL.get {l m : List DV} (h : DvL l m) : ∀ j, j < l.length → DvE (l.getD j default) (m.getD j default) := by
 induction h with
 | nil => intro j hj; cases hj
 | cons h r ih =>
  intro j hj
  cases j with
  | zero => exact h
  | succ j => simpa using ih j (by simpa using hj)
theorem DvE.sl' {sz n : Nat} {f f' : Nat → List DV} (h : ∀ k, k < n → DvL (f k) (f' k)) : DvE (.sl sz n f) (.sl sz n f') := .sl sz n f f' (fun k hk => (h k hk).len) fun k j hk hj => (h k hk).get j hj
theorem DvE.p' {cs ds : List DV} (h : DvL cs ds) : DvE (.p cs) (.p ds) := .p cs ds h.len h.get
/-- a slice of as many elements as a list has, and of another list's elements -/
inductive AvE : AV → AV → Prop where
 | refl (a : AV) : AvE a a
 | any (a : AV) : AvE a .any
 | d {x y : DV} (h : DvE x y) : AvE (.d x) (.d y)
 | dp {cs ds : List DV} (h : DvL cs ds) : AvE (.dp cs) (.dp ds)
inductive AvL : List AV → List AV → Prop where
 | nil : AvL [] []
 | cons {x y : AV} {l m : List AV} (h : AvE x y) (r : AvL l m) : AvL (x :: l) (y :: m)
inductive AvA : AV → AV → Prop where
 | one {a b : AV} (h : AvE a b) : AvA a b
 | agg {l m : List AV} (h : AvL l m) : AvA (.agg l) (.agg m)
inductive AvT : List AV → List AV → Prop where
 | nil : AvT [] []
 | cons {x y : AV} {l m : List AV} (h : AvA x y) (r : AvT l m) : AvT (x :: l) (y :: m)
section
variable {C : Cx}
theorem Rb.deep {a b : AV} {v : Value} (e : AvE a b) (h : Rb C a v) : Rb C b v := by
 cases e with
 | refl => exact h
 | any => trivial
 | d hd => exact RD.deep hd h
 | dp hd =>
  obtain ⟨b, off, u, e, hb, hc⟩ := h
  exact ⟨b, off, u, e, hb, fun j hj => ⟨(hc j (by rw [hd.len]; exact hj)).1, RD.deep (hd.get j (by rw [hd.len]; exact hj)) (hc j (by rw [hd.len]; exact hj)).2⟩⟩
theorem AvL.len {l m : List AV} (h : AvL l m) : l.length = m.length := by
 induction h with
 | nil => rfl
 | cons _ _ ih => simp [ih]
theorem AvL.get {l m : List AV} (h : AvL l m) : ∀ j, j < l.length → AvE (l.getD j .any) (m.getD j .any) := by
 induction h with
 | nil => intro j hj; cases hj
 | cons h r ih =>
  intro j hj
  cases j with
  | zero => exact h
  | succ j => simpa using ih j (by simpa using hj)
theorem AvT.len {l m : List AV} (h : AvT l m) : l.length = m.length := by
 induction h with
 | nil => rfl
 | cons _ _ ih => simp [ih]
theorem AvT.get {l m : List AV} (h : AvT l m) : ∀ j, j < l.length → AvA (l.getD j .any) (m.getD j .any) := by
 induction h with
 | nil => intro j hj; cases hj
 | cons h r ih =>
  intro j hj
  cases j with
  | zero => exact h
  | succ j => simpa using ih j (by simpa using hj)
theorem Rv.deep {a b : AV} {v : Value} (e : AvA a b) (h : Rv C a v) : Rv C b v := by
 cases e with
 | agg hd =>
  obtain ⟨us, rfl, hl, hr⟩ := h
  exact ⟨us, rfl, by rw [← hd.len]; exact hl, fun j hj => Rb.deep (hd.get j (by rw [hd.len]; exact hj)) (hr j (by rw [hd.len]; exact hj))⟩
 | one e =>
  cases e with
  | refl => exact h
  | any => trivial
  | d hd => exact Rb.deep (a := .d _) (.d hd) h
  | dp hd => exact Rb.deep (a := .dp _) (.dp hd) h
end
/-- arguments may be told anew, however deep -/
theorem ACall.deep {P : Program} {f : FuncId} {xs bs : List AV} {Hp H' : OH} {r : AV} (e : AvT xs bs) (hc : ACall P f bs Hp r H') : ACall P f xs Hp r H' :=
 ⟨hc.1, fun A W vl vs G hl hv => hc.2 A W vl vs G (by rw [← hl, e.len]) fun j hj => Rv.deep (e.get j (by rw [e.len]; exact hj)) (hv j (by rw [e.len]; exact hj))⟩
end Go.Proofs.YtedokpgkjcnoiaaGreat
