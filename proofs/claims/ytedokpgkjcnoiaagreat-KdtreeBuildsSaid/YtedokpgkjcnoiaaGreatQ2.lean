/- What becomes of the objects when one of them is made, written, grown, laid for good or forgotten. No program in sight. -/
import Derived.Test.YtedokpgkjcnoiaaGreatQ1
set_option linter.unusedVariables false
set_option linter.unusedSimpArgs false
namespace Go.Proofs.YtedokpgkjcnoiaaGreat
open Go.RowKit
def updV (vl : Nat → Value) (o : Nat) (v : Value) (x : Nat) : Value := if x = o then v else vl x
theorem updV_same (vl : Nat → Value) (o : Nat) (v : Value) : updV vl o v o = v := by simp [updV]
theorem updV_other (vl : Nat → Value) (o : Nat) (v : Value) (x : Nat) (h : x ≠ o) : updV vl o v x = vl x := by simp [updV, h]
def Cx.put (C : Cx) (o : Nat) (b : Ob) (W : World) (v : Value) : Cx := ⟨C.E, W, setH C.H o b, updV C.vl o v⟩
theorem put_look (C : Cx) (o : Nat) (b : Ob) (W : World) (v : Value) (x : Nat) : look (C.put o b W v).H x = if o = x then some b else look C.H x := look_setH o b x C.H
section
variable {C : Cx}
/-- one object turns, the others stand -/
theorem Gam.turn (G : Gam C) {o : Nat} {b' : Ob} {W' : World} {vo : Value}
    (hs : C.W.heap.size ≤ W'.heap.size) (h1 : W'.os = C.W.os) (h2 : W'.tape = C.W.tape) (h3 : W'.output = C.W.output)
    (hK : ∀ k, k < C.W.heap.size → (∀ ob, look C.H o = some ob → ob.free = true → (C.vl o).ownBlock ≠ some k) → W'.heap[k]? = C.W.heap[k]?)
    (hn : ∀ k, vo.ownBlock = some k → C.W.heap.size ≤ k ∨ ∃ ob, look C.H o = some ob ∧ ob.free = true ∧ (C.vl o).ownBlock = some k)
    (hg : ∀ ob, look C.H o = some ob → ((b'.gen = ob.gen ∧ b'.sz = ob.sz ∧ vo = C.vl o) ∨ ob.gen < b'.gen))
    (hok : Fr C (C.put o b' W' vo) → OK (C.put o b' W' vo) o b') : Fr C (C.put o b' W' vo) ∧ Gam (C.put o b' W' vo) := by
  have hF : Fr C (C.put o b' W' vo) := by
    refine ⟨fun k hk => ?_, fun x ob hx => ?_⟩
    · obtain ⟨ha, hlt, hnot⟩ := hk
      refine ⟨⟨ha, Nat.lt_of_lt_of_le hlt hs, fun x ob hx hf => ?_⟩, hK k hlt fun ob ho hf => hnot o ob ho hf⟩
      rw [put_look] at hx
      by_cases e : o = x
      · subst e
        show (updV C.vl o vo o).ownBlock ≠ some k
        rw [updV_same]
        intro q
        rcases hn k q with q | ⟨ob', q1, q2, q3⟩
        · omega
        · exact hnot o ob' q1 q2 q3
      · rw [if_neg e] at hx
        show (updV C.vl o vo x).ownBlock ≠ some k
        rw [updV_other _ _ _ _ (Ne.symm e)]
        exact hnot x ob hx hf
    · rw [put_look]
      by_cases e : o = x
      · subst e
        refine ⟨b', by rw [if_pos rfl], ?_⟩
        rcases hg ob hx with ⟨q1, q2, q3⟩ | q
        · exact .inl ⟨q1, q2, (updV_same _ _ _).trans q3⟩
        · exact .inr q
      · exact ⟨ob, by rw [if_neg e]; exact hx, .inl ⟨rfl, rfl, updV_other _ _ _ _ (Ne.symm e)⟩⟩
  refine ⟨hF, ⟨fun x ob hx => ?_, fun x y bx byy k hx hy hne hk => ?_, ?_, fun x ob k hx hk => ?_⟩⟩
  · rw [put_look] at hx
    by_cases e : o = x
    · subst e
      rw [if_pos rfl] at hx
      obtain rfl := Option.some.inj hx
      exact hok hF
    · rw [if_neg e] at hx
      have r := G.ok x ob hx
      exact r.fr hF (updV_other _ _ _ _ (Ne.symm e)) fun k hk => hK k (r.lt hk) fun ob' ho hf q => G.ap o x ob' ob k ho hx e q hk
  · rw [put_look] at hx hy
    have key : ∀ z bz, o ≠ z → look C.H z = some bz → (C.vl z).ownBlock = some k → vo.ownBlock ≠ some k := by
      intro z bz hz hl hkz q
      rcases hn k q with q | ⟨ob', q1, q2, q3⟩
      · have := (G.ok z bz hl).lt hkz; omega
      · exact G.ap o z ob' bz k q1 hl hz q3 hkz
    show (updV C.vl o vo y).ownBlock ≠ some k
    replace hk : (updV C.vl o vo x).ownBlock = some k := hk
    by_cases e : o = x
    · subst e
      rw [updV_same] at hk
      rw [if_neg hne] at hy
      rw [updV_other _ _ _ _ (Ne.symm hne)]
      exact fun q => key y byy hne hy q hk
    · rw [if_neg e] at hx
      rw [updV_other _ _ _ _ (Ne.symm e)] at hk
      by_cases e' : o = y
      · subst e'
        rw [updV_same]
        exact key x bx e hx hk
      · rw [if_neg e'] at hy
        rw [updV_other _ _ _ _ (Ne.symm e')]
        exact G.ap x y bx byy k hx hy hne hk
  · have K := G.kp
    refine ⟨Nat.le_trans K.size hs, fun k hk hS => ?_, h1.trans K.os, h2.trans K.tape, h3.trans K.output⟩
    refine (hK k (Nat.lt_of_lt_of_le hk K.size) fun ob ho hf q => ?_).trans (K.block k hk hS)
    have hk' : k < C.E.W0.heap.size := hk
    rcases G.mu o ob k ho q with q | q
    · exact hS q
    · omega
  · rw [put_look] at hx
    replace hk : (updV C.vl o vo x).ownBlock = some k := hk
    by_cases e : o = x
    · subst e
      rw [updV_same] at hk
      rcases hn k hk with q | ⟨ob', q1, q2, q3⟩
      · exact .inr (Nat.le_trans G.kp.size q)
      · exact G.mu o ob' k q1 q3
    · rw [if_neg e] at hx
      rw [updV_other _ _ _ _ (Ne.symm e)] at hk
      exact G.mu x ob k hx hk
/-- the world draws; nothing turns -/
theorem Gam.same (G : Gam C) {W' : World} (hh : W'.heap = C.W.heap) (h1 : W'.os = C.W.os) (h2 : W'.tape = C.W.tape) (h3 : W'.output = C.W.output) :
    Fr C ⟨C.E, W', C.H, C.vl⟩ ∧ Gam ⟨C.E, W', C.H, C.vl⟩ := by
  have hF : Fr C ⟨C.E, W', C.H, C.vl⟩ := ⟨fun b h => ⟨⟨h.1, by show b < W'.heap.size; rw [hh]; exact h.2.1, h.2.2⟩, by show W'.heap[b]? = _; rw [hh]⟩, fun o ob h => ⟨ob, h, .inl ⟨rfl, rfl, rfl⟩⟩⟩
  refine ⟨hF, ⟨fun o b h => (G.ok o b h).fr hF rfl fun k _ => by show W'.heap[k]? = _; rw [hh], G.ap, ?_, G.mu⟩⟩
  have K := G.kp
  exact ⟨by show _ ≤ W'.heap.size; rw [hh]; exact K.size, fun k hk hS => by show W'.heap[k]? = _; rw [hh]; exact K.block k hk hS, h1.trans K.os, h2.trans K.tape, h3.trans K.output⟩
/-- new blocks, all that was stands -/
theorem Gam.grow (G : Gam C) {W' : World} (hs : C.W.heap.size ≤ W'.heap.size) (hh : ∀ k, k < C.W.heap.size → W'.heap[k]? = C.W.heap[k]?) (h1 : W'.os = C.W.os) (h2 : W'.tape = C.W.tape) (h3 : W'.output = C.W.output) :
    Fr C ⟨C.E, W', C.H, C.vl⟩ ∧ Gam ⟨C.E, W', C.H, C.vl⟩ ∧ ∀ b, C.W.heap.size ≤ b → b < W'.heap.size → Cx.N ⟨C.E, W', C.H, C.vl⟩ b := by
  have K := G.kp
  have hF : Fr C ⟨C.E, W', C.H, C.vl⟩ := ⟨fun b h => ⟨⟨h.1, Nat.lt_of_lt_of_le h.2.1 hs, h.2.2⟩, hh b h.2.1⟩, fun o ob h => ⟨ob, h, .inl ⟨rfl, rfl, rfl⟩⟩⟩
  refine ⟨hF, ⟨fun o b h => (G.ok o b h).fr hF rfl fun k hk => hh k ((G.ok o b h).lt hk), G.ap, ?_, G.mu⟩, fun b hb hb' => ⟨.inr (.inr (Nat.le_trans K.size hb)), hb', fun o ob ho hf q => ?_⟩⟩
  · exact ⟨Nat.le_trans K.size hs, fun k hk hS => (hh k (Nat.lt_of_lt_of_le hk K.size)).trans (K.block k hk hS), h1.trans K.os, h2.trans K.tape, h3.trans K.output⟩
  · have := (G.ok o ob ho).lt q
    omega
/-- a row is laid for good -/
theorem Gam.freeze (G : Gam C) {o ty sz g n : Nat} {fz : Bool} {f : Nat → List DV} (ho : look C.H o = some (.row ty sz g fz n f)) :
    Fr C ⟨C.E, C.W, setH C.H o (.row ty sz g true n f), C.vl⟩ ∧ Gam ⟨C.E, C.W, setH C.H o (.row ty sz g true n f), C.vl⟩ := by
  have L : ∀ x, look (setH C.H o (.row ty sz g true n f)) x = if o = x then some (.row ty sz g true n f) else look C.H x := fun x => look_setH o _ x C.H
  have back : ∀ x b, look (setH C.H o (.row ty sz g true n f)) x = some b → ∃ b', look C.H x = some b' := fun x b h => by
    rw [L] at h
    by_cases e : o = x
    · subst e; exact ⟨_, ho⟩
    · rw [if_neg e] at h; exact ⟨_, h⟩
  have hF : Fr C ⟨C.E, C.W, setH C.H o (.row ty sz g true n f), C.vl⟩ := by
    refine ⟨fun b h => ⟨⟨h.1, h.2.1, fun x ob hx hf => ?_⟩, rfl⟩, fun x ob hx => ?_⟩
    · rw [L] at hx
      by_cases e : o = x
      · subst e
        rw [if_pos rfl] at hx
        obtain rfl := Option.some.inj hx
        cases hf
      · rw [if_neg e] at hx; exact h.2.2 x ob hx hf
    · show ∃ ob', look (setH C.H o (.row ty sz g true n f)) x = some ob' ∧ _
      rw [L]
      by_cases e : o = x
      · subst e
        rw [ho] at hx
        obtain rfl := Option.some.inj hx
        exact ⟨.row ty sz g true n f, by rw [if_pos rfl], .inl ⟨rfl, rfl, rfl⟩⟩
      · exact ⟨ob, by rw [if_neg e]; exact hx, .inl ⟨rfl, rfl, rfl⟩⟩
  refine ⟨hF, ⟨fun x b hx => ?_, fun x y bx byy k hx hy hne hk => ?_, G.kp, fun x b k hx hk => ?_⟩⟩
  · replace hx : look (setH C.H o (.row ty sz g true n f)) x = some b := hx
    rw [L] at hx
    by_cases e : o = x
    · subst e
      rw [if_pos rfl] at hx
      obtain rfl := Option.some.inj hx
      exact (show OK C o (.row ty sz g true n f) from (G.ok o _ ho : OK C o (.row ty sz g fz n f))).fr hF rfl fun _ _ => rfl
    · rw [if_neg e] at hx
      exact (G.ok x b hx).fr hF rfl fun _ _ => rfl
  · obtain ⟨b1, q1⟩ := back x bx hx
    obtain ⟨b2, q2⟩ := back y byy hy
    exact G.ap x y b1 b2 k q1 q2 hne hk
  · obtain ⟨b1, q1⟩ := back x b hx
    exact G.mu x b1 k q1 hk

/-! ### Cells -/
def capD : AV → Option DV
 | .d x => some x
 | .dp cs => some (.p cs)
 | _ => none
def capsD : List AV → Option (List DV)
 | [] => some []
 | a :: r => match capD a, capsD r with
  | some x, some l => some (x :: l)
  | _, _ => none
def cellsA : AV → Option (List AV)
 | .agg cs => some cs
 | .d (.v x) => match x with
  | .agg cs => some (cs.toList.map fun y => .d (.v y))
  | y => some [.d (.v y)]
 | .d (.sl sz n f) => some [.d (.sl sz n f)]
 | .d (.p cs) => some [.d (.p cs)]
 | .d (.fn f cs) => some [.d (.fn f cs)]
 | .fn f [] caps => match capsD caps with
  | some ds => some [.d (.fn f ds)]
  | none => none
 | .dp cs => some [.dp cs]
 | .ptr o g i j => some [.ptr o g i j]
 | .own o g => some [.own o g]
 | _ => none
def curG (H : OH) (o g : Nat) : Bool := match look H o with
 | some ob => Nat.beq ob.gen g
 | none => false
def okCell (H : OH) : AV → Bool
 | .d (.v x) => x.oneCell'
 | .d (.sl _ _ _) => true
 | .d (.p _) => true
 | .d (.fn _ _) => true
 | .dp _ => true
 | .ptr o g _ _ => curG H o g
 | .own o g => curG H o g
 | _ => false
theorem rb_one {a : AV} {v : Value} (h : Rb C a v) (hc : v.cells = #[v]) : Rbs C [a] v.cells.toList := by
 rw [hc]
 refine ⟨rfl, fun j hj => ?_⟩
 obtain rfl : j = 0 := by simp at hj; omega
 exact h
theorem cells_sl {W : World} {N : Nat → Prop} {sz n : Nat} {f : Nat → List DV} {v : Value} (h : RD W N (.sl sz n f) v) : v.cells = #[v] := by cases h; rfl
theorem vl_slice (G : Gam C) {o : Nat} {ob : Ob} (ho : look C.H o = some ob) : ∃ A n c, C.vl o = .slice A n c := by
 have r := G.ok o ob ho
 cases ob with
 | row ty sz g fz n f =>
  obtain ⟨us, h1, _⟩ := r
  rcases h1.2 with ⟨q, _⟩ | ⟨g, cap, cur, q, _⟩
  ·exact ⟨_, _, _, q⟩
  ·exact ⟨_, _, _, q⟩
 | box ty cs => obtain ⟨b, us, q, _⟩ := r; exact ⟨_, _, _, q⟩
 | mp ok L => obtain ⟨b, es, clock, q, _⟩ := r; exact ⟨_, _, _, q⟩
theorem okCell_one (G : Gam C) {a : AV} {v : Value} (h : Rb C a v) (hk : okCell C.H a = true) : v.oneCell' = true := by
 cases a with
 | d x =>
  cases x with
  | v y => cases h; exact hk
  | sl sz n f => cases h; rfl
  | p cs => cases h; rfl
  | fn f cs => cases h; rfl
 | dp cs => obtain ⟨b, off, u, rfl, _⟩ := h; rfl
 | ptr o g i j =>
  obtain ⟨ob, h1, h2, h3⟩ := h
  simp only [okCell, curG, h1] at hk
  obtain ⟨b, n, c, _, rfl⟩ := h3 ((beq_nat_iff _ _).1 hk).symm
  rfl
 | own o g =>
  obtain ⟨ob, h1, h2, h3⟩ := h
  simp only [okCell, curG, h1] at hk
  obtain ⟨A, n, c, q⟩ := vl_slice G h1
  rw [h3 ((beq_nat_iff _ _).1 hk).symm, q]
  cases ob.sz.2 <;> cases A <;> rfl
 | any => cases hk
 | agg cs => cases hk
 | fn f x y => cases hk
 | tup cs => cases hk
 | win a b c d e => cases hk
theorem own_val (G : Gam C) {o g : Nat} {v : Value} {ob : Ob} (h : Rb C (.own o g) v) (ho : look C.H o = some ob) (hm : ob.sz.2 = false) (hc : curG C.H o g = true) : v = C.vl o := by
 obtain ⟨ob', h1, h2, h3⟩ := h
 rw [ho] at h1
 obtain rfl := Option.some.inj h1
 simp only [curG, ho] at hc
 have := h3 ((beq_nat_iff _ _).1 hc).symm
 rw [hm] at this
 exact this
theorem capD_spec {a : AV} {v : Value} {x : DV} (h : Rb C a v) (hx : capD a = some x) : RD C.W C.N x v := by
 cases a with
 | d y => simp only [capD, Option.some.injEq] at hx; subst hx; exact h
 | dp cs =>
  simp only [capD, Option.some.injEq] at hx; subst hx
  obtain ⟨b, off, u, rfl, hb, hc⟩ := h
  exact .p cs b off u hb (fun j hj => (hc j hj).1) (fun j hj => (hc j hj).2)
 | _ => cases hx
theorem capsD_spec : ∀ {cs : List AV} {us : List Value} {ds : List DV}, Rbs C cs us → capsD cs = some ds → ds.length = us.length ∧ ∀ j, j < ds.length → RD C.W C.N (ds.getD j default) (us.getD j undef)
 | [], us, ds, r, h => by
  simp only [capsD, Option.some.injEq] at h; subst h
  exact ⟨r.1, fun j hj => by cases hj⟩
 | a :: cs, us, ds, r, h => by
  simp only [capsD] at h
  split at h
  ·rename_i x l hx hl
   obtain rfl := Option.some.inj h
   cases us with
   | nil => have := r.1; simp at this
   | cons u us =>
    have r' : Rbs C cs us := ⟨by simpa using r.1, fun j hj => by simpa using r.2 (j + 1) (by simpa using hj)⟩
    obtain ⟨i1, i2⟩ := capsD_spec r' hl
    refine ⟨by simp [i1], fun j hj => ?_⟩
    cases j with
    | zero => exact capD_spec (by simpa using r.2 0 (by simp)) hx
    | succ j => simpa using i2 j (by simpa using hj)
  ·cases h
/-- the cells of a value that is stored: each one a cell's -/
theorem cellsA_spec (G : Gam C) {a : AV} {v : Value} {cs : List AV} (h : Rv C a v) (hc : cellsA a = some cs) (hk : cs.all (okCell C.H) = true) : Rbs C cs v.cells.toList ∧ ∀ u ∈ v.cells.toList, u.oneCell' = true := by
  have one : ∀ {a : AV}, Rb C a v → okCell C.H a = true → v.cells = #[v] := fun {a} h hk => by
    have := okCell_one G h hk
    cases v <;> first | rfl | cases this
  have fin : ∀ {us : List Value}, Rbs C cs us → ∀ u ∈ us, u.oneCell' = true := fun {us} r u hu => by
    obtain ⟨j, hj, rfl⟩ := List.getElem_of_mem hu
    have hj' : j < cs.length := by rw [r.1]; exact hj
    have := r.2 j hj'
    rw [show us.getD j undef = us[j] by simp [List.getD, List.getElem?_eq_getElem hj]] at this
    exact okCell_one G this (by
      rw [List.all_eq_true] at hk
      refine hk _ ?_
      rw [show cs.getD j .any = cs[j] by simp [List.getD, List.getElem?_eq_getElem hj']]
      exact List.getElem_mem hj')
  have main : Rbs C cs v.cells.toList := by
    cases a with
    | d x =>
      cases x with
      | v y =>
        replace h : RD C.W C.N (.v y) v := h
        cases h
        cases v <;> simp only [cellsA, Option.some.injEq] at hc <;> subst hc <;> first
          | exact rb_one (a := .d (.v _)) (show RD _ _ _ _ from .v _) rfl
          | (refine ⟨by simp [Value.cells], fun j hj => ?_⟩
             simp only [List.length_map] at hj
             rw [show (List.map (fun y => AV.d (DV.v y)) _).getD j .any = .d (.v (_)) by rw [List.getD_eq_getElem?_getD, List.getElem?_map, List.getElem?_eq_getElem hj]; rfl]
             simp only [Value.cells, List.getD_eq_getElem?_getD, List.getElem?_eq_getElem hj, Option.getD_some]
             exact .v _)
      | sl sz n f =>
        simp only [cellsA, Option.some.injEq] at hc; subst hc
        exact rb_one (a := .d (.sl sz n f)) h (cells_sl h)
      | p ds =>
        simp only [cellsA, Option.some.injEq] at hc; subst hc
        exact rb_one (a := .d (.p ds)) h (one (a := .d (.p ds)) h rfl)
      | fn f ds =>
        simp only [cellsA, Option.some.injEq] at hc; subst hc
        exact rb_one (a := .d (.fn f ds)) h (one (a := .d (.fn f ds)) h rfl)
    | agg ds =>
      obtain ⟨us, rfl, r⟩ := h
      simp only [cellsA, Option.some.injEq] at hc; subst hc
      simpa [Value.cells] using r
    | dp ds => simp only [cellsA, Option.some.injEq] at hc; subst hc; exact rb_one (a := .dp ds) h (one (a := .dp ds) h rfl)
    | ptr o g i j =>
      simp only [cellsA, Option.some.injEq] at hc; subst hc
      simp only [List.all_cons, List.all_nil, Bool.and_true] at hk
      exact rb_one (a := .ptr o g i j) h (one (a := .ptr o g i j) h hk)
    | own o g =>
      simp only [cellsA, Option.some.injEq] at hc; subst hc
      simp only [List.all_cons, List.all_nil, Bool.and_true] at hk
      exact rb_one (a := .own o g) h (one (a := .own o g) h hk)
    | any => cases hc
    | fn f x y =>
      cases x with
      | cons x0 x1 => simp [cellsA] at hc
      | nil =>
        simp only [cellsA] at hc
        split at hc
        · rename_i ds hd
          obtain rfl := Option.some.inj hc
          obtain ⟨us, ws, rfl, r1, r2⟩ := h
          obtain rfl := List.eq_nil_of_length_eq_zero r1.1.symm
          obtain ⟨d1, d2⟩ := capsD_spec r2 hd
          refine ⟨by simp [Value.cells], fun j hj => ?_⟩
          obtain rfl : j = 0 := by simp at hj; omega
          exact RD.fn f ds ws d1 d2
        · cases hc
    | tup cs => cases hc
    | win a b c d e => cases hc
  exact ⟨main, fin main⟩
/-- a cell as what lies for good -/
def toD (H : OH) : AV → Option DV
 | .d x => some x
 | .dp cs => some (.p cs)
 | .own o g => match look H o with
  | some (.row _ sz g' fz n f) => match fz, Nat.beq g' g with
   | true, true => some (.sl sz n f)
   | _, _ => none
  | _ => none
 | _ => none
theorem frozen_data (G : Gam C) {o ty sz g n : Nat} {f : Nat → List DV} (ho : look C.H o = some (.row ty sz g true n f)) : RD C.W C.N (.sl sz n f) (C.vl o) := by
 obtain ⟨us, h1, h2, h4, h3⟩ := G.ok o _ ho
 rcases h1.2 with ⟨q, rfl⟩ | ⟨b, cap, cur, q, _, hh, hnc, _, hsz, ht⟩
 ·rw [q]
  exact .sl sz 0 f none 0 0 0 (fun _ _ => default) (fun h => by omega) (Nat.le_refl _) (fun i hi => by omega) (fun i j hi => by omega) (fun i j hi => by omega)
 ·rw [q]
  have hN : C.N b := by
   have hb : (C.vl o).ownBlock = some b := by rw [q]; rfl
   refine ⟨?_, (G.ok o _ ho).lt hb, fun x ob hx hf e => ?_⟩
   ·rcases G.mu o _ b ho hb with q | q
    ·exact .inr (.inl q)
    ·exact .inr (.inr q)
   ·by_cases e' : o = x
    ·subst e'
     rw [ho] at hx
     obtain rfl := Option.some.inj hx
     cases hf
    ·exact G.ap o x _ ob b ho hx e' hb e
  refine .sl sz n f _ b 0 cap (fun i j => us.getD (i * sz + j) undef) (fun _ => ⟨rfl, hN⟩) hnc h2 (fun i j hi hj => ?_) h3
  have hlt : i * sz + j < n * sz := by
   have : (i + 1) * sz ≤ n * sz := Nat.mul_le_mul_right _ (by omega)
   rw [Nat.succ_mul] at this; omega
  have hl : us.length = n * sz := h1.1
  refine ⟨?_, h4 _ (by rw [List.getD_eq_getElem?_getD, List.getElem?_eq_getElem (by omega)]; exact List.getElem_mem _)⟩
  rw [show 0 + i * sz + j = i * sz + j by omega, cell_of_row C.W b _ cur ty (0, 0) hh]
  have := congrArg (fun l => l[i * sz + j]?) ht
  simp only [List.getElem?_take, if_pos hlt] at this
  rw [show cur[i * sz + j]? = cur.toList[i * sz + j]? by simp, this, List.getElem?_eq_getElem (by omega)]
  simp [List.getD, List.getElem?_eq_getElem (show i * sz + j < us.length by omega)]
theorem toD_spec (G : Gam C) {a : AV} {v : Value} {x : DV} (h : Rb C a v) (hx : toD C.H a = some x) : RD C.W C.N x v := by
 cases a with
 | d y => simp only [toD, Option.some.injEq] at hx; subst hx; exact h
 | own o g =>
  simp only [toD] at hx
  split at hx
  ·rename_i ty sz g' fz n f ho
   split at hx
   ·rename_i hb
    obtain rfl := Option.some.inj hx
    have : v = C.vl o := own_val G h ho rfl (by simp only [curG, ho, Ob.gen]; exact hb)
    rw [this]
    exact frozen_data G ho
   ·cases hx
  ·cases hx
 | any => cases hx
 | dp cs =>
  simp only [toD, Option.some.injEq] at hx; subst hx
  obtain ⟨b, off, u, rfl, hb, hc⟩ := h
  exact .p cs b off u hb (fun j hj => (hc j hj).1) (fun j hj => (hc j hj).2)
 | ptr o g i j => cases hx
 | agg cs => cases hx
 | fn f x y => cases hx
 | tup cs => cases hx
 | win a b c d e => cases hx
end
end Go.Proofs.YtedokpgkjcnoiaaGreat
