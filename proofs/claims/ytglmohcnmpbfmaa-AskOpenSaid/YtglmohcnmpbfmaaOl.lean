/- Contracts of the old kind as ones of the new, where rows come in. -/
import Derived.Test.YtglmohcnmpbfmaaGn
import Derived.Test.YtglmohcnmpbfmaaGb
set_option linter.unusedVariables false
set_option linter.unusedSimpArgs false
namespace Go.Proofs.Ytglmohcnmpbfmaa
open Go.RowKit
/-- a pure contract of the old kind, told from what came in -/
theorem acall_old {P : Program} {f : FuncId} {xs : List AV} {u : Value} (hE : Enters P f)
    (h : ∀ (C : Cx) (vs : List Value), (∀ b, C.N b → b < C.W.heap.size) → xs.length = vs.length → (∀ j, j < xs.length → Rv C (xs.getD j .any) (vs.getD j undef)) → Calls P f vs.toArray C.W fun e w' => e = .returned u ∧ Below C.W.heap.size C.W w') : ACall P f xs [] (.d (.v u)) [] := by
  refine ⟨hE, fun A W vl vs G hl hv => ?_⟩
  refine (h _ vs (fun b hb => hb.2.1) hl hv).mono ?_
  rintro e W' ⟨rfl, K⟩
  obtain ⟨g1, g2, g3⟩ := G.grow (W' := W') K.size (fun k hk => K.block k hk) K.os K.tape K.output
  exact ⟨u, ⟨_, W', [], vl⟩, rfl, rfl, rfl, rfl, g1, g2, rv_ex u⟩
theorem arr_row {C : Cx} {l : List Int} {v : Value} (hN : ∀ b, C.N b → b < C.W.heap.size) (h : Rv C (.d (i64L l)) v) : ∃ A c, v = .slice A l.length c ∧ l.length ≤ c ∧ Arr C.W C.W.heap.size A l.length (i64s l) := by
  replace h : RD C.W C.N (i64L l) v := h
  generalize hd : i64L l = d at h
  cases h with
  | v x => cases hd
  | p cs b off u hb hu hr => cases hd
  | sl sz n f A0 b0 off c u hA hc hl2 hu hr =>
    cases hd
    refine ⟨A0, c, rfl, hc, fun hn => ?_⟩
    obtain ⟨e1, e2⟩ := hA hn
    refine ⟨b0, off, e1, hN _ e2, fun i hi => ?_⟩
    have q1 := (hu i 0 hi (by decide)).1
    have q2 := hr i 0 hi (by decide)
    have q3 : u i 0 = i64s l i := by
      generalize u i 0 = y at q2
      cases q2; rfl
    rw [q3] at q1
    rw [← q1]
    congr 1
    simp
theorem rb_of_cell {C : Cx} {d : DV} {v : Value} (h : Rb C (.d d) v) : Rv C (.d d) v := h
/-- a struct's parts that came in -/
theorem agg_get {C : Cx} {ds : List DV} {v : Value} (h : Rv C (agD ds) v) : ∃ us : List Value, v = .agg us.toArray ∧ us.length = ds.length ∧ ∀ j, j < ds.length → Rv C (.d (ds.getD j default)) (us.getD j undef) := by
  obtain ⟨us, e, hl, hr⟩ := h
  refine ⟨us, e, by simpa using hl.symm, fun j hj => ?_⟩
  have := hr j (by simpa using hj)
  rw [List.getD_eq_getElem?_getD, List.getElem?_map, List.getElem?_eq_getElem hj] at this
  rw [List.getD_eq_getElem?_getD, List.getElem?_eq_getElem hj]
  exact this
structure OrdD where
  k : Int
  col : Int
  at_ : List Int
deriving Inhabited
def ordL (o : OrdD) : List DV := [.v (.int .u8 o.k), .v (.int .i64 o.col), i64L o.at_]
theorem ord_get {C : Cx} {o : OrdD} {v : Value} (hN : ∀ b, C.N b → b < C.W.heap.size) (h : Rv C (agD (ordL o)) v) : ∃ A c, v = .agg #[.int .u8 o.k, .int .i64 o.col, .slice A o.at_.length c] ∧ o.at_.length ≤ c ∧ Arr C.W C.W.heap.size A o.at_.length (i64s o.at_) := by
  obtain ⟨us, rfl, hl, hr⟩ := agg_get h
  match us, hl with
  | [x, y, z], _ =>
    obtain rfl := rv_ex_inv (hr 0 (by simp [ordL]))
    obtain rfl := rv_ex_inv (hr 1 (by simp [ordL]))
    obtain ⟨A, c, e, h1, h2⟩ := arr_row hN (hr 2 (by simp [ordL]))
    replace e : z = _ := e
    subst e
    exact ⟨A, c, rfl, h1, h2⟩
theorem box_get {C : Cx} {b : BoxD} {v : Value} (hN : ∀ b, C.N b → b < C.W.heap.size) (h : Rv C (agD (boxL b)) v) : ∃ A c A' c', v = .agg #[.slice A b.lo.length c, .slice A' b.hi.length c'] ∧ b.lo.length ≤ c ∧ b.hi.length ≤ c' ∧ Arr C.W C.W.heap.size A b.lo.length (i64s b.lo) ∧ Arr C.W C.W.heap.size A' b.hi.length (i64s b.hi) := by
  obtain ⟨us, rfl, hl, hr⟩ := agg_get h
  match us, hl with
  | [x, y], _ =>
    obtain ⟨A, c, e, h1, h2⟩ := arr_row hN (hr 0 (by simp [boxL]))
    obtain ⟨A', c', e', h1', h2'⟩ := arr_row hN (hr 1 (by simp [boxL]))
    replace e : x = _ := e
    replace e' : y = _ := e'
    subst e e'
    exact ⟨A, c, A', c', rfl, h1, h1', h2, h2'⟩
end Go.Proofs.Ytglmohcnmpbfmaa
