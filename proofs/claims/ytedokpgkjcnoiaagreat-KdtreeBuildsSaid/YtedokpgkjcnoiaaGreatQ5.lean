/- What an operation does, seen from afar, and that it does so: values built of parts, slices made, grown, cut, turned to strings. No program in sight. -/
import Derived.Test.YtedokpgkjcnoiaaGreatQ4
set_option linter.unusedVariables false
set_option linter.unusedSimpArgs false
namespace Go.Proofs.YtedokpgkjcnoiaaGreat
open Go.RowKit
section
variable {P : Program} {C : Cx}
/-! ### Values built of parts -/
def fillA (H : OH) (place : Nat → Option (Nat × Nat)) : List AV → List (Nat × AV) → Option (List AV)
 | cells, [] => some cells
 | cells, (i, a) :: rest => match place i, cellsA a with
  | some (off, size), some cs => match Nat.beq cs.length size, Nat.ble (off + size) cells.length, cs.all (okCell H) with
   | true, true, true => fillA H place (spl cells off cs) rest
   | _, _, _ => none
  | _, _ => none
theorem foldl_spl (off : Nat) : ∀ (us : List Value) (k : Nat) (cur : Array Value), off + k + us.length ≤ cur.size →
    (us.zipIdx k).foldl (fun cs (x : Value × Nat) => cs.setIfInBounds (off + x.2) x.1) cur = (spl cur.toList (off + k) us).toArray
  | [], k, cur, h => by
    have : spl cur.toList (off + k) [] = cur.toList := List.ext_getElem? fun j => by rw [spl_get _ _ _ _ (by simpa using h), if_neg (by simp)]
    rw [this]; simp
  | u :: us, k, cur, h => by
    simp only [List.length_cons] at h
    rw [List.zipIdx_cons, List.foldl_cons, foldl_spl off us (k + 1) _ (by simp; omega)]
    congr 1
    refine List.ext_getElem? fun j => ?_
    rw [spl_get _ _ _ _ (by simp; omega), spl_get _ _ _ _ (by simp; omega)]
    simp only [List.length_cons, Array.toList_setIfInBounds, List.getElem?_set, Array.length_toList]
    by_cases q : off + (k + 1) ≤ j ∧ j < off + (k + 1) + us.length
    · rw [if_pos q, if_pos (by omega), show j - (off + k) = (j - (off + (k + 1))) + 1 by omega, List.getElem?_cons_succ]
    · rw [if_neg q]
      by_cases e : off + k = j
      · subst e
        rw [if_pos rfl, if_pos (by omega), if_pos (by omega)]; simp
      · rw [if_neg e, if_neg (by omega)]
theorem rbs_spl {cs ds : List AV} {us ws : List Value} {off : Nat} (h : Rbs C cs us) (k : Rbs C ds ws) (hl : off + ds.length ≤ cs.length) : Rbs C (spl cs off ds) (spl us off ws) := by
 refine ⟨by rw [spl_len, spl_len]; exact h.1, fun q hq => ?_⟩
 rw [spl_len] at hq
 rw [spl_getD _ _ _ _ _ hl, spl_getD _ _ _ _ _ (by rw [← k.1, ← h.1]; exact hl), ← k.1]
 by_cases hin : off ≤ q ∧ q < off + ds.length
 ·rw [if_pos hin, if_pos hin]; exact k.2 (q - off) (by omega)
 ·rw [if_neg hin, if_neg hin]; exact h.2 q hq
inductive Parts (C : Cx) : List (Nat × AV) → List (Nat × Value) → Prop where
 | nil : Parts C [] []
 | cons (i : Nat) (a : AV) (v : Value) (l : List (Nat × AV)) (m : List (Nat × Value)) (h : Rv C a v) (r : Parts C l m) : Parts C ((i, a) :: l) ((i, v) :: m)
theorem one_spl {us ws : List Value} {off : Nat} (hl : off + ws.length ≤ us.length) (h : ∀ u ∈ us, u.oneCell' = true) (k : ∀ u ∈ ws, u.oneCell' = true) : ∀ u ∈ spl us off ws, u.oneCell' = true := by
 intro u hu
 obtain ⟨q, hq, rfl⟩ := List.getElem_of_mem hu
 have e := spl_get us off ws q hl
 rw [List.getElem?_eq_getElem hq] at e
 split at e
 ·obtain ⟨_, e⟩ := List.getElem?_eq_some_iff.1 e.symm; rw [← e]; exact k _ (List.getElem_mem _)
 ·obtain ⟨_, e⟩ := List.getElem?_eq_some_iff.1 e.symm; rw [← e]; exact h _ (List.getElem_mem _)
theorem fillA_spec (G : Gam C) (place : Nat → Option (Nat × Nat)) : ∀ {l : List (Nat × AV)} {m : List (Nat × Value)} (hp : Parts C l m) {cs : List AV} {us : Array Value} {r : List AV}, Rbs C cs us.toList → fillA C.H place cs l = some r →
    ∃ ws : List Value, Instr.fill place us m = some ws.toArray ∧ Rbs C r ws ∧ ((∀ u ∈ us.toList, u.oneCell' = true) → ∀ u ∈ ws, u.oneCell' = true) := by
  intro l m hp
  induction hp with
  | nil =>
    intro cs us r h hr
    simp only [fillA, Option.some.injEq] at hr; subst hr
    exact ⟨us.toList, by simp [Instr.fill], h, fun k => k⟩
  | cons i a v l m ha hp ih =>
    intro cs us r h hr
    simp only [fillA] at hr
    split at hr
    · rename_i off size ds hpl hc
      split at hr
      · rename_i h1 h2 h3
        obtain ⟨s1, s2⟩ := cellsA_spec G ha hc h3
        have e1 := (beq_nat_iff _ _).1 h1
        have e2 := Nat.le_of_ble_eq_true h2
        have hv : v.cells.size = size := by have := s1.1; simp at this; omega
        have hlu : cs.length = us.size := by have := h.1; simpa using this
        obtain ⟨ws, f1, f2, f3⟩ := ih (us := (spl us.toList off v.cells.toList).toArray) (by simpa using rbs_spl h s1 (by omega)) hr
        refine ⟨ws, ?_, f2, fun k => f3 (by simpa using one_spl (by simp; omega) k s2)⟩
        simp only [Instr.fill, hpl]
        rw [if_neg (by simp [hv]; omega)]
        have := foldl_spl off v.cells.toList 0 us (by simp; omega)
        rw [Nat.add_zero] at this
        rw [show v.cells.zipIdx.foldl (fun cs (x : Value × Nat) => cs.setIfInBounds (off + x.2) x.1) us = (v.cells.toList.zipIdx 0).foldl (fun cs (x : Value × Nat) => cs.setIfInBounds (off + x.2) x.1) us by
          rw [← Array.foldl_toList]; simp, this]
        exact f1
      · cases hr
    · cases hr
def plc (P : Program) : List Field → Option (List (Nat × Nat))
 | [] => some []
 | f :: r => match P.info? f.type, plc P r with
  | some i, some l => some ((f.offset, i.size) :: l)
  | _, _ => none
theorem plc_eq : ∀ l : List Field, l.mapM (fun f => (P.info? f.type).map fun i => (f.offset, i.size)) = plc P l
 | [] => by simp [plc]
 | f :: r => by
  simp only [List.mapM_cons, plc_eq r, plc]
  cases P.info? f.type <;> cases plc P r <;> simp
def nthP : List (Nat × Nat) → Nat → Option (Nat × Nat)
 | [], _ => none
 | x :: _, 0 => some x
 | _ :: r, n + 1 => nthP r n
theorem nthP_eq : ∀ (l : List (Nat × Nat)) (n : Nat), nthP l n = l[n]?
 | [], _ => by simp [nthP]
 | _ :: _, 0 => rfl
 | _ :: r, n + 1 => by simp only [nthP, List.getElem?_cons_succ]; exact nthP_eq r n
def exs (l : List Value) : List AV := l.map fun x => .d (.v x)
def aBuild (P : Program) (H : OH) (T : TypeId) (parts : List (Nat × AV)) : Option Rs :=
 match P.info? T, P.underlying T with
 | some it, some (.struct fs) => match it.zero, plc P fs.toList with
  | some z, some pl => match fillA H (nthP pl) (exs z.cells.toList) parts with
   | some cs => ret (.agg cs)
   | none => none
  | _, _ => none
 | some it, some (.array _ e) => match it.zero, P.info? e with
  | some z, some ie => match fillA H (fun i => some (i * ie.size, ie.size)) (exs z.cells.toList) parts with
   | some cs => ret (.agg cs)
   | none => none
  | _, _ => none
 | _, _ => none
theorem aBuild_ok (G : Gam C) {T : TypeId} {l : List (Nat × AV)} {m : Array (Nat × Value)} {r : Rs} (hp : Parts C l m.toList) (h : aBuild P C.H T l = some r) : Does P C (do pure (.value (← Instr.build T m))) r.eff := by
 have fin : ∀ {cells : Array Value} {cs : List AV}, P.built T m.toList = some cells → Rbs C cs cells.toList → Does P C (do pure (.value (← Instr.build T m))) (.val (.agg cs)) := fun {cells cs} hb hr =>
  does_val G (v := .agg cells) (by simp only [Sem.run_bind, run_build C.W T m cells hb, Result.andThen_ok, Sem.run_pure]) ⟨cells.toList, by simp, hr⟩
 unfold aBuild at h
 split at h
 ·rename_i it fs hi hu
  split at h
  ·rename_i z pl hz hpl
   split at h
   ·rename_i cs hf
    obtain rfl := Option.some.inj h
    obtain ⟨ws, f1, f2, _⟩ := fillA_spec G (nthP pl) hp (us := z.cells) (rbs_exact C _) hf
    refine fin (cells := ws.toArray) ?_ (by simpa using f2)
    unfold Program.built
    simp only [hi, hu, hz, plc_eq, hpl]
    rw [show (fun x => pl.toArray[x]?) = nthP pl from funext fun n => by rw [nthP_eq]; simp]
    exact f1
   ·cases h
  ·cases h
 ·rename_i it n e hi hu
  split at h
  ·rename_i z ie hz he
   split at h
   ·rename_i cs hf
    obtain rfl := Option.some.inj h
    obtain ⟨ws, f1, f2, _⟩ := fillA_spec G _ hp (us := z.cells) (rbs_exact C _) hf
    refine fin (cells := ws.toArray) ?_ (by simpa using f2)
    unfold Program.built
    simp only [hi, hu, hz, he]
    exact f1
   ·cases h
  ·cases h
 ·cases h
/-! ### Slices made -/
/-- n rounds of l -/
def repL {α : Type} (l : List α) : Nat → List α
 | 0 => []
 | n + 1 => l ++ repL l n
theorem repL_len {α : Type} (l : List α) : ∀ n, (repL l n).length = n * l.length
 | 0 => by simp [repL]
 | n + 1 => by simp [repL, repL_len l n, Nat.succ_mul]; omega
theorem repL_get {α : Type} (l : List α) (hl : 0 < l.length) : ∀ (n j : Nat), j < n * l.length → (repL l n)[j]? = l[j % l.length]?
 | 0, j, h => by omega
 | n + 1, j, h => by
  simp only [repL]
  by_cases q : j < l.length
  ·rw [List.getElem?_append_left q, Nat.mod_eq_of_lt q]
  ·rw [List.getElem?_append_right (by omega), repL_get l hl n (j - l.length) (by rw [Nat.succ_mul] at h; omega), Nat.mod_eq_sub_mod (a := j) (b := l.length) (by omega)]
theorem range_rep (z : Array Value) (n : Nat) : (Array.range (n * z.size)).map (z[· % z.size]!) = (repL z.toList n).toArray := by
  apply Array.toList_inj.1
  refine List.ext_getElem? fun j => ?_
  simp only [Array.toList_map, Array.toList_range, List.getElem?_map]
  by_cases h : j < n * z.size
  · have hz : 0 < z.size := by
      rcases Nat.eq_zero_or_pos z.size with q | q
      · rw [q] at h; omega
      · exact q
    rw [List.getElem?_range h, repL_get _ (by simpa using hz) _ _ (by simpa using h)]
    have := Nat.mod_lt j hz
    simp [this]
  · rw [List.getElem?_eq_none (by simp; omega), List.getElem?_eq_none (by rw [repL_len]; simp; omega)]; rfl
/-- a row of n elements, out of its cells -/
def chop (sz : Nat) (l : List DV) (i : Nat) : List DV := (l.drop (i * sz)).take sz
theorem chop_len {sz n i : Nat} {l : List DV} (h : l.length = n * sz) (hi : i < n) : (chop sz l i).length = sz := by
 have : (i + 1) * sz ≤ n * sz := Nat.mul_le_mul_right _ (by omega)
 rw [Nat.succ_mul] at this
 simp [chop]; omega
theorem chop_get {sz n i j : Nat} {l : List DV} (hj : j < sz) : (chop sz l i).getD j default = l.getD (i * sz + j) default := by
 simp [chop, List.getD_eq_getElem?_getD, List.getElem?_take, List.getElem?_drop, hj]
def aBuildSlice (P : Program) (H : OH) (mu : Bool) (o : Nat) (T : TypeId) (len : Nat) (parts : List (Nat × AV)) : Option Rs :=
 match P.underlying T with
 | some (.slice e) => match P.info? e with
  | some ie => match ie.zero with
   | some z => match Nat.beq z.cells.size ie.size, Nat.ble (len * ie.size + len) 16777216, z.cells.toList.all (·.oneCell'), fillA H (fun i => some (i * ie.size, ie.size)) (exs (repL z.cells.toList len)) parts with
    | true, true, true, some cs => match toDs H cs with
     | some ds => match mu, look H o with
      | true, none => some ⟨[], .put o (.row e ie.size 0 false len (chop ie.size ds)) (.own o 0)⟩
      | false, _ => ret (.d (.sl ie.size len (chop ie.size ds)))
      | _, _ => none
     | none => match mu, look H o, Nat.beq ie.size 1 with
      | true, none, true => some ⟨[], .put o (.box e cs) (.win o 0 0 1 len)⟩
      | _, _, _ => none
    | _, _, _, _ => none
   | none => none
  | none => none
 | _ => none
theorem idx_lt {i j n sz : Nat} (hi : i < n) (hj : j < sz) : i * sz + j < n * sz := by
 have : (i + 1) * sz ≤ n * sz := Nat.mul_le_mul_right _ (by omega)
 rw [Nat.succ_mul] at this; omega
/-- a new row, out of its cells -/
theorem does_row (G : Gam C) {m : Sem Next} {mu : Bool} {o : Nat} {e : TypeId} {sz n : Nat} {us : List Value} {ds : List DV} (hn : n ≤ maxLen) (hu : us.length = n * sz) (hd : ds.length = us.length) (h1 : ∀ u ∈ us, u.oneCell' = true)
    (hr : m.run P C.W = .ok (.value (.slice (some ⟨C.W.heap.size, 0, none⟩) n n)) (C.W.alloc (.cells us.toArray e)))
    (hR : ∀ j, j < ds.length → RD C.W C.N (ds.getD j default) (us.getD j undef)) :
    (look C.H o = none → Does P C m (.put o (.row e sz 0 false n (chop sz ds)) (.own o 0))) ∧ Does P C m (.val (.d (.sl sz n (chop sz ds)))) := by
  have hdn : ds.length = n * sz := hd.trans hu
  refine ⟨fun ho => does_new G ho (cs := us.toArray) (ty := e) (n := n) (c := n) hr (fun C' hF hW hv => ?_) (fun C' hb hv => ⟨_, hb, Nat.le_refl _, fun _ => hv.symm⟩), ?_⟩
  · refine ⟨us, ⟨hu, .inr ⟨C.W.heap.size, n, us.toArray, hv, Nat.zero_le _, by rw [hW]; exact heap_alloc_new C.W _, Nat.le_refl _, hn, by simp [hu], by rw [← hu]; simp⟩⟩, fun i hi => chop_len hdn hi, h1, fun i j hi hj => ?_⟩
    rw [chop_get (n := n) hj]
    exact (hR _ (by rw [hdn]; exact idx_lt hi hj)).fr hF
  · obtain ⟨hF, hG, hN⟩ := G.grow (W' := C.W.alloc (.cells us.toArray e)) (by simp) (fun k hk => Below.heap_alloc C.W _ k hk) rfl rfl rfl
    refine ⟨_, ⟨C.E, C.W.alloc (.cells us.toArray e), C.H, C.vl⟩, .inl hr, ?_, rfl, rfl, hF, hG⟩
    refine RD.sl sz n _ _ C.W.heap.size 0 n (fun i j => us.getD (i * sz + j) undef) (fun _ => ⟨rfl, hN _ (Nat.le_refl _) (by simp)⟩) (Nat.le_refl _) (fun i hi => chop_len hdn hi) (fun i j hi hj => ?_) (fun i j hi hj => ?_)
    · have hlt : i * sz + j < us.length := by rw [hu]; exact idx_lt hi hj
      refine ⟨?_, h1 _ (by rw [List.getD_eq_getElem?_getD, List.getElem?_eq_getElem hlt]; exact List.getElem_mem _)⟩
      show (C.W.alloc (.cells us.toArray e)).cell? _ = _
      rw [show 0 + i * sz + j = i * sz + j by omega, cell_of_row _ _ _ us.toArray e (0, 0) (heap_alloc_new C.W _)]
      simp [List.getD_eq_getElem?_getD, List.getElem?_eq_getElem hlt]
    · rw [chop_get (n := n) hj]
      exact (hR _ (by rw [hdn]; exact idx_lt hi hj)).fr hF
theorem aBuildSlice_ok (G : Gam C) {mu : Bool} {o : Nat} {T : TypeId} {len : Nat} {l : List (Nat × AV)} {m : Array (Nat × Value)} {r : Rs} (hp : Parts C l m.toList) (h : aBuildSlice P C.H mu o T len l = some r) :
    Does P C (do pure (.value (← Instr.buildSlice T len m))) r.eff := by
  unfold aBuildSlice at h
  split at h
  · rename_i e hu
    split at h
    · rename_i ie hi
      split at h
      · rename_i z hz
        split at h
        · rename_i cs hzs hsmall hz1 hf
          have key : ∃ ws : List Value, Rbs C cs ws ∧ ws.length = len * ie.size ∧ (∀ u ∈ ws, u.oneCell' = true) ∧ (do pure (Next.value (← Instr.buildSlice T len m)) : Sem Next).run P C.W = .ok (.value (.slice (some ⟨C.W.heap.size, 0, none⟩) len len)) (C.W.alloc (.cells ws.toArray e)) := by
            have hzs' := (beq_nat_iff _ _).1 hzs
            have hsm := Nat.le_of_ble_eq_true hsmall
            have hz1' : ∀ u ∈ z.cells.toList, u.oneCell' = true := fun u hu => (List.all_eq_true.1 hz1) u hu
            have hrep : ∀ n, ∀ u ∈ repL z.cells.toList n, u.oneCell' = true := fun n => by
              induction n with
              | zero => intro u hu; cases hu
              | succ n ih => intro u hu; rcases List.mem_append.1 hu with q | q; exact hz1' u q; exact ih u q
            obtain ⟨ws, f1, f2, f3⟩ := fillA_spec G _ hp (us := (repL z.cells.toList len).toArray) (by simpa [exs] using rbs_exact C (repL z.cells.toList len)) hf
            have hlw : ws.length = len * ie.size := by
              have e1 := f2.1
              have : ∀ {l : List (Nat × AV)} {a b : List AV} {H : OH} {p : Nat → Option (Nat × Nat)}, fillA H p a l = some b → b.length = a.length := by
                intro l
                induction l with
                | nil => intro a b H p hh; simp only [fillA, Option.some.injEq] at hh; subst hh; rfl
                | cons x l ih =>
                  intro a b H p hh
                  obtain ⟨i, v⟩ := x
                  simp only [fillA] at hh
                  split at hh
                  · split at hh
                    · rw [ih hh, spl_len]
                    · cases hh
                  · cases hh
              have e2 := this hf
              rw [← e1, e2]
              simp [exs, repL_len, hzs']
            have hrun : (do pure (Next.value (← Instr.buildSlice T len m)) : Sem Next).run P C.W = .ok (.value (.slice (some ⟨C.W.heap.size, 0, none⟩) len len)) (C.W.alloc (.cells ws.toArray e)) := by
              have hs : (sizeOf e).run P C.W = .ok ie.size C.W := by simp [sizeOf, typeInfo, hi]
              have hzv : (zeroValue e).run P C.W = .ok z C.W := by simp [zeroValue, typeInfo, hi, hz]
              have hno : ¬ len * ie.size > 2 ^ 24 := by omega
              by_cases h0 : len * ie.size = 0
              · have e0 : (repL z.cells.toList len).toArray = #[] := by
                  apply Array.toList_inj.1
                  exact List.eq_nil_of_length_eq_zero (by simp [repL_len, hzs', h0])
                rw [e0] at f1
                have er : ∀ g : Nat → Value, Array.map g (Array.range 0) = #[] := fun g => by apply Array.toList_inj.1; simp
                simp only [Instr.buildSlice, Sem.run_bind, run_underlying hu, hs, Result.andThen_ok, if_neg hno, h0, if_true, Sem.run_pure]
                simp [f1, newRow, er]
              · have := run_buildSlice C.W T e len m ws.toArray ie z hu hi hz hno h0 (by rw [← hzs', range_rep]; rw [hzs']; exact f1)
                simp only [Sem.run_bind, this, Result.andThen_ok, Sem.run_pure]
            exact ⟨ws, f2, hlw, f3 (by simpa using hrep len), hrun⟩
          obtain ⟨ws, f2, hlw, f3, hrun⟩ := key
          have hsm := Nat.le_of_ble_eq_true hsmall
          split at h
          · rename_i ds hd
            obtain ⟨d1, d2⟩ := toDs_spec G f2 hd
            have hh := does_row (mu := mu) (o := o) G (e := e) (sz := ie.size) (n := len) (by unfold maxLen; omega) hlw (d1.trans f2.1) f3 hrun d2
            split at h
            · obtain rfl := Option.some.inj h; exact hh.1 ‹_›
            · obtain rfl := Option.some.inj h; exact hh.2
            · cases h
          · split at h
            · rename_i ho _
              obtain rfl := Option.some.inj h
              refine does_new G ho (cs := ws.toArray) (ty := e) (n := 1) (c := 1) hrun (fun C' hF hW hv => box_new hF hW hv f2) (fun C' hb hv => ⟨_, hb, Nat.le_refl _, fun _ => ⟨_, 1, 1, _, _, hv, Nat.le_refl _, rfl, fun _ => by simp⟩⟩)
            · cases h
        · cases h
      · cases h
    · cases h
  · cases h
end
end Go.Proofs.YtedokpgkjcnoiaaGreat
