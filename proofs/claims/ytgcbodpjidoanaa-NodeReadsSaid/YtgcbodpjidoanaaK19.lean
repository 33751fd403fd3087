/- Which changes may be, their bytes, and what is read of bytes: plain. Contracts of the reference's Name and of slices.Index, slices.Contains at texts. Contracts of block.IsName and block.areCols. -/
import Derived.Deep.DeepCutAuto
import Derived.Laws.RangeAny
import Derived.Test.YtgcbodpjidoanaaK18
set_option linter.unusedVariables false
set_option linter.unusedSimpArgs false
namespace Go.Proofs.Ytgcbodpjidoanaa
open Go.RowKit
/-- may a byte stand at place i of a name? -/
def okCh (i c : Nat) : Bool := (decide (97 ≤ c) && decide (c ≤ 122)) || (decide (0 < i) && ((decide (48 ≤ c) && decide (c ≤ 57)) || decide (c = 95)))
def okTo (s : List Nat) (k : Nat) : Bool := (List.range k).all fun i => okCh i (s.getD i 0)
theorem okTo_succ (s : List Nat) (k : Nat) : okTo s (k + 1) = (okTo s k && okCh k (s.getD k 0)) := by
  simp [okTo, List.range_succ, List.all_append]
theorem okTo_false (s : List Nat) {k n : Nat} (hk : k < n) (h : okCh k (s.getD k 0) = false) : okTo s n = false := by
  unfold okTo
  rw [List.all_eq_false]
  exact ⟨k, List.mem_range.2 hk, by simpa using h⟩
/-- is a text a name? -/
def nameB (s : List Nat) : Bool := okTo s s.length && (decide (0 < s.length) && decide (s.length ≤ 16))
theorem nameB_len {s : List Nat} (h : nameB s = true) : s.length ≤ 16 := by
  simp only [nameB, Bool.and_eq_true, decide_eq_true_eq] at h; exact h.2.2
def idS : ByteArray := ⟨#[105, 100]⟩
/-- is the column k one that may be, behind those ahead? -/
def colB (l : List ByteArray) (k : Nat) : Bool := nameB (nb (l.getD k default)) && (!decide (l.getD k default = idS) && (List.range k).all fun j => !decide (l.getD j default = l.getD k default))
def colsTo (l : List ByteArray) (k : Nat) : Bool := (List.range k).all (colB l)
theorem colsTo_succ (l : List ByteArray) (k : Nat) : colsTo l (k + 1) = (colsTo l k && colB l k) := by
  simp [colsTo, List.range_succ, List.all_append]
theorem colsTo_false (l : List ByteArray) {k n : Nat} (hk : k < n) (h : colB l k = false) : colsTo l n = false := by
  unfold colsTo
  rw [List.all_eq_false]
  exact ⟨k, List.mem_range.2 hk, by simpa using h⟩
def colsB (l : List ByteArray) : Bool := colsTo l l.length && (decide (0 < l.length) && decide (l.length ≤ 7))
/-- a change -/
structure OpD where
  kind : Nat
  table : ByteArray
  cols : List ByteArray
  row : List Int
/-- may a change be? -/
def oprB (o : OpD) : Bool := nameB (nb o.table) && (
  if o.kind = 1 then colsB o.cols && decide (o.row.length = 0)
  else if o.kind = 2 then decide (o.cols.length = 0) && decide (o.row.length = 0)
  else if o.kind = 3 ∨ o.kind = 4 then decide (o.cols.length = 0) && (decide (2 ≤ o.row.length) && decide (o.row.length ≤ 8))
  else false)
def textsB (l : List ByteArray) : List Nat := (l.map fun s => textB (nb s)).flatten
/-- a change's bytes -/
def opB (o : OpD) : List Nat := [o.kind] ++ textB (nb o.table) ++ (if o.kind = 1 then [o.cols.length] ++ textsB o.cols else []) ++ (if o.kind = 3 ∨ o.kind = 4 then rowB o.row else [])
def opsB (l : List OpD) : List Nat := be3 l.length ++ (l.map opB).flatten
theorem textsB_succ (l : List ByteArray) (k : Nat) (hk : k < l.length) : textsB (l.take (k + 1)) = textsB (l.take k) ++ textB (nb (l.getD k default)) := by
  unfold textsB
  rw [List.take_add_one, List.map_append, List.flatten_append, List.getElem?_eq_getElem hk]
  simp [List.getD, List.getElem?_eq_getElem hk]
instance : Inhabited OpD := ⟨⟨0, default, [], []⟩⟩
theorem opsB_succ (l : List OpD) (k : Nat) (hk : k < l.length) : ((l.take (k + 1)).map opB).flatten = ((l.take k).map opB).flatten ++ opB (l.getD k default) := by
  rw [List.take_add_one, List.map_append, List.flatten_append, List.getElem?_eq_getElem hk]
  simp [List.getD, List.getElem?_eq_getElem hk]
/-! ### reading -/
/-- k texts that are read in turn -/
def rTexts : Nat → List Nat → Int → List ByteArray × List Nat × Int
  | 0, l, e => ([], l, e)
  | k + 1, l, e =>
    let s := rTexts k l e
    (s.1 ++ [bstr (rText 16 s.2.1 s.2.2).1], (rText 16 s.2.1 s.2.2).2)
theorem rTexts_len (k : Nat) (l : List Nat) (e : Int) : (rTexts k l e).1.length = k := by
  induction k with
  | zero => rfl
  | succ k ih => simp [rTexts, ih]
/-- a change that is read; of its columns no more than lim -/
def rOp (lim : Nat) (l : List Nat) (e : Int) : OpD × List Nat × Int :=
  let k := rByte l e
  let t := rText 16 (rTake 1 l e).2.1 (rTake 1 l e).2.2
  if k = 1 then
    let s := rTexts (min (rByte t.2.1 t.2.2) lim) (rTake 1 t.2.1 t.2.2).2.1 (rTake 1 t.2.1 t.2.2).2.2
    (⟨k, bstr t.1, s.1, []⟩, s.2)
  else if k = 3 ∨ k = 4 then
    let s := rRow 8 t.2.1 t.2.2
    (⟨k, bstr t.1, [], s.1⟩, s.2)
  else (⟨k, bstr t.1, [], []⟩, t.2)
/-- n changes more, behind acc; none where one is not read well, or ok says no -/
def rOps (lim : Nat) (ok : OpD → Bool) : Nat → List Nat → List OpD → Option (List OpD × List Nat)
  | 0, l, acc => some (acc, l)
  | n + 1, l, acc => if (rOp lim l 0).2.2 = 0 ∧ ok (rOp lim l 0).1 = true then rOps lim ok n (rOp lim l 0).2.1 (acc ++ [(rOp lim l 0).1]) else none
theorem texts_app (cs : List ByteArray) (h : ∀ s ∈ cs, s.size ≤ 16) : ∀ (k : Nat) (l : List Nat), k ≤ cs.length → rTexts k (textsB (cs.take k) ++ l) 0 = (cs.take k, l, 0)
  | 0, l, _ => by simp [rTexts, textsB]
  | k + 1, l, hk => by
    have hm : cs.getD k default ∈ cs := by
      unfold List.getD; rw [List.getElem?_eq_getElem (by omega)]; exact List.getElem_mem _
    have h16 := h _ hm
    have ht := text_app 16 (nb (cs.getD k default)) l (by rw [nb_len]; exact h16) (by rw [nb_len]; omega)
    have ih := texts_app cs h k (textB (nb (cs.getD k default)) ++ l) (by omega)
    rw [textsB_succ cs k (by omega), List.append_assoc]
    simp only [rTexts, ih, ht]
    rw [List.take_add_one, List.getElem?_eq_getElem (by omega), bstr_nb]
    simp [List.getD, List.getElem?_eq_getElem (show k < cs.length by omega)]
theorem texts_stuck (k : Nat) (l : List Nat) (e : Int) (h : e ≠ 0) : (rTexts k l e).2 = (l, e) := by
  induction k with
  | zero => rfl
  | succ k ih => simp only [rTexts, ih, text_stuck _ _ _ h]
theorem texts_inv : ∀ (k : Nat) {cs : List ByteArray} {l l' : List Nat} {e : Int}, IsB l → rTexts k l e = (cs, l', 0) → e = 0 ∧ cs.length = k ∧ l = textsB cs ++ l'
  | 0, cs, l, l', e, hl, h => by
    simp only [rTexts, Prod.mk.injEq] at h
    obtain ⟨rfl, rfl, rfl⟩ := h
    exact ⟨rfl, rfl, rfl⟩
  | k + 1, cs, l, l', e, hl, h => by
    simp only [rTexts] at h
    rcases hq : rTexts k l e with ⟨r1, l1, e1⟩
    rw [hq] at h; dsimp only at h
    obtain ⟨h1, h2⟩ := Prod.mk.inj h
    rcases ht : rText 16 l1 e1 with ⟨t, y⟩
    rw [ht] at h1 h2; dsimp only at h1 h2
    subst h2
    have he1 : e1 = 0 := by
      by_cases he : e1 = 0
      · exact he
      · rw [text_stuck _ _ _ he] at ht; exact (Prod.mk.inj (Prod.mk.inj ht).2).2
    subst he1
    obtain ⟨he, hlen, hl1⟩ := texts_inv k hl hq
    have hb : IsB l1 := (isB_app (hl1 ▸ hl)).2
    obtain ⟨_, hn1, hn2⟩ := text_inv hb ht
    have htb : IsB t := by
      rw [hn1] at hb
      exact (isB_app (isB_app hb).1).2
    subst h1
    refine ⟨he, by simp [hlen], ?_⟩
    rw [hl1, hn1]
    simp [textsB, nb_bstr t htb]
theorem colsTo_name {l : List ByteArray} {n : Nat} (h : colsTo l n = true) (k : Nat) (hk : k < n) : (l.getD k default).size ≤ 16 := by
  unfold colsTo at h
  rw [List.all_eq_true] at h
  have := h k (List.mem_range.2 hk)
  unfold colB at this
  simp only [Bool.and_eq_true] at this
  have := nameB_len this.1
  rwa [nb_len] at this
theorem colsB_len {l : List ByteArray} (h : colsB l = true) : l.length ≤ 7 ∧ ∀ s ∈ l, s.size ≤ 16 := by
  simp only [colsB, Bool.and_eq_true, decide_eq_true_eq] at h
  refine ⟨h.2.2, fun s hs => ?_⟩
  obtain ⟨k, hk, rfl⟩ := List.getElem_of_mem hs
  have := colsTo_name h.1 k hk
  simpa [List.getD, List.getElem?_eq_getElem hk] using this
/-- a change that may be is read as it is -/
theorem op_app (lim : Nat) (hlim : 7 ≤ lim) (o : OpD) (hr : oprB o = true) (hI : IsI o.row) (l : List Nat) : rOp lim (opB o ++ l) 0 = (o, l, 0) := by
  obtain ⟨k, t, cs, r⟩ := o
  simp only [oprB, Bool.and_eq_true] at hr
  obtain ⟨hn, hr⟩ := hr
  have hlen := nameB_len hn
  dsimp only at hlen hr hI ⊢
  have e0 : opB ⟨k, t, cs, r⟩ ++ l = k :: (textB (nb t) ++ ((if k = 1 then [cs.length] ++ textsB cs else []) ++ (if k = 3 ∨ k = 4 then rowB r else []) ++ l)) := by
    simp [opB, List.append_assoc]
  rw [e0]
  obtain ⟨X, hX⟩ : ∃ X, X = (if k = 1 then [cs.length] ++ textsB cs else []) ++ (if k = 3 ∨ k = 4 then rowB r else []) ++ l := ⟨_, rfl⟩
  rw [← hX]
  have hb := byte_app k (textB (nb t) ++ X)
  have ht := text_app 16 (nb t) X hlen (by omega)
  unfold rOp
  simp only [hb.1, hb.2, ht, bstr_nb]
  by_cases h1 : k = 1
  · subst h1
    simp only [if_true, Bool.and_eq_true, decide_eq_true_eq] at hr
    obtain ⟨hc, hr0⟩ := hr
    obtain rfl : r = [] := List.eq_nil_of_length_eq_zero hr0
    obtain ⟨hc7, hc16⟩ := colsB_len hc
    have hb2 := byte_app cs.length (textsB cs ++ l)
    have hX' : X = cs.length :: (textsB cs ++ l) := by rw [hX]; simp
    rw [hX', hb2.1, hb2.2]
    dsimp only
    have := texts_app cs hc16 cs.length l (Nat.le_refl _)
    rw [List.take_length] at this
    rw [if_pos rfl, Nat.min_eq_left (by omega), this]
  · rw [if_neg h1]
    rw [if_neg h1] at hr
    by_cases h2 : k = 2
    · subst h2
      simp only [if_true, Bool.and_eq_true, decide_eq_true_eq] at hr
      obtain rfl : cs = [] := List.eq_nil_of_length_eq_zero hr.1
      obtain rfl : r = [] := List.eq_nil_of_length_eq_zero hr.2
      rw [if_neg (by omega), hX]; simp
    · rw [if_neg h2] at hr
      by_cases h3 : k = 3 ∨ k = 4
      · rw [if_pos h3] at hr ⊢
        simp only [Bool.and_eq_true, decide_eq_true_eq] at hr
        obtain rfl : cs = [] := List.eq_nil_of_length_eq_zero hr.1
        have hX' : X = rowB r ++ l := by rw [hX, if_neg h1, if_pos h3]; simp
        rw [hX', row_app 8 r l hI hr.2.2]
      · rw [if_neg h3] at hr; cases hr
theorem op_inv {lim : Nat} {o : OpD} {l l' : List Nat} {e : Int} (hl : IsB l) (h : rOp lim l e = (o, l', 0)) (hr : oprB o = true) (hlim : 256 ≤ lim) : e = 0 ∧ l = opB o ++ l' ∧ IsI o.row := by
  unfold rOp at h
  rcases h0 : rTake 1 l e with ⟨b0, l0, e0⟩
  rcases ht : rText 16 l0 e0 with ⟨t, l1, e1⟩
  simp only [h0, ht] at h
  -- behind the text all is well
  have fin : e1 = 0 → e = 0 ∧ l = rByte l e :: (textB t ++ l1) ∧ IsB l1 ∧ IsB t ∧ rByte l e < 256 := fun he1 => by
    subst he1
    have he0 : e0 = 0 := by
      by_cases he : e0 = 0
      · exact he
      · rw [text_stuck _ _ _ he] at ht; exact (Prod.mk.inj (Prod.mk.inj ht).2).2
    subst he0
    obtain ⟨he, hl0⟩ := byte_inv (l := l) (l' := l0) (e := e) (by rw [h0])
    have hb0 : IsB l0 := by rw [hl0] at hl; exact hl.cons.2
    obtain ⟨_, ht1, _⟩ := text_inv hb0 ht
    rw [ht1] at hb0 hl0
    exact ⟨he, hl0, (isB_app hb0).2, (isB_app (isB_app hb0).1).2, by rw [hl0] at hl; exact hl.cons.1⟩
  obtain ⟨k, hk⟩ : ∃ k, k = rByte l e := ⟨_, rfl⟩
  rw [← hk] at h fin
  by_cases h1 : k = 1
  · rw [if_pos h1] at h
    rcases hb : rTake 1 l1 e1 with ⟨b2, l2, e2⟩
    rw [hb] at h; dsimp only at h
    rcases hs : rTexts (min (rByte l1 e1) lim) l2 e2 with ⟨cs, l3, e3⟩
    rw [hs] at h; dsimp only at h
    obtain ⟨h4, h5⟩ := Prod.mk.inj h
    obtain ⟨rfl, rfl⟩ := Prod.mk.inj h5
    have he2 : e2 = 0 := by
      by_cases he : e2 = 0
      · exact he
      · have := texts_stuck (min (rByte l1 e1) lim) l2 e2 he; rw [hs] at this; exact ((Prod.mk.inj this).2).symm
    subst he2
    obtain ⟨he1, hb2⟩ := byte_inv (l := l1) (l' := l2) (e := e1) (by rw [hb])
    obtain ⟨he, hl0, hbl, hbt, _⟩ := fin he1
    rw [hb2] at hbl
    obtain ⟨_, hcl, hl2⟩ := texts_inv _ hbl.cons.2 hs
    subst h4
    have hq := hbl.cons.1
    rw [Nat.min_eq_left (by omega)] at hcl
    refine ⟨he, ?_, fun i => by simp⟩
    rw [hl0, hb2, hl2]
    simp [opB, h1, hcl, nb_bstr t hbt]
  · rw [if_neg h1] at h
    by_cases h3 : k = 3 ∨ k = 4
    · rw [if_pos h3] at h
      rcases hs : rRow 8 l1 e1 with ⟨r, l3, e3⟩
      rw [hs] at h; dsimp only at h
      obtain ⟨h4, h5⟩ := Prod.mk.inj h
      obtain ⟨rfl, rfl⟩ := Prod.mk.inj h5
      have he1 : e1 = 0 := by
        by_cases he : e1 = 0
        · exact he
        · rw [row_stuck _ _ _ he] at hs; exact (Prod.mk.inj (Prod.mk.inj hs).2).2
      obtain ⟨he, hl0, hbl, hbt, _⟩ := fin he1
      obtain ⟨_, hr1, _, hI⟩ := row_inv hbl hs
      subst h4
      refine ⟨he, ?_, hI⟩
      rw [hl0, hr1]
      simp [opB, h1, h3, nb_bstr t hbt]
    · rw [if_neg h3] at h
      obtain ⟨h4, h5⟩ := Prod.mk.inj h
      obtain ⟨rfl, rfl⟩ := Prod.mk.inj h5
      obtain ⟨he, hl0, hbl, hbt, _⟩ := fin rfl
      subst h4
      refine ⟨he, ?_, fun i => by simp⟩
      rw [hl0]
      simp [opB, h1, h3, nb_bstr t hbt]
theorem ops_app (lim : Nat) (hlim : 7 ≤ lim) (ok : OpD → Bool) (hok : ∀ o, oprB o = true → ok o = true) : ∀ (m : List OpD) (l : List Nat) (acc : List OpD), (∀ o ∈ m, oprB o = true ∧ IsI o.row) → rOps lim ok m.length ((m.map opB).flatten ++ l) acc = some (acc ++ m, l)
  | [], l, acc, _ => by simp [rOps]
  | o :: m, l, acc, h => by
    have ho := h o (by simp)
    have := op_app lim hlim o ho.1 ho.2 ((m.map opB).flatten ++ l)
    simp only [List.map_cons, List.flatten_cons, List.length_cons, rOps, List.append_assoc]
    rw [this]
    simp only [hok o ho.1, and_self, if_true]
    rw [ops_app lim hlim ok hok m l _ fun x hx => h x (by simp [hx])]
    simp
theorem ops_inv (lim : Nat) (hlim : 256 ≤ lim) : ∀ (n : Nat) {l l' : List Nat} {acc m : List OpD}, IsB l → rOps lim oprB n l acc = some (m, l') → ∃ q, m = acc ++ q ∧ q.length = n ∧ l = (q.map opB).flatten ++ l' ∧ ∀ o ∈ q, oprB o = true ∧ IsI o.row
  | 0, l, l', acc, m, hl, h => by
    simp only [rOps, Option.some.injEq, Prod.mk.injEq] at h
    obtain ⟨rfl, rfl⟩ := h
    exact ⟨[], by simp, rfl, by simp, by simp⟩
  | n + 1, l, l', acc, m, hl, h => by
    rw [rOps] at h
    split at h
    · rename_i hc
      rcases hq : rOp lim l 0 with ⟨o, l1, e1⟩
      rw [hq] at h hc; dsimp only at h hc
      obtain ⟨rfl, ho⟩ := hc
      obtain ⟨_, h2, hI⟩ := op_inv hl hq ho hlim
      have hb : IsB l1 := (isB_app (h2 ▸ hl)).2
      obtain ⟨q, h3, h4, h5, h6⟩ := ops_inv lim hlim n hb h
      refine ⟨o :: q, by rw [h3]; simp, by simp [h4], by rw [h2, h5]; simp, fun x hx => ?_⟩
      rcases List.mem_cons.1 hx with rfl | hx
      · exact ⟨ho, hI⟩
      · exact h6 x hx
    · cases h
/-- the changes of bytes, as the document reads them -/
def readR (b : List Nat) : Option (List OpD) :=
  match rOps 256 oprB (rCount 256 b 0).1 (rCount 256 b 0).2.1 [] with
  | some (m, l) => if (rCount 256 b 0).2.2 = 0 ∧ l = [] then some m else none
  | none => none
/-- as the program reads them -/
def readP (b : List Nat) : Option (List OpD) :=
  match rOps 8 (fun _ => true) (rCount 256 b 0).1 (rCount 256 b 0).2.1 [] with
  | some (m, l) => if (rCount 256 b 0).2.2 = 0 ∧ l = [] ∧ (m.all oprB = true ∧ opsB m = b) then some m else none
  | none => none
/-- changes that may be -/
def allB (l : List OpD) : Bool := l.all oprB && decide (l.length ≤ 256)
theorem readR_app (m : List OpD) (h : allB m = true) (hI : ∀ o ∈ m, IsI o.row) : readR (opsB m) = some m := by
  simp only [allB, Bool.and_eq_true, decide_eq_true_eq, List.all_eq_true] at h
  have hc := count_app 256 m.length ((m.map opB).flatten) h.2 (by omega)
  unfold readR opsB
  rw [hc]
  have := ops_app 256 (by omega) oprB (fun _ h => h) m [] [] fun o ho => ⟨h.1 o ho, hI o ho⟩
  rw [List.append_nil, List.nil_append] at this
  simp only [this]; simp
theorem readP_app (m : List OpD) (h : allB m = true) (hI : ∀ o ∈ m, IsI o.row) : readP (opsB m) = some m := by
  simp only [allB, Bool.and_eq_true, decide_eq_true_eq, List.all_eq_true] at h
  have hc := count_app 256 m.length ((m.map opB).flatten) h.2 (by omega)
  obtain ⟨b, hb⟩ : ∃ b, b = opsB m := ⟨_, rfl⟩
  have hb' : b = be3 m.length ++ (m.map opB).flatten := hb
  rw [← hb'] at hc
  rw [← hb]
  unfold readP
  rw [hc]
  have := ops_app 8 (by omega) (fun _ => true) (fun _ _ => rfl) m [] [] fun o ho => ⟨h.1 o ho, hI o ho⟩
  rw [List.append_nil, List.nil_append] at this
  simp only [this]
  rw [if_pos]
  exact ⟨trivial, trivial, List.all_eq_true.2 h.1, hb.symm⟩
theorem readR_inv {b : List Nat} {m : List OpD} (hb : IsB b) (h : readR b = some m) : allB m = true ∧ b = opsB m ∧ ∀ o ∈ m, IsI o.row := by
  unfold readR at h
  rcases hc : rCount 256 b 0 with ⟨n, l, e⟩
  rw [hc] at h; dsimp only at h
  split at h
  · rename_i m' l' hq
    split at h
    · rename_i h2
      obtain ⟨rfl, rfl⟩ := h2
      cases h
      obtain ⟨_, h3, h4⟩ := count_inv hb hc
      have hbl : IsB l := (isB_app (h3 ▸ hb)).2
      obtain ⟨q, h5, h6, h7, h8⟩ := ops_inv 256 (by omega) n hbl hq
      rw [List.nil_append] at h5
      subst h5
      refine ⟨?_, ?_, fun o ho => (h8 o ho).2⟩
      · simp only [allB, Bool.and_eq_true, decide_eq_true_eq, List.all_eq_true]
        exact ⟨fun o ho => (h8 o ho).1, by omega⟩
      · unfold opsB; rw [h3, h7, h6]; simp
    · cases h
  · cases h
theorem rCount_le' (most : Nat) (l : List Nat) (e : Int) : (rCount most l e).1 ≤ most := (rCount_le most l e).2
theorem rOps_len (lim : Nat) (ok : OpD → Bool) : ∀ (n : Nat) {l l' : List Nat} {acc m : List OpD}, rOps lim ok n l acc = some (m, l') → m.length = acc.length + n
  | 0, l, l', acc, m, h => by
    simp only [rOps, Option.some.injEq, Prod.mk.injEq] at h; rw [← h.1]; rfl
  | n + 1, l, l', acc, m, h => by
    rw [rOps] at h
    split at h
    · have := rOps_len lim ok n h; rw [this]; simp; omega
    · cases h
theorem readP_inv {b : List Nat} {m : List OpD} (h : readP b = some m) : allB m = true ∧ b = opsB m := by
  unfold readP at h
  have hn := rCount_le' 256 b 0
  rcases hc : rCount 256 b 0 with ⟨n, l, e⟩
  rw [hc] at h hn; dsimp only at h hn
  split at h
  · rename_i m' l' hq
    have hlen := rOps_len _ _ _ hq
    split at h
    · rename_i h2
      cases h
      refine ⟨?_, h2.2.2.2.symm⟩
      simp only [allB, Bool.and_eq_true, decide_eq_true_eq]
      exact ⟨h2.2.2.1, by simp at hlen; omega⟩
    · cases h
  · cases h
/-- rows that a change read has are numbers -/
theorem rRow_isI {most : Nat} {l : List Nat} {e : Int} (hl : IsB l) : IsI (rRow most l e).1 := by
  rcases hq : rRow most l e with ⟨r, l', f⟩
  by_cases hf : f = 0
  · subst hf; exact (row_inv hl hq).2.2.2
  · have : r = [] := by
      unfold rRow at hq
      rcases hs : rNums (rByte l e) (rTake 1 l e).2.1 (rRowE most l e) with ⟨r1, l1, e1⟩
      rw [hs] at hq; dsimp only at hq
      obtain ⟨h1, h2⟩ := Prod.mk.inj hq
      obtain ⟨_, rfl⟩ := Prod.mk.inj h2
      rw [if_neg hf] at h1; exact h1.symm
    subst this
    intro i; simp
/-! what is left is a part of what was there -/
def Suf (l' l : List Nat) : Prop := ∃ k, l' = l.drop k
theorem Suf.refl (l : List Nat) : Suf l l := ⟨0, rfl⟩
theorem Suf.trans {a b c : List Nat} (h : Suf a b) (g : Suf b c) : Suf a c := by
  obtain ⟨k, rfl⟩ := h; obtain ⟨j, rfl⟩ := g; exact ⟨j + k, by rw [List.drop_drop]⟩
theorem Suf.isB {a b : List Nat} (h : Suf a b) (hb : IsB b) : IsB a := by obtain ⟨k, rfl⟩ := h; exact isB_drop hb k
theorem take_suf (k : Nat) (l : List Nat) (e : Int) : Suf (rTake k l e).2.1 l := by
  unfold rTake
  split
  · exact Suf.refl l
  · split
    · exact Suf.refl l
    · exact ⟨k, rfl⟩
theorem count_suf (most : Nat) (l : List Nat) (e : Int) : Suf (rCount most l e).2.1 l := by
  have := take_suf 3 l e
  unfold rCount
  rcases hq : rTake 3 l e with ⟨_ | t, l', e'⟩ <;> rw [hq] at this
  · exact this
  · dsimp only; split <;> exact this
theorem text_suf (most : Nat) (l : List Nat) (e : Int) : Suf (rText most l e).2.1 l := (take_suf _ _ _).trans (count_suf most l e)
theorem nums_suf (k : Nat) (l : List Nat) (e : Int) : Suf (rNums k l e).2.1 l := by
  induction k with
  | zero => exact Suf.refl l
  | succ k ih => exact (take_suf 8 _ _).trans ih
theorem row_suf (most : Nat) (l : List Nat) (e : Int) : Suf (rRow most l e).2.1 l := (nums_suf _ _ _).trans (take_suf 1 l e)
theorem texts_suf (k : Nat) (l : List Nat) (e : Int) : Suf (rTexts k l e).2.1 l := by
  induction k with
  | zero => exact Suf.refl l
  | succ k ih => exact (text_suf 16 _ _).trans ih
theorem op_suf (lim : Nat) (l : List Nat) (e : Int) : Suf (rOp lim l e).2.1 l ∧ (IsB l → IsI (rOp lim l e).1.row) := by
  have h2 : Suf (rText 16 (rTake 1 l e).2.1 (rTake 1 l e).2.2).2.1 l := (text_suf _ _ _).trans (take_suf 1 l e)
  unfold rOp
  dsimp only
  split
  · exact ⟨((texts_suf _ _ _).trans (take_suf 1 _ _)).trans h2, fun _ i => by simp⟩
  · split
    · exact ⟨(row_suf 8 _ _).trans h2, fun hb => rRow_isI (h2.isB hb)⟩
    · exact ⟨h2, fun _ i => by simp⟩
theorem rOps_isI (lim : Nat) (ok : OpD → Bool) : ∀ (n : Nat) {l l' : List Nat} {acc m : List OpD}, IsB l → rOps lim ok n l acc = some (m, l') → (∀ o ∈ acc, IsI o.row) → ∀ o ∈ m, IsI o.row
  | 0, l, l', acc, m, _, h, ha => by
    simp only [rOps, Option.some.injEq, Prod.mk.injEq] at h; rw [← h.1]; exact ha
  | n + 1, l, l', acc, m, hb, h, ha => by
    rw [rOps] at h
    split at h
    · have hs := op_suf lim l 0
      refine rOps_isI lim ok n (hs.1.isB hb) h fun o ho => ?_
      rcases List.mem_append.1 ho with ho | ho
      · exact ha o ho
      · rw [List.mem_singleton.1 ho]; exact hs.2 hb
    · cases h
theorem readP_isI {b : List Nat} {m : List OpD} (hb : IsB b) (h : readP b = some m) : ∀ o ∈ m, IsI o.row := by
  unfold readP at h
  split at h
  · rename_i m' l' hq
    split at h
    · cases h
      exact rOps_isI _ _ _ ((count_suf 256 b 0).isB hb) hq (by simp)
    · cases h
  · cases h
/-- both read the same -/
theorem read_same {b : List Nat} (hb : IsB b) : readP b = readR b := by
  rcases hp : readP b with _ | m
  · rcases hr : readR b with _ | m
    · rfl
    · obtain ⟨h1, h2, h3⟩ := readR_inv hb hr
      rw [h2, readP_app m h1 h3] at hp; cases hp
  · obtain ⟨h1, h2⟩ := readP_inv hp
    have := readR_app m h1 (readP_isI hb hp)
    rw [← h2] at this; exact this.symm
end Go.Proofs.Ytgcbodpjidoanaa
namespace Go.Proofs.Ytgcbodpjidoanaa
open Go.RowKit
theorem okCh_iff (i c : Nat) : okCh i c = true ↔ (97 ≤ c ∧ c ≤ 122) ∨ (0 < i ∧ ((48 ≤ c ∧ c ≤ 57) ∨ c = 95)) := by
  simp [okCh]
theorem okTo_step {s : ByteArray} {k : Nat} (hk : k < s.size) (h : okTo (nb s) k = true) (hc : (97 ≤ (s[k].toNat : Int) ∧ (s[k].toNat : Int) ≤ 122) ∨ (0 < k ∧ ((48 ≤ (s[k].toNat : Int) ∧ (s[k].toNat : Int) ≤ 57) ∨ (s[k].toNat : Int) = 95))) : okTo (nb s) (k + 1) = true := by
  rw [okTo_succ, h, nb_getD s k hk, Bool.true_and, okCh_iff]
  omega
theorem name_stop {s : ByteArray} {k : Nat} (hk : k < s.size) (hc : ¬ ((97 ≤ (s[k].toNat : Int) ∧ (s[k].toNat : Int) ≤ 122) ∨ (0 < k ∧ ((48 ≤ (s[k].toNat : Int) ∧ (s[k].toNat : Int) ≤ 57) ∨ (s[k].toNat : Int) = 95)))) : nameB (nb s) = false := by
  unfold nameB
  rw [okTo_false (nb s) (k := k) (by rw [nb_len]; exact hk) (by rw [nb_getD s k hk, Bool.eq_false_iff]; intro h; rw [okCh_iff] at h; omega)]
  rfl
theorem name_end {s : ByteArray} (h : okTo (nb s) s.size = true) : nameB (nb s) = (decide (0 < s.size) && decide (s.size ≤ 16)) := by
  unfold nameB
  rw [nb_len, h, Bool.true_and]
set_option maxRecDepth 100000 in
set_option maxHeartbeats 1000000 in
theorem rname_any (s : ByteArray) (w : World) (hs : s.size ≤ 140737488351232) :
    Calls Try.prog 156 #[.string s] w fun e w' => e = .returned (.bool (nameB (nb s))) ∧ w = w' := by
  obtain ⟨RS, hRS⟩ : ∃ RS, RS = nameB (nb s) := ⟨_, rfl⟩
  rw [← hRS]
  have HhRS := hideP hRS; clear hRS
  go_enter Try.func156, Try.ntmps156
  go_wp2
  go_loop [3] (fun v3 => ∃ k : Nat, k ≤ s.size ∧ v3 = .int .i64 (k : Nat) ∧ Hid (okTo (nb s) k = true)) (fun v3 => s.size - (intOf v3).toNat)
  case atStart => exact ⟨0, Nat.zero_le _, rfl, rfl⟩
  case round =>
    obtain ⟨k, hk, rfl, hV⟩ := hrel
    by_cases hlt : k < s.size
    · have i1 : (k : Int) < (s.size : Int) := by omega
      by_cases hk0 : k = 0
      · subst hk0
        go_wp2_with fail
        all_goals first
          | (go_round; (case rel => exact ⟨1, by omega, rfl, okTo_step hlt hV.out (by (try simp only [beq_iff_eq, bne_iff_ne, ne_eq, Bool.not_eq_true', Bool.not_eq_false', decide_eq_false_iff_not, decide_eq_true_eq] at *); omega)⟩); (case measure => simp [intOf]; try omega))
          | (go_ret; exact ⟨ret_bool (by rw [HhRS.out, name_stop hlt (by (try simp only [beq_iff_eq, bne_iff_ne, ne_eq, Bool.not_eq_true', Bool.not_eq_false', decide_eq_false_iff_not, decide_eq_true_eq] at *); omega)]), rfl⟩)
      · have hk1 : ((k : Int) == 0) = false := by simpa using hk0
        go_wp2_with fail
        all_goals first
          | (go_round; (case rel => exact ⟨k + 1, by omega, by go_num, okTo_step hlt hV.out (by (try simp only [beq_iff_eq, bne_iff_ne, bne_eq_false_iff_eq, ne_eq, Bool.not_eq_true', Bool.not_eq_false', decide_eq_false_iff_not, decide_eq_true_eq] at *); omega)⟩); (case measure => simp [intOf]; try omega))
          | (go_ret; exact ⟨ret_bool (by rw [HhRS.out, name_stop hlt (by (try simp only [beq_iff_eq, bne_iff_ne, bne_eq_false_iff_eq, ne_eq, Bool.not_eq_true', Bool.not_eq_false', decide_eq_false_iff_not, decide_eq_true_eq] at *); omega)]), rfl⟩)
    · have hkn : k = s.size := by omega
      have hE := hideP (name_end (by rw [← hkn]; exact hV.out))
      have i1 : ¬ ((k : Int) < (s.size : Int)) := by omega
      clear hV hk
      by_cases h0 : 0 < s.size
      · have h0' : (0 : Int) < (s.size : Int) := by omega
        by_cases h1 : s.size ≤ 16
        · have h1' : (s.size : Int) < 17 := by omega
          go_wp2_with fail
          all_goals (go_ret; exact ⟨ret_bool (by rw [HhRS.out, hE.out]; simp [h0, h1]; try omega), rfl⟩)
        · have h1' : ¬ (s.size : Int) < 17 := by omega
          go_wp2_with fail
          all_goals (go_ret; exact ⟨ret_bool (by rw [HhRS.out, hE.out]; simp [h0, h1]; try omega), rfl⟩)
      · have h0' : ¬ (0 : Int) < (s.size : Int) := by omega
        go_wp2_with fail
        all_goals (go_ret; exact ⟨ret_bool (by rw [HhRS.out, hE.out]; simp [h0]; try omega), rfl⟩)
theorem str_ne {s t : ByteArray} (h : s ≠ t) : (s.toList == t.toList) = false := by
  rw [beq_eq_false_iff_ne]
  intro e
  rw [ByteArray.toList_eq, ByteArray.toList_eq] at e
  exact h (by cases s; cases t; simp only [Array.toList_inj] at e; rw [e])
theorem str_eq (s : ByteArray) : (s.toList == s.toList) = true := by simp
/-- texts -/
def strs (l : List ByteArray) (i : Nat) : Value := .string (l.getD i default)
/-- is a text among the first k ones? -/
def hasTo (l : List ByteArray) (t : ByteArray) (k : Nat) : Bool := (List.range k).all fun j => !decide (l.getD j default = t)
theorem hasTo_succ (l : List ByteArray) (t : ByteArray) (k : Nat) : hasTo l t (k + 1) = (hasTo l t k && !decide (l.getD k default = t)) := by
  simp [hasTo, List.range_succ, List.all_append]
theorem hasTo_false (l : List ByteArray) (t : ByteArray) {k n : Nat} (hk : k < n) (h : l.getD k default = t) : hasTo l t n = false := by
  unfold hasTo
  rw [List.all_eq_false]
  exact ⟨k, List.mem_range.2 hk, by rw [h]; simp⟩
set_option maxRecDepth 100000 in
set_option maxHeartbeats 1000000 in
theorem sindex_any (A : Option Addr) (l : List ByteArray) (n c : Nat) (t : ByteArray) (w : World) (hA : Arr w w.heap.size A n (strs l)) (hn : n ≤ 1000000000) :
    Calls Try.prog 111 #[.slice A n c, .string t] w fun e w' => ((∃ k : Nat, e = .returned (.int .i64 k) ∧ k < n ∧ l.getD k default = t ∧ hasTo l t k = true) ∨ (e = .returned (.int .i64 (-1)) ∧ hasTo l t n = true)) ∧ w = w' := by
  have HhA := hideP hA; clear hA
  go_enter Try.func111, Try.ntmps111
  go_wp2
  go_loop [8] (fun v8 => ∃ k : Nat, k ≤ n ∧ v8 = .int .i64 (k : Nat) ∧ Hid (hasTo l t k = true)) (fun v8 => n - (intOf v8).toNat)
  case atStart => exact ⟨0, Nat.zero_le _, rfl, rfl⟩
  case round =>
    obtain ⟨k, hk, rfl, hV⟩ := hrel
    by_cases hlt : k < n
    · have i1 : (k : Int) < (n : Int) := by omega
      obtain ⟨b0, off, hA, hB0, hc⟩ := HhA.out (by omega)
      subst hA
      have c0 := hc k hlt
      unfold strs at c0
      obtain ⟨x, hx⟩ : ∃ x, x = l.getD k default := ⟨_, rfl⟩
      rw [← hx] at c0
      have Hx := hideP hx
      clear hx hc
      by_cases he : x = t
      · subst he
        go_wp2_with fail
        go_ret
        exact ⟨.inl ⟨k, rfl, hlt, Hx.out.symm, hV.out⟩, rfl⟩
      · have e1 := str_ne (fun h => he h.symm)
        go_wp2_with fail
        go_round
        case rel => exact ⟨k + 1, by omega, by go_num, by show hasTo l t (k + 1) = true; rw [hasTo_succ, hV.out, ← Hx.out]; simp [he]⟩
        case measure => simp [intOf]; omega
    · have hkn : k = n := by omega
      have i1 : ¬ ((k : Int) < (n : Int)) := by omega
      subst hkn
      go_wp2_with fail
      go_ret
      exact ⟨.inr ⟨rfl, hV.out⟩, rfl⟩
set_option maxRecDepth 100000 in
set_option maxHeartbeats 1000000 in
theorem scontains_any (A : Option Addr) (l : List ByteArray) (n c : Nat) (t : ByteArray) (w : World) (hA : Arr w w.heap.size A n (strs l)) (hn : n ≤ 1000000000) :
    Calls Try.prog 251 #[.slice A n c, .string t] w fun e w' => e = .returned (.bool (!hasTo l t n)) ∧ w = w' := by
  have hT := hideP (sindex_any A l n c t w hA hn)
  clear hA
  go_enter Try.func251, Try.ntmps251
  go_wp2_with (go_at_call 111; refine hT.out.mono ?_; rintro e1 w1 ⟨(⟨k, rfl, hk, hx, _⟩ | ⟨rfl, hx⟩), rfl⟩ <;> have Hx := hideP hx <;> clear hx)
  · go_ret
    exact ⟨ret_bool (by rw [hasTo_false l t hk Hx.out]; rfl), rfl⟩
  · go_ret
    exact ⟨ret_bool (by rw [Hx.out]; rfl), rfl⟩
end Go.Proofs.Ytgcbodpjidoanaa
namespace Go.Proofs.Ytgcbodpjidoanaa
open Go.RowKit
set_option maxRecDepth 100000 in
set_option maxHeartbeats 1000000 in
theorem isname_any (s : ByteArray) (w : World) (hs : s.size ≤ 140737488351232) :
    Calls Try.prog 226 #[.string s] w fun e w' => e = .returned (.bool (nameB (nb s))) ∧ Below w.heap.size w w' := by
  obtain ⟨RS, hRS⟩ : ∃ RS, RS = nameB (nb s) := ⟨_, rfl⟩
  rw [← hRS]
  have hB := hideP (fun k => (below_new w (.stringIter s k) : Below w.heap.size w (w.iter s k)))
  have HhRS := hideP hRS; clear hRS
  go_enter Try.func226, Try.ntmps226
  go_wp2_with fail
  go_loopw [] (fun wr => ∃ k : Nat, k ≤ s.size ∧ wr = w.iter s k ∧ Hid (okTo (nb s) k = true)) (fun wr => s.size - wr.iterPos w.heap.size)
  case atStart => exact ⟨0, Nat.zero_le _, rfl, rfl⟩
  case round =>
    obtain ⟨k, hk, rfl, hV⟩ := hrel
    by_cases hlt : k < s.size
    · by_cases ha : s[k].toNat < 128
      · have hn := fun ty => run_next_ascii (P := Try.prog) w s k ty hlt ha
        by_cases hk0 : k = 0
        · subst hk0
          go_wp2_with fail
          all_goals first
            | (go_roundw; (case rel => exact ⟨1, by omega, rfl, okTo_step hlt hV.out (by (try simp only [beq_iff_eq, bne_iff_ne, bne_eq_false_iff_eq, ne_eq, Bool.not_eq_true', Bool.not_eq_false', decide_eq_false_iff_not, decide_eq_true_eq] at *); omega)⟩); (case measure => simp; try omega))
            | (go_ret; exact ⟨ret_bool (by rw [HhRS.out, name_stop hlt (by (try simp only [beq_iff_eq, bne_iff_ne, bne_eq_false_iff_eq, ne_eq, Bool.not_eq_true', Bool.not_eq_false', decide_eq_false_iff_not, decide_eq_true_eq] at *); omega)]), hB.out _⟩)
        · have hk1 : ((k : Int) == 0) = false := by simpa using hk0
          go_wp2_with fail
          all_goals first
            | (go_roundw; (case rel => exact ⟨k + 1, by omega, rfl, okTo_step hlt hV.out (by (try simp only [beq_iff_eq, bne_iff_ne, bne_eq_false_iff_eq, ne_eq, Bool.not_eq_true', Bool.not_eq_false', decide_eq_false_iff_not, decide_eq_true_eq] at *); omega)⟩); (case measure => simp; try omega))
            | (go_ret; exact ⟨ret_bool (by rw [HhRS.out, name_stop hlt (by (try simp only [beq_iff_eq, bne_iff_ne, bne_eq_false_iff_eq, ne_eq, Bool.not_eq_true', Bool.not_eq_false', decide_eq_false_iff_not, decide_eq_true_eq] at *); omega)]), hB.out _⟩)
      · have hd := decode_high s k hlt (by omega)
        have hn := fun ty => run_next_any (P := Try.prog) w s k ty hlt
        obtain ⟨r, hr⟩ : ∃ r, r = (Utf8.decode s k).1 := ⟨_, rfl⟩
        obtain ⟨d, hdd⟩ : ∃ d, d = (Utf8.decode s k).2 := ⟨_, rfl⟩
        rw [← hr] at hn hd
        rw [← hdd] at hn
        have hd1 := hd.1
        have hF := hideP (name_stop hlt (by omega))
        clear hr hdd hd
        have g1 : (97 : Int) ≤ (r : Int) := by omega
        have g2 : decide ((r : Int) ≤ 122) = false := by simp; omega
        have g3 : decide ((r : Int) < 48) = false := by simp; omega
        have g4 : (57 : Int) < (r : Int) := by omega
        have g5 : ((r : Int) != 95) = true := by simp; omega
        clear ha
        by_cases hk0 : k = 0
        · subst hk0
          go_wp2_with fail
          go_ret
          exact ⟨ret_bool (by rw [HhRS.out, hF.out]), hB.out _⟩
        · have hk1 : ((k : Int) == 0) = false := by simpa using hk0
          go_wp2_with fail
          go_ret
          exact ⟨ret_bool (by rw [HhRS.out, hF.out]), hB.out _⟩
    · have hkn : k = s.size := by omega
      subst hkn
      have hE := hideP (name_end hV.out)
      have hn := fun ty => run_next_end (P := Try.prog) w s s.size ty hlt
      clear hV hk
      by_cases h0 : 0 < s.size
      · have h0' : (1 : Int) ≤ (s.size : Int) := by omega
        by_cases h1 : s.size ≤ 16
        · have h1' : (s.size : Int) ≤ 16 := by omega
          go_wp2_with fail
          all_goals (go_ret; exact ⟨ret_bool (by rw [HhRS.out, hE.out]; simp [h0, h1]; try omega), hB.out _⟩)
        · have h1' : ¬ (s.size : Int) ≤ 16 := by omega
          go_wp2_with fail
          all_goals (go_ret; exact ⟨ret_bool (by rw [HhRS.out, hE.out]; simp [h0, h1]; try omega), hB.out _⟩)
      · have h0' : ¬ (1 : Int) ≤ (s.size : Int) := by omega
        go_wp2_with fail
        all_goals (go_ret; exact ⟨ret_bool (by rw [HhRS.out, hE.out]; simp [h0]; try omega), hB.out _⟩)
theorem id_list : ([105, 100] : List UInt8) = idS.toList := by rw [ByteArray.toList_eq]; rfl
theorem id_eq {x : ByteArray} (h : x = idS) : (x.toList == [105, 100]) = true := by
  rw [h, id_list]; exact str_eq idS
theorem id_ne {x : ByteArray} (h : ¬ x = idS) : (x.toList == [105, 100]) = false := by rw [id_list]; exact str_ne h
theorem hasTo_col (l : List ByteArray) (k : Nat) : colB l k = (nameB (nb (l.getD k default)) && (!decide (l.getD k default = idS) && hasTo l (l.getD k default) k)) := rfl
set_option maxRecDepth 100000 in
set_option maxHeartbeats 1000000 in
theorem arecols_any (A : Option Addr) (l : List ByteArray) (n c : Nat) (w : World) (hl : n = l.length) (hA : Arr w w.heap.size A n (strs l)) (hs : ∀ i, (l.getD i default).size ≤ 140737488351232) (hn : n ≤ 1000000000) (hc : n ≤ c) :
    Calls Try.prog 227 #[.slice A n c] w fun e w' => e = .returned (.bool (colsB l)) ∧ Below w.heap.size w w' := by
  obtain ⟨RS, hRS⟩ : ∃ RS, RS = colsB l := ⟨_, rfl⟩
  rw [← hRS]
  have hE := hideP (show colsB l = (colsTo l n && (decide (0 < n) && decide (n ≤ 7))) by rw [hl]; rfl)
  have hc' : (n : Int) ≤ (c : Int) := by omega
  have HhRS := hideP hRS; have HhA := hideP hA; have Hhs := hideP hs; have Hhl := hideP hl; clear hRS hA hs hl
  go_enter Try.func227, Try.ntmps227
  go_wp2_with fail
  go_loopw [7] (fun v7 wr => ∃ k : Nat, k ≤ n ∧ v7 = .int .i64 (k : Nat) ∧ Hid (colsTo l k = true ∧ Below w.heap.size w wr)) (fun v7 _ => n - (intOf v7).toNat)
  case atStart => exact ⟨0, Nat.zero_le _, rfl, rfl, Below.refl _ _⟩
  case round =>
    obtain ⟨k, hk, rfl, hV⟩ := hrel
    by_cases hlt : k < n
    · have i1 : (k : Int) < (n : Int) := by omega
      have i2 : (k : Int) ≤ (c : Int) := by omega
      obtain ⟨b0, off, hA, hB0, hc⟩ := HhA.out (by omega)
      subst hA
      have c0 := (hV.out.2.cell (p := ⟨b0, off + k, none⟩) hB0).trans (hc k hlt)
      unfold strs at c0
      have hcol := hasTo_col l k
      have hx := hideP (Hhs.out k)
      obtain ⟨x, hxx⟩ : ∃ x, x = l.getD k default := ⟨_, rfl⟩
      rw [← hxx] at c0 hx hcol
      have Hcol := hideP hcol
      have hT := hideP (fun W (hW : Below w.heap.size w W) => scontains_any (some ⟨b0, off, none⟩) l k c x W ((((HhA.out.front hk).below hW).more hW.size)) (by omega))
      clear hxx hc hcol
      have bad : colB l k = false → RS = false := fun h => by rw [HhRS.out, hE.out, colsTo_false l hlt h]; rfl
      have Hbad := hideP bad
      clear bad
      by_cases hb1 : nameB (nb x) = true
      · by_cases hb2 : x = idS
        · have e2 := id_eq hb2
          have E2 := hideP hb2
          clear hb2
          go_wp2_with (go_at_call 226; refine (isname_any _ _ hx.out).mono ?_; rintro e1 w1 ⟨rfl, b1⟩; have B1 := hideP (hV.out.2.trans (b1.mono hV.out.2.size)); clear b1)
          go_ret
          exact ⟨ret_bool (Hbad.out (by rw [Hcol.out, E2.out]; simp)).symm, B1.out⟩
        · have e2 := id_ne hb2
          by_cases hb3 : hasTo l x k = true
          · have Hok := hideP (show colsTo l (k + 1) = true by rw [colsTo_succ, hV.out.1, Hcol.out]; simp [hb1, hb2, hb3])
            clear hb2
            go_wp2_with (first
              | (go_at_call 226; refine (isname_any _ _ hx.out).mono ?_; rintro e1 w1 ⟨rfl, b1⟩; have B1 := hideP (hV.out.2.trans (b1.mono hV.out.2.size)); clear b1)
              | (go_at_call 251; refine (hT.out _ B1.out).mono ?_; rintro e1 w1 ⟨rfl, rfl⟩))
            go_roundw
            case rel => exact ⟨k + 1, by omega, by go_num, Hok.out, B1.out⟩
            case measure => simp [intOf]; omega
          · have hb4 : hasTo l x k = false := Bool.eq_false_iff.2 hb3
            have Hok := hideP (Hbad.out (by rw [Hcol.out, hb4]; simp))
            clear hb2 hb3
            go_wp2_with (first
              | (go_at_call 226; refine (isname_any _ _ hx.out).mono ?_; rintro e1 w1 ⟨rfl, b1⟩; have B1 := hideP (hV.out.2.trans (b1.mono hV.out.2.size)); clear b1)
              | (go_at_call 251; refine (hT.out _ B1.out).mono ?_; rintro e1 w1 ⟨rfl, rfl⟩))
            go_ret
            exact ⟨ret_bool Hok.out.symm, B1.out⟩
      · have hb4 : nameB (nb x) = false := Bool.eq_false_iff.2 hb1
        have Hok := hideP (Hbad.out (by rw [Hcol.out, hb4]; simp))
        clear hb1
        go_wp2_with (go_at_call 226; refine (isname_any _ _ hx.out).mono ?_; rintro e1 w1 ⟨rfl, b1⟩; have B1 := hideP (hV.out.2.trans (b1.mono hV.out.2.size)); clear b1)
        go_ret
        exact ⟨ret_bool Hok.out.symm, B1.out⟩
    · have hkn : k = n := by omega
      subst hkn
      have i1 : ¬ ((k : Int) < (k : Int)) := by omega
      have hR := hideP (show RS = (decide (0 < k) && decide (k ≤ 7)) by rw [HhRS.out, hE.out, hV.out.1]; rfl)
      have B1 := hideP hV.out.2
      clear hV hk hc
      by_cases h0 : 0 < k
      · have h0' : (1 : Int) ≤ (k : Int) := by omega
        by_cases h1 : k ≤ 7
        · have h1' : (k : Int) ≤ 7 := by omega
          go_wp2_with fail
          all_goals (go_ret; exact ⟨ret_bool (by rw [hR.out]; simp [h0, h1]; try omega), B1.out⟩)
        · have h1' : ¬ (k : Int) ≤ 7 := by omega
          go_wp2_with fail
          all_goals (go_ret; exact ⟨ret_bool (by rw [hR.out]; simp [h0, h1]; try omega), B1.out⟩)
      · have h0' : ¬ (1 : Int) ≤ (k : Int) := by omega
        go_wp2_with fail
        all_goals (go_ret; exact ⟨ret_bool (by rw [hR.out]; simp [h0]; try omega), B1.out⟩)
end Go.Proofs.Ytgcbodpjidoanaa
