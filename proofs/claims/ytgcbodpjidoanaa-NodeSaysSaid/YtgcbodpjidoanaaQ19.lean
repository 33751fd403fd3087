/- Names, changes, their bytes, and how they are read: plain. Which changes may be, their bytes, and what is read of bytes: plain. Contracts of the reference's Name and of slices.Index, slices.Contains at texts. Contracts of block.IsName and block.areCols. Contract of block.Right. Contract of the reference's Right at a change. Rows of structs in memory; slices.ContainsFunc of changes; a text's bytes as a slice. Contracts of block.op and of the closure in block.Ops. -/
import Derived.Deep.DeepCutAuto
import Derived.Laws.RangeAny
import Derived.Lib.ConvBytes
import Derived.Test.YtgcbodpjidoanaaQ8
import Derived.Test.YtgcbodpjidoanaaQ18
set_option linter.unusedVariables false
set_option linter.unusedSimpArgs false
namespace Go.Proofs.Ytgcbodpjidoanaa
open Go.RowKit
/-- a string's bytes -/
def nb (s : ByteArray) : List Nat := s.data.toList.map UInt8.toNat
/-! ### what is read: bytes in hand -/
theorem take_app (t l : List Nat) (k : Nat) (h : t.length = k) : rTake k (t ++ l) 0 = (some t, l, 0) := by
  subst h; simp [rTake]
theorem take_stuck (k : Nat) (l : List Nat) (e : Int) (h : e ≠ 0) : rTake k l e = (none, l, e) := by simp [rTake, h]
theorem take_inv {k : Nat} {l l' : List Nat} {e : Int} {o : Option (List Nat)} (h : rTake k l e = (o, l', 0)) : e = 0 ∧ ∃ t, o = some t ∧ l = t ++ l' ∧ t.length = k := by
  unfold rTake at h
  split at h
  · simp only [Prod.mk.injEq] at h; rename_i he; exact absurd h.2.2 he
  · rename_i he
    have he : e = 0 := Classical.not_not.1 he
    split at h
    · simp at h
    · simp only [Prod.mk.injEq] at h
      exact ⟨he, l.take k, h.1.symm, by rw [← h.2.1]; exact (List.take_append_drop k l).symm, by simp; omega⟩
theorem byte_app (x : Nat) (l : List Nat) : rByte (x :: l) 0 = x ∧ (rTake 1 (x :: l) 0).2 = (l, 0) := by
  have := take_app [x] l 1 rfl
  simp only [List.singleton_append] at this
  simp [rByte, this]
theorem byte_inv {l l' : List Nat} {e : Int} (h : (rTake 1 l e).2 = (l', 0)) : e = 0 ∧ l = rByte l e :: l' := by
  rcases hq : rTake 1 l e with ⟨o, x⟩
  rw [hq] at h; dsimp only at h; subst h
  obtain ⟨he, t, rfl, h2, h3⟩ := take_inv hq
  refine ⟨he, ?_⟩
  match t, h3 with
  | [y], _ =>
    have h4 : rByte l e = y := by unfold rByte; rw [hq]; rfl
    rw [h4]; exact h2
theorem isB_app {l m : List Nat} (h : IsB (l ++ m)) : IsB l ∧ IsB m := by
  refine ⟨fun i => ?_, fun i => ?_⟩
  · rcases Nat.lt_or_ge i l.length with hi | hi
    · have := h i; unfold List.getD at this ⊢; rwa [List.getElem?_append_left hi] at this
    · rw [getD_out _ _ _ hi]; decide
  · have := h (l.length + i); unfold List.getD at this ⊢; rwa [List.getElem?_append_right (by omega), Nat.add_sub_cancel_left] at this
theorem be3_of (a b c : Nat) (ha : a < 256) (hb : b < 256) (hc : c < 256) : be3 (a * 65536 + b * 256 + c) = [a, b, c] := by
  unfold be3
  rw [show (a * 65536 + b * 256 + c) / 65536 % 256 = a by omega, show (a * 65536 + b * 256 + c) / 256 % 256 = b by omega, show (a * 65536 + b * 256 + c) % 256 = c by omega]
theorem be3_val (n : Nat) (h : n ≤ 1048576) : n / 65536 % 256 * 65536 + n / 256 % 256 * 256 + n % 256 = n := by omega
theorem count_val (most : Nat) (t l : List Nat) (x : List Nat × Int) (h : rTake 3 l 0 = (some t, x.1, x.2)) (n : Nat) (hv : t.getD 0 0 * 65536 + t.getD 1 0 * 256 + t.getD 2 0 = n) (h1 : n ≤ most) (h2 : n ≤ 1048576) : rCount most l 0 = (n, x.1, 0) := by
  unfold rCount
  rw [h]
  dsimp only
  split
  · exfalso; omega
  · exact congrArg (fun m => (m, x.1, (0 : Int))) hv
theorem count_app (most n : Nat) (l : List Nat) (h : n ≤ most) (h2 : n ≤ 1048576) : rCount most (be3 n ++ l) 0 = (n, l, 0) :=
  count_val most (be3 n) (be3 n ++ l) (l, 0) (take_app (be3 n) l 3 rfl) n (be3_val n h2) h h2
theorem len3 (t : List Nat) (h : t.length = 3) : ∃ a b c, t = [a, b, c] := by
  match t, h with
  | [a, b, c], _ => exact ⟨a, b, c, rfl⟩
theorem count_inv {most n : Nat} {l l' : List Nat} {e : Int} (hl : IsB l) (h : rCount most l e = (n, l', 0)) : e = 0 ∧ l = be3 n ++ l' ∧ n ≤ most := by
  unfold rCount at h
  rcases hq : rTake 3 l e with ⟨_ | t, m, x⟩ <;> rw [hq] at h <;> simp only at h
  · simp only [Prod.mk.injEq] at h
    obtain ⟨_, rfl, rfl⟩ := h
    obtain ⟨_, t, ht, _⟩ := take_inv hq
    cases ht
  · split at h
    · simp at h
    · rename_i hm
      simp only [Prod.mk.injEq] at h
      obtain ⟨rfl, rfl, _⟩ := h
      have hx : x = 0 := rTake_some hq
      subst hx
      obtain ⟨he, t', ht, h2, h3⟩ := take_inv hq
      cases ht
      have hb := (isB_app (h2 ▸ hl)).1
      have hm1 : t.getD 0 0 * 65536 + t.getD 1 0 * 256 + t.getD 2 0 ≤ most := Nat.le_of_not_lt fun hc => hm (.inl hc)
      clear hm
      obtain ⟨a, b, c, rfl⟩ := len3 t h3
      have h0 : a < 256 := hb 0
      have h1 : b < 256 := hb 1
      have h4 : c < 256 := hb 2
      exact ⟨he, by show l = be3 (a * 65536 + b * 256 + c) ++ _; rw [be3_of a b c h0 h1 h4]; exact h2, hm1⟩
/-- a text's bytes -/
def textB (t : List Nat) : List Nat := be3 t.length ++ t
theorem beN_be8 (n : Nat) (h : n < 18446744073709551616) : beN (be8 n) = n := by
  unfold beN be8
  simp only [List.range_succ, List.range_zero, List.nil_append, List.map_append, List.map_cons, List.map_nil, List.cons_append, List.foldl_cons, List.foldl_nil]
  simp only [Nat.reducePow, Nat.reduceMul, Nat.reduceSub]
  omega
theorem be8_beN (t : List Nat) (hb : IsB t) (h : t.length = 8) : be8 (beN t) = t := by
  match t, h, hb with
  | [a, b, c, d, e, f, g, i], _, hb =>
    have h0 := hb 0; have h1 := hb 1; have h2 := hb 2; have h3 := hb 3; have h4 := hb 4; have h5 := hb 5; have h6 := hb 6; have h7 := hb 7
    simp only [List.getD_cons_zero, List.getD_cons_succ] at h0 h1 h2 h3 h4 h5 h6 h7
    unfold be8 beN
    simp only [List.range_succ, List.range_zero, List.nil_append, List.map_append, List.map_cons, List.map_nil, List.cons_append, List.foldl_cons, List.foldl_nil, Nat.reducePow, Nat.reduceMul, Nat.reduceSub]
    simp only [List.cons.injEq]
    refine ⟨?_, ?_, ?_, ?_, ?_, ?_, ?_, ?_, trivial⟩ <;> omega
theorem num_app (x : Int) (l : List Nat) (h1 : -9223372036854775808 ≤ x) (h2 : x ≤ 9223372036854775807) : rNum (num8 x ++ l) 0 = x ∧ rTake 8 (num8 x ++ l) 0 = (some (num8 x), l, 0) := by
  have := take_app (num8 x) l 8 (num8_len x)
  refine ⟨?_, this⟩
  unfold rNum
  rw [this]
  show (beN (num8 x) : Int) - 9223372036854775808 = x
  unfold num8
  rw [beN_be8 _ (by omega)]
  omega
theorem num_inv {l l' : List Nat} {e : Int} (hl : IsB l) (h : (rTake 8 l e).2 = (l', 0)) : e = 0 ∧ l = num8 (rNum l e) ++ l' ∧ -9223372036854775808 ≤ rNum l e ∧ rNum l e ≤ 9223372036854775807 := by
  rcases hq : rTake 8 l e with ⟨o, x⟩
  rw [hq] at h; dsimp only at h; subst h
  obtain ⟨he, t, rfl, h2, h3⟩ := take_inv hq
  have hb := (isB_app (h2 ▸ hl)).1
  have hlt := beN_lt t hb 8 (by omega)
  rw [List.take_of_length_le (by omega)] at hlt
  have e1 : rNum l e = (beN t : Int) - 9223372036854775808 := by simp [rNum, hq]
  refine ⟨he, ?_, ?_, ?_⟩
  · rw [e1]; unfold num8
    rw [show ((beN t : Int) - 9223372036854775808 + 9223372036854775808).toNat = beN t by omega, be8_beN t hb h3]; exact h2
  · rw [e1]; omega
  · rw [e1]; have : (256 : Nat) ^ 8 = 18446744073709551616 := by decide
    omega
theorem nums_app (r : List Int) (hI : IsI r) : ∀ (k : Nat) (l : List Nat), k ≤ r.length → rNums k (((r.take k).map num8).flatten ++ l) 0 = (r.take k, l, 0)
  | 0, l, _ => by simp [rNums]
  | k + 1, l, hk => by
    have hx := hI k
    have ih := nums_app r hI k (num8 (r.getD k 0) ++ l) (by omega)
    have hn := num_app (r.getD k 0) l hx.1 hx.2
    have e1 : ((r.take (k + 1)).map num8).flatten ++ l = ((r.take k).map num8).flatten ++ (num8 (r.getD k 0) ++ l) := by
      rw [List.take_add_one, List.map_append, List.flatten_append, List.getElem?_eq_getElem (by omega)]
      simp [List.getD, List.getElem?_eq_getElem (show k < r.length by omega)]
    rw [e1]
    simp only [rNums, ih, hn.1, hn.2, if_true]
    rw [List.take_add_one, List.getElem?_eq_getElem (by omega)]
    simp [List.getD, List.getElem?_eq_getElem (show k < r.length by omega)]
theorem nums_inv : ∀ (k : Nat) {r : List Int} {l l' : List Nat} {e : Int}, IsB l → rNums k l e = (r, l', 0) → e = 0 ∧ r.length = k ∧ l = (r.map num8).flatten ++ l' ∧ IsI r
  | 0, r, l, l', e, hl, h => by
    simp only [rNums, Prod.mk.injEq] at h
    obtain ⟨rfl, rfl, rfl⟩ := h
    exact ⟨rfl, rfl, rfl, fun i => by simp⟩
  | k + 1, r, l, l', e, hl, h => by
    simp only [rNums] at h
    rcases hq : rNums k l e with ⟨r1, l1, e1⟩
    rw [hq] at h; dsimp only at h
    obtain ⟨h1, h2⟩ := Prod.mk.inj h
    have h3 : (rTake 8 l1 e1).2.2 = 0 := by rw [h2]
    rw [if_pos h3] at h1
    have he1 : e1 = 0 := by
      by_cases he : e1 = 0
      · exact he
      · rw [take_stuck _ _ _ he] at h3; exact h3
    subst he1
    obtain ⟨he, hlen, hl1, hI⟩ := nums_inv k hl hq
    have hb : IsB l1 := (isB_app (hl1 ▸ hl)).2
    obtain ⟨_, hn1, hn2, hn3⟩ := num_inv hb h2
    subst h1
    refine ⟨he, by simp [hlen], ?_, fun i => ?_⟩
    · rw [List.map_append, List.flatten_append, hl1]
      simp only [List.map_cons, List.map_nil, List.flatten_cons, List.flatten_nil, List.append_nil, List.append_assoc]
      rw [← hn1]
    · rcases Nat.lt_or_ge i r1.length with hi | hi
      · have := hI i; unfold List.getD at this ⊢; rwa [List.getElem?_append_left hi]
      · unfold List.getD
        rw [List.getElem?_append_right hi]
        rcases hj : i - r1.length with _ | j
        · simpa using ⟨hn2, hn3⟩
        · simp
theorem row_app (most : Nat) (r : List Int) (l : List Nat) (hI : IsI r) (h : r.length ≤ most) : rRow most (rowB r ++ l) 0 = (r, l, 0) := by
  have hb := byte_app r.length ((r.map num8).flatten ++ l)
  have hE : rRowE most (r.length :: ((r.map num8).flatten ++ l)) 0 = 0 := by
    unfold rRowE; rw [hb.1, hb.2]; exact if_neg (by omega)
  show rRow most (r.length :: ((r.map num8).flatten ++ l)) 0 = _
  unfold rRow
  have := nums_app r hI r.length l (Nat.le_refl _)
  rw [List.take_length] at this
  rw [hE, hb.1, hb.2, this]; simp
theorem row_inv {most : Nat} {r : List Int} {l l' : List Nat} {e : Int} (hl : IsB l) (h : rRow most l e = (r, l', 0)) : e = 0 ∧ l = rowB r ++ l' ∧ r.length ≤ most ∧ IsI r := by
  unfold rRow at h
  rcases hq : rNums (rByte l e) (rTake 1 l e).2.1 (rRowE most l e) with ⟨r1, l1, e1⟩
  rw [hq] at h; dsimp only at h
  obtain ⟨h1, h2⟩ := Prod.mk.inj h
  obtain ⟨rfl, rfl⟩ := Prod.mk.inj h2
  simp only [if_true] at h1
  subst h1
  rcases ht : rTake 1 l e with ⟨o, l2, e2⟩
  have hE : rRowE most l e = if most < rByte l e ∧ e2 = 0 then 10 else e2 := by unfold rRowE; rw [ht]
  have hl2 : IsB l2 := by
    have : l2 = l ∨ ∃ k, l2 = l.drop k := by
      unfold rTake at ht
      split at ht
      · simp only [Prod.mk.injEq] at ht; exact .inl ht.2.1.symm
      · split at ht <;> simp only [Prod.mk.injEq] at ht
        · exact .inl ht.2.1.symm
        · exact .inr ⟨1, ht.2.1.symm⟩
    rcases this with rfl | ⟨k, rfl⟩
    · exact hl
    · exact isB_drop hl k
  rw [ht] at hq; dsimp only at hq
  obtain ⟨h3, h4, h5, h6⟩ := nums_inv _ hl2 hq
  rw [hE] at h3
  split at h3
  · cases h3
  · rename_i hm
    subst h3
    obtain ⟨he, h7⟩ := byte_inv (l := l) (l' := l2) (e := e) (by rw [ht])
    refine ⟨he, ?_, by omega, h6⟩
    unfold rowB
    rw [h7, h5, h4]; rfl
theorem dig_app (t l : List Nat) (h : t.length = 32) : rDig (t ++ l) 0 = t ∧ (rTake 32 (t ++ l) 0).2 = (l, 0) := by
  simp [rDig, take_app t l 32 h]
theorem dig_inv {l l' : List Nat} {e : Int} (h : (rTake 32 l e).2 = (l', 0)) : e = 0 ∧ l = rDig l e ++ l' ∧ (rDig l e).length = 32 := by
  rcases hq : rTake 32 l e with ⟨o, x⟩
  rw [hq] at h; dsimp only at h; subst h
  obtain ⟨he, t, rfl, h2, h3⟩ := take_inv hq
  have h4 : rDig l e = t := by unfold rDig; rw [hq]; rfl
  rw [h4]; exact ⟨he, h2, h3⟩
end Go.Proofs.Ytgcbodpjidoanaa
namespace Go.Proofs.Ytgcbodpjidoanaa
open Go.RowKit
/-- may a byte stand at place i of a name? -/
def okCh (i c : Nat) : Bool := (decide (97 ≤ c) && decide (c ≤ 122)) || (decide (0 < i) && ((decide (48 ≤ c) && decide (c ≤ 57)) || decide (c = 95)))
def okTo (s : List Nat) (k : Nat) : Bool := (List.range k).all fun i => okCh i (s.getD i 0)
/-- is a text a name? -/
def nameB (s : List Nat) : Bool := okTo s s.length && (decide (0 < s.length) && decide (s.length ≤ 16))
def idS : ByteArray := ⟨#[105, 100]⟩
/-- is the column k one that may be, behind those ahead? -/
def colB (l : List ByteArray) (k : Nat) : Bool := nameB (nb (l.getD k default)) && (!decide (l.getD k default = idS) && (List.range k).all fun j => !decide (l.getD j default = l.getD k default))
def colsTo (l : List ByteArray) (k : Nat) : Bool := (List.range k).all (colB l)
def colsB (l : List ByteArray) : Bool := colsTo l l.length && (decide (0 < l.length) && decide (l.length ≤ 7))
/-- a change -/
structure OpD where
  kind : Nat
  table : ByteArray
  cols : List ByteArray
  row : List Int
/-- may a change be? -/
def oprB (o : OpD) : Bool := nameB (nb o.table) && (
  if o.kind = 1 then colsB o.cols && decide (o.row.length = 0)
  else if o.kind = 2 then decide (o.cols.length = 0) && decide (o.row.length = 0)
  else if o.kind = 3 ∨ o.kind = 4 then decide (o.cols.length = 0) && (decide (2 ≤ o.row.length) && decide (o.row.length ≤ 8))
  else false)
def textsB (l : List ByteArray) : List Nat := (l.map fun s => textB (nb s)).flatten
/-- a change's bytes -/
def opB (o : OpD) : List Nat := [o.kind] ++ textB (nb o.table) ++ (if o.kind = 1 then [o.cols.length] ++ textsB o.cols else []) ++ (if o.kind = 3 ∨ o.kind = 4 then rowB o.row else [])
def opsB (l : List OpD) : List Nat := be3 l.length ++ (l.map opB).flatten
instance : Inhabited OpD := ⟨⟨0, default, [], []⟩⟩
/-! ### reading -/
/-- k texts that are read in turn -/
def rTexts : Nat → List Nat → Int → List ByteArray × List Nat × Int
  | 0, l, e => ([], l, e)
  | k + 1, l, e =>
    let s := rTexts k l e
    (s.1 ++ [bstr (rText 16 s.2.1 s.2.2).1], (rText 16 s.2.1 s.2.2).2)
/-- a change that is read; of its columns no more than lim -/
def rOp (lim : Nat) (l : List Nat) (e : Int) : OpD × List Nat × Int :=
  let k := rByte l e
  let t := rText 16 (rTake 1 l e).2.1 (rTake 1 l e).2.2
  if k = 1 then
    let s := rTexts (min (rByte t.2.1 t.2.2) lim) (rTake 1 t.2.1 t.2.2).2.1 (rTake 1 t.2.1 t.2.2).2.2
    (⟨k, bstr t.1, s.1, []⟩, s.2)
  else if k = 3 ∨ k = 4 then
    let s := rRow 8 t.2.1 t.2.2
    (⟨k, bstr t.1, [], s.1⟩, s.2)
  else (⟨k, bstr t.1, [], []⟩, t.2)
/-- n changes more, behind acc; none where one is not read well, or ok says no -/
def rOps (lim : Nat) (ok : OpD → Bool) : Nat → List Nat → List OpD → Option (List OpD × List Nat)
  | 0, l, acc => some (acc, l)
  | n + 1, l, acc => if (rOp lim l 0).2.2 = 0 ∧ ok (rOp lim l 0).1 = true then rOps lim ok n (rOp lim l 0).2.1 (acc ++ [(rOp lim l 0).1]) else none
/-- the changes of bytes, as the document reads them -/
def readR (b : List Nat) : Option (List OpD) :=
  match rOps 256 oprB (rCount 256 b 0).1 (rCount 256 b 0).2.1 [] with
  | some (m, l) => if (rCount 256 b 0).2.2 = 0 ∧ l = [] then some m else none
  | none => none
/-- as the program reads them -/
def readP (b : List Nat) : Option (List OpD) :=
  match rOps 8 (fun _ => true) (rCount 256 b 0).1 (rCount 256 b 0).2.1 [] with
  | some (m, l) => if (rCount 256 b 0).2.2 = 0 ∧ l = [] ∧ (m.all oprB = true ∧ opsB m = b) then some m else none
  | none => none
/-- changes that may be -/
def allB (l : List OpD) : Bool := l.all oprB && decide (l.length ≤ 256)
/-! what is left is a part of what was there -/
def Suf (l' l : List Nat) : Prop := ∃ k, l' = l.drop k
theorem Suf.refl (l : List Nat) : Suf l l := ⟨0, rfl⟩
theorem Suf.trans {a b c : List Nat} (h : Suf a b) (g : Suf b c) : Suf a c := by
  obtain ⟨k, rfl⟩ := h; obtain ⟨j, rfl⟩ := g; exact ⟨j + k, by rw [List.drop_drop]⟩
theorem Suf.isB {a b : List Nat} (h : Suf a b) (hb : IsB b) : IsB a := by obtain ⟨k, rfl⟩ := h; exact isB_drop hb k
theorem take_suf (k : Nat) (l : List Nat) (e : Int) : Suf (rTake k l e).2.1 l := by
  unfold rTake
  split
  · exact Suf.refl l
  · split
    · exact Suf.refl l
    · exact ⟨k, rfl⟩
theorem count_suf (most : Nat) (l : List Nat) (e : Int) : Suf (rCount most l e).2.1 l := by
  have := take_suf 3 l e
  unfold rCount
  rcases hq : rTake 3 l e with ⟨_ | t, l', e'⟩ <;> rw [hq] at this
  · exact this
  · dsimp only; split <;> exact this
theorem nums_suf (k : Nat) (l : List Nat) (e : Int) : Suf (rNums k l e).2.1 l := by
  induction k with
  | zero => exact Suf.refl l
  | succ k ih => exact (take_suf 8 _ _).trans ih
theorem row_suf (most : Nat) (l : List Nat) (e : Int) : Suf (rRow most l e).2.1 l := (nums_suf _ _ _).trans (take_suf 1 l e)
end Go.Proofs.Ytgcbodpjidoanaa
namespace Go.Proofs.Ytgcbodpjidoanaa
open Go.RowKit
/-- texts -/
def strs (l : List ByteArray) (i : Nat) : Value := .string (l.getD i default)
/-- is a text among the first k ones? -/
def hasTo (l : List ByteArray) (t : ByteArray) (k : Nat) : Bool := (List.range k).all fun j => !decide (l.getD j default = t)
end Go.Proofs.Ytgcbodpjidoanaa
namespace Go.Proofs.Ytgcbodpjidoanaa
open Go.RowKit
end Go.Proofs.Ytgcbodpjidoanaa
namespace Go.Proofs.Ytgcbodpjidoanaa
open Go.RowKit
/-- a change as a value -/
def opV (k : Nat) (t : ByteArray) (AC : Option Addr) (nc cc : Nat) (AR : Option Addr) (nr cr : Nat) : List Value := [.int .u8 k, .string t, .slice AC nc cc, .slice AR nr cr]
end Go.Proofs.Ytgcbodpjidoanaa
namespace Go.Proofs.Ytgcbodpjidoanaa
open Go.RowKit
end Go.Proofs.Ytgcbodpjidoanaa
namespace Go.Proofs.Ytgcbodpjidoanaa
open Go.RowKit

theorem enter_fn {f : FuncId} {fn : Func} (hf : Try.prog.funcs[f]? = some fn) (hn : (fn.name == "runtime.NumGoroutine") = false) (hb : fn.body.isNone = false) (args : Array Value) (w : World) : (callFunc f args).run Try.prog w = .ok (.enter f args) w := by
  have h1 : (fn.name = "runtime.NumGoroutine") = False := by simpa using hn
  simp [callFunc, hf, h1, hb, program, Sem.run]
  intro h; simp [h] at hb
/-- n structs of s cells each, cs i, lie at A, below block B -/
def ArrC (w : World) (B : Nat) (A : Option Addr) (n s : Nat) (cs : Nat → List Value) : Prop :=
  0 < n → ∃ b off, A = some ⟨b, off, none⟩ ∧ b < B ∧ ∀ i, i < n → w.rangeAt b (off + i * s) (cs i)
section
variable {w w' : World} {B B' n s : Nat} {A : Option Addr} {cs ds : Nat → List Value}
theorem ArrC.below (h : ArrC w B A n s cs) (hb : Below B w w') : ArrC w' B A n s cs := fun hn => by
  obtain ⟨b, off, e, hB, hc⟩ := h hn
  exact ⟨b, off, e, hB, fun i hi j v hv => (hb.cell (p := ⟨b, off + i * s + j, none⟩) hB).trans (hc i hi j v hv)⟩
theorem ArrC.more (h : ArrC w B A n s cs) (hB : B ≤ B') : ArrC w B' A n s cs := fun hn => by
  obtain ⟨b, off, e, hb, hc⟩ := h hn
  exact ⟨b, off, e, by omega, hc⟩
theorem ArrC.after (h : ArrC w w.heap.size A n s cs) (hb : Below w.heap.size w w') : ArrC w' w'.heap.size A n s cs := (h.below hb).more hb.size
theorem ArrC.congr (h : ArrC w B A n s cs) (e : ∀ i, i < n → cs i = ds i) : ArrC w B A n s ds := fun hn => by
  obtain ⟨b, off, ea, hb, hc⟩ := h hn
  exact ⟨b, off, ea, hb, fun i hi => by rw [← e i hi]; exact hc i hi⟩
theorem ArrC.none_ : ArrC w B A 0 s cs := fun h => absurd h (by omega)
end
def anyTo (p : Nat → Bool) (k : Nat) : Bool := (List.range k).any p
theorem anyTo_succ (p : Nat → Bool) (k : Nat) : anyTo p (k + 1) = (anyTo p k || p k) := by simp [anyTo, List.range_succ, List.any_append]
theorem anyTo_true {p : Nat → Bool} {k n : Nat} (hk : k < n) (h : p k = true) : anyTo p n = true := List.any_eq_true.2 ⟨k, List.mem_range.2 hk, h⟩
end Go.Proofs.Ytgcbodpjidoanaa
namespace Go.Proofs.Ytgcbodpjidoanaa
open Go.RowKit
theorem Row.mv {S S1 : Nat → Prop} {w w1 : World} {g : Nat} {t : TypeId} {cs : List Value} (h : Row w g t cs) (m : Mv S w S1 w1) (hn : ¬ S g) : Row w1 g t cs := (m.but.block g (Row.lt h) hn).trans h
end Go.Proofs.Ytgcbodpjidoanaa
