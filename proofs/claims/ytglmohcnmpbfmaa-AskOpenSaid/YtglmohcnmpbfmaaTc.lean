/- The stable merge of two lists, and the stable sort, plainly. -/
import Derived.Test.YtglmohcnmpbfmaaTb
set_option linter.unusedVariables false
set_option linter.unusedSimpArgs false
namespace Go.Proofs.Ytglmohcnmpbfmaa
/-- an order where what isn't ahead goes on: of three, none is ahead of another one without the third telling it -/
structure Swo {α : Type} (lt : α → α → Bool) : Prop where
  tr : ∀ x y z, lt x y = true → lt y z = true → lt x z = true
  ng : ∀ x y z, lt x y = false → lt y z = false → lt x z = false
  ir : ∀ x, lt x x = false
section
variable {α : Type} {lt : α → α → Bool}
theorem Swo.asym (h : Swo lt) {x y : α} (k : lt x y = true) : lt y x = false := by
  cases e : lt y x with
  | false => rfl
  | true => have := h.tr _ _ _ k e; rw [h.ir] at this; cases this
/-- a is ahead of b, c is not behind.. : a < b, not c < b: a < c -/
theorem Swo.lt_le (h : Swo lt) {x y z : α} (k : lt x y = true) (q : lt z y = false) : lt x z = true := by
  cases e : lt x z with
  | true => rfl
  | false => have := h.ng _ _ _ e q; rw [k] at this; cases this
theorem Swo.le_lt (h : Swo lt) {x y z : α} (k : lt y x = false) (q : lt y z = true) : lt x z = true := by
  cases e : lt x z with
  | true => rfl
  | false => have := h.ng _ _ _ k e; rw [q] at this; cases this
/-- both in order: the right one's elements only where they are ahead -/
def mrg (lt : α → α → Bool) : List α → List α → List α
  | [], r => r
  | l :: L, [] => l :: L
  | l :: L, r :: R => if lt r l = true then r :: mrg lt (l :: L) R else l :: mrg lt L (r :: R)
termination_by L R => L.length + R.length
theorem mrg_nil (R : List α) : mrg lt [] R = R := by rw [mrg]
theorem mrg_nil' (L : List α) : mrg lt L [] = L := by cases L <;> rw [mrg]
theorem mrg_lt {l r : α} (L R : List α) (h : lt r l = true) : mrg lt (l :: L) (r :: R) = r :: mrg lt (l :: L) R := by rw [mrg, if_pos h]
theorem mrg_ge {l r : α} (L R : List α) (h : lt r l = false) : mrg lt (l :: L) (r :: R) = l :: mrg lt L (r :: R) := by rw [mrg, if_neg (by rw [h]; decide)]
theorem mrg_len : ∀ (n : Nat) (L R : List α), L.length + R.length = n → (mrg lt L R).length = n
  | n, [], R, h => by rw [mrg_nil]; simpa using h
  | n, l :: L, [], h => by rw [mrg_nil']; simpa using h
  | 0, l :: L, r :: R, h => by simp at h
  | n + 1, l :: L, r :: R, h => by
    cases e : lt r l with
    | true => rw [mrg_lt L R e, List.length_cons, mrg_len n _ _ (by simp at h ⊢; omega)]
    | false => rw [mrg_ge L R e, List.length_cons, mrg_len n _ _ (by simp at h ⊢; omega)]
theorem mrg_mem {x : α} : ∀ (n : Nat) (L R : List α), L.length + R.length = n → (x ∈ mrg lt L R ↔ x ∈ L ∨ x ∈ R)
  | n, [], R, h => by rw [mrg_nil]; simp
  | n, l :: L, [], h => by rw [mrg_nil']; simp
  | 0, l :: L, r :: R, h => by simp at h
  | n + 1, l :: L, r :: R, h => by
    cases e : lt r l with
    | true =>
      rw [mrg_lt L R e, List.mem_cons, mrg_mem n _ _ (by simp at h ⊢; omega), List.mem_cons]
      constructor
      · rintro (h | (h | h) | h) <;> simp_all
      · rintro ((h | h) | h) <;> simp_all
        rcases h with h | h <;> simp_all
    | false =>
      rw [mrg_ge L R e, List.mem_cons, mrg_mem n _ _ (by simp at h ⊢; omega)]
      simp only [List.mem_cons, or_assoc]
/-- cut where all of one side's first part are ahead of the other one's second part -/
theorem mrg_cut (L2 R2 : List α) : ∀ (n : Nat) (L1 R1 : List α), L1.length + R1.length = n → (∀ r ∈ R1, ∀ l ∈ L2, lt r l = true) → (∀ l ∈ L1, ∀ r ∈ R2, lt r l = false) →
    mrg lt (L1 ++ L2) (R1 ++ R2) = mrg lt L1 R1 ++ mrg lt L2 R2
  | _, [], [], _, _, _ => by rw [mrg_nil]; rfl
  | 0, _ :: _, _, h, _, _ => by simp at h
  | 0, [], _ :: _, h, _, _ => by simp at h
  | n + 1, [], r :: R1, h, h1, h2 => by
    rw [mrg_nil]
    have ih := mrg_cut L2 R2 n [] R1 (by simp at h ⊢; omega) (fun x hx => h1 x (List.mem_cons_of_mem _ hx)) (fun l hl => by cases hl)
    rw [mrg_nil] at ih
    simp only [List.nil_append, List.cons_append] at ih ⊢
    cases L2 with
    | nil => rw [mrg_nil, mrg_nil]
    | cons l L2 => rw [mrg_lt _ _ (h1 r (List.mem_cons_self ..) l (List.mem_cons_self ..)), ih]
  | n + 1, l :: L1, [], h, h1, h2 => by
    rw [mrg_nil']
    have ih := mrg_cut L2 R2 n L1 [] (by simp at h ⊢; omega) (fun x hx => by cases hx) (fun x hx => h2 x (List.mem_cons_of_mem _ hx))
    rw [mrg_nil'] at ih
    simp only [List.nil_append, List.cons_append] at ih ⊢
    cases R2 with
    | nil => rw [mrg_nil', mrg_nil']
    | cons r R2 => rw [mrg_ge _ _ (h2 l (List.mem_cons_self ..) r (List.mem_cons_self ..)), ih]
  | n + 1, l :: L1, r :: R1, h, h1, h2 => by
    simp only [List.cons_append]
    cases e : lt r l with
    | true =>
      rw [mrg_lt _ _ e, mrg_lt _ _ e]
      have ih := mrg_cut L2 R2 n (l :: L1) R1 (by simp at h ⊢; omega) (fun x hx => h1 x (List.mem_cons_of_mem _ hx)) h2
      simp only [List.cons_append] at ih ⊢
      rw [ih]
    | false =>
      rw [mrg_ge _ _ e, mrg_ge _ _ e]
      have ih := mrg_cut L2 R2 n L1 (r :: R1) (by simp at h ⊢; omega) h1 (fun x hx => h2 x (List.mem_cons_of_mem _ hx))
      simp only [List.cons_append] at ih ⊢
      rw [ih]
theorem mrg_assoc (H : Swo lt) : ∀ (n : Nat) (X Y Z : List α), X.length + Y.length + Z.length = n → mrg lt X (mrg lt Y Z) = mrg lt (mrg lt X Y) Z
  | _, [], Y, Z, _ => by rw [mrg_nil, mrg_nil]
  | _, x :: X, [], Z, _ => by rw [mrg_nil, mrg_nil']
  | _, x :: X, y :: Y, [], _ => by rw [mrg_nil', mrg_nil']
  | 0, x :: X, y :: Y, z :: Z, h => by simp at h
  | n + 1, x :: X, y :: Y, z :: Z, h => by
    have i1 := mrg_assoc H n (x :: X) (y :: Y) Z (by simp at h ⊢; omega)
    have i2 := mrg_assoc H n (x :: X) Y (z :: Z) (by simp at h ⊢; omega)
    have i3 := mrg_assoc H n X (y :: Y) (z :: Z) (by simp at h ⊢; omega)
    cases zy : lt z y with
    | true =>
      rw [mrg_lt Y Z zy] at i3 ⊢
      cases yx : lt y x with
      | true =>
        have zx := H.tr _ _ _ zy yx
        rw [mrg_lt X Y yx] at i1 ⊢
        rw [mrg_lt _ _ zx, mrg_lt _ _ zy, i1]
      | false =>
        rw [mrg_ge X Y yx] at i1 ⊢
        cases zx : lt z x with
        | true => rw [mrg_lt _ _ zx, mrg_lt _ _ zx, i1]
        | false => rw [mrg_ge _ _ zx, mrg_ge _ _ zx, i3]
    | false =>
      rw [mrg_ge Y Z zy] at i3 ⊢
      cases yx : lt y x with
      | true =>
        rw [mrg_lt _ _ yx, mrg_lt _ _ yx, mrg_ge _ _ zy, i2]
      | false =>
        have zx := H.ng _ _ _ zy yx
        rw [mrg_ge _ _ yx, mrg_ge _ _ yx, mrg_ge _ _ zx, i3]
/-- in order: none ahead of an earlier one -/
def Srt (lt : α → α → Bool) (L : List α) : Prop := L.Pairwise fun x y => lt y x = false
theorem mrg_srt (H : Swo lt) : ∀ (n : Nat) (L R : List α), L.length + R.length = n → Srt lt L → Srt lt R → Srt lt (mrg lt L R)
  | n, [], R, h, _, hR => by rw [mrg_nil]; exact hR
  | n, l :: L, [], h, hL, _ => by rw [mrg_nil']; exact hL
  | 0, l :: L, r :: R, h, _, _ => by simp at h
  | n + 1, l :: L, r :: R, h, hL, hR => by
    have hL' := List.pairwise_cons.1 hL
    have hR' := List.pairwise_cons.1 hR
    cases e : lt r l with
    | true =>
      rw [mrg_lt L R e]
      refine List.pairwise_cons.2 ⟨fun x hx => ?_, mrg_srt H n _ _ (by simp at h ⊢; omega) hL hR'.2⟩
      rw [mrg_mem n _ _ (by simp at h ⊢; omega)] at hx
      rcases hx with hx | hx
      · rcases List.mem_cons.1 hx with rfl | hx
        · exact H.asym e
        · exact H.ng _ _ _ (hL'.1 x hx) (H.asym e)
      · exact hR'.1 x hx
    | false =>
      rw [mrg_ge L R e]
      refine List.pairwise_cons.2 ⟨fun x hx => ?_, mrg_srt H n _ _ (by simp at h ⊢; omega) hL'.2 hR⟩
      rw [mrg_mem n _ _ (by simp at h ⊢; omega)] at hx
      rcases hx with hx | hx
      · exact hL'.1 x hx
      · rcases List.mem_cons.1 hx with rfl | hx
        · exact e
        · exact H.ng _ _ _ (hR'.1 x hx) e
/-- the stable sort: one by one -/
def srt (lt : α → α → Bool) (L : List α) : List α := L.foldl (fun o x => mrg lt o [x]) []
theorem srt_snoc (L : List α) (x : α) : srt lt (L ++ [x]) = mrg lt (srt lt L) [x] := by unfold srt; rw [List.foldl_append]; rfl
theorem snoc_ind {p : List α → Prop} (h0 : p []) (h1 : ∀ L x, p L → p (L ++ [x])) (L : List α) : p L := by
  have : ∀ n (L : List α), L.length = n → p L := by
    intro n
    induction n with
    | zero => intro L h; obtain rfl := List.length_eq_zero_iff.1 h; exact h0
    | succ n ih =>
      intro L h
      have hne : L ≠ [] := by rintro rfl; simp at h
      rw [← List.dropLast_concat_getLast hne]
      exact h1 _ _ (ih _ (by simp [h]))
  exact this _ L rfl
theorem srt_app (H : Swo lt) (A B : List α) : srt lt (A ++ B) = mrg lt (srt lt A) (srt lt B) := by
  induction B using snoc_ind with
  | h0 => rw [List.append_nil, show srt lt ([] : List α) = [] from rfl, mrg_nil']
  | h1 B x ih => rw [← List.append_assoc, srt_snoc, ih, srt_snoc, mrg_assoc H _ _ _ _ rfl]
theorem srt_len (L : List α) : (srt lt L).length = L.length := by
  induction L using snoc_ind with
  | h0 => rfl
  | h1 B x ih => rw [srt_snoc, mrg_len _ _ _ rfl, ih]; simp
theorem srt_mem {x : α} (L : List α) : x ∈ srt lt L ↔ x ∈ L := by
  induction L using snoc_ind with
  | h0 => exact Iff.rfl
  | h1 B y ih => rw [srt_snoc, mrg_mem _ _ _ rfl, ih]; simp
theorem srt_srt (H : Swo lt) (L : List α) : Srt lt (srt lt L) := by
  induction L using snoc_ind with
  | h0 => exact List.Pairwise.nil
  | h1 B y ih => rw [srt_snoc]; exact mrg_srt H _ _ _ rfl ih (List.pairwise_singleton _ _)
/-- the last one goes in ahead of those behind it: from the end on -/
theorem mrg_one_end (H : Swo lt) (L : List α) (y x : α) (hS : Srt lt (L ++ [y])) : mrg lt (L ++ [y]) [x] = if lt x y = true then mrg lt L [x] ++ [y] else L ++ [y] ++ [x] := by
  have hall : ∀ l ∈ L, lt y l = false := fun l hl => (List.pairwise_append.1 hS).2.2 l hl y (by simp)
  split
  · rename_i h
    have := mrg_cut (lt := lt) [y] [] _ L [x] rfl (fun r hr l hl => by simp at hr hl; subst hr hl; exact h) (fun l _ r hr => by cases hr)
    rw [List.append_nil, mrg_nil'] at this
    exact this
  · rename_i h
    have h : lt x y = false := by simpa using h
    have := mrg_cut (lt := lt) [] [x] _ (L ++ [y]) [] rfl (fun r hr => by cases hr) (fun l hl r hr => by
      simp only [List.mem_singleton] at hr
      subst hr
      rcases List.mem_append.1 hl with hl | hl
      · exact H.ng _ _ _ h (hall l hl)
      · simp only [List.mem_singleton] at hl; subst hl; exact h)
    rw [List.append_nil, mrg_nil', mrg_nil] at this
    exact this
end
end Go.Proofs.Ytglmohcnmpbfmaa
