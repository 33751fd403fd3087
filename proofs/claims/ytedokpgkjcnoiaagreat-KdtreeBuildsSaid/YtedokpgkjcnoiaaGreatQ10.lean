/- An operation, seen from afar: which slots and objects it hangs on. No program in sight. -/
import Derived.Test.YtedokpgkjcnoiaaGreatQ9
set_option linter.unusedVariables false
set_option linter.unusedSimpArgs false
namespace Go.Proofs.YtedokpgkjcnoiaaGreat
open Go.RowKit
def ref0 : AV → List Nat
 | .ptr o _ _ _ => [o]
 | .own o _ => [o]
 | .win o _ _ _ _ => [o]
 | _ => []
def refL : List AV → List Nat
 | [] => []
 | a :: r => ref0 a ++ refL r
def refs : AV → List Nat
 | .agg cs => refL cs
 | .fn _ x y => refL x ++ refL y
 | a => ref0 a
def refA : List AV → List Nat
 | [] => []
 | a :: r => refs a ++ refA r
def Ag (H H' : OH) (l : List Nat) : Prop := ∀ x ∈ l, look H x = look H' x
section
variable {H H' : OH}
theorem Ag.left {l m : List Nat} (h : Ag H H' (l ++ m)) : Ag H H' l := fun x hx => h x (List.mem_append_left _ hx)
theorem Ag.right {l m : List Nat} (h : Ag H H' (l ++ m)) : Ag H H' m := fun x hx => h x (List.mem_append_right _ hx)
theorem Ag.one {o : Nat} (h : Ag H H' [o]) : look H o = look H' o := h o (List.mem_singleton.2 rfl)
theorem curG_ag {o g : Nat} (h : look H o = look H' o) : curG H o g = curG H' o g := by simp only [curG, h]
theorem okCell_ag {a : AV} (h : Ag H H' (ref0 a)) : okCell H a = okCell H' a := by
 cases a with
 | ptr o g i j => exact curG_ag h.one
 | own o g => exact curG_ag h.one
 | d x => cases x <;> rfl
 | _ => rfl
theorem okAll_ag : ∀ {cs : List AV}, Ag H H' (refL cs) → cs.all (okCell H) = cs.all (okCell H')
 | [], _ => rfl
 | a :: r, h => by simp only [List.all_cons, okCell_ag (a := a) h.left, okAll_ag h.right]
theorem toD_ag {a : AV} (h : Ag H H' (ref0 a)) : toD H a = toD H' a := by
 cases a with
 | own o g => simp only [toD, h.one]
 | _ => rfl
theorem toDs_ag : ∀ {cs : List AV}, Ag H H' (refL cs) → toDs H cs = toDs H' cs
 | [], _ => rfl
 | a :: r, h => by simp only [toDs, toD_ag (a := a) h.left, toDs_ag h.right]
theorem refL_exs : ∀ l : List Value, refL (l.map fun y => AV.d (.v y)) = []
 | [] => rfl
 | _ :: r => by simp only [List.map_cons, refL, ref0, List.nil_append]; exact refL_exs r
theorem cellsA_refs {a : AV} {cs : List AV} (h : cellsA a = some cs) : ∀ x ∈ refL cs, x ∈ refs a := by
 cases a with
 | d x =>
  cases x with
  | v y =>
   intro x hx
   cases y <;> simp only [cellsA, Option.some.injEq] at h <;> subst h <;> first
    | (simp [refL, ref0] at hx; done)
    | (rw [refL_exs] at hx; cases hx)
  | sl a b c => simp only [cellsA, Option.some.injEq] at h; subst h; intro x hx; simp [refL, ref0] at hx
  | p ds => simp only [cellsA, Option.some.injEq] at h; subst h; intro x hx; simp [refL, ref0] at hx
  | fn f ds => simp only [cellsA, Option.some.injEq] at h; subst h; intro x hx; simp [refL, ref0] at hx
 | agg ds => simp only [cellsA, Option.some.injEq] at h; subst h; exact fun x hx => hx
 | dp ds => simp only [cellsA, Option.some.injEq] at h; subst h; intro x hx; simp [refL, ref0] at hx
 | ptr o g i j => simp only [cellsA, Option.some.injEq] at h; subst h; intro x hx; simpa [refL, ref0, refs] using hx
 | own o g => simp only [cellsA, Option.some.injEq] at h; subst h; intro x hx; simpa [refL, ref0, refs] using hx
 | any => cases h
 | fn f y z =>
  cases y with
  | cons _ _ => simp [cellsA] at h
  | nil =>
   simp only [cellsA] at h
   split at h
   ·obtain rfl := Option.some.inj h; intro x hx; simp [refL, ref0] at hx
   ·cases h
 | tup x => cases h
 | win a b c d e => cases h
theorem Ag.cells {a : AV} {cs : List AV} (h : Ag H H' (refs a)) (hc : cellsA a = some cs) : Ag H H' (refL cs) := fun x hx => h x (cellsA_refs hc x hx)
theorem atA_ag {a : AV} (h : Ag H H' (refs a)) : atA H a = atA H' a := by
 cases a with
 | ptr o g i j => simp only [atA, (show Ag H H' [o] from h).one]
 | _ => rfl
theorem srcA_ag {a : AV} (h : Ag H H' (refs a)) : srcA H a = srcA H' a := by
 cases a with
 | own o g => simp only [srcA, (show Ag H H' [o] from h).one]
 | d x => cases x <;> rfl
 | _ => rfl
theorem srcX_ag {k : Nat} {a : AV} (h : Ag H H' (refs a)) : srcX k H a = srcX k H' a := by
 unfold srcX
 split
 ·rfl
 ·exact srcA_ag h
theorem aNilC_ag {a : AV} (h : Ag H H' (refs a)) : aNilC H a = aNilC H' a := by
 cases a with
 | ptr o g i j => simp only [aNilC]; rw [curG_ag (show Ag H H' [o] from h).one]
 | _ => rfl
theorem aFieldAddr_ag {P : Program} {T k : Nat} {a : AV} (h : Ag H H' (refs a)) : aFieldAddr P H T a k = aFieldAddr P H' T a k := by
 unfold aFieldAddr
 cases fieldOff P T k with
 | none => rfl
 | some off =>
  cases a with
  | ptr o g i j => simp only []; rw [curG_ag (show Ag H H' [o] from h).one]
  | _ => rfl
theorem aConv_ag {P : Program} {S T : Nat} {a : AV} (h : Ag H H' (refs a)) : aConv P H S T a = aConv P H' S T a := by
  have hs := srcA_ag h
  unfold aConv
  cases P.underlying S with
  | none => rfl
  | some d =>
    cases P.underlying T with
    | none => cases d <;> rfl
    | some d' => cases d <;> cases d' <;> first | rfl | (simp only [hs]; done) | skip
                 all_goals (cases a with
                   | d x => cases x with
                     | v y => cases y <;> simp only [hs]
                     | sl a b c => simp only [hs]
                     | p ds => simp only [hs]
                     | fn f ds => simp only [hs]
                   | _ => simp only [hs])
theorem aIndexAddr_ag {P : Program} {T : Nat} {a b : AV} (h : Ag H H' (refs a)) : aIndexAddr P H T a b = aIndexAddr P H' T a b := by
 have h1 : ∀ o g, a = .own o g → look H o = look H' o := fun o g e => by subst e; exact (show Ag H H' [o] from h).one
 have h2 : ∀ o g i j, a = .ptr o g i j → look H o = look H' o := fun o g i j e => by subst e; exact (show Ag H H' [o] from h).one
 unfold aIndexAddr
 split
 ·split
  ·split
   ·rfl
   ·rw [h1 _ _ rfl]
   ·rfl
  ·rfl
 ·split
  ·rw [curG_ag (h2 _ _ _ _ rfl)]
  ·rfl
  ·rfl
 ·rfl
theorem aLenM_ag {P : Program} {T : Nat} {a : AV} (h : Ag H H' (refs a)) : aLenM P H T a = aLenM P H' T a := by
 have h1 : ∀ o g, a = .own o g → look H o = look H' o := fun o g e => by subst e; exact (show Ag H H' [o] from h).one
 unfold aLenM
 split
 ·rw [h1 _ _ rfl]
 ·rfl
theorem toD_agA {a : AV} (h : Ag H H' (refs a)) : toD H a = toD H' a := by
 cases a with
 | own o g => exact toD_ag (a := .own o g) h
 | _ => rfl
theorem aLookup_ag {P : Program} {w : Cho} {t : TypeId} {m x : AV} {c : Bool} (h : Ag H H' (refs m)) : aLookup P H w t m x c = aLookup P H' w t m x c := by
 have h1 : ∀ o g, m = .own o g → look H o = look H' o := fun o g e => by subst e; exact (show Ag H H' [o] from h).one
 unfold aLookup
 split
 ·rw [h1 _ _ rfl]
 ·rfl
theorem aMapUpd_ag {P : Program} {w : Cho} {t : TypeId} {m x y : AV} (h : Ag H H' (refs m)) (k : Ag H H' (refs y)) : aMapUpd P H w t m x y = aMapUpd P H' w t m x y := by
 have h1 : ∀ o g, m = .own o g → look H o = look H' o := fun o g e => by subst e; exact (show Ag H H' [o] from h).one
 unfold aMapUpd
 split
 ·rw [h1 _ _ rfl, toD_agA k]
 ·rfl
theorem aLen_ag {P : Program} {T : Nat} {a : AV} (h : Ag H H' (refs a)) : aLen P H T a = aLen P H' T a := by
 have h1 : ∀ o g, a = .own o g → look H o = look H' o := fun o g e => by subst e; exact (show Ag H H' [o] from h).one
 have hw : ∀ o g x s n, a = .win o g x s n → look H o = look H' o := fun o g x s n e => by subst e; exact (show Ag H H' [o] from h).one
 unfold aLen
 split
 ·rfl
 ·rw [h1 _ _ rfl]
 ·rfl
 ·rw [curG_ag (hw _ _ _ _ _ rfl)]
 ·rfl
 ·rfl
 ·rfl
theorem aAppend_ag {P : Program} {o T : Nat} {a b : AV} (h : Ag H H' (refs a)) (hb : Ag H H' (refs b)) (ho : look H o = look H' o) : aAppend P H o T a b = aAppend P H' o T a b := by
 have h1 : ∀ o g, a = .own o g → look H o = look H' o := fun o g e => by subst e; exact (show Ag H H' [o] from h).one
 have hs : ∀ k, srcX k H b = srcX k H' b := fun k => srcX_ag hb
 unfold aAppend
 simp only [hs, ho]
 split
 ·split
  ·split
   ·split
    ·split
     ·rw [h1 _ _ rfl]
     ·rfl
     ·rfl
    ·rfl
   ·rfl
  ·rfl
 ·rfl
theorem aSliceO_ag {P : Program} {T : Nat} {a : AV} {lo hi : Option AV} (h : Ag H H' (refs a)) : aSliceO P H T a lo hi = aSliceO P H' T a lo hi := by
 have h1 : ∀ o g, a = .own o g → look H o = look H' o := fun o g e => by subst e; exact (show Ag H H' [o] from h).one
 have h2 : ∀ o g i j, a = .ptr o g i j → look H o = look H' o := fun o g i j e => by subst e; exact (show Ag H H' [o] from h).one
 unfold aSliceO
 split
 ·rw [h1 _ _ rfl]
 ·rw [curG_ag (h2 _ _ _ _ rfl)]
 ·rfl
theorem aIndexW_ag {P : Program} {T : Nat} {a b : AV} (h : Ag H H' (refs a)) : aIndexW P H T a b = aIndexW P H' T a b := by
 have h1 : ∀ o g x s n, a = .win o g x s n → look H o = look H' o := fun o g x s n e => by subst e; exact (show Ag H H' [o] from h).one
 unfold aIndexW
 split
 ·rw [h1 _ _ _ _ _ rfl]
 ·rfl
theorem aCopy_ag {P : Program} {T : Nat} {a b : AV} (h : Ag H H' (refs a)) (hb : Ag H H' (refs b)) : aCopy P H T a b = aCopy P H' T a b := by
 have h1 : ∀ o g x s n, a = .win o g x s n → look H o = look H' o := fun o g x s n e => by subst e; exact (show Ag H H' [o] from h).one
 unfold aCopy
 split
 ·rw [h1 _ _ _ _ _ rfl]
  simp only [srcX_ag hb]
 ·rfl
def refP : List (Nat × AV) → List Nat
 | [] => []
 | (_, a) :: r => refs a ++ refP r
theorem fillA_ag (place : Nat → Option (Nat × Nat)) : ∀ {l : List (Nat × AV)} {cs : List AV}, Ag H H' (refP l) → fillA H place cs l = fillA H' place cs l
 | [], cs, _ => rfl
 | (i, a) :: r, cs, h => by
  simp only [fillA]
  cases hc : cellsA a with
  | none => cases place i <;> rfl
  | some ds =>
   cases place i with
   | none => rfl
   | some q =>
    obtain ⟨off, size⟩ := q
    simp only [okAll_ag (h.left.cells hc)]
    rw [fillA_ag place (l := r) h.right]
theorem fillA_refs {place : Nat → Option (Nat × Nat)} : ∀ {l : List (Nat × AV)} {cs r : List AV}, fillA H place cs l = some r → ∀ x ∈ refL r, x ∈ refL cs ∨ x ∈ refP l
 | [], cs, r, h => by simp only [fillA, Option.some.injEq] at h; subst h; exact fun x hx => .inl hx
 | (i, a) :: l, cs, r, h => by
  simp only [fillA] at h
  split at h
  ·rename_i off size ds hp hc
   split at h
   ·intro x hx
    have spx : ∀ (cs : List AV) (off : Nat) (ds : List AV), ∀ x ∈ refL (spl cs off ds), x ∈ refL cs ∨ x ∈ refL ds := by
     intro cs
     induction cs with
     | nil => intro off ds x hx; simp [spl, refL] at hx
     | cons c cs ih =>
      intro off ds x hx
      cases off with
      | succ k =>
       simp only [spl, refL, List.mem_append] at hx ⊢
       rcases hx with hx | hx
       ·exact .inl (.inl hx)
       ·rcases ih k ds x hx with q | q
        ·exact .inl (.inr q)
        ·exact .inr q
      | zero =>
       cases ds with
       | nil => exact .inl hx
       | cons d ds =>
        simp only [spl, refL, List.mem_append] at hx ⊢
        rcases hx with hx | hx
        ·exact .inr (.inl hx)
        ·rcases ih 0 ds x hx with q | q
         ·exact .inl (.inr q)
         ·exact .inr (.inr q)
    rcases fillA_refs h x hx with q | q
    ·rcases spx _ _ _ x q with q | q
     ·exact .inl q
     ·exact .inr (by simp only [refP]; exact List.mem_append_left _ (cellsA_refs hc x q))
    ·exact .inr (by simp only [refP]; exact List.mem_append_right _ q)
   ·cases h
  ·cases h
theorem aStore_ag {P : Program} {T : Nat} {a x : AV} (h : Ag H H' (refs a)) (hx : Ag H H' (refs x)) : aStore P H T a x = aStore P H' T a x := by
 have h2 : ∀ o g i j, a = .ptr o g i j → look H o = look H' o := fun o g i j e => by subst e; exact (show Ag H H' [o] from h).one
 unfold aStore
 split
 ·rename_i o g i j cs ti hc hi
  rw [okAll_ag (hx.cells hc), toDs_ag (hx.cells hc), h2 _ _ _ _ rfl]
 ·rfl
theorem isBase_ag {a : AV} (h : Ag H H' (ref0 a)) : isBase H a = isBase H' a := by
 cases a with
 | ptr o g i j => exact curG_ag h.one
 | own o g => exact curG_ag h.one
 | _ => rfl
theorem baseAll_ag : ∀ {cs : List AV}, Ag H H' (refL cs) → cs.all (isBase H) = cs.all (isBase H')
 | [], _ => rfl
 | a :: r, h => by simp only [List.all_cons, isBase_ag (a := a) h.left, baseAll_ag h.right]
/-- which objects an operation may look at -/
def looks (e : Operand → AV) : Op → List Nat
 | .box _ x => refs (e x)
 | .build _ ps => refP (evP e ps.toList)
 | .buildSlice _ _ ps => refP (evP e ps.toList)
 | .load _ x => refs (e x)
 | .store _ x y => refs (e x) ++ refs (e y)
 | .nilCheck x => refs (e x)
 | .convert _ _ x => refs (e x)
 | .makeFunc _ a b => refL (evL e a.toList) ++ refL (evL e b.toList)
 | .fieldAddr _ x _ => refs (e x)
 | .indexAddr _ x _ => refs (e x)
 | .slice _ x _ _ _ => refs (e x)
 | .call c => refA (evL e c.args.toList)
 | .binOp _ _ x _ _ => match e x with
  | .own o _ => [o]
  | _ => []
 | .lookup _ m _ _ => refs (e m)
 | .mapUpdate _ m _ y => refs (e m) ++ refs (e y)
 | .insert _ m _ y => refs (e m) ++ refs (e y)
 | _ => []
/-- the site of an operation that makes an object -/
def sites (op : Op) (d : Nat) : List Nat := match op with
 | .alloc _ => [d]
 | .box _ _ => [d]
 | .buildSlice _ _ _ => [d]
 | .makeSlice _ _ _ => [d]
 | .makeMap _ _ => [d]
 | .call _ => [d]
 | _ => []
theorem aEff_look {P : Program} {e : Operand → AV} {mu : Bool} {o : Nat} {op : Op} (h : Ag H H' (looks e op)) (hs : Ag H H' (sites op o)) : aEff P H e mu o op = aEff P H' e mu o op := by
 cases op with
 | binOp op T x y U =>
  simp only [looks] at h
  simp only [aEff]
  cases hx : e x with
  | own q g =>
   rw [hx] at h
   simp only [aBinO, h q (List.mem_singleton.2 rfl)]
  | _ => rfl
 | alloc T =>
  have ho : look H o = look H' o := hs o (List.mem_singleton.2 rfl)
  simp only [aEff, aAlloc, ho]
 | box T x =>
  have ho : look H o = look H' o := hs o (List.mem_singleton.2 rfl)
  simp only [aEff, aBox]
  cases hc : cellsA (e x) with
  | none => rfl
  | some cs => simp only [okAll_ag (Ag.cells (a := e x) h hc), toDs_ag (Ag.cells (a := e x) h hc), ho]
 | build T ps => simp only [aEff, aBuild, fillA_ag _ (l := evP e ps.toList) h]
 | buildSlice T n ps =>
  have ho : look H o = look H' o := hs o (List.mem_singleton.2 rfl)
  simp only [aEff, aBuildSlice, fillA_ag _ (l := evP e ps.toList) h, ho]
  split
  ·split
   ·split
    ·split
     ·rename_i z _ _ _ _ cs _ _ _ hf
      rw [toDs_ag (H := H) (H' := H') (fun x hx => by
       rcases fillA_refs hf x hx with q | q
       ·rw [exs, refL_exs] at q; cases q
       ·exact h x q)]
     ·rfl
    ·rfl
   ·rfl
  ·rfl
 | load T x => simp only [aEff, aLoad, atA_ag (a := e x) h]
 | store T x y => exact aStore_ag (Ag.left h) (Ag.right h)
 | nilCheck x => exact aNilC_ag h
 | convert S T x => exact aConv_ag h
 | makeFunc fn a b =>
  simp only [aEff, baseAll_ag (Ag.left (l := refL (evL e a.toList)) h), baseAll_ag (Ag.right (m := refL (evL e b.toList)) h)]
 | makeSlice T x y =>
  have ho : look H o = look H' o := hs o (List.mem_singleton.2 rfl)
  simp only [aEff, aMake, ho]
 | makeMap T r =>
  cases r with
  | none =>
   have ho : look H o = look H' o := hs o (List.mem_singleton.2 rfl)
   simp only [aEff, aMakeMap, ho]
  | some _ => rfl
 | fieldAddr T x k => exact aFieldAddr_ag h
 | indexAddr T x y => simp only [aEff, aIndexAddr_ag (a := e x) h, aIndexW_ag (a := e x) h]
 | call c =>
  have ho : look H o = look H' o := hs o (List.mem_singleton.2 rfl)
  simp only [aEff]
  replace h : Ag H H' (refA (evL e c.args.toList)) := h
  split
  ·rename_i x T _ ha _
   rw [ha] at h
   simp only [aLenA, aLen_ag (Ag.left h), aLenM_ag (Ag.left h)]
  ·rfl
  ·rfl
  ·rename_i x y T T' _ ha _
   rw [ha] at h
   rw [aAppend_ag (Ag.left h) (Ag.left (Ag.right h)) ho]
  ·rename_i x y T T' _ ha _
   rw [ha] at h
   exact aCopy_ag (Ag.left h) (Ag.left (Ag.right h))
  ·rfl
 | slice T x lo hi mx =>
  cases mx with
  | none => simp only [aEff, aSliceO_ag (a := e x) h]
  | some _ => rfl
 | _ => rfl
theorem aCho_look {P : Program} {e : Operand → AV} {w : Cho} {op : Op} (h : Ag H H' (looks e op)) : aCho P H e w op = aCho P H' e w op := by
 cases op with
 | lookup t m x c => exact aLookup_ag h
 | mapUpdate t m k x => exact aMapUpd_ag (Ag.left h) (Ag.right h)
 | insert t m k x => exact aMapUpd_ag (Ag.left h) (Ag.right h)
 | _ => rfl
end
end Go.Proofs.YtedokpgkjcnoiaaGreat
