/- Code, seen from afar: what is left to be shown of it; a function's contract. No program in sight. -/
import Derived.Scope
import Derived.Test.YtedokpgkjcnoiaaGreatQ14
set_option linter.unusedVariables false
set_option linter.unusedSimpArgs false
namespace Go.Proofs.YtedokpgkjcnoiaaGreat
open Go.RowKit
/-! ### Loops -/
/-- a loop, its state told by a word that no slot holds -/
theorem wp_loop_ghost {P : Program} {Q : Exit → Act → World → Prop} {α : Type} {c : Code} (I : α → Act → World → Prop) (m : α → Nat) {x : α} {a : Act} {w : World} (h₀ : I x a w)
    (round : ∀ x a w, I x a w → c.wp P (Exit.then (fun a' w' => ∃ y, I y a' w' ∧ m y < m x) Q) a w) : (Code.loop c).wp P Q a w := by
  intro b k cs
  have key : ∀ n x a w, m x = n → I x a w →
      ∃ e a' w', Q e a' w' ∧ Arrives P (lone (b.at a (.code c :: .inLoop c :: k)) cs w) b k cs e a' w' := by
    intro n
    induction n using Nat.strongRecOn with
    | _ n ih =>
      intro x a w hn hI
      obtain ⟨e, a₁, w₁, hq, harr⟩ := round x a w hI b (.inLoop c :: k) cs
      cases e with
      | normal =>
        obtain ⟨y, hI₁, hlt⟩ := hq
        obtain ⟨e₂, a₂, w₂, hq₂, harr₂⟩ := ih (m y) (hn ▸ hlt) y a₁ w₁ rfl hI₁
        exact ⟨e₂, a₂, w₂, hq₂, .of_steps (Steps.trans harr (.one step_inLoop)) harr₂⟩
      | exit id => exact ⟨_, a₁, w₁, hq, .pass (x := .inLoop c) rfl (fun _ _ => .inl (by simp)) harr⟩
      | goto l => exact ⟨_, a₁, w₁, hq, .pass (x := .inLoop c) rfl (fun _ _ => .inl (by simp)) harr⟩
      | ret => exact ⟨_, a₁, w₁, hq, .pass (x := .inLoop c) rfl (fun _ _ => .inl (by simp)) harr⟩
      | panic ch => exact ⟨_, a₁, w₁, hq, .pass (x := .inLoop c) rfl (fun _ _ => .inl (by simp)) harr⟩
      | outgrown => exact ⟨_, a₁, w₁, hq, .pass (x := .inLoop c) rfl (fun _ _ => .inl (by simp)) harr⟩
  obtain ⟨e, a', w', hq, harr⟩ := key _ x a w rfl h₀
  exact ⟨e, a', w', hq, .of_steps (.one step_loop) harr⟩
def dstsL : List Oper → List Nat
 | [] => []
 | o :: r => dstL o ++ dstsL r
def writes : Code → List Nat
 | .region _ ops _ => dstsL ops.toList
 | .seq a b => writes a ++ writes b
 | .cond _ a b => writes a ++ writes b
 | .block _ c => writes c
 | .loop c => writes c
 | .scope c => writes c
 | _ => []
def maskW : List Nat → List AV → List AV
 | [], t => t
 | w :: r, t => maskW r (setN t w .any)
def putsN : List AV → List (Nat × AV) → List AV
 | t, [] => t
 | t, (i, a) :: r => putsN (setN t i a) r
def fMask : List Nat → List AV → (List AV → Prop) → Prop
 | [], t, k => k t
 | w :: r, t, k => fput t w .any fun t' => fMask r t' k
def fPuts : List AV → List (Nat × AV) → (List AV → Prop) → Prop
 | t, [], k => k t
 | t, (i, a) :: r, k => fA a fun a' => fput t i a' fun t' => fPuts t' r k
def fPutsH : OH → OH → (OH → Prop) → Prop
 | H, [], k => k H
 | H, (o, b) :: r, k => fPutsH H r fun H' => fH (setH H' o b) k
theorem fMask_eq : ∀ (ws : List Nat) (t : List AV) (k : List AV → Prop), fMask ws t k = k (maskW ws t)
 | [], _, _ => rfl
 | w :: r, t, k => by simp only [fMask, fput_eq, fMask_eq r, maskW]
theorem fPuts_eq : ∀ (fs : List (Nat × AV)) (t : List AV) (k : List AV → Prop), fPuts t fs k = k (putsN t fs)
 | [], _, _ => rfl
 | (i, a) :: r, t, k => by simp only [fPuts, fA_eq, fput_eq, fPuts_eq r, putsN]
theorem fPutsH_eq : ∀ (fo : OH) (H : OH) (k : OH → Prop), fPutsH H fo k = k (putsH H fo)
 | [], _, _ => rfl
 | (o, b) :: r, H, k => by simp only [fPutsH, fPutsH_eq r, fH_eq, putsH]
def mkL (S : St) (ws : List Nat) (fs : List (Nat × AV)) (fo : OH) : St := ⟨putsN (maskW ws S.t) fs, putsH S.H fo⟩
def slotsOk (t : List AV) : List (Nat × AV) → Prop
 | [] => True
 | (i, a) :: r => avEq (nth t i) a ∧ slotsOk t r
def obsOk (H : OH) : OH → Prop
 | [] => True
 | (o, b) :: r => (match look H o with
  | some b0 => obEq b0 b
  | none => False) ∧ obsOk H r
def Back (S1 : St) (ws : List Nat) (S' : St) (fs : List (Nat × AV)) (fo : OH) : Prop := maskW ws S'.t = maskW ws S1.t ∧ slotsOk S'.t fs ∧ obsOk S'.H (putsH S1.H fo)
/-- the same, reckoned out -/
def fBack (M : List AV) (H1 : OH) (ws : List Nat) (S' : St) (fs : List (Nat × AV)) (fo : OH) : Prop := match S' with
 | ⟨t, H⟩ => fMask ws t fun a => a = M ∧ slotsOk t fs ∧ fPutsH H1 fo fun H' => obsOk H H'
theorem fBack_iff {S1 S' : St} {ws : List Nat} {fs : List (Nat × AV)} {fo : OH} : fBack (maskW ws S1.t) S1.H ws S' fs fo ↔ Back S1 ws S' fs fo := by
 obtain ⟨t, H⟩ := S'
 simp only [fBack, Back, fMask_eq, fPutsH_eq]
def goodT (pk : List Nat) (T : St) : Bool := match T.t.all (refsIn T.H), closedH T.H T.H, pk.all (hasK T.H) with
 | true, true, true => true
 | _, _, _ => false
def fMk (M : List AV) (H1 : OH) (fs : List (Nat × AV)) (fo : OH) (k : St → Prop) : Prop := fPuts M fs fun t => fPutsH H1 fo fun H => k ⟨t, H⟩
theorem fMk_eq {S1 : St} {ws : List Nat} {fs : List (Nat × AV)} {fo : OH} {k : St → Prop} : fMk (maskW ws S1.t) S1.H fs fo k = k (mkL S1 ws fs fo) := by simp only [fMk, fPuts_eq, fPutsH_eq, mkL]
section
variable {P : Program} {C : Cx} {S : St} {a : Act}
theorem look_obs {H : OH} : ∀ {L : OH}, obsOk H L → ∀ o b, look L o = some b → ∃ b0, look H o = some b0 ∧ obEq b0 b
 | [], _, o, b, h => by cases h
 | (k, c) :: r, hk, o, b, h => by
  simp only [look] at h
  split at h
  ·rename_i e
   obtain rfl := (beq_nat_iff _ _).1 e
   obtain rfl := Option.some.inj h
   have := hk.1
   split at this
   ·rename_i b0 hb; exact ⟨b0, hb, this⟩
   ·exact this.elim
  ·exact look_obs hk.2 o b h
theorem maskW_len : ∀ (ws : List Nat) (t : List AV), (maskW ws t).length = t.length
 | [], _ => rfl
 | w :: r, t => by rw [maskW, maskW_len r, setN_len]
theorem putsN_len : ∀ (fs : List (Nat × AV)) (t : List AV), (putsN t fs).length = t.length
 | [], _ => rfl
 | (i, a) :: r, t => by rw [putsN, putsN_len r, setN_len]
theorem maskW_nth (i : Nat) : ∀ (ws : List Nat) (t : List AV), nth (maskW ws t) i = .any ∨ nth (maskW ws t) i = nth t i
 | [], _ => .inr rfl
 | w :: r, t => by
  simp only [maskW]
  rcases maskW_nth i r (setN t w .any) with q | q
  ·exact .inl q
  ·rw [q, nth_setN]
   split
   ·exact .inl rfl
   ·exact .inr rfl
theorem putsN_eqv (t : List AV) (i : Nat) : ∀ (fs : List (Nat × AV)) (T : List AV), avEq (nth t i) (nth T i) → slotsOk t fs → avEq (nth t i) (nth (putsN T fs) i)
 | [], _, h0, _ => h0
 | (j, a) :: r, T, h0, hs => by
  simp only [putsN]
  refine putsN_eqv t i r (setN T j a) ?_ hs.2
  rw [nth_setN]
  split
  ·rename_i q; rw [q.1]; exact hs.1
  ·exact h0
/-- the state at the end of a round is one at a round's beginning -/
theorem back_sat {C0 : Cx} {pk : List Nat} {S1 S' : St} {ws : List Nat} {fs : List (Nat × AV)} {fo : OH} (h : Sat C S' a) (hF : Fr C0 C) (hpk : ∀ o ob, look C0.H o = some ob → o ∈ pk) (hb : Back S1 ws S' fs fo) (hg : goodT pk (mkL S1 ws fs fo) = true) :
    ∃ C', Sat C' (mkL S1 ws fs fo) a ∧ C'.W = C.W ∧ C'.E = C.E ∧ Fr C0 C' := by
  obtain ⟨b1, b2, b3⟩ := hb
  unfold goodT at hg
  split at hg
  · rename_i g1 g2 g3
    have L : Less C ⟨C.E, C.W, putsH S1.H fo, C.vl⟩ := ⟨rfl, rfl, rfl, fun o b ho => by rw [h.h]; exact look_obs b3 o b ho⟩
    refine ⟨⟨C.E, C.W, putsH S1.H fo, C.vl⟩, ⟨L.gam h.g g2, rfl, ?_, fun i => ?_, h.d⟩, rfl, rfl, L.fr hF fun o ob ho => ?_⟩
    · have := congrArg List.length b1
      rw [maskW_len, maskW_len] at this
      rw [h.n, this]
      simp only [mkL, putsN_len, maskW_len]
    · have e : avEq (nth S'.t i) (nth (mkL S1 ws fs fo).t i) := by
        refine putsN_eqv S'.t i fs _ ?_ b2
        rw [← b1]
        rcases maskW_nth i ws S'.t with q | q
        · rw [q]
          generalize nth S'.t i = z
          cases z <;> trivial
        · rw [q]; exact avEq_refl _
      refine L.Rv ((h.t i).eqv e) ?_
      rw [List.all_eq_true] at g1
      by_cases hi : i < (mkL S1 ws fs fo).t.length
      · exact g1 _ (by rw [nth_getD, List.getD_eq_getElem?_getD, List.getElem?_eq_getElem hi]; exact List.getElem_mem _)
      · rw [nth_getD, List.getD_eq_getElem?_getD, List.getElem?_eq_none (Nat.le_of_not_lt hi)]; rfl
    · rw [List.all_eq_true] at g3
      have := g3 o (hpk o ob ho)
      rw [hasK_iff] at this
      exact Option.isSome_iff_exists.1 this
  · cases hg
end
/-! ### Code -/
noncomputable def aCode (P : Program) (mu : List Nat) (hn : List (Nat × List Gh)) (Hp : OH) (c : Code) : (Exit → St → Prop) → St → Prop :=
 Code.rec (fun Q S => Q .normal S)
  (fun id ops draw Q S => fGh Hp (hintOf hn id) S fun S1 => aRegion P mu ops draw S1 fun S' => Q .normal S')
  (fun _ _ ihx ihy Q S => ihx (fun e S' => match e with
   | .normal => ihy Q S'
   | e => Q e S') S)
  (fun c _ _ ihx ihy Q S => match ev S.t c with
   | .d (.v (.bool t)) => (t = true → ihx Q S) ∧ (t = false → ihy Q S)
   | _ => False)
  (fun id _ ih Q S => ih (fun e S' => match e with
   | .exit j => match Nat.beq j id with
    | true => Q .normal S'
    | false => Q (.exit j) S'
   | e => Q e S') S)
  (fun c ih Q S => fN (writes c) fun ws => ∃ nv : List Gh, fGh Hp nv S fun S1 => match S1 with
   | ⟨t1, H1⟩ => fMask ws t1 fun M => ∃ (α : Type) (p : α → Prop) (m : α → Nat) (fs : α → List (Nat × AV)) (fo : α → OH),
    (∃ x, p x ∧ ∃ bs : List Gh, fGh Hp bs ⟨t1, H1⟩ fun S2 => fBack M H1 ws S2 (fs x) (fo x)) ∧ ∀ x, p x → fMk M H1 (fs x) (fo x) fun T => goodT (keysH Hp) T = true ∧ ih (fun e S' => match e with
     | .normal => ∃ y, p y ∧ m y < m x ∧ ∃ bs : List Gh, fGh Hp bs S' fun S2 => fBack M H1 ws S2 (fs y) (fo y)
     | e => Q e S') T)
  (fun _ _ _ _ _ _ _ _ => False)
  (fun id Q S => Q (.exit id) S)
  (fun _ ih Q S => ih (fun e S' => match e with
   | .goto _ => False
   | e => Q e S') S)
  (fun _ Q S => Q .normal S)
  (fun _ _ _ => False)
  (fun Q S => Q .ret S)
  (fun _ _ _ => False) c
def Post (C0 C : Cx) (Q : Exit → St → Prop) (e : Exit) (a' : Act) (W' : World) : Prop := ∃ S' C', Q e S' ∧ C'.W = W' ∧ Sat C' S' a' ∧ C'.E = C.E ∧ Fr C0 C'
theorem Post.from {C0 C C1 : Cx} {Q : Exit → St → Prop} {e : Exit} {a : Act} {w : World} (h : Post C0 C1 Q e a w) (q : C1.E = C.E) : Post C0 C Q e a w := by
 obtain ⟨S', C', h1, h2, h3, h4, h5⟩ := h
 exact ⟨S', C', h1, h2, h3, h4.trans q, h5⟩
theorem keys_look {H : OH} {o : Nat} {b : Ob} (h : look H o = some b) : o ∈ keysH H := by
 by_cases q : o ∈ keysH H
 ·exact q
 ·rw [keysH_iff o H q] at h; cases h
theorem aCode_sound {P : Program} {mu : List Nat} {hn : List (Nat × List Gh)} {Hp : OH} (hm : P.follows .mixedOrders = true) : ∀ (c : Code) (Q : Exit → St → Prop) (S : St), aCode P mu hn Hp c Q S → ∀ (C0 C : Cx) (a : Act), Sat C S a → Fr C0 C → C0.H = Hp →
    c.wp P (Post C0 C Q) a C.W := by
  intro c
  induction c with
  | skip => exact fun Q S h C0 C a hS hF hk => wp_skip ⟨S, C, h, rfl, hS, rfl, hF⟩
  | region id ops draw =>
    intro Q S h C0 C a hS hF hk
    obtain ⟨S1, e1, h⟩ := fGh_spec (show fGh Hp (hintOf hn id) S (fun S1 => aRegion P mu ops draw S1 fun S' => Q .normal S') from h)
    obtain ⟨C1, s1, w1, f1, g1⟩ := ghs_sat (C0 := C0) hS hF (by rw [hk]; exact e1)
    rw [← w1]
    exact aRegion_sound hm h s1 g1 fun S' a' C' h1 h2 h3 h4 => ⟨S', C', h1, rfl, h2, h3.trans f1, h4⟩
  | seq x y ihx ihy =>
    intro Q S h C0 C a hS hF hk
    refine wp_seq (wp_mono (ihx _ S h C0 C a hS hF hk) fun e a' w' hp => ?_)
    obtain ⟨S', C', h1, rfl, h3, h4, h5⟩ := hp
    cases e with
    | normal => exact wp_mono (ihy Q S' h1 C0 C' a' h3 h5 hk) fun e a2 w2 h => h.from h4
    | _ => exact ⟨S', C', h1, rfl, h3, h4, h5⟩
  | cond c x y ihx ihy =>
    intro Q S h C0 C a hS hF hk
    replace h : (match ev S.t c with
      | .d (.v (.bool t)) => (t = true → aCode P mu hn Hp x Q S) ∧ (t = false → aCode P mu hn Hp y Q S)
      | _ => False) := h
    split at h
    · rename_i t ht
      have hv := hS.ev c
      rw [ht] at hv
      exact wp_cond_split (rv_ex_inv hv) (fun e => ihx Q S (h.1 e) C0 C a hS hF hk) (fun e => ihy Q S (h.2 e) C0 C a hS hF hk)
    · exact h.elim
  | block id c ih =>
    intro Q S h C0 C a hS hF hk
    refine wp_block (wp_mono (ih _ S h C0 C a hS hF hk) fun e a' w' hp => ?_)
    obtain ⟨S', C', h1, rfl, h3, h4, h5⟩ := hp
    cases e with
    | exit j =>
      simp only [Exit.inBlock]
      simp only [] at h1
      split
      · rename_i q
        rw [(beq_nat_iff _ _).2 q] at h1
        exact ⟨S', C', h1, rfl, h3, h4, h5⟩
      · rename_i q
        rw [(beq_nat_false _ _).2 q] at h1
        exact ⟨S', C', h1, rfl, h3, h4, h5⟩
    | _ => exact ⟨S', C', h1, rfl, h3, h4, h5⟩
  | loop c ih =>
    intro Q S h C0 C a hS hF hk
    replace h : fN (writes c) fun ws => ∃ nv : List Gh, fGh Hp nv S fun S1 => match S1 with
      | ⟨t1, H1⟩ => fMask ws t1 fun M => ∃ (α : Type) (p : α → Prop) (m : α → Nat) (fs : α → List (Nat × AV)) (fo : α → OH),
        (∃ x, p x ∧ ∃ bs : List Gh, fGh Hp bs ⟨t1, H1⟩ fun S2 => fBack M H1 ws S2 (fs x) (fo x)) ∧ ∀ x, p x → fMk M H1 (fs x) (fo x) fun T => goodT (keysH Hp) T = true ∧ aCode P mu hn Hp c (fun e S' => match e with
          | .normal => ∃ y, p y ∧ m y < m x ∧ ∃ bs : List Gh, fGh Hp bs S' fun S2 => fBack M H1 ws S2 (fs y) (fo y)
          | e => Q e S') T := h
    rw [fN_eq] at h
    obtain ⟨nv, h⟩ := h
    obtain ⟨S1, hv, h⟩ := fGh_spec h
    have hsplit : ∃ (α : Type) (p : α → Prop) (m : α → Nat) (fs : α → List (Nat × AV)) (fo : α → OH), (∃ x, p x ∧ ∃ bs S2, ghs Hp S1 bs = some S2 ∧ Back S1 (writes c) S2 (fs x) (fo x)) ∧ ∀ x, p x → goodT (keysH Hp) (mkL S1 (writes c) (fs x) (fo x)) = true ∧ aCode P mu hn Hp c (fun e S' => match e with
        | .normal => ∃ y, p y ∧ m y < m x ∧ ∃ bs S2, ghs Hp S' bs = some S2 ∧ Back S1 (writes c) S2 (fs y) (fo y)
        | e => Q e S') (mkL S1 (writes c) (fs x) (fo x)) := by
      obtain ⟨t1, H1⟩ := S1
      simp only [fMask_eq] at h
      obtain ⟨α, p, m, fs, fo, ⟨x0, hx0, bs0, hb0⟩, hr⟩ := h
      obtain ⟨S2, e2, hb0⟩ := fGh_spec hb0
      refine ⟨α, p, m, fs, fo, ⟨x0, hx0, bs0, S2, e2, fBack_iff.1 hb0⟩, fun x hx => ?_⟩
      have := hr x hx
      rw [show (fMk (maskW (writes c) t1) H1 (fs x) (fo x)) = fMk (maskW (writes c) (St.mk t1 H1).t) (St.mk t1 H1).H (fs x) (fo x) from rfl, fMk_eq] at this
      refine ⟨this.1, ?_⟩
      have h2 := this.2
      simp only [fGh_iff, fBack_iff (S1 := ⟨t1, H1⟩)] at h2
      exact h2
    obtain ⟨α, p, m, fs, fo, ⟨x0, hx0, bs0, S2, e0, hb0⟩, hround⟩ := hsplit
    obtain ⟨C1, s1, w1, e1, f1⟩ := ghs_sat (C0 := C0) hS hF (by rw [hk]; exact hv)
    obtain ⟨C1', s1', w1', e1', f1'⟩ := ghs_sat (C0 := C0) s1 f1 (by rw [hk]; exact e0)
    have hpk : ∀ o ob, look C0.H o = some ob → o ∈ keysH Hp := fun o ob ho => by rw [hk] at ho; exact keys_look ho
    obtain ⟨C2, s2, w2, e2, f2⟩ := back_sat s1' f1' hpk hb0 (hround x0 hx0).1
    have := wp_loop_ghost (P := P) (Q := Post C0 C Q) (c := c) (fun x a' w' => ∃ C', p x ∧ C'.W = w' ∧ Sat C' (mkL S1 (writes c) (fs x) (fo x)) a' ∧ C'.E = C.E ∧ Fr C0 C') m (x := x0) (a := a) (w := C.W)
      ⟨C2, hx0, w2.trans (w1'.trans w1), s2, e2.trans (e1'.trans e1), f2⟩ (by
        rintro x a' w' ⟨C', hx, rfl, hS', hE', hF'⟩
        obtain ⟨hg, hr⟩ := hround x hx
        refine wp_mono (ih _ _ hr C0 C' a' hS' hF' hk) fun e a2 w2 hp => ?_
        obtain ⟨S2, C2, h1, rfl, h3, h4, h5⟩ := hp
        cases e with
        | normal =>
          obtain ⟨y, hy, hlt, bs, S3, e3, hb⟩ := h1
          obtain ⟨C3, t1, t2, t3, t4⟩ := ghs_sat (C0 := C0) h3 h5 (by rw [hk]; exact e3)
          obtain ⟨C4, q1, q2, q3, q4⟩ := back_sat t1 t4 hpk hb (hround y hy).1
          exact ⟨y, ⟨C4, hy, q2.trans t2, q1, q3.trans (t3.trans (h4.trans hE')), q4⟩, hlt⟩
        | _ => exact ⟨S2, C2, h1, rfl, h3, h4.trans hE', h5⟩)
    exact this
  | exit id => exact fun Q S h C0 C a hS hF hk => wp_exit ⟨S, C, h, rfl, hS, rfl, hF⟩
  | scope c ih =>
    intro Q S h C0 C a hS hF hk
    refine wp_scope_straight (wp_mono (ih _ S h C0 C a hS hF hk) fun e a' w' hp => ?_)
    obtain ⟨S', C', h1, rfl, h3, h4, h5⟩ := hp
    cases e with
    | goto l => exact h1.elim
    | _ => exact ⟨S', C', h1, rfl, h3, h4, h5⟩
  | label l => exact fun Q S h C0 C a hS hF hk => wp_label ⟨S, C, h, rfl, hS, rfl, hF⟩
  | ret => exact fun Q S h C0 C a hS hF hk => wp_ret ⟨S, C, h, rfl, hS, rfl, hF⟩
  | _ => exact fun Q S h => h.elim
end Go.Proofs.YtedokpgkjcnoiaaGreat
