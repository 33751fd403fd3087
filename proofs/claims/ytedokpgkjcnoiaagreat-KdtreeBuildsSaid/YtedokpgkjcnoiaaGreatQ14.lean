/- Ghost steps: what is known is told anew (a nil slice as a row of one's own; a row's generation; an object laid for good). No program in sight. -/
import Derived.Test.YtedokpgkjcnoiaaGreatQ13
set_option linter.unusedVariables false
set_option linter.unusedSimpArgs false
namespace Go.Proofs.YtedokpgkjcnoiaaGreat
open Go.RowKit
inductive Gh where
 | virt (s o ty sz : Nat)
 | virtC (p j o ty sz : Nat)
 | regen (o g : Nat)
 | lay (o : Nat)
 | tell (o : Nat) (f : Nat → List DV)
 | drop (s : Nat)
def mapC (φ : AV → AV) : List AV → List AV
 | [] => []
 | a :: r => φ a :: mapC φ r
def mapA1 (φ : AV → AV) : AV → AV
 | .agg cs => .agg (mapC φ cs)
 | .fn f x y => .fn f (mapC φ x) (mapC φ y)
 | a => φ a
def mapA (φ : AV → AV) : AV → AV
 | .tup cs => .tup (mapC (mapA1 φ) cs)
 | a => mapA1 φ a
def mapO (φ : AV → AV) (ψ : Nat → Nat → Nat) (o : Nat) : Ob → Ob
 | .row ty sz g fz n f => .row ty sz (ψ o g) fz n f
 | .box ty cs => .box ty (mapC φ cs)
 | .mp ok L => .mp ok L
def mapOH (φ : AV → AV) (ψ : Nat → Nat → Nat) : OH → OH
 | [] => []
 | (o, b) :: r => (o, mapO φ ψ o b) :: mapOH φ ψ r
theorem mapC_len (φ : AV → AV) : ∀ l : List AV, (mapC φ l).length = l.length
 | [] => rfl
 | a :: r => by simp [mapC, mapC_len φ r]
theorem mapC_get (φ : AV → AV) : ∀ (l : List AV) (j : Nat), j < l.length → (mapC φ l).getD j .any = φ (l.getD j .any)
 | [], _, h => by cases h
 | a :: r, 0, _ => rfl
 | a :: r, j + 1, h => by simpa [mapC] using mapC_get φ r j (by simpa using h)
theorem nth_mapC (φ : AV → AV) (l : List AV) (j : Nat) : nth (mapC φ l) j = if j < l.length then φ (nth l j) else .any := by
 rw [nth_getD, nth_getD]
 split
 ·rename_i h; exact mapC_get φ l j h
 ·rename_i h
  rw [List.getD_eq_getElem?_getD, List.getElem?_eq_none (by rw [mapC_len]; omega)]; rfl
theorem look_mapOH (φ : AV → AV) (ψ : Nat → Nat → Nat) (o : Nat) : ∀ H : OH, look (mapOH φ ψ H) o = (look H o).map (mapO φ ψ o)
 | [] => rfl
 | (k, b) :: r => by
  simp only [mapOH, look]
  split
  ·rename_i h
   obtain rfl := (beq_nat_iff _ _).1 h
   rfl
  ·exact look_mapOH φ ψ o r
section
variable {C D C0 : Cx}
theorem map_rbs {φ : AV → AV} (hφ : ∀ a v, Rb C a v → Rb D (φ a) v) {cs : List AV} {us : List Value} (h : Rbs C cs us) : Rbs D (mapC φ cs) us :=
 ⟨by rw [mapC_len]; exact h.1, fun j hj => by rw [mapC_len] at hj; rw [mapC_get φ cs j hj]; exact hφ _ _ (h.2 j hj)⟩
theorem map_r1 {φ : AV → AV} (hφ : ∀ a v, Rb C a v → Rb D (φ a) v) : ∀ {a : AV} {v : Value}, R1 C a v → R1 D (mapA1 φ a) v := by
 have key : ∀ {a : AV} {v : Value}, Rb D a v → R1 D a v := fun {a v} h => by
  cases a <;> first | exact h | exact h.elim
 intro a v h
 cases a with
 | agg cs => obtain ⟨us, e, r⟩ := h; exact ⟨us, e, map_rbs hφ r⟩
 | fn f x y => obtain ⟨us, ws, e, r, s⟩ := h; exact ⟨us, ws, e, map_rbs hφ r, map_rbs hφ s⟩
 | tup cs => exact h.elim
 | any => exact key (hφ _ _ h)
 | d x => exact key (hφ _ _ h)
 | dp x => exact key (hφ _ _ h)
 | ptr a b c d => exact key (hφ _ _ h)
 | own a b => exact key (hφ _ _ h)
 | win a b c d e => exact key (hφ _ _ h)
theorem rv_r1 : ∀ {a : AV} {v : Value}, R1 D a v → Rv D a v := by
 intro a v h
 cases a <;> first | exact h | exact h.elim
theorem map_rv {φ : AV → AV} (hφ : ∀ a v, Rb C a v → Rb D (φ a) v) {a : AV} {v : Value} (h : Rv C a v) : Rv D (mapA φ a) v := by
 cases a with
 | tup cs =>
  obtain ⟨us, e, l, r⟩ := h
  exact ⟨us, e, by rw [mapC_len]; exact l, fun j hj => by rw [mapC_len] at hj; rw [mapC_get _ cs j hj]; exact map_r1 hφ (r j hj)⟩
 | agg cs => exact rv_r1 (map_r1 hφ (a := .agg cs) h)
 | fn f x y => exact rv_r1 (map_r1 hφ (a := .fn f x y) h)
 | any => exact rv_r1 (map_r1 hφ (a := .any) h)
 | d x => exact rv_r1 (map_r1 hφ (a := .d x) h)
 | dp x => exact rv_r1 (map_r1 hφ (a := .dp x) h)
 | ptr a b c d => exact rv_r1 (map_r1 hφ (a := .ptr a b c d) h)
 | own a b => exact rv_r1 (map_r1 hφ (a := .own a b) h)
 | win a b c d e => exact rv_r1 (map_r1 hφ (a := .win a b c d e) h)
theorem mapO_free (φ : AV → AV) (ψ : Nat → Nat → Nat) (o : Nat) (b : Ob) : (mapO φ ψ o b).free = b.free := by cases b <;> rfl
theorem mapO_sz (φ : AV → AV) (ψ : Nat → Nat → Nat) (o : Nat) (b : Ob) : (mapO φ ψ o b).sz = b.sz := by cases b <;> simp [mapO, Ob.sz, mapC_len]
/-- told anew: what is known of values and objects, where all lies as it lay -/
def Cx.told (C : Cx) (φ : AV → AV) (ψ : Nat → Nat → Nat) : Cx := ⟨C.E, C.W, mapOH φ ψ C.H, C.vl⟩
theorem told_N (φ : AV → AV) (ψ : Nat → Nat → Nat) (b : Nat) : (C.told φ ψ).N b ↔ C.N b := by
 constructor
 ·rintro ⟨h1, h2, h3⟩
  exact ⟨h1, h2, fun o ob ho hf => h3 o (mapO φ ψ o ob) (by show look (mapOH φ ψ C.H) o = _; rw [look_mapOH, ho]; rfl) (by rw [mapO_free]; exact hf)⟩
 ·rintro ⟨h1, h2, h3⟩
  refine ⟨h1, h2, fun o ob ho hf => ?_⟩
  replace ho : look (mapOH φ ψ C.H) o = some ob := ho
  rw [look_mapOH] at ho
  obtain ⟨b0, q1, rfl⟩ := Option.map_eq_some_iff.1 ho
  exact h3 o b0 q1 (by rw [mapO_free] at hf; exact hf)
theorem told_gam (G : Gam C) {φ : AV → AV} {ψ : Nat → Nat → Nat} (hφ : ∀ a v, Rb C a v → Rb (C.told φ ψ) (φ a) v) : Gam (C.told φ ψ) := by
 have back : ∀ {o : Nat} {ob : Ob}, look (C.told φ ψ).H o = some ob → ∃ b0, look C.H o = some b0 ∧ mapO φ ψ o b0 = ob := fun {o ob} ho => by
  replace ho : look (mapOH φ ψ C.H) o = some ob := ho
  rw [look_mapOH] at ho
  exact Option.map_eq_some_iff.1 ho
 have eN : (C.told φ ψ).N = C.N := funext fun b => propext (told_N φ ψ b)
 refine ⟨fun o b ho => ?_, fun o o' b b' k ho ho' hne hk => ?_, G.kp, fun o b k ho hk => ?_⟩
 ·obtain ⟨b0, q1, rfl⟩ := back ho
  have r := G.ok o b0 q1
  cases b0 with
  | row ty sz g fz n f =>
   obtain ⟨us, h1, h2, h4, h3⟩ := r
   exact ⟨us, h1, h2, h4, fun i j hi hj => by rw [eN]; exact h3 i j hi hj⟩
  | box ty cs =>
   obtain ⟨k, us, e, hh, r⟩ := r
   exact ⟨k, us, e, hh, map_rbs hφ r⟩
  | mp ok L =>
   obtain ⟨k, es, clock, e, hh, r1, r2, r3, r4⟩ := r
   exact ⟨k, es, clock, e, hh, r1, r2, r3, fun i hi => by rw [eN]; exact r4 i hi⟩
 ·obtain ⟨b1, q1, _⟩ := back ho
  obtain ⟨b2, q2, _⟩ := back ho'
  exact G.ap o o' b1 b2 k q1 q2 hne hk
 ·obtain ⟨b1, q1, _⟩ := back ho
  exact G.mu o b1 k q1 hk
theorem told_fr (hF : Fr C0 C) {φ : AV → AV} {ψ : Nat → Nat → Nat} (hψ : ∀ o ob g0, look C.H o = some ob → (∃ b0, look C0.H o = some b0 ∧ b0.gen = g0) → (mapO φ ψ o ob).gen = ob.gen ∨ g0 < (mapO φ ψ o ob).gen) : Fr C0 (C.told φ ψ) := by
 refine ⟨fun b hb => ⟨(told_N φ ψ b).2 (hF.n b hb).1, (hF.n b hb).2⟩, fun o ob ho => ?_⟩
 obtain ⟨ob1, h1, h2⟩ := hF.h o ob ho
 refine ⟨mapO φ ψ o ob1, by show look (mapOH φ ψ C.H) o = _; rw [look_mapOH, h1]; rfl, ?_⟩
 rcases hψ o ob1 ob.gen h1 ⟨ob, ho, rfl⟩ with q | q
 ·rw [q, mapO_sz]; exact h2
 ·exact .inr q
/-- values that name other objects stand as they were told -/
theorem told_other {φ : AV → AV} {ψ : Nat → Nat → Nat} {a : AV} {v : Value} (h : Rb C a v) (hr : ∀ o ∈ ref0 a, ∀ ob, look C.H o = some ob → (mapO φ ψ o ob).gen = ob.gen) : Rb (C.told φ ψ) a v := by
 have eN : (C.told φ ψ).N = C.N := funext fun b => propext (told_N φ ψ b)
 cases a with
 | any => trivial
 | d x => show RD _ (C.told φ ψ).N _ _; rw [eN]; exact h
 | dp cs =>
  obtain ⟨b, off, u, e, hb, hc⟩ := h
  exact ⟨b, off, u, e, by rw [eN]; exact hb, fun j hj => ⟨(hc j hj).1, by rw [eN]; exact (hc j hj).2⟩⟩
 | ptr o g i j =>
  obtain ⟨ob, h1, h2, h3⟩ := h
  have hg := hr o (by simp [ref0]) ob h1
  exact ⟨mapO φ ψ o ob, by show look (mapOH φ ψ C.H) o = _; rw [look_mapOH, h1]; rfl, by rw [hg]; exact h2, fun e => by rw [hg] at e; rw [mapO_sz]; exact h3 e⟩
 | own o g =>
  obtain ⟨ob, h1, h2, h3⟩ := h
  have hg := hr o (by simp [ref0]) ob h1
  exact ⟨mapO φ ψ o ob, by show look (mapOH φ ψ C.H) o = _; rw [look_mapOH, h1]; rfl, by rw [hg]; exact h2, fun e => by rw [hg] at e; rw [mapO_sz]; exact h3 e⟩
 | win o g x s n =>
  obtain ⟨ob, h1, h2, h3⟩ := h
  have hg := hr o (by simp [ref0]) ob h1
  exact ⟨mapO φ ψ o ob, by show look (mapOH φ ψ C.H) o = _; rw [look_mapOH, h1]; rfl, by rw [hg]; exact h2, fun e => by rw [hg] at e; exact h3 e⟩
 | agg cs => exact h.elim
 | fn f x y => exact h.elim
 | tup cs => exact h.elim
theorem told_sat {φ : AV → AV} {ψ : Nat → Nat → Nat} {S : St} {a : Act} (h : Sat C S a) (hφ : ∀ a v, Rb C a v → Rb (C.told φ ψ) (φ a) v) : Sat (C.told φ ψ) ⟨mapC (mapA φ) S.t, mapOH φ ψ S.H⟩ a := by
 refine ⟨told_gam h.g hφ, by show mapOH φ ψ C.H = _; rw [h.h], by rw [h.n]; exact (mapC_len _ _).symm, fun i => ?_, h.d⟩
 rw [nth_mapC]
 split
 ·exact map_rv hφ (h.t i)
 ·trivial
end
/-! ### Generations -/
def rgA (o cur g : Nat) : AV → AV
 | .own x h => match Nat.beq x o with
  | false => .own x h
  | true => match Nat.beq h cur with
   | true => .own o g
   | false => .any
 | .ptr x h i j => match Nat.beq x o with
  | false => .ptr x h i j
  | true => match Nat.beq h cur with
   | true => .ptr o g i j
   | false => .any
 | .win x h p q r => match Nat.beq x o with
  | false => .win x h p q r
  | true => .any
 | a => a
def rgN (o g : Nat) (x h : Nat) : Nat := match Nat.beq x o with
 | true => g
 | false => h
theorem rgA_ok {C : Cx} {o g ty sz cur n : Nat} {fz : Bool} {f : Nat → List DV} (ho : look C.H o = some (.row ty sz cur fz n f)) (a : AV) (v : Value) (h : Rb C a v) : Rb (C.told (rgA o cur g) (rgN o g)) (rgA o cur g a) v := by
 have oth : ∀ (x : Nat) (ob : Ob), x ≠ o → (mapO (rgA o cur g) (rgN o g) x ob).gen = ob.gen := fun x ob hx => by
  cases ob with
  | row => simp only [mapO, Ob.gen, rgN, (beq_nat_false x o).2 hx]
  | box => rfl
  | mp => rfl
 have at' : look (C.told (rgA o cur g) (rgN o g)).H o = some (.row ty sz g fz n f) := by
  show look (mapOH _ _ C.H) o = _
  rw [look_mapOH, ho]
  simp [mapO, rgN, Nat.beq_refl]
 cases a with
 | own x q =>
  simp only [rgA]
  split
  ·rename_i e
   exact told_other (a := .own x q) h fun y hy ob _ => by simp only [ref0, List.mem_singleton] at hy; subst hy; exact oth _ ob ((beq_nat_false _ _).1 e)
  ·rename_i e
   obtain rfl := (beq_nat_iff _ _).1 e
   split
   ·rename_i e2
    obtain rfl := (beq_nat_iff _ _).1 e2
    obtain ⟨ob, h1, h2, h3⟩ := h
    rw [ho] at h1
    obtain rfl := Option.some.inj h1
    exact ⟨_, at', Nat.le_refl _, fun _ => h3 rfl⟩
   ·trivial
 | ptr x q i j =>
  simp only [rgA]
  split
  ·rename_i e
   exact told_other (a := .ptr x q i j) h fun y hy ob _ => by simp only [ref0, List.mem_singleton] at hy; subst hy; exact oth _ ob ((beq_nat_false _ _).1 e)
  ·rename_i e
   obtain rfl := (beq_nat_iff _ _).1 e
   split
   ·rename_i e2
    obtain rfl := (beq_nat_iff _ _).1 e2
    obtain ⟨ob, h1, h2, h3⟩ := h
    rw [ho] at h1
    obtain rfl := Option.some.inj h1
    exact ⟨_, at', Nat.le_refl _, fun _ => h3 rfl⟩
   ·trivial
 | win x q a1 a2 a3 =>
  simp only [rgA]
  split
  ·rename_i e
   exact told_other (a := .win x q a1 a2 a3) h fun y hy ob _ => by simp only [ref0, List.mem_singleton] at hy; subst hy; exact oth _ ob ((beq_nat_false _ _).1 e)
  ·trivial
 | any => trivial
 | d x => exact told_other (a := .d x) h fun y hy => by cases hy
 | dp x => exact told_other (a := .dp x) h fun y hy => by cases hy
 | agg cs => exact h.elim
 | fn f x y => exact h.elim
 | tup cs => exact h.elim
/-! ### Laid for good -/
/-- what a frozen row's names become -/
def lyA (o cur sz n : Nat) (f : Nat → List DV) : AV → AV
 | .own x h => match Nat.beq x o with
  | false => .own x h
  | true => match Nat.beq h cur with
   | true => .d (.sl sz n f)
   | false => .any
 | a => a
/-- what a frozen variable's names become -/
def lyB (o : Nat) (ds : List DV) : AV → AV
 | .ptr x h i j => match Nat.beq x o with
  | false => .ptr x h i j
  | true => match Nat.beq h 0, Nat.beq i 0 with
   | true, true => .dp (ds.drop j)
   | _, _ => .any
 | .own x h => match Nat.beq x o with
  | false => .own x h
  | true => .any
 | a => a
def idN (_ h : Nat) : Nat := h
theorem mapO_id (φ : AV → AV) (o : Nat) (ob : Ob) : (mapO φ idN o ob).gen = ob.gen := by cases ob <;> rfl
theorem lyA_ok {C : Cx} (G : Gam C) {o ty sz cur n : Nat} {f : Nat → List DV} (ho : look C.H o = some (.row ty sz cur true n f)) (a : AV) (v : Value) (h : Rb C a v) : Rb (C.told (lyA o cur sz n f) idN) (lyA o cur sz n f a) v := by
 have eN : (C.told (lyA o cur sz n f) idN).N = C.N := funext fun b => propext (told_N _ _ b)
 have oth : ∀ (x : Nat) (ob : Ob), (mapO (lyA o cur sz n f) idN x ob).gen = ob.gen := fun x ob => mapO_id _ x ob
 cases a with
 | own x q =>
  simp only [lyA]
  split
  ·exact told_other (a := .own x q) h fun y _ ob _ => oth y ob
  ·rename_i e
   obtain rfl := (beq_nat_iff _ _).1 e
   split
   ·rename_i e2
    obtain rfl := (beq_nat_iff _ _).1 e2
    obtain ⟨ob, h1, h2, h3⟩ := h
    rw [ho] at h1
    obtain rfl := Option.some.inj h1
    rw [h3 rfl]
    show RD C.W (C.told _ idN).N _ _
    rw [eN]
    exact frozen_data G ho
   ·trivial
 | ptr x q i j => exact told_other (a := .ptr x q i j) h fun y _ ob _ => oth y ob
 | win x q a1 a2 a3 => exact told_other (a := .win x q a1 a2 a3) h fun y _ ob _ => oth y ob
 | any => trivial
 | d x => exact told_other (a := .d x) h fun y hy => by cases hy
 | dp x => exact told_other (a := .dp x) h fun y hy => by cases hy
 | agg cs => exact h.elim
 | fn f x y => exact h.elim
 | tup cs => exact h.elim
theorem lyB_ok {C : Cx} (G : Gam C) {o ty : Nat} {ds : List DV} (ho : look C.H o = some (.row ty ds.length 0 true 1 (fun _ => ds))) (a : AV) (v : Value) (h : Rb C a v) : Rb (C.told (lyB o ds) idN) (lyB o ds a) v := by
 have eN : (C.told (lyB o ds) idN).N = C.N := funext fun b => propext (told_N _ _ b)
 have oth : ∀ (x : Nat) (ob : Ob), (mapO (lyB o ds) idN x ob).gen = ob.gen := fun x ob => mapO_id _ x ob
 cases a with
 | own x q =>
  simp only [lyB]
  split
  ·exact told_other (a := .own x q) h fun y _ ob _ => oth y ob
  ·trivial
 | ptr x q i j =>
  simp only [lyB]
  split
  ·exact told_other (a := .ptr x q i j) h fun y _ ob _ => oth y ob
  ·rename_i e
   obtain rfl := (beq_nat_iff _ _).1 e
   split
   ·rename_i e2 e3
    obtain rfl := (beq_nat_iff _ _).1 e2
    obtain rfl := (beq_nat_iff _ _).1 e3
    obtain ⟨ob, h1, h2, h3⟩ := h
    rw [ho] at h1
    obtain rfl := Option.some.inj h1
    obtain ⟨b, m, c, e1, rfl⟩ := h3 rfl
    have D := frozen_data G ho
    rw [e1] at D
    cases D with
    | sl _ _ _ A b' off _ u hA hc hl hu hr =>
     obtain ⟨q1, q2⟩ := hA (by omega)
     simp only [Option.some.injEq, Addr.mk.injEq] at q1
     obtain ⟨rfl, rfl, _⟩ := q1
     refine ⟨b, j, fun t => u 0 (j + t), ?_, by rw [eN]; exact q2, fun t ht => ?_⟩
     ·simp [Ob.sz]
     ·rw [List.length_drop] at ht
      have k1 := hu 0 (j + t) (by omega) (by omega)
      have k2 := hr 0 (j + t) (by omega) (by omega)
      refine ⟨⟨?_, k1.2⟩, ?_⟩
      ·rw [← k1.1]
       show C.W.cell? _ = _
       congr 2
       omega
      ·rw [eN]
       have : (ds.drop j).getD t default = ds.getD (j + t) default := by simp [List.getD_eq_getElem?_getD]
       rw [this]
       exact k2
   ·trivial
 | win x q a1 a2 a3 => exact told_other (a := .win x q a1 a2 a3) h fun y _ ob _ => oth y ob
 | any => trivial
 | d x => exact told_other (a := .d x) h fun y hy => by cases hy
 | dp x => exact told_other (a := .dp x) h fun y hy => by cases hy
 | agg cs => exact h.elim
 | fn f x y => exact h.elim
 | tup cs => exact h.elim
/-- an object is laid for good, told as nb -/
theorem Gam.freezeTo {C : Cx} (G : Gam C) {o : Nat} {ob nb : Ob} (ho : look C.H o = some ob) (h1 : nb.gen = ob.gen) (h2 : nb.sz = ob.sz) (h3 : nb.free = true → ob.free = true) (hok : OK C o nb) :
    Fr C ⟨C.E, C.W, setH C.H o nb, C.vl⟩ ∧ Gam ⟨C.E, C.W, setH C.H o nb, C.vl⟩ := by
  have L : ∀ x, look (setH C.H o nb) x = if o = x then some nb else look C.H x := fun x => look_setH o _ x C.H
  have back : ∀ x b, look (setH C.H o nb) x = some b → ∃ b', look C.H x = some b' := fun x b h => by
    rw [L] at h
    by_cases e : o = x
    · subst e; exact ⟨_, ho⟩
    · rw [if_neg e] at h; exact ⟨_, h⟩
  have hF : Fr C ⟨C.E, C.W, setH C.H o nb, C.vl⟩ := by
    refine ⟨fun b h => ⟨⟨h.1, h.2.1, fun x ob hx hf => ?_⟩, rfl⟩, fun x ob hx => ?_⟩
    · rw [L] at hx
      by_cases e : o = x
      · subst e
        rw [if_pos rfl] at hx
        obtain rfl := Option.some.inj hx
        exact h.2.2 o ob ho (h3 hf)
      · rw [if_neg e] at hx; exact h.2.2 x ob hx hf
    · show ∃ ob', look (setH C.H o nb) x = some ob' ∧ _
      rw [L]
      by_cases e : o = x
      · subst e
        rw [ho] at hx
        obtain rfl := Option.some.inj hx
        exact ⟨nb, by rw [if_pos rfl], .inl ⟨h1, h2, rfl⟩⟩
      · exact ⟨ob, by rw [if_neg e]; exact hx, .inl ⟨rfl, rfl, rfl⟩⟩
  refine ⟨hF, ⟨fun x b hx => ?_, fun x y bx byy k hx hy hne hk => ?_, G.kp, fun x b k hx hk => ?_⟩⟩
  · replace hx : look (setH C.H o nb) x = some b := hx
    rw [L] at hx
    by_cases e : o = x
    · subst e
      rw [if_pos rfl] at hx
      obtain rfl := Option.some.inj hx
      exact hok.fr hF rfl fun _ _ => rfl
    · rw [if_neg e] at hx
      exact (G.ok x b hx).fr hF rfl fun _ _ => rfl
  · obtain ⟨b1, q1⟩ := back x bx hx
    obtain ⟨b2, q2⟩ := back y byy hy
    exact G.ap x y b1 b2 k q1 q2 hne hk
  · obtain ⟨b1, q1⟩ := back x b hx
    exact G.mu x b1 k q1 hk
/-- a variable becomes a frozen row of one element -/
theorem Gam.freezeB {C : Cx} (G : Gam C) {o ty : Nat} {cs : List AV} {ds : List DV} (ho : look C.H o = some (.box ty cs)) (hd : toDs C.H cs = some ds) (hk : cs.all (okCell C.H) = true) :
    Fr C ⟨C.E, C.W, setH C.H o (.row ty ds.length 0 true 1 (fun _ => ds)), C.vl⟩ ∧ Gam ⟨C.E, C.W, setH C.H o (.row ty ds.length 0 true 1 (fun _ => ds)), C.vl⟩ := by
  obtain ⟨b, us, e1, hh, hr⟩ := G.ok o _ ho
  obtain ⟨l1, l2⟩ := toDs_spec G hr hd
  rw [List.all_eq_true] at hk
  have one : ∀ u ∈ us, u.oneCell' = true := by
    intro u hu
    obtain ⟨j, hj, rfl⟩ := List.getElem_of_mem hu
    have hj' : j < cs.length := by rw [hr.1]; exact hj
    have k := hr.2 j hj'
    rw [show us.getD j undef = us[j] by simp [List.getD_eq_getElem?_getD, hj]] at k
    exact okCell_one G k (hk _ (by rw [List.getD_eq_getElem?_getD, List.getElem?_eq_getElem hj']; exact List.getElem_mem _))
  have hl : us.length = ds.length := by rw [l1, hr.1]
  refine G.freezeTo ho rfl (by simp [Ob.sz, l1]) (fun h => by cases h) ⟨us, ⟨by rw [hl, Nat.one_mul], .inr ⟨b, 1, us.toArray, e1, Nat.zero_le _, hh, Nat.le_refl _, by decide, by simp [hl], by rw [Nat.one_mul, ← hl]; simp⟩⟩, fun _ _ => rfl, one, fun i j hi hj => ?_⟩
  obtain rfl : i = 0 := by omega
  rw [Nat.zero_mul, Nat.zero_add]
  exact l2 j hj
/-! ### The steps -/
def gh1 (Hp : OH) (S : St) : Gh → Option St
  | .virt s o ty sz => match nth S.t s, look S.H o with
    | .d (.v (.slice none 0 0)), none => some ⟨setN S.t s (.own o 0), setH S.H o (.row ty sz 0 false 0 fun _ => [])⟩
    | _, _ => none
  | .virtC p j o ty sz => match look S.H p, look S.H o with
    | some (.box T cs), none => match nth cs j with
      | .d (.v (.slice none 0 0)) => some ⟨S.t, setH (setH S.H o (.row ty sz 0 false 0 fun _ => [])) p (.box T (setN cs j (.own o 0)))⟩
      | _ => none
    | _, _ => none
  | .regen o g => match look S.H o with
    | some (.row ty sz cur fz n f) => match (match look Hp o with
        | some ob => Nat.blt ob.gen g
        | none => true) with
      | true => some ⟨mapC (mapA (rgA o cur g)) S.t, mapOH (rgA o cur g) (rgN o g) S.H⟩
      | false => none
    | _ => none
  | .lay o => match look S.H o with
    | some (.row ty sz cur fz n f) => some ⟨mapC (mapA (lyA o cur sz n f)) S.t, mapOH (lyA o cur sz n f) idN (setH S.H o (.row ty sz cur true n f))⟩
    | some (.box ty cs) => match toDs S.H cs, cs.all (okCell S.H) with
      | some ds, true => some ⟨mapC (mapA (lyB o ds)) S.t, mapOH (lyB o ds) idN (setH S.H o (.row ty ds.length 0 true 1 fun _ => ds))⟩
      | _, _ => none
    | some (.mp _ _) => none
    | none => none
  | .tell o f => match look S.H o with
    | some (.row ty sz g fz n _) => match Nat.beq n 0 with
      | true => some ⟨S.t, setH S.H o (.row ty sz g fz 0 f)⟩
      | false => none
    | _ => none
  | .drop s => some ⟨setN S.t s .any, S.H⟩
def ghs (Hp : OH) : St → List Gh → Option St
 | S, [] => some S
 | S, x :: r => match gh1 Hp S x with
  | some S' => ghs Hp S' r
  | none => none
section
variable {C C0 : Cx} {S S1 : St} {a : Act}
theorem Gam.virt (G : Gam C) {o ty sz : Nat} (ho : look C.H o = none) : Fr C (C.put o (.row ty sz 0 false 0 fun _ => []) C.W (.slice none 0 0)) ∧ Gam (C.put o (.row ty sz 0 false 0 fun _ => []) C.W (.slice none 0 0)) :=
 G.turn (Nat.le_refl _) rfl rfl rfl (fun _ _ _ => rfl) (fun k hk => by simp [Value.ownBlock] at hk) (fun ob h => by rw [ho] at h; cases h)
  (fun hF => ⟨[], by show World.ownsRow C.W 0 ty sz (updV C.vl o _ o) 0 []; rw [updV_same]; exact World.ownsRow_nil _ _ _ _, fun i hi => by omega, fun u hu => (by cases hu), fun i j hi => by omega⟩)
theorem gh1_sat0 {x : Gh} (hnt : ∀ o f, x ≠ .tell o f) (h : Sat C S a) (hF : Fr C0 C) (e : gh1 C0.H S x = some S1) : ∃ C', Sat C' S1 a ∧ C'.W = C.W ∧ C'.E = C.E ∧ Fr C0 C' := by
 cases x with
 | tell o f => exact absurd rfl (hnt o f)
 | drop s =>
  simp only [gh1, Option.some.injEq] at e
  subst e
  refine ⟨C, ⟨h.g, h.h, by rw [h.n]; exact (setN_len _ _ _).symm, fun i => ?_, h.d⟩, rfl, rfl, hF⟩
  simp only [nth_setN]
  split
  ·trivial
  ·exact h.t i
 | virt s o ty sz =>
  simp only [gh1] at e
  split at e
  ·rename_i hs ho
   obtain rfl := Option.some.inj e
   obtain ⟨k1, k2⟩ := h.g.virt (ty := ty) (sz := sz) (by rw [h.h]; exact ho)
   refine ⟨C.put o (.row ty sz 0 false 0 fun _ => []) C.W (.slice none 0 0), ⟨k2, by show setH C.H o _ = _; rw [h.h], by rw [h.n]; exact (setN_len _ _ _).symm, fun i => ?_, h.d⟩, rfl, rfl, hF.trans k1⟩
   simp only [nth_setN]
   split
   ·rename_i q
    have hv := h.t s
    rw [hs] at hv
    rw [q.1, rv_ex_inv hv]
    exact ⟨_, by rw [put_look, if_pos rfl], Nat.le_refl _, fun _ => (updV_same _ _ _).symm⟩
   ·exact (h.t i).fr k1
  ·cases e
 | virtC p j o ty sz =>
  simp only [gh1] at e
  split at e
  ·rename_i T cs hp ho
   split at e
   ·rename_i hj
    obtain rfl := Option.some.inj e
    obtain ⟨k1, k2⟩ := h.g.virt (ty := ty) (sz := sz) (by rw [h.h]; exact ho)
    obtain ⟨D, hD⟩ : ∃ D, D = C.put o (.row ty sz 0 false 0 fun _ => []) C.W (.slice none 0 0) := ⟨_, rfl⟩
    rw [← hD] at k1 k2
    have hne : o ≠ p := fun q => by subst q; rw [ho] at hp; cases hp
    have DW : D.W = C.W := by rw [hD]; rfl
    have DE : D.E = C.E := by rw [hD]; rfl
    have DH : D.H = setH S.H o (.row ty sz 0 false 0 fun _ => []) := by rw [hD]; show setH C.H o _ = _; rw [h.h]
    have lo : look D.H o = some (.row ty sz 0 false 0 fun _ => []) := by rw [DH, look_setH, if_pos rfl]
    have lp : look D.H p = some (.box T cs) := by rw [DH, look_setH, if_neg hne]; exact hp
    have vo : D.vl o = .slice none 0 0 := by rw [hD]; exact updV_same _ _ _
    have hj' : j < cs.length := by
     rcases Nat.lt_or_ge j cs.length with q | q
     ·exact q
     ·rw [nth_getD, List.getD_eq_getElem?_getD, List.getElem?_eq_none q] at hj; cases hj
    obtain ⟨b, us, e1, hh, hr⟩ := k2.ok p _ lp
    obtain ⟨m1, m2⟩ := k2.turn (o := p) (b' := .box T (setN cs j (.own o 0))) (W' := D.W) (vo := D.vl p) (Nat.le_refl _) rfl rfl rfl (fun _ _ _ => rfl) (fun k hk => .inr ⟨_, lp, rfl, hk⟩)
     (fun ob ho' => by rw [lp] at ho'; obtain rfl := Option.some.inj ho'; exact .inl ⟨rfl, by simp [Ob.sz, setN_len], rfl⟩)
     (fun hFr => ⟨b, us, by show updV D.vl p (D.vl p) p = _; rw [updV_same]; exact e1, hh, by rw [setN_len]; exact hr.1, fun i hi => by
      rw [setN_len] at hi
      rw [← nth_getD, nth_setN]
      split
      ·rename_i q
       have r := hr.2 i hi
       rw [q.1, ← nth_getD, hj] at r
       rw [q.1, rv_ex_inv (C := D) r]
       exact ⟨_, by rw [put_look, if_neg (Ne.symm hne)]; exact lo, Nat.le_refl _, fun _ => by show _ = updV D.vl p _ o; rw [updV_other _ _ _ _ hne]; exact vo.symm⟩
      ·rw [nth_getD]; exact (hr.2 i hi).fr hFr⟩)
    refine ⟨D.put p (.box T (setN cs j (.own o 0))) D.W (D.vl p), ⟨m2, by show setH D.H p _ = _; rw [DH], h.n, fun i => ((h.t i).fr k1).fr m1, h.d⟩, DW, DE, (hF.trans k1).trans m1⟩
   ·cases e
  ·cases e
 | regen o g =>
  simp only [gh1] at e
  split at e
  ·rename_i ty sz cur fz n f ho
   split at e
   ·rename_i hp
    obtain rfl := Option.some.inj e
    have ho' : look C.H o = some (.row ty sz cur fz n f) := by rw [h.h]; exact ho
    refine ⟨C.told (rgA o cur g) (rgN o g), told_sat h (fun a v hv => rgA_ok ho' a v hv), rfl, rfl, told_fr hF fun x ob g0 hx hg => ?_⟩
    by_cases hxo : x = o
    ·subst hxo
     obtain ⟨b0, q1, rfl⟩ := hg
     rw [q1] at hp
     refine .inr ?_
     rw [ho'] at hx
     obtain rfl := Option.some.inj hx
     simp only [mapO, Ob.gen, rgN, Nat.beq_refl]
     exact (blt_iff _ _).1 hp
    ·refine .inl ?_
     cases ob with
     | row => simp only [mapO, Ob.gen, rgN, (beq_nat_false x o).2 hxo]
     | box => rfl
     | mp => rfl
   ·cases e
  ·cases e
 | lay o =>
  simp only [gh1] at e
  split at e
  ·rename_i ty sz cur fz n f ho
   obtain rfl := Option.some.inj e
   obtain ⟨k1, k2⟩ := h.g.freeze (by rw [h.h]; exact ho)
   obtain ⟨D, hD⟩ : ∃ D : Cx, D = ⟨C.E, C.W, setH C.H o (.row ty sz cur true n f), C.vl⟩ := ⟨_, rfl⟩
   rw [← hD] at k1 k2
   have s2 : Sat D ⟨S.t, setH S.H o (.row ty sz cur true n f)⟩ a := ⟨k2, by rw [hD]; show setH C.H o _ = _; rw [h.h], h.n, fun i => (h.t i).fr k1, h.d⟩
   have lo : look D.H o = some (.row ty sz cur true n f) := by rw [hD]; show look (setH _ _ _) _ = _; rw [look_setH, if_pos rfl]
   exact ⟨D.told (lyA o cur sz n f) idN, told_sat s2 (fun a v hv => lyA_ok k2 lo a v hv), by rw [hD]; rfl, by rw [hD]; rfl, told_fr (hF.trans k1) fun x ob g0 _ _ => .inl (mapO_id _ _ _)⟩
  ·rename_i ty cs ho
   split at e
   ·rename_i ds hd hk
    obtain rfl := Option.some.inj e
    obtain ⟨k1, k2⟩ := h.g.freezeB (o := o) (ty := ty) (cs := cs) (ds := ds) (by rw [h.h]; exact ho) (by rw [h.h]; exact hd) (by rw [h.h]; exact hk)
    obtain ⟨D, hD⟩ : ∃ D : Cx, D = ⟨C.E, C.W, setH C.H o (.row ty ds.length 0 true 1 fun _ => ds), C.vl⟩ := ⟨_, rfl⟩
    rw [← hD] at k1 k2
    have s2 : Sat D ⟨S.t, setH S.H o (.row ty ds.length 0 true 1 fun _ => ds)⟩ a := ⟨k2, by rw [hD]; show setH C.H o _ = _; rw [h.h], h.n, fun i => (h.t i).fr k1, h.d⟩
    have lo : look D.H o = some (.row ty ds.length 0 true 1 fun _ => ds) := by rw [hD]; show look (setH _ _ _) _ = _; rw [look_setH, if_pos rfl]
    exact ⟨D.told (lyB o ds) idN, told_sat s2 (fun a v hv => lyB_ok k2 lo a v hv), by rw [hD]; rfl, by rw [hD]; rfl, told_fr (hF.trans k1) fun x ob g0 _ _ => .inl (mapO_id _ _ _)⟩
   ·cases e
  ·cases e
  ·cases e
theorem gh1_tell {o : Nat} {f : Nat → List DV} (h : Sat C S a) (hF : Fr C0 C) (e : gh1 C0.H S (.tell o f) = some S1) : ∃ C', Sat C' S1 a ∧ C'.W = C.W ∧ C'.E = C.E ∧ Fr C0 C' := by
 simp only [gh1] at e
 split at e
 ·rename_i ty sz g fz n f0 ho
  split at e
  ·rename_i hn
   obtain rfl := Option.some.inj e
   obtain rfl := (beq_nat_iff _ _).1 hn
   have ho' : look C.H o = some (.row ty sz g fz 0 f0) := by rw [h.h]; exact ho
   obtain ⟨us, q1, q2, q4, q3⟩ := h.g.ok o _ ho'
   obtain ⟨k1, k2⟩ := h.g.freezeTo (nb := .row ty sz g fz 0 f) ho' rfl rfl (fun h => h) ⟨us, q1, fun i hi => by omega, q4, fun i j hi => by omega⟩
   exact ⟨_, ⟨k2, by show setH C.H o _ = _; rw [h.h], h.n, fun i => (h.t i).fr k1, h.d⟩, rfl, rfl, hF.trans k1⟩
  ·cases e
 ·cases e
theorem gh1_sat {x : Gh} (h : Sat C S a) (hF : Fr C0 C) (e : gh1 C0.H S x = some S1) : ∃ C', Sat C' S1 a ∧ C'.W = C.W ∧ C'.E = C.E ∧ Fr C0 C' := by
 cases x with
 | tell o f => exact gh1_tell h hF e
 | _ => exact gh1_sat0 (fun _ _ q => by cases q) h hF e
theorem ghs_sat : ∀ {l : List Gh} {S S1 : St} {C : Cx}, Sat C S a → Fr C0 C → ghs C0.H S l = some S1 → ∃ C', Sat C' S1 a ∧ C'.W = C.W ∧ C'.E = C.E ∧ Fr C0 C'
 | [], S, S1, C, h, hF, e => by simp only [ghs, Option.some.injEq] at e; subst e; exact ⟨C, h, rfl, rfl, hF⟩
 | x :: r, S, S1, C, h, hF, e => by
  simp only [ghs] at e
  split at e
  ·rename_i S' hx
   obtain ⟨C1, q1, q2, q3, q4⟩ := gh1_sat h hF hx
   obtain ⟨C2, p1, p2, p3, p4⟩ := ghs_sat q1 q4 e
   exact ⟨C2, p1, p2.trans q2, p3.trans q3, p4⟩
  ·cases e
end
/-! ### The same, reckoned out -/
def fATl : List AV → (List AV → Prop) → Prop
 | [], k => k []
 | a :: r, k => fA a fun b => fATl r fun r' => k (b :: r')
theorem fATl_eq : ∀ (l : List AV) (k : List AV → Prop), fATl l k = k l
 | [], _ => rfl
 | a :: r, k => by simp only [fATl, fA_eq, fATl_eq r]
def fST (S : St) (k : St → Prop) : Prop := fATl S.t fun t => fH S.H fun H => k ⟨t, H⟩
theorem fST_eq (S : St) (k : St → Prop) : fST S k = k S := by unfold fST; rw [fATl_eq, fH_eq]
def fGh (Hp : OH) : List Gh → St → (St → Prop) → Prop
 | [], S, k => k S
 | x :: r, S, k => match gh1 Hp S x with
  | some S' => fST S' fun S2 => fGh Hp r S2 k
  | none => False
theorem fGh_spec {Hp : OH} : ∀ {l : List Gh} {S : St} {k : St → Prop}, fGh Hp l S k → ∃ S1, ghs Hp S l = some S1 ∧ k S1
 | [], S, k, h => ⟨S, rfl, h⟩
 | x :: r, S, k, h => by
  simp only [fGh] at h
  split at h
  ·rename_i S' hx
   rw [fST_eq] at h
   obtain ⟨S1, q1, q2⟩ := fGh_spec h
   exact ⟨S1, by simp only [ghs, hx]; exact q1, q2⟩
  ·exact h.elim
theorem fGh_iff {Hp : OH} : ∀ {l : List Gh} {S : St} {k : St → Prop}, fGh Hp l S k ↔ ∃ S1, ghs Hp S l = some S1 ∧ k S1
 | [], S, k => ⟨fun h => ⟨S, rfl, h⟩, fun ⟨S1, h1, h2⟩ => by simp only [ghs, Option.some.injEq] at h1; subst h1; exact h2⟩
 | x :: r, S, k => by
  simp only [fGh, ghs]
  split
  ·rw [fST_eq]; exact fGh_iff
  ·simp
def hintOf : List (Nat × List Gh) → Nat → List Gh
 | [], _ => []
 | (k, l) :: r, i => match Nat.beq k i with
  | true => l
  | false => hintOf r i
end Go.Proofs.YtedokpgkjcnoiaaGreat
