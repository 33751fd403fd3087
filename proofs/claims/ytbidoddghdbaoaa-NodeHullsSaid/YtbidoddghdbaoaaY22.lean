/- A contract for objects of other names and later generations. No program in sight. Data: kids, entries, nodes, tables. No program in sight.  -/
import Derived.Test.YtbidoddghdbaoaaProg
import Derived.KernelRfl
import Derived.Test.YtbidoddghdbaoaaY21
set_option linter.unusedVariables false
set_option linter.unusedSimpArgs false
namespace Go.Proofs.Ytbidoddghdbaoaa
open Go.RowKit
def rnA (σ δ : Nat → Nat) : AV → AV
  | .ptr o g i j => .ptr (σ o) (g + δ o) i j
  | .own o g => .own (σ o) (g + δ o)
  | .win o g a sz n => .win (σ o) (g + δ o) a sz n
  | a => a
def rnO (σ δ : Nat → Nat) (o : Nat) : Ob → Ob
  | .row ty sz g fz n f => .row ty sz (g + δ o) fz n f
  | .box ty cs => .box ty (mapC (rnA σ δ) cs)
  | .mp ok L => .mp ok L
def rnH (σ δ : Nat → Nat) : OH → OH
  | [] => []
  | (o, b) :: r => (σ o, rnO σ δ o b) :: rnH σ δ r
section
variable {σ τ δ : Nat → Nat} (hστ : ∀ x, τ (σ x) = x)
include hστ
theorem sig_inj {x y : Nat} (h : σ x = σ y) : x = y := by rw [← hστ x, h, hστ]
theorem look_rnH (o : Nat) : ∀ H : OH, look (rnH σ δ H) (σ o) = (look H o).map (rnO σ δ o)
  | [] => rfl
  | (k, b) :: r => by
    simp only [rnH, look]
    split
    · rename_i h
      have := sig_inj hστ ((beq_nat_iff _ _).1 h)
      subst this
      rw [Nat.beq_refl]; rfl
    · rename_i h
      have hne : k ≠ o := fun e => by subst e; exact (beq_nat_false _ _).1 h rfl
      rw [(beq_nat_false _ _).2 hne]
      exact look_rnH o r
end
theorem look_rnH_inv {σ δ : Nat → Nat} {x : Nat} {ob : Ob} : ∀ {H : OH}, look (rnH σ δ H) x = some ob → ∃ o b, x = σ o ∧ look H o = some b ∧ rnO σ δ o b = ob
  | [], h => by cases h
  | (k, b) :: r, h => by
    simp only [rnH, look] at h
    split at h
    · rename_i e
      obtain rfl := Option.some.inj h
      exact ⟨k, b, ((beq_nat_iff _ _).1 e).symm, by simp only [look, Nat.beq_refl], rfl⟩
    · rename_i e
      obtain ⟨o, b', rfl, q2, q3⟩ := look_rnH_inv h
      refine ⟨o, b', rfl, ?_, q3⟩
      have hne : k ≠ o := fun z => by subst z; exact (beq_nat_false _ _).1 e rfl
      simp only [look, (beq_nat_false _ _).2 hne]
      exact q2
structure RnC (σ δ : Nat → Nat) (C D : Cx) : Prop where
  E : D.E = C.E
  W : D.W = C.W
  H : D.H = rnH σ δ C.H
  v : ∀ x, D.vl (σ x) = C.vl x
  b : ∀ o ty cs, look C.H o = some (.box ty cs) → δ o = 0
  m : ∀ o ok L, look C.H o = some (.mp ok L) → δ o = 0
section
variable {σ τ δ : Nat → Nat} {C D : Cx}
theorem rnO_free (o : Nat) (b : Ob) : (rnO σ δ o b).free = b.free := by cases b <;> rfl
theorem rnO_sz (o : Nat) (b : Ob) : (rnO σ δ o b).sz = b.sz := by cases b <;> simp [rnO, Ob.sz, mapC_len]
theorem RnC.gen (R : RnC σ δ C D) {o : Nat} {b : Ob} (h : look C.H o = some b) : (rnO σ δ o b).gen = b.gen + δ o := by
  cases b with
  | row => rfl
  | box ty cs => show 0 = 0 + δ o; rw [R.b o ty cs h]
  | mp ok L => show 0 = 0 + δ o; rw [R.m o ok L h]
variable (hστ : ∀ x, τ (σ x) = x)
include hστ
theorem RnC.look (R : RnC σ δ C D) {o : Nat} {b : Ob} (h : look C.H o = some b) : look D.H (σ o) = some (rnO σ δ o b) := by rw [R.H, look_rnH hστ, h]; rfl
theorem RnC.look' (R : RnC σ δ C D) {x : Nat} {ob : Ob} (h : Go.Proofs.Ytbidoddghdbaoaa.look D.H x = some ob) : ∃ o b, x = σ o ∧ Go.Proofs.Ytbidoddghdbaoaa.look C.H o = some b ∧ rnO σ δ o b = ob := by have _ := hστ 0; rw [R.H] at h; exact look_rnH_inv h
theorem RnC.N (R : RnC σ δ C D) : D.N = C.N := by
  funext b
  apply propext
  constructor
  · rintro ⟨h1, h2, h3⟩
    refine ⟨by rw [R.E] at h1; exact h1, by rw [R.W] at h2; exact h2, fun o ob ho hf => ?_⟩
    rw [← R.v]
    exact h3 (σ o) _ (R.look hστ ho) (by rw [rnO_free]; exact hf)
  · rintro ⟨h1, h2, h3⟩
    refine ⟨by rw [R.E]; exact h1, by rw [R.W]; exact h2, fun x ob ho hf => ?_⟩
    obtain ⟨o, b0, rfl, q1, rfl⟩ := R.look' hστ ho
    rw [R.v]
    exact h3 o b0 q1 (by rw [rnO_free] at hf; exact hf)
theorem RnC.rb (R : RnC σ δ C D) (a : AV) (v : Value) : Rb C a v ↔ Rb D (rnA σ δ a) v := by
  have hN := R.N hστ
  cases a with
  | any => exact Iff.rfl
  | d x => show RD C.W C.N x v ↔ RD D.W D.N x v; rw [hN, R.W]
  | dp cs => simp only [rnA, Rb, hN, R.W]
  | ptr o g i j =>
    constructor
    · rintro ⟨ob, h1, h2, h3⟩
      refine ⟨_, R.look hστ h1, by rw [R.gen h1]; omega, fun e => ?_⟩
      rw [R.gen h1] at e
      obtain ⟨b, n, c, e1, e2⟩ := h3 (by omega)
      exact ⟨b, n, c, by rw [R.v]; exact e1, by rw [rnO_sz]; exact e2⟩
    · rintro ⟨ob, h1, h2, h3⟩
      obtain ⟨o', b0, q0, q1, rfl⟩ := R.look' hστ h1
      obtain rfl := sig_inj hστ q0
      rw [R.gen q1] at h2 h3
      refine ⟨b0, q1, by omega, fun e => ?_⟩
      obtain ⟨b, n, c, e1, e2⟩ := h3 (by omega)
      exact ⟨b, n, c, by rw [R.v] at e1; exact e1, by rw [rnO_sz] at e2; exact e2⟩
  | own o g =>
    constructor
    · rintro ⟨ob, h1, h2, h3⟩
      refine ⟨_, R.look hστ h1, by rw [R.gen h1]; omega, fun e => ?_⟩
      rw [R.gen h1] at e
      rw [R.v, rnO_sz]; exact h3 (by omega)
    · rintro ⟨ob, h1, h2, h3⟩
      obtain ⟨o', b0, q0, q1, rfl⟩ := R.look' hστ h1
      obtain rfl := sig_inj hστ q0
      rw [R.gen q1] at h2 h3
      exact ⟨b0, q1, by omega, fun e => by rw [R.v, rnO_sz] at h3; exact h3 (by omega)⟩
  | win o g x s n =>
    constructor
    · rintro ⟨ob, h1, h2, h3⟩
      refine ⟨_, R.look hστ h1, by rw [R.gen h1]; omega, fun e => ?_⟩
      rw [R.gen h1] at e
      rw [R.v]; exact h3 (by omega)
    · rintro ⟨ob, h1, h2, h3⟩
      obtain ⟨o', b0, q0, q1, rfl⟩ := R.look' hστ h1
      obtain rfl := sig_inj hστ q0
      rw [R.gen q1] at h2 h3
      exact ⟨b0, q1, by omega, fun e => by rw [R.v] at h3; exact h3 (by omega)⟩
  | agg cs => exact Iff.rfl
  | fn f x y => exact Iff.rfl
  | tup cs => exact Iff.rfl
theorem RnC.rbs (R : RnC σ δ C D) (cs : List AV) (us : List Value) : Rbs C cs us ↔ Rbs D (mapC (rnA σ δ) cs) us := by
  unfold Rbs
  rw [mapC_len]
  refine and_congr Iff.rfl (forall_congr' fun j => ?_)
  constructor
  · intro h hj; rw [mapC_get _ _ _ hj]; exact (R.rb hστ _ _).1 (h hj)
  · intro h hj; have := h hj; rw [mapC_get _ _ _ hj] at this; exact (R.rb hστ _ _).2 this
theorem RnC.r1 (R : RnC σ δ C D) (a : AV) (v : Value) : R1 C a v ↔ R1 D (mapA1 (rnA σ δ) a) v := by
  cases a with
  | agg cs => simp only [R1, mapA1, R.rbs hστ]
  | fn f x y => simp only [R1, mapA1, R.rbs hστ]
  | any => exact R.rb hστ .any v
  | d x => exact R.rb hστ (.d x) v
  | dp x => exact R.rb hστ (.dp x) v
  | ptr o g i j => exact R.rb hστ (.ptr o g i j) v
  | own o g => exact R.rb hστ (.own o g) v
  | win o g x s n => exact R.rb hστ (.win o g x s n) v
  | tup cs => exact Iff.rfl
theorem RnC.rv (R : RnC σ δ C D) (a : AV) (v : Value) : Rv C a v ↔ Rv D (mapA (rnA σ δ) a) v := by
  cases a with
  | tup cs =>
    simp only [Rv, mapA, mapC_len]
    refine exists_congr fun us => and_congr Iff.rfl (and_congr Iff.rfl (forall_congr' fun j => ?_))
    constructor
    · intro h hj; rw [mapC_get _ _ _ hj]; exact (R.r1 hστ _ _).1 (h hj)
    · intro h hj; have := h hj; rw [mapC_get _ _ _ hj] at this; exact (R.r1 hστ _ _).2 this
  | agg cs => exact R.r1 hστ (.agg cs) v
  | fn f x y => exact R.r1 hστ (.fn f x y) v
  | any => exact R.r1 hστ .any v
  | d x => exact R.r1 hστ (.d x) v
  | dp x => exact R.r1 hστ (.dp x) v
  | ptr o g i j => exact R.r1 hστ (.ptr o g i j) v
  | own o g => exact R.r1 hστ (.own o g) v
  | win o g x s n => exact R.r1 hστ (.win o g x s n) v
theorem RnC.ok (R : RnC σ δ C D) (o : Nat) (b : Ob) : OK C o b ↔ OK D (σ o) (rnO σ δ o b) := by
  cases b with
  | row ty sz g fz n f => simp only [OK, rnO, R.v, R.W, R.N hστ]
  | box ty cs => simp only [OK, rnO, R.v, R.W, R.rbs hστ]
  | mp ok L => simp only [OK, rnO, R.v, R.W, R.N hστ]
theorem RnC.gam (R : RnC σ δ C D) : Gam C ↔ Gam D := by
  constructor
  · intro G
    refine ⟨fun x b hx => ?_, fun x y b b' k hx hy hne hk => ?_, ?_, fun x b k hx hk => ?_⟩
    · obtain ⟨o, b0, rfl, q1, rfl⟩ := R.look' hστ hx
      exact (R.ok hστ o b0).1 (G.ok o b0 q1)
    · obtain ⟨o, b0, rfl, q1, rfl⟩ := R.look' hστ hx
      obtain ⟨p, b1, rfl, q2, rfl⟩ := R.look' hστ hy
      rw [R.v] at hk ⊢
      exact G.ap o p b0 b1 k q1 q2 (fun e => hne (by rw [e])) hk
    · rw [R.E, R.W]; exact G.kp
    · obtain ⟨o, b0, rfl, q1, rfl⟩ := R.look' hστ hx
      rw [R.v] at hk
      rw [R.E]; exact G.mu o b0 k q1 hk
  · intro G
    refine ⟨fun o b ho => (R.ok hστ o b).2 (G.ok _ _ (R.look hστ ho)), fun o p b b' k ho hp hne hk => ?_, ?_, fun o b k ho hk => ?_⟩
    · have := G.ap (σ o) (σ p) _ _ k (R.look hστ ho) (R.look hστ hp) (fun e => hne (sig_inj hστ e)) (by rw [R.v]; exact hk)
      rw [R.v] at this; exact this
    · have := G.kp; rw [R.E, R.W] at this; exact this
    · have := G.mu (σ o) _ k (R.look hστ ho) (by rw [R.v]; exact hk)
      rw [R.E] at this; exact this
end
/-- THE LAW -/
theorem ACall.ren {P : Program} {f : FuncId} {args : List AV} {Hp H' : OH} {r : AV} {σ τ δ : Nat → Nat} (h1 : ∀ x, τ (σ x) = x)
    (hb : ∀ o ob, look Hp o = some ob ∨ look H' o = some ob → ob.rowk = false → δ o = 0) (hc : ACall P f args Hp r H') :
    ACall P f (mapC (mapA (rnA σ δ)) args) (rnH σ δ Hp) (mapA (rnA σ δ) r) (rnH σ δ H') := by
  refine ⟨hc.1, fun A W vl vs G hl hv => ?_⟩
  have eS : (fun b => ∃ o ob, look (rnH σ δ Hp) o = some ob ∧ (vl o).ownBlock = some b) = (fun b => ∃ o ob, look Hp o = some ob ∧ (vl (σ o)).ownBlock = some b) := by
    funext b
    apply propext
    constructor
    · rintro ⟨x, ob, q1, q2⟩
      obtain ⟨o, b0, rfl, q3, _⟩ := look_rnH_inv q1
      exact ⟨o, b0, q3, q2⟩
    · rintro ⟨o, b0, q1, q2⟩
      exact ⟨σ o, _, by rw [look_rnH h1, q1]; rfl, q2⟩
  rw [eS] at G hv ⊢
  have R : RnC σ δ ⟨⟨A, fun b => ∃ o ob, look Hp o = some ob ∧ (vl (σ o)).ownBlock = some b, W⟩, W, Hp, fun x => vl (σ x)⟩ ⟨⟨A, fun b => ∃ o ob, look Hp o = some ob ∧ (vl (σ o)).ownBlock = some b, W⟩, W, rnH σ δ Hp, vl⟩ :=
    ⟨rfl, rfl, rfl, fun _ => rfl, fun o ty cs h => hb o _ (.inl h) rfl, fun o ok L h => hb o _ (.inl h) rfl⟩
  refine (hc.2 A W (fun x => vl (σ x)) vs ((R.gam h1).2 G) (by rw [mapC_len] at hl; exact hl) fun j hj => ?_).mono ?_
  · have := hv j (by rw [mapC_len]; exact hj)
    rw [mapC_get _ _ _ hj] at this
    exact (R.rv h1 _ _).2 this
  · rintro e W' ⟨v, C', rfl, rfl, hH, hE, hF, hG, hr⟩
    have R' : RnC σ δ C' ⟨C'.E, C'.W, rnH σ δ H', fun x => C'.vl (τ x)⟩ := ⟨rfl, rfl, by rw [hH], fun x => by show C'.vl (τ (σ x)) = _; rw [h1], fun o ty cs h => hb o _ (.inr (by rw [← hH]; exact h)) rfl, fun o ok L h => hb o _ (.inr (by rw [← hH]; exact h)) rfl⟩
    refine ⟨v, ⟨C'.E, C'.W, rnH σ δ H', fun x => C'.vl (τ x)⟩, rfl, rfl, rfl, hE, ⟨fun b hb => ?_, fun x ob hx => ?_⟩, (R'.gam h1).1 hG, (R'.rv h1 _ _).1 hr⟩
    · rw [R.N h1] at hb
      rw [R'.N h1]
      exact hF.n b hb
    · obtain ⟨o, b0, rfl, q1, rfl⟩ := R.look' h1 hx
      obtain ⟨b1, q2, q3⟩ := hF.h o b0 q1
      refine ⟨_, R'.look h1 q2, ?_⟩
      rw [R.gen q1, R'.gen q2, rnO_sz, rnO_sz]
      rcases q3 with ⟨a1, a2, a3⟩ | q3
      · exact .inl ⟨by rw [a1], a2, by show C'.vl (τ (σ o)) = _; rw [h1]; exact a3⟩
      · exact .inr (by omega)
/-! ### Renamings -/
def swp (a b x : Nat) : Nat := if x = a then b else if x = b then a else x
theorem swp_swp (a b x : Nat) : swp a b (swp a b x) = x := by unfold swp; grind
theorem swp_out {a b x : Nat} (h1 : x ≠ a) (h2 : x ≠ b) : swp a b x = x := by simp only [swp]; rw [if_neg h1, if_neg h2]
theorem names1 (a b : Nat) : ∃ σ τ : Nat → Nat, (∀ x, τ (σ x) = x) ∧ σ a = b := ⟨swp a b, swp a b, swp_swp a b, by simp [swp]⟩
theorem names2 {a1 a2 b1 b2 : Nat} (ha : a1 ≠ a2) (hb : b1 ≠ b2) : ∃ σ τ : Nat → Nat, (∀ x, τ (σ x) = x) ∧ σ a1 = b1 ∧ σ a2 = b2 := by
  obtain ⟨σ, τ, h, e⟩ := names1 a1 b1
  have hn : σ a2 ≠ b1 := fun q => ha (sig_inj h (e.trans q.symm))
  exact ⟨fun x => swp (σ a2) b2 (σ x), fun x => τ (swp (σ a2) b2 x), fun x => by show τ (swp _ _ (swp _ _ (σ x))) = x; rw [swp_swp, h], by show swp _ _ (σ a1) = b1; rw [e]; exact swp_out (Ne.symm hn) hb, by simp [swp]⟩
end Go.Proofs.Ytbidoddghdbaoaa
namespace Go.Proofs.Ytbidoddghdbaoaa
structure KidD where
  sum : List Nat
  lo : List Int
  hi : List Int
  live : Int
  size : Int
  key : List Int
deriving Inhabited, DecidableEq
structure TableD where
  name : ByteArray
  cols : List ByteArray
  kd : KidD
  zb : KidD
deriving Inhabited
structure EntD where
  row : List Int
  live : Bool
deriving Inhabited, DecidableEq
structure NodeD where
  kind : Nat
  rows : List EntD
  kids : List KidD
deriving Inhabited, DecidableEq
end Go.Proofs.Ytbidoddghdbaoaa
namespace Go.Proofs.Ytbidoddghdbaoaa
open Go.RowKit
def strL (l : List ByteArray) : DV := .sl 1 l.length (fun i => [.v (.string (l.getD i default))])
def i64L (l : List Int) : DV := .sl 1 l.length (fun i => [.v (.int .i64 (l.getD i 0))])
def b32 (f : Nat → DV) : List DV := [f 0, f 1, f 2, f 3, f 4, f 5, f 6, f 7, f 8, f 9, f 10, f 11, f 12, f 13, f 14, f 15, f 16, f 17, f 18, f 19, f 20, f 21, f 22, f 23, f 24, f 25, f 26, f 27, f 28, f 29, f 30, f 31]
def kidL (k : KidD) : List DV := b32 (fun i => .v (.int .u8 (k.sum.getD i 0 : Nat))) ++ [i64L k.lo, i64L k.hi, .v (.int .i64 k.live), .v (.int .i64 k.size), i64L k.key]
def tableL (t : TableD) : List DV := [.v (.string t.name), strL t.cols] ++ kidL t.kd ++ kidL t.zb
def agD (l : List DV) : AV := .agg (l.map .d)
theorem avEqT_len : ∀ {xs bs : List AV}, avEqT xs bs → xs.length = bs.length
  | [], [], _ => rfl
  | _ :: r, _ :: s, h => by simp [avEqT_len h.2]
theorem avEqT_get {C : Cx} : ∀ {xs bs : List AV}, avEqT xs bs → ∀ j, j < bs.length → ∀ v, Rv C (xs.getD j .any) v → Rv C (bs.getD j .any) v
  | [], [], _, j, h, _, _ => by cases h
  | a :: r, b :: s, e, 0, _, v, h => by
    simp only [List.getD_cons_zero] at h ⊢
    have e1 := e.1
    cases a with
    | tup cs => cases b <;> first | trivial | (cases e1; done) | (cases e1; exact h)
    | _ => cases b <;> exact Rv.eqv h e1
  | a :: r, b :: s, e, j + 1, hj, v, h => by
    simp only [List.getD_cons_succ] at h ⊢
    exact avEqT_get e.2 j (by simpa using hj) v h
/-- arguments may be told anew -/
theorem ACall.arg {P : Program} {f : FuncId} {xs bs : List AV} {Hp H' : OH} {r : AV} (e : avEqT xs bs) (hc : ACall P f bs Hp r H') : ACall P f xs Hp r H' := by
  refine ⟨hc.1, fun A W vl vs G hl hv => hc.2 A W vl vs G (by rw [← hl, avEqT_len e]) fun j hj => avEqT_get e j hj _ (hv j (by rw [avEqT_len e]; exact hj))⟩
theorem mixed : Try.prog.follows .mixedOrders = true := by kernel_rfl
set_option maxRecDepth 100000
def tablesL (l : List TableD) : DV := .sl 76 l.length (fun i => tableL (l.getD i default))
def hasN (l : List TableD) (nm : ByteArray) : Bool := l.any fun t => decide (t.name = nm)
def findT (l : List TableD) (nm : ByteArray) : TableD := (l.find? fun t => decide (t.name = nm)).getD default
set_option maxHeartbeats 1000000
end Go.Proofs.Ytbidoddghdbaoaa
