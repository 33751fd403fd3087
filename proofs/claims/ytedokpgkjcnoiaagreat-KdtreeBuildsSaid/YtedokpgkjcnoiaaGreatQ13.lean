/- A region reckoned out: what is left to be shown of it. No program in sight. What is seen may be told anew: equal lists, fewer objects. No program in sight. -/
import Derived.Test.YtedokpgkjcnoiaaGreatQ12
set_option linter.unusedVariables false
set_option linter.unusedSimpArgs false
namespace Go.Proofs.YtedokpgkjcnoiaaGreat
open Go.RowKit
/-! ### Words that make the reckoning lay out what it has -/
def fD (x : DV) (k : DV → Prop) : Prop := match x with
 | .v y => k (.v y)
 | .sl s n f => k (.sl s n f)
 | .p cs => k (.p cs)
 | .fn f cs => k (.fn f cs)
def fDL : List DV → (List DV → Prop) → Prop
 | [], k => k []
 | a :: r, k => fDL r fun r' => k (a :: r')
def fA0 (a : AV) (k : AV → Prop) : Prop := match a with
 | .any => k .any
 | .d x => fD x fun y => k (.d y)
 | .dp cs => fDL cs fun c => k (.dp c)
 | .ptr o g i j => k (.ptr o g i j)
 | .own o g => k (.own o g)
 | .win o g a sz n => k (.win o g a sz n)
 | .agg cs => k (.agg cs)
 | .fn f x y => k (.fn f x y)
 | .tup cs => k (.tup cs)
def fAL : List AV → (List AV → Prop) → Prop
 | [], k => k []
 | a :: r, k => fA0 a fun b => fAL r fun r' => k (b :: r')
def fA1 (a : AV) (k : AV → Prop) : Prop := match a with
 | .agg cs => fAL cs fun c => k (.agg c)
 | .fn f x y => fAL x fun x' => fAL y fun y' => k (.fn f x' y')
 | a => fA0 a k
def fALt : List AV → (List AV → Prop) → Prop
 | [], k => k []
 | a :: r, k => fA1 a fun b => fALt r fun r' => k (b :: r')
def fA (a : AV) (k : AV → Prop) : Prop := match a with
 | .tup cs => fALt cs fun c => k (.tup c)
 | a => fA1 a k
def fO (b : Ob) (k : Ob → Prop) : Prop := match b with
 | .row ty sz g fz n f => k (.row ty sz g fz n f)
 | .box ty cs => fAL cs fun c => k (.box ty c)
 | .mp ok L => k (.mp ok L)
def fH : OH → (OH → Prop) → Prop
 | [], k => k []
 | (o, b) :: r, k => fO b fun b' => fH r fun r' => k ((o, b') :: r')
def fN : List Nat → (List Nat → Prop) → Prop
 | [], k => k []
 | a :: r, k => fN r fun r' => k (a :: r')
def fput : List AV → Nat → AV → (List AV → Prop) → Prop
 | [], _, _, k => k []
 | _ :: r, 0, v, k => k (v :: r)
 | a :: r, n + 1, v, k => fput r n v fun r' => k (a :: r')
def fputD (t : List AV) (d : Option Nat) (v : AV) (k : List AV → Prop) : Prop := match d with
 | some n => fput t n v k
 | none => k t
theorem fD_eq (x : DV) (k : DV → Prop) : fD x k = k x := by cases x <;> rfl
theorem fDL_eq : ∀ (l : List DV) (k : List DV → Prop), fDL l k = k l
 | [], _ => rfl
 | a :: r, k => fDL_eq r _
theorem fA0_eq (a : AV) (k : AV → Prop) : fA0 a k = k a := by
 cases a with
 | d x => exact fD_eq x fun y => k (.d y)
 | dp cs => exact fDL_eq cs fun c => k (.dp c)
 | _ => rfl
theorem fAL_eq : ∀ (l : List AV) (k : List AV → Prop), fAL l k = k l
 | [], _ => rfl
 | a :: r, k => by simp only [fAL, fA0_eq, fAL_eq r]
theorem fA1_eq (a : AV) (k : AV → Prop) : fA1 a k = k a := by cases a <;> simp only [fA1, fAL_eq, fA0_eq]
theorem fALt_eq : ∀ (l : List AV) (k : List AV → Prop), fALt l k = k l
 | [], _ => rfl
 | a :: r, k => by simp only [fALt, fA1_eq, fALt_eq r]
theorem fA_eq (a : AV) (k : AV → Prop) : fA a k = k a := by cases a <;> simp only [fA, fALt_eq, fA1_eq]
theorem fO_eq (b : Ob) (k : Ob → Prop) : fO b k = k b := by cases b <;> simp only [fO, fAL_eq]
theorem fH_eq : ∀ (H : OH) (k : OH → Prop), fH H k = k H
 | [], _ => rfl
 | (o, b) :: r, k => by simp only [fH, fO_eq, fH_eq r]
theorem fN_eq : ∀ (l : List Nat) (k : List Nat → Prop), fN l k = k l
 | [], _ => rfl
 | a :: r, k => fN_eq r _
theorem fput_eq : ∀ (t : List AV) (n : Nat) (v : AV) (k : List AV → Prop), fput t n v k = k (setN t n v)
 | [], _, _, _ => rfl
 | _ :: _, 0, _, _ => rfl
 | a :: r, n + 1, v, k => fput_eq r n v _
theorem fputD_eq (t : List AV) (d : Option Nat) (v : AV) (k : List AV → Prop) : fputD t d v k = k (putD t d v) := by cases d <;> simp only [fputD, putD, fput_eq]
noncomputable def conj (l : List Prop) (K : Prop) : Prop := List.rec K (fun p _ ih => p ∧ ih) l
theorem conj_nil (K : Prop) : conj [] K = K := rfl
theorem conj_cons (p : Prop) (r : List Prop) (K : Prop) : conj (p :: r) K = (p ∧ conj r K) := rfl
theorem conj_iff (K : Prop) : ∀ l : List Prop, conj l K ↔ allP l ∧ K
 | [] => by simp [conj_nil, allP]
 | p :: r => by simp only [conj_cons, allP, conj_iff K r, and_assoc]
/-! ### One operation -/
def isCall : Op → Option Call
 | .call c => match c.callee with
  | .value _ => some c
  | _ => none
 | _ => none
def labK (draw : Bool) (i : Nat) (rd wr : List Nat) (L : List Lab) (k : List Lab → Prop) : Prop := match draw with
 | false => k L
 | true => fN rd fun rd' => fN wr fun wr' => k ((i, rd', wr') :: L)
def labS (draw : Bool) (i : Nat) (rd wr : List Nat) (L : List Lab) : List Lab := match draw with
 | false => L
 | true => (i, rd, wr) :: L
theorem labK_eq (draw : Bool) (i : Nat) (rd wr : List Nat) (L : List Lab) (k : List Lab → Prop) : labK draw i rd wr L k = k (labS draw i rd wr L) := by cases draw <;> simp only [labK, labS, fN_eq]
noncomputable def aOp (P : Program) (mu : List Nat) (draw : Bool) (o : Oper) (i : Nat) (L : List Lab) (S : St) (K : List Lab → St → Prop) : Prop :=
  match S with
  | ⟨t, H⟩ => match isCall o.op with
    | some c => match calleeA (ev t) c with
      | some (f, as) => fALt as fun as' => ∃ r u rd, CallSem P H f as' r u rd ∧ fA r fun r' => fH (putsH H u) fun H' => fputD t o.dst r' fun t' => labK draw i rd (keysH u) L fun L' => K L' ⟨t', H'⟩
      | none => False
    | none => match isCho o.op with
     | true => ∃ w : Cho, match aCho P H (ev t) w o.op with
      | none => False
      | some ⟨obl, e⟩ => conj obl (match e with
        | .val a => fA a fun v => fputD t o.dst v fun t' => labK draw i (looks (ev t) o.op) [] L fun L' => K L' ⟨t', H⟩
        | .put q b a => fA a fun v => fH (setH H q b) fun H' => fputD t o.dst v fun t' => labK draw i (looks (ev t) o.op) [q] L fun L' => K L' ⟨t', H'⟩)
     | false => match (match o.dst with
        | some d => aEff P H (ev t) (muOf mu d) d o.op
        | none => aEff P H (ev t) (muOf mu 0) 0 o.op) with
      | none => False
      | some ⟨obl, e⟩ => conj obl (match e with
        | .val a => fA a fun v => fputD t o.dst v fun t' => labK draw i (looks (ev t) o.op ++ sites o.op (site o)) [] L fun L' => K L' ⟨t', H⟩
        | .put q b a => fA a fun v => fH (setH H q b) fun H' => fputD t o.dst v fun t' => labK draw i (looks (ev t) o.op ++ sites o.op (site o)) [q] L fun L' => K L' ⟨t', H'⟩)
theorem aOp_step {P : Program} {mu : List Nat} {ops : Array Oper} {draw : Bool} {o : Oper} {i : Nat} {L : List Lab} {S : St} {K : List Lab → St → Prop} (hi : ops[i]? = some o) (hw : gd ops o S = some true) (h : aOp P mu draw o i L S K) :
    ∃ rd wr S', Step P mu ops i rd wr S S' ∧ (∃ v, S'.t = putD S.t o.dst v) ∧ K (labS draw i rd wr L) S' := by
  obtain ⟨t, H⟩ := S
  unfold aOp at h
  simp only [] at h
  split at h
  · rename_i c hc
    have hop : o.op = .call c := by
      unfold isCall at hc
      split at hc
      · rename_i c' e
        split at hc
        · obtain rfl := Option.some.inj hc; exact e
        · cases hc
      · cases hc
    split at h
    · rename_i f as hcal
      rw [fALt_eq] at h
      obtain ⟨r, u, rd, hs, h⟩ := h
      rw [fA_eq, fH_eq, fputD_eq, labK_eq] at h
      exact ⟨rd, keysH u, _, step_call (S := ⟨t, H⟩) hi hw hop hcal hs, ⟨r, rfl⟩, h⟩
    · exact h.elim
  · split at h
    · obtain ⟨w, h⟩ := h
      split at h
      · exact h.elim
      · rename_i obl e hr
        rw [conj_iff] at h
        obtain ⟨ho, h⟩ := h
        refine ⟨_, _, _, step_cho (S := ⟨t, H⟩) hi hw hr ho, ⟨e.av, rfl⟩, ?_⟩
        cases e with
        | val a => simp only [fA_eq, fputD_eq, labK_eq] at h; exact h
        | put q b a => simp only [fA_eq, fputD_eq, fH_eq, labK_eq] at h; exact h
    have hsite : (match o.dst with
        | some d => aEff P H (ev t) (muOf mu d) d o.op
        | none => aEff P H (ev t) (muOf mu 0) 0 o.op) = aEff P H (ev t) (muOf mu (site o)) (site o) o.op := by
      unfold site; cases o.dst <;> rfl
    rw [hsite] at h
    split at h
    · exact h.elim
    · rename_i obl e hr
      rw [conj_iff] at h
      obtain ⟨ho, h⟩ := h
      refine ⟨_, _, _, step_eff (S := ⟨t, H⟩) hi hw hr ho, ⟨e.av, rfl⟩, ?_⟩
      cases e with
      | val a => simp only [fA_eq, fputD_eq, labK_eq] at h; exact h
      | put q b a => simp only [fA_eq, fputD_eq, fH_eq, labK_eq] at h; exact h
/-! ### One after the other -/
def lookG : List (Nat × Bool) → Nat → Option Bool
 | [], _ => none
 | (k, b) :: r, g => match Nat.beq k g with
  | true => some b
  | false => lookG r g
def dropG : List (Nat × Bool) → Option Nat → List (Nat × Bool)
 | G, none => G
 | [], some _ => []
 | (k, b) :: r, some d => match Nat.beq k d with
  | true => dropG r (some d)
  | false => (k, b) :: dropG r (some d)
theorem dropG_look (g : Nat) (b : Bool) (d : Option Nat) : ∀ G : List (Nat × Bool), lookG (dropG G d) g = some b → lookG G g = some b ∨ (∃ k c, k = g ∧ d = some g ∧ lookG G g = c) := by
 intro G
 induction G with
 | nil => cases d <;> exact fun h => .inl h
 | cons kb r ih =>
  obtain ⟨k, c⟩ := kb
  cases d with
  | none => exact fun h => .inl h
  | some d =>
   intro h
   simp only [dropG] at h
   split at h
   ·rename_i e
    have e := (beq_nat_iff _ _).1 e
    by_cases q : d = g
    ·exact .inr ⟨g, _, rfl, by rw [q], rfl⟩
    ·rcases ih h with h | ⟨_, _, _, h, _⟩
     ·left
      simp only [lookG]
      rw [(beq_nat_false _ _).2 (by omega)]; exact h
     ·exact absurd (Option.some.inj h) q
   ·rename_i e
    simp only [lookG] at h ⊢
    split at h
    ·exact .inl h
    ·rcases ih h with h | ⟨_, _, _, h, _⟩
     ·exact .inl h
     ·exact .inr ⟨g, _, rfl, h, rfl⟩
theorem dropG_none (g : Nat) : ∀ G : List (Nat × Bool), lookG (dropG G (some g)) g = none
 | [] => rfl
 | (k, c) :: r => by
  simp only [dropG]
  split
  ·exact dropG_none g r
  ·rename_i e
   simp only [lookG]
   rw [e]; exact dropG_none g r
def GOk (G : List (Nat × Bool)) (S : St) : Prop := ∀ g b, lookG G g = some b → nth S.t g = exB b
theorem GOk.put {G : List (Nat × Bool)} {S S' : St} (h : GOk G S) {d : Option Nat} {v : AV} (e : S'.t = putD S.t d v) : GOk (dropG G d) S' := fun g b hg => by
 have hne : d ≠ some g := fun q => by subst q; rw [dropG_none] at hg; cases hg
 rcases dropG_look g b d G hg with q | ⟨_, _, _, q, _⟩
 ·rw [e]
  cases d with
  | none => exact h g b q
  | some n =>
   simp only [putD, nth_setN]
   rw [if_neg (fun q => hne (by rw [q.1]))]
   exact h g b q
 ·exact absurd q hne
def bEq : Bool → Bool → Bool
 | true, true => true
 | false, false => true
 | _, _ => false
theorem bEq_iff : ∀ {a b : Bool}, bEq a b = (a == b) := by intro a b; cases a <;> cases b <;> rfl
def outL (draw : Bool) (M L : List Lab) : List Lab := match draw with
 | false => L
 | true => M.reverse ++ L
noncomputable def aOps (P : Program) (mu : List Nat) (ops : Array Oper) (draw : Bool) (l : List Oper) : Nat → List (Nat × Bool) → List Lab → St → (List Lab → St → Prop) → Prop :=
 List.rec (fun _ _ L S K => K L S) (fun o _ ih i G L S K => match o.guard with
  | none => aOp P mu draw o i L S fun L' S' => ih (i + 1) (dropG G o.dst) L' S' K
  | some (j, want) => match slotOf ops j with
   | none => False
   | some g => match lookG G g with
    | some b => match bEq b want with
     | true => aOp P mu draw o i L S fun L' S' => ih (i + 1) (dropG G o.dst) L' S' K
     | false => match S with
      | ⟨t, H⟩ => fputD t o.dst noA fun t' => ih (i + 1) (dropG G o.dst) (labS draw i [] [] L) ⟨t', H⟩ K
    | none => match S with
     | ⟨t, H⟩ => match nth t g with
      | .d (.v (.bool b)) => match want with
       | true => (b = true → fput t g (exB true) fun t1 => aOp P mu draw o i L ⟨t1, H⟩ fun L' S' => ih (i + 1) (dropG ((g, true) :: G) o.dst) L' S' K) ∧
        (b = false → fput t g (exB false) fun t1 => fputD t1 o.dst noA fun t' => ih (i + 1) (dropG ((g, false) :: G) o.dst) (labS draw i [] [] L) ⟨t', H⟩ K)
       | false => (b = false → fput t g (exB false) fun t1 => aOp P mu draw o i L ⟨t1, H⟩ fun L' S' => ih (i + 1) (dropG ((g, false) :: G) o.dst) L' S' K) ∧
        (b = true → fput t g (exB true) fun t1 => fputD t1 o.dst noA fun t' => ih (i + 1) (dropG ((g, true) :: G) o.dst) (labS draw i [] [] L) ⟨t', H⟩ K)
      | .d (.v (.tuple _)) => fputD t o.dst noA fun t' => ih (i + 1) (dropG G o.dst) (labS draw i [] [] L) ⟨t', H⟩ K
      | _ => False) l
theorem aOps_cons (P : Program) (mu : List Nat) (ops : Array Oper) (draw : Bool) (o : Oper) (r : List Oper) (i : Nat) (G : List (Nat × Bool)) (L : List Lab) (S : St) (K : List Lab → St → Prop) : aOps P mu ops draw (o :: r) i G L S K = (match o.guard with
    | none => aOp P mu draw o i L S fun L' S' => aOps P mu ops draw r (i + 1) (dropG G o.dst) L' S' K
    | some (j, want) => match slotOf ops j with
      | none => False
      | some g => match lookG G g with
        | some b => match bEq b want with
          | true => aOp P mu draw o i L S fun L' S' => aOps P mu ops draw r (i + 1) (dropG G o.dst) L' S' K
          | false => match S with
            | ⟨t, H⟩ => fputD t o.dst noA fun t' => aOps P mu ops draw r (i + 1) (dropG G o.dst) (labS draw i [] [] L) ⟨t', H⟩ K
        | none => match S with
          | ⟨t, H⟩ => match nth t g with
            | .d (.v (.bool b)) => match want with
              | true => (b = true → fput t g (exB true) fun t1 => aOp P mu draw o i L ⟨t1, H⟩ fun L' S' => aOps P mu ops draw r (i + 1) (dropG ((g, true) :: G) o.dst) L' S' K) ∧
                (b = false → fput t g (exB false) fun t1 => fputD t1 o.dst noA fun t' => aOps P mu ops draw r (i + 1) (dropG ((g, false) :: G) o.dst) (labS draw i [] [] L) ⟨t', H⟩ K)
              | false => (b = false → fput t g (exB false) fun t1 => aOp P mu draw o i L ⟨t1, H⟩ fun L' S' => aOps P mu ops draw r (i + 1) (dropG ((g, false) :: G) o.dst) L' S' K) ∧
                (b = true → fput t g (exB true) fun t1 => fputD t1 o.dst noA fun t' => aOps P mu ops draw r (i + 1) (dropG ((g, true) :: G) o.dst) (labS draw i [] [] L) ⟨t', H⟩ K)
            | .d (.v (.tuple _)) => fputD t o.dst noA fun t' => aOps P mu ops draw r (i + 1) (dropG G o.dst) (labS draw i [] [] L) ⟨t', H⟩ K
            | _ => False) := rfl
theorem aOps_run {P : Program} {mu : List Nat} {ops : Array Oper} {draw : Bool} : ∀ (l : List Oper) (i : Nat) (G : List (Nat × Bool)) (L : List Lab) (S : St) (K : List Lab → St → Prop), (∀ j, l[j]? = ops[i + j]?) → GOk G S → aOps P mu ops draw l i G L S K →
    ∃ M S', Run P mu ops M S S' ∧ M.map (·.1) = List.range' i l.length ∧ K (outL draw M L) S'
  | [], i, G, L, S, K, hl, hG, h => ⟨[], S, .nil S, rfl, by cases draw <;> exact h⟩
  | o :: r, i, G, L, S, K, hl, hG, h => by
    have hi : ops[i]? = some o := by have := hl 0; simpa using this.symm
    have hl' : ∀ j, r[j]? = ops[i + 1 + j]? := fun j => by have := hl (j + 1); simpa [Nat.add_assoc, Nat.add_comm 1 j] using this
    have wrap : ∀ {rd wr : List Nat} {S1 S' : St} {M : List Lab}, Step P mu ops i rd wr S S1 → Run P mu ops M S1 S' → M.map (·.1) = List.range' (i + 1) r.length → K (outL draw M (labS draw i rd wr L)) S' →
        ∃ M S', Run P mu ops M S S' ∧ M.map (·.1) = List.range' i (o :: r).length ∧ K (outL draw M L) S' := fun {rd wr S1 S' M} h1 h2 h3 h4 =>
      ⟨(i, rd, wr) :: M, S', .cons (i, rd, wr) _ _ _ _ h1 h2, by rw [List.map_cons, h3, List.length_cons, List.range'_succ], by cases draw <;> simpa [labS, outL] using h4⟩
    have doit : ∀ {G' : List (Nat × Bool)}, GOk G' S → gd ops o S = some true → (aOp P mu draw o i L S fun L' S' => aOps P mu ops draw r (i + 1) (dropG G' o.dst) L' S' K) → ∃ M S', Run P mu ops M S S' ∧ M.map (·.1) = List.range' i (o :: r).length ∧ K (outL draw M L) S' := fun {G'} hG' hw h => by
      obtain ⟨rd, wr, S1, h1, ⟨v, hv⟩, h2⟩ := aOp_step hi hw h
      obtain ⟨M, S', k1, k2, k3⟩ := aOps_run r (i + 1) _ _ S1 K hl' (hG'.put hv) h2
      exact wrap h1 k1 k2 k3
    have skip : ∀ {G' : List (Nat × Bool)}, GOk G' S → gd ops o S = some false → aOps P mu ops draw r (i + 1) (dropG G' o.dst) (labS draw i [] [] L) ⟨putD S.t o.dst noA, S.H⟩ K → ∃ M S', Run P mu ops M S S' ∧ M.map (·.1) = List.range' i (o :: r).length ∧ K (outL draw M L) S' := fun {G'} hG' hw h => by
      obtain ⟨M, S', k1, k2, k3⟩ := aOps_run r (i + 1) _ _ _ K hl' (GOk.put (S' := ⟨putD S.t o.dst noA, S.H⟩) hG' rfl) h
      exact wrap (step_skip hi hw) k1 k2 k3
    rw [aOps_cons] at h
    split at h
    · rename_i hg
      exact doit hG (by unfold gd; rw [hg]) h
    · rename_i j want hg
      split at h
      · exact h.elim
      · rename_i g hs
        have gdv : ∀ {b : Bool}, nth S.t g = exB b → gd ops o S = some (b == want) := fun {b} e => by unfold gd; rw [hg]; simp only [hs, e]
        split at h
        · rename_i b hb
          have hv := hG g b hb
          rw [bEq_iff] at h
          split at h
          · rename_i e; exact doit hG (by rw [gdv hv, e]) h
          · rename_i e; obtain ⟨t, H⟩ := S; simp only [fputD_eq] at h; exact skip hG (by rw [gdv hv, e]) h
        · obtain ⟨t, H⟩ := S
          simp only [] at h
          split at h
          · rename_i b hv
            have add : ∀ {c : Bool}, b = c → GOk ((g, c) :: G) ⟨t, H⟩ := fun {c} e g' b' hg' => by
              simp only [lookG] at hg'
              split at hg'
              · rename_i q
                obtain rfl := (beq_nat_iff _ _).1 q
                obtain rfl := Option.some.inj hg'
                show nth t g = _
                rw [hv, e]
              · exact hG g' b' hg'
            cases want <;> cases b
            · have h1 := h.1 rfl
              rw [fput_eq, setN_self _ _ _ hv] at h1
              exact doit (add rfl) (gdv hv) h1
            · have h1 := h.2 rfl
              rw [fput_eq, setN_self _ _ _ hv, fputD_eq] at h1
              exact skip (add rfl) (gdv hv) h1
            · have h1 := h.2 rfl
              rw [fput_eq, setN_self _ _ _ hv, fputD_eq] at h1
              exact skip (add rfl) (gdv hv) h1
            · have h1 := h.1 rfl
              rw [fput_eq, setN_self _ _ _ hv] at h1
              exact doit (add rfl) (gdv hv) h1
          · rename_i x hv
            rw [fputD_eq] at h
            exact skip hG (by unfold gd; rw [hg]; simp only [hs, hv]) h
          · exact h.elim
/-- a region: what is left to be shown -/
noncomputable def aRegion (P : Program) (mu : List Nat) (ops : Array Oper) (draw : Bool) (S : St) (K : St → Prop) : Prop := match draw with
 | false => aOps P mu ops false ops.toList 0 [] [] S fun _ S' => K S'
 | true => aOps P mu ops true ops.toList 0 [] [] S fun L S' => (edgesOk ops && pairsOk ops L.reverse) = true ∧ K S'
theorem aRegion_sound {P : Program} {mu : List Nat} {ops : Array Oper} {draw : Bool} {S : St} {K : St → Prop} {id : Nat} {Q : Exit → Act → World → Prop} {C0 C : Cx} {a : Act} (hm : P.follows .mixedOrders = true) (h : aRegion P mu ops draw S K) (hS : Sat C S a) (hF : Fr C0 C)
    (hQ : ∀ S' a' C', K S' → Sat C' S' a' → C'.E = C.E → Fr C0 C' → Q .normal a' C'.W) : (Code.region id ops draw).wp P Q a C.W := by
  cases draw with
  | false =>
    obtain ⟨M, S', h1, h2, h3⟩ := aOps_run ops.toList 0 [] [] S _ (fun j => by simp) (fun g b hg => by cases hg) h
    exact wp_region_plain (by rw [h2]; simp [List.range_eq_range']) h1 hS hF fun a' C' k1 k2 k3 => hQ S' a' C' h3 k1 k2 k3
  | true =>
    obtain ⟨M, S', h1, h2, h3⟩ := aOps_run ops.toList 0 [] [] S _ (fun j => by simp) (fun g b hg => by cases hg) h
    simp only [outL, List.append_nil, List.reverse_reverse, Bool.and_eq_true] at h3
    exact wp_region_drawn hm h3.1.1 h3.1.2 (by rw [h2]; simp [List.range_eq_range']) h1 hS hF fun a' C' k1 k2 k3 => hQ S' a' C' h3.2 k1 k2 k3
end Go.Proofs.YtedokpgkjcnoiaaGreat
namespace Go.Proofs.YtedokpgkjcnoiaaGreat
open Go.RowKit
def dvEq : DV → DV → Prop
 | .v x, .v y => x = y
 | .sl s n f, .sl s' n' f' => s = s' ∧ n = n' ∧ ∀ k, k < n → f k = f' k
 | .v (.slice _ n _), .sl _ n' _ => n = 0 ∧ n' = 0
 | .p cs, .p ds => cs = ds
 | .fn f cs, .fn g ds => f = g ∧ cs = ds
 | _, _ => False
def avEq0 : AV → AV → Prop
 | _, .any => True
 | .d x, .d y => dvEq x y
 | a, b => a = b
def avEqL : List AV → List AV → Prop
 | [], [] => True
 | a :: r, b :: r' => avEq0 a b ∧ avEqL r r'
 | _, _ => False
def avEq1 : AV → AV → Prop
 | .agg cs, .agg ds => avEqL cs ds
 | a, b => avEq0 a b
def avEqT : List AV → List AV → Prop
 | [], [] => True
 | a :: r, b :: r' => avEq1 a b ∧ avEqT r r'
 | _, _ => False
def avEq : AV → AV → Prop
 | .tup cs, .tup ds => avEqT cs ds
 | a, b => avEq1 a b
def obEq : Ob → Ob → Prop
 | .row ty sz g fz n f, .row ty' sz' g' fz' n' f' => ty = ty' ∧ sz = sz' ∧ g = g' ∧ fz = fz' ∧ n = n' ∧ ∀ k, k < n → f k = f' k
 | .box ty cs, .box ty' ds => ty = ty' ∧ avEqL cs ds
 | .mp ok L, .mp ok' L' => ok = ok' ∧ L = L'
 | _, _ => False
theorem dvEq_refl (x : DV) : dvEq x x := by
 cases x with
 | v y => exact rfl
 | sl s n f => exact ⟨rfl, rfl, fun _ _ => rfl⟩
 | p cs => exact rfl
 | fn f cs => exact ⟨rfl, rfl⟩
theorem avEq0_refl (a : AV) : avEq0 a a := by
 cases a with
 | d x => exact dvEq_refl x
 | any => trivial
 | _ => exact rfl
theorem avEqL_refl : ∀ l : List AV, avEqL l l
 | [] => trivial
 | a :: r => ⟨avEq0_refl a, avEqL_refl r⟩
theorem avEq1_refl (a : AV) : avEq1 a a := by
 cases a with
 | agg cs => exact avEqL_refl cs
 | d x => exact dvEq_refl x
 | any => trivial
 | _ => exact rfl
theorem avEqT_refl : ∀ l : List AV, avEqT l l
 | [] => trivial
 | a :: r => ⟨avEq1_refl a, avEqT_refl r⟩
theorem avEq_refl (a : AV) : avEq a a := by
 cases a with
 | tup cs => exact avEqT_refl cs
 | agg cs => exact avEqL_refl cs
 | d x => exact dvEq_refl x
 | any => trivial
 | _ => exact rfl
section
variable {C : Cx}
theorem RD.eqv {W : World} {N : Nat → Prop} {x y : DV} {v : Value} (h : RD W N x v) (e : dvEq x y) : RD W N y v := by
 cases x with
 | v a =>
  cases y with
  | v b => cases h; have e' : v = b := e; subst e'; exact .v _
  | sl s n f =>
   cases h
   cases v <;> first | exact False.elim e | skip
   obtain ⟨rfl, rfl⟩ : _ ∧ _ := e
   exact .sl s 0 f _ 0 0 _ (fun _ _ => default) (fun h => by omega) (Nat.zero_le _) (fun i hi => by omega) (fun i j hi => by omega) (fun i j hi => by omega)
  | p cs => cases a <;> exact False.elim e
  | fn f cs => cases a <;> exact False.elim e
 | fn f cs =>
  cases y with
  | fn g ds => obtain ⟨rfl, rfl⟩ := (show f = g ∧ cs = ds from e); exact h
  | p ds => exact False.elim e
  | v b => exact False.elim e
  | sl s n f => exact False.elim e
 | p cs =>
  cases y with
  | p ds => have e' : cs = ds := e; subst e'; exact h
  | fn g ds => exact False.elim e
  | v b => exact False.elim e
  | sl s n f => exact False.elim e
 | sl s n f =>
  cases y with
  | v b => exact False.elim e
  | p cs => exact False.elim e
  | fn g cs => exact False.elim e
  | sl s' n' f' =>
   obtain ⟨rfl, rfl, e⟩ := e
   cases h with
   | sl sz n f A b off c u hA hc hl hu hr =>
    exact .sl s n f' A b off c u hA hc (fun i hi => by rw [← e i hi]; exact hl i hi) hu (fun i j hi hj => by rw [← e i hi]; exact hr i j hi hj)
theorem Rb.eqv : ∀ {a b : AV} {v : Value}, Rb C a v → avEq0 a b → Rb C b v := by
 intro a b v h e
 cases b with
 | any => trivial
 | d y =>
  cases a with
  | d x => exact RD.eqv h e
  | _ => first | exact h.elim | (exact absurd (show _ = _ from e) (by intro q; cases q))
 | _ => cases a <;> first | exact h.elim | (have e' : _ = _ := e; rw [← e']; exact h) | (have e' : _ = _ := e; cases e')
theorem Rbs.eqv : ∀ {cs ds : List AV} {us : List Value}, Rbs C cs us → avEqL cs ds → Rbs C ds us
 | [], [], us, h, _ => h
 | a :: r, b :: r', us, h, e => by
  cases us with
  | nil => have := h.1; simp at this
  | cons u us =>
   have ih := Rbs.eqv (cs := r) (ds := r') (us := us) ⟨by simpa using h.1, fun j hj => by simpa using h.2 (j + 1) (by simpa using hj)⟩ e.2
   refine ⟨by simpa using ih.1, fun j hj => ?_⟩
   cases j with
   | zero => exact Rb.eqv (by simpa using h.2 0 (by simp)) e.1
   | succ j => simpa using ih.2 j (by simpa using hj)
 | [], b :: r', us, _, e => e.elim
 | a :: r, [], us, _, e => e.elim
theorem R1.eqv {a b : AV} {v : Value} (h : R1 C a v) (e : avEq1 a b) : R1 C b v := by
 cases b with
 | any => trivial
 | agg ds =>
  cases a with
  | agg cs => obtain ⟨us, q, r⟩ := h; exact ⟨us, q, r.eqv e⟩
  | _ => exact absurd (show _ = _ from e) (by intro q; cases q)
 | fn f x y =>
  cases a with
  | fn f' x' y' => have e' : _ = _ := e; rw [← e']; exact h
  | _ => exact absurd (show _ = _ from e) (by intro q; cases q)
 | d y =>
  cases a with
  | d x => exact RD.eqv h e
  | _ => exact absurd (show _ = _ from e) (by intro q; cases q)
 | _ => cases a <;> first | (have e' : _ = _ := e; rw [← e']; exact h) | (have e' : _ = _ := e; cases e')
theorem Rv.eqv {a b : AV} {v : Value} (h : Rv C a v) (e : avEq a b) : Rv C b v := by
 have up : ∀ {a b : AV}, R1 C a v → avEq1 a b → Rv C b v := fun h e => rv_of_r1 (h.eqv e)
 cases a with
 | tup cs =>
  cases b with
  | tup ds =>
   obtain ⟨us, q, l, r⟩ := h
   refine ⟨us, q, ?_⟩
   clear q
   have : ∀ {cs ds : List AV} {us : List Value}, (cs.length = us.length ∧ ∀ j, j < cs.length → R1 C (cs.getD j .any) (us.getD j undef)) → avEqT cs ds → (ds.length = us.length ∧ ∀ j, j < ds.length → R1 C (ds.getD j .any) (us.getD j undef)) := by
    intro cs
    induction cs with
    | nil => intro ds us h e; cases ds with | nil => exact h | cons b r => exact e.elim
    | cons a r ih =>
     intro ds us h e
     cases ds with
     | nil => exact e.elim
     | cons b r' =>
      cases us with
      | nil => have := h.1; simp at this
      | cons u us =>
       have k := ih (ds := r') (us := us) ⟨by simpa using h.1, fun j hj => by simpa using h.2 (j + 1) (by simpa using hj)⟩ e.2
       refine ⟨by simpa using k.1, fun j hj => ?_⟩
       cases j with
       | zero => exact R1.eqv (by simpa using h.2 0 (by simp)) e.1
       | succ j => simpa using k.2 j (by simpa using hj)
   exact this ⟨l, r⟩ e
  | any => trivial
  | _ => exact absurd (show _ = _ from e) (by intro q; cases q)
 | any => exact up (a := .any) trivial (by cases b <;> exact e)
 | d x => exact up (a := .d x) h (by cases b <;> exact e)
 | dp x => exact up (a := .dp x) h (by cases b <;> exact e)
 | ptr x y z w => exact up (a := .ptr x y z w) h (by cases b <;> exact e)
 | own x y => exact up (a := .own x y) h (by cases b <;> exact e)
 | win a1 a2 a3 a4 a5 => exact up (a := .win a1 a2 a3 a4 a5) h (by cases b <;> exact e)
 | agg x => exact up (a := .agg x) h (by cases b <;> exact e)
 | fn x y z => exact up (a := .fn x y z) h (by cases b <;> exact e)
/-! ### Fewer objects -/
def ref1In (H : OH) : AV → Bool
 | .agg ds => ds.all (refIn H)
 | .fn _ x y => (x ++ y).all (refIn H)
 | a => refIn H a
def refsIn (H : OH) : AV → Bool
 | .agg cs => cs.all (refIn H)
 | .fn _ x y => match x.all (refIn H) with
  | true => y.all (refIn H)
  | false => false
 | .tup cs => cs.all (ref1In H)
 | a => refIn H a
structure Less (C D : Cx) : Prop where
 W : D.W = C.W
 E : D.E = C.E
 v : D.vl = C.vl
 h : ∀ o b, look D.H o = some b → ∃ b0, look C.H o = some b0 ∧ obEq b0 b
theorem obEq_gen {a b : Ob} (h : obEq a b) : a.gen = b.gen ∧ a.free = b.free := by
 cases a <;> cases b <;> first | exact h.elim | skip
 ·obtain ⟨_, _, rfl, rfl, _⟩ := h; exact ⟨rfl, rfl⟩
 ·exact ⟨rfl, rfl⟩
 ·exact ⟨rfl, rfl⟩
theorem avEqL_len : ∀ {l m : List AV}, avEqL l m → l.length = m.length
 | [], [], _ => rfl
 | _ :: r, _ :: r', h => by simp [avEqL_len h.2]
 | [], _ :: _, h => h.elim
 | _ :: _, [], h => h.elim
theorem obEq_sz {a b : Ob} (h : obEq a b) : a.sz = b.sz := by
 cases a <;> cases b <;> first | exact h.elim | skip
 ·obtain ⟨_, rfl, _⟩ := h; rfl
 ·exact congrArg (fun n => (n, false)) (avEqL_len h.2)
 ·rfl
theorem Less.N {D : Cx} (L : Less C D) {b : Nat} (h : C.N b) : D.N b := by
 refine ⟨by rw [L.E]; exact h.1, by rw [L.W]; exact h.2.1, fun o ob ho hf => ?_⟩
 obtain ⟨b0, k1, k2⟩ := L.h o ob ho
 rw [L.v]
 exact h.2.2 o b0 k1 (by rw [(obEq_gen k2).2]; exact hf)
theorem Less.RD {D : Cx} (L : Less C D) {x : DV} {v : Value} (h : RD C.W C.N x v) : RD D.W D.N x v := h.mono fun b hb => ⟨L.N hb, by rw [L.W]⟩
theorem Less.Rb {D : Cx} (L : Less C D) : ∀ {a : AV} {v : Value}, Rb C a v → refIn D.H a = true → Rb D a v := by
 intro a v h hr
 cases a with
 | any => trivial
 | d x => exact L.RD h
 | dp cs =>
  obtain ⟨b, off, u, e, hb, hc⟩ := h
  exact ⟨b, off, u, e, L.N hb, fun j hj => ⟨by rw [L.W]; exact (hc j hj).1, L.RD (hc j hj).2⟩⟩
 | ptr o g i j =>
  obtain ⟨ob, h1, h2, h3⟩ := h
  simp only [refIn, hasK_iff] at hr
  obtain ⟨ob', e⟩ := Option.isSome_iff_exists.1 hr
  obtain ⟨b0, k1, k2⟩ := L.h o ob' e
  rw [h1] at k1
  obtain rfl := Option.some.inj k1
  have q := (obEq_gen k2).1
  refine ⟨ob', e, by omega, fun z => ?_⟩
  rw [L.v, ← obEq_sz k2]
  exact h3 (z.trans q.symm)
 | own o g =>
  obtain ⟨ob, h1, h2, h3⟩ := h
  simp only [refIn, hasK_iff] at hr
  obtain ⟨ob', e⟩ := Option.isSome_iff_exists.1 hr
  obtain ⟨b0, k1, k2⟩ := L.h o ob' e
  rw [h1] at k1
  obtain rfl := Option.some.inj k1
  have q := (obEq_gen k2).1
  exact ⟨ob', e, by omega, fun z => by rw [L.v, ← obEq_sz k2]; exact h3 (z.trans q.symm)⟩
 | win o g a sz n =>
  obtain ⟨ob, h1, h2, h3⟩ := h
  simp only [refIn, hasK_iff] at hr
  obtain ⟨ob', e⟩ := Option.isSome_iff_exists.1 hr
  obtain ⟨b0, k1, k2⟩ := L.h o ob' e
  rw [h1] at k1
  obtain rfl := Option.some.inj k1
  have q := (obEq_gen k2).1
  exact ⟨ob', e, by omega, fun z => by rw [L.v]; exact h3 (z.trans q.symm)⟩
 | agg x => exact h.elim
 | fn x y z => exact h.elim
 | tup x => exact h.elim
theorem Less.Rbs {D : Cx} (L : Less C D) {cs : List AV} {us : List Value} (h : Rbs C cs us) (hr : cs.all (refIn D.H) = true) : Rbs D cs us :=
 ⟨h.1, fun j hj => L.Rb (h.2 j hj) (by
  rw [List.all_eq_true] at hr
  exact hr _ (by rw [List.getD_eq_getElem?_getD, List.getElem?_eq_getElem hj]; exact List.getElem_mem _))⟩
theorem Less.R1 {D : Cx} (L : Less C D) {a : AV} {v : Value} (h : R1 C a v) (hr : ref1In D.H a = true) : R1 D a v := by
 cases a with
 | agg cs => obtain ⟨us, e, r⟩ := h; exact ⟨us, e, L.Rbs r hr⟩
 | fn f x y =>
  obtain ⟨us, ws, e, r, s⟩ := h
  simp only [ref1In, List.all_append, Bool.and_eq_true] at hr
  exact ⟨us, ws, e, L.Rbs r hr.1, L.Rbs s hr.2⟩
 | any => trivial
 | d x => exact L.Rb (a := .d x) h hr
 | dp x => exact L.Rb (a := .dp x) h hr
 | ptr x y z w => exact L.Rb (a := .ptr x y z w) h hr
 | own x y => exact L.Rb (a := .own x y) h hr
 | win a b c d e => exact L.Rb (a := .win a b c d e) h hr
 | tup x => exact h.elim
theorem Less.Rv {D : Cx} (L : Less C D) {a : AV} {v : Value} (h : Rv C a v) (hr : refsIn D.H a = true) : Rv D a v := by
 cases a with
 | tup cs =>
  obtain ⟨us, e, l, r⟩ := h
  refine ⟨us, e, l, fun j hj => L.R1 (r j hj) ?_⟩
  simp only [refsIn, List.all_eq_true] at hr
  exact hr (cs.getD j .any) (by rw [List.getD_eq_getElem?_getD, List.getElem?_eq_getElem hj]; exact List.getElem_mem _)
 | agg cs => exact L.R1 (a := .agg cs) h hr
 | fn f x y =>
  refine L.R1 (a := .fn f x y) h ?_
  simp only [refsIn] at hr
  split at hr
  ·simp only [ref1In, List.all_append, Bool.and_eq_true]; exact ⟨‹_›, hr⟩
  ·cases hr
 | any => trivial
 | d x => exact L.R1 (a := .d x) h hr
 | dp x => exact L.R1 (a := .dp x) h hr
 | ptr x y z w => exact L.R1 (a := .ptr x y z w) h hr
 | own x y => exact L.R1 (a := .own x y) h hr
 | win a b c d e => exact L.R1 (a := .win a b c d e) h hr
theorem Less.gam {D : Cx} (L : Less C D) (G : Gam C) (hcl : closedH D.H D.H = true) : Gam D := by
 refine ⟨fun o b h => ?_, fun o o' b b' k h h' hne hk => ?_, by rw [L.E, L.W]; exact G.kp, fun o b k h hk => ?_⟩
 ·obtain ⟨b0, k1, k2⟩ := L.h o b h
  have r := G.ok o b0 k1
  cases b0 with
  | row ty sz g fz n f =>
   cases b with
   | box _ _ => exact k2.elim
   | mp _ _ => exact k2.elim
   | row ty' sz' g' fz' n' f' =>
    obtain ⟨rfl, rfl, rfl, rfl, rfl, e⟩ := k2
    obtain ⟨us, q1, q2, q4, q3⟩ := r
    exact ⟨us, by rw [L.W, L.v]; exact q1, fun i hi => by rw [← e i hi]; exact q2 i hi, q4, fun i j hi hj => by rw [← e i hi]; exact L.RD (q3 i j hi hj)⟩
  | box ty cs =>
   cases b with
   | row _ _ _ _ _ _ => exact k2.elim
   | mp _ _ => exact k2.elim
   | box ty' ds =>
    obtain ⟨rfl, e⟩ := k2
    obtain ⟨b, us, q1, q2, q3⟩ := r
    exact ⟨b, us, by rw [L.v]; exact q1, by rw [L.W]; exact q2, L.Rbs (q3.eqv e) (closedH_spec hcl o ty ds h)⟩
  | mp ok0 L0 =>
   cases b with
   | row _ _ _ _ _ _ => exact k2.elim
   | box _ _ => exact k2.elim
   | mp ok1 L1 =>
    obtain ⟨rfl, rfl⟩ := k2
    obtain ⟨b, es, clock, q1, q2, q3, q4, q5, q6⟩ := r
    exact ⟨b, es, clock, by rw [L.v]; exact q1, by rw [L.W]; exact q2, q3, q4, q5, fun i hi => L.RD (q6 i hi)⟩
 ·obtain ⟨b1, q1, _⟩ := L.h o b h
  obtain ⟨b2, q2, _⟩ := L.h o' b' h'
  rw [L.v] at hk ⊢
  exact G.ap o o' b1 b2 k q1 q2 hne hk
 ·obtain ⟨b1, q1, _⟩ := L.h o b h
  rw [L.v] at hk
  rw [L.E]
  exact G.mu o b1 k q1 hk
theorem Less.fr {D C0 : Cx} (L : Less C D) (hF : Fr C0 C) (hk : ∀ o ob, look C0.H o = some ob → ∃ b, look D.H o = some b) : Fr C0 D := by
 refine ⟨fun b hb => ⟨L.N (hF.n b hb).1, by rw [L.W]; exact (hF.n b hb).2⟩, fun o ob ho => ?_⟩
 obtain ⟨b, hb⟩ := hk o ob ho
 obtain ⟨b0, k1, k2⟩ := L.h o b hb
 obtain ⟨b1, q1, q2⟩ := hF.h o ob ho
 rw [k1] at q1
 obtain rfl := Option.some.inj q1
 refine ⟨b, hb, ?_⟩
 rw [L.v, ← (obEq_gen k2).1, ← obEq_sz k2]
 exact q2
end
end Go.Proofs.YtedokpgkjcnoiaaGreat
