/- Nodes that are read: plain. Lists of structs under way, whatever their parts; entries and kids. What is read may be a node's parts: plain. -/
import Derived.Test.YtgcbodpjidoanaaQ23
import Derived.Test.YtgcbodpjidoanaaQ29
import Derived.Test.YtgcbodpjidoanaaQ33
set_option linter.unusedVariables false
set_option linter.unusedSimpArgs false
namespace Go.Proofs.Ytgcbodpjidoanaa
open Go.RowKit
/-- k entries that are read -/
def rEnts (d : Int) : Nat → List Nat → Int → List EntD × List Nat × Int
  | 0, l, e => ([], l, e)
  | k + 1, l, e =>
    let s := rEnts d k l e
    let t := rTruth s.2.1 s.2.2
    let r := rRowI d t.2.1 t.2.2
    (s.1 ++ [⟨r.1, t.1⟩], r.2)
def rKids (d : Int) : Nat → List Nat → Int → List KidD × List Nat × Int
  | 0, l, e => ([], l, e)
  | k + 1, l, e =>
    let s := rKids d k l e
    let r := rKid d s.2.1 s.2.2
    (s.1 ++ [r.1], r.2)
/-- a node that is read, what is left, the error -/
def rNode (d : Int) (b : List Nat) : NodeD × List Nat × Int :=
  let s0 := (rTake 1 b 0).2
  let s1 := (rTake 1 s0.1 s0.2).2
  let E := rEnts d (rByte s0.1 s0.2) s1.1 s1.2
  let s2 := (rTake 1 E.2.1 E.2.2).2
  let K := rKids d (rByte E.2.1 E.2.2) s2.1 s2.2
  (⟨rByte b 0, E.1, K.1⟩, K.2)
/-- the node whose bytes are these -/
def readN (d : Int) (b : List Nat) : Option NodeD := if rEnd (rNode d b).2.1 (rNode d b).2.2 = 0 ∧ nodeR (rNode d b).1 d = true then some (rNode d b).1 else none
theorem Suf.rfl' {l : List Nat} : Suf l l := ⟨0, by simp⟩
theorem rowI_suf (m : Int) (l : List Nat) (e : Int) : Suf (rRowI m l e).2.1 l := by
  unfold rRowI; exact (nums_suf _ _ _).trans (take_suf 1 l e)
theorem kid_suf (d : Int) (l : List Nat) (e : Int) : Suf (rKid d l e).2.1 l := by
  unfold rKid
  exact (rowI_suf _ _ _).trans ((rowI_suf _ _ _).trans ((rowI_suf _ _ _).trans ((count_suf _ _ _).trans ((count_suf _ _ _).trans (take_suf 32 l e)))))
theorem kids_suf (d : Int) (l : List Nat) (e : Int) : ∀ k, Suf (rKids d k l e).2.1 l
  | 0 => Suf.rfl'
  | k + 1 => (kid_suf d _ _).trans (kids_suf d l e k)
theorem ents_suf (d : Int) (l : List Nat) (e : Int) : ∀ k, Suf (rEnts d k l e).2.1 l
  | 0 => Suf.rfl'
  | k + 1 => (rowI_suf d _ _).trans ((take_suf 1 _ _).trans (ents_suf d l e k))
theorem take_getD {α : Type} [Inhabited α] (l : List α) (k : Nat) (hi : k < l.length) : l.take (k + 1) = l.take k ++ [l.getD k default] := by
  rw [List.take_add_one, List.getElem?_eq_getElem hi]; simp [List.getD, List.getElem?_eq_getElem hi]
theorem truth_app (x : Bool) (l : List Nat) : rTruth ([if x then 1 else 0] ++ l) 0 = (x, l, 0) := by
  obtain ⟨h1, h2⟩ := byte_app (if x then 1 else 0) l
  unfold rTruth rTruthE
  rw [List.singleton_append, h1, h2]
  cases x <;> simp
theorem truth_inv {l l' : List Nat} {e : Int} {x : Bool} (h : rTruth l e = (x, l', 0)) : e = 0 ∧ l = [if x then 1 else 0] ++ l' := by
  unfold rTruth rTruthE at h
  obtain ⟨h1, h2⟩ := Prod.mk.inj h
  obtain ⟨h3, h4⟩ := Prod.mk.inj h2
  have hz : (rTake 1 l e).2.2 = 0 := by
    split at h4
    · exact absurd h4 (by decide)
    · exact h4
  rw [hz] at h4
  have hb : ¬ 1 < rByte l e := fun hb => by rw [if_pos ⟨hb, rfl⟩] at h4; cases h4
  have h5 := byte_inv (l' := l') (show (rTake 1 l e).2 = (l', 0) by rw [← h3, ← hz])
  refine ⟨h5.1, ?_⟩
  have h6 := h5.2
  rw [h6, List.singleton_append]
  congr 1
  rw [← h1]
  by_cases hx : rByte l e = 1
  · simp [hx]
  · simp [hx]; omega
theorem rowI_app (k : Nat) (r : List Int) (l : List Nat) (hI : IsI r) (h : r.length ≤ k) : rRowI (k : Int) (rowB r ++ l) 0 = (r, l, 0) := by
  rw [rRowI_nat]; exact row_app k r l hI h
theorem rowI_inv {k : Nat} {r : List Int} {l l' : List Nat} {e : Int} (hl : IsB l) (h : rRowI (k : Int) l e = (r, l', 0)) : e = 0 ∧ l = rowB r ++ l' ∧ r.length ≤ k ∧ IsI r := by
  rw [rRowI_nat] at h; exact row_inv hl h
structure KidW (k : KidD) (d : Nat) : Prop where
  s : k.sum.length = 32
  a : 0 ≤ k.live ∧ k.live ≤ 1048576
  b : 0 ≤ k.size ∧ k.size ≤ 1048576
  lo : k.lo.length ≤ d ∧ IsI k.lo
  hi : k.hi.length ≤ d ∧ IsI k.hi
  key : k.key.length ≤ d ∧ IsI k.key
theorem kid_app (d : Nat) (k : KidD) (l : List Nat) (h : KidW k d) : rKid (d : Int) (kidB k ++ l) 0 = (k, l, 0) := by
  obtain ⟨a, ha⟩ := Int.eq_ofNat_of_zero_le h.a.1
  obtain ⟨b, hb⟩ := Int.eq_ofNat_of_zero_le h.b.1
  have ha1 := h.a.2
  have hb1 := h.b.2
  unfold rKid kidB
  simp only [List.append_assoc]
  obtain ⟨d1, d2⟩ := dig_app k.sum (be3 k.live.toNat ++ (be3 k.size.toNat ++ (rowB k.lo ++ (rowB k.hi ++ (rowB k.key ++ l))))) h.s
  rw [d1, d2]
  dsimp only
  rw [count_app 1048576 k.live.toNat _ (by omega) (by omega)]
  dsimp only
  rw [count_app 1048576 k.size.toNat _ (by omega) (by omega)]
  dsimp only
  rw [rowI_app d k.lo _ h.lo.2 h.lo.1]
  dsimp only
  rw [rowI_app d k.hi _ h.hi.2 h.hi.1]
  dsimp only
  rw [rowI_app d k.key _ h.key.2 h.key.1]
  dsimp only
  rw [Int.toNat_of_nonneg h.a.1, Int.toNat_of_nonneg h.b.1]
theorem kid_inv {d : Nat} {k : KidD} {l l' : List Nat} {e : Int} (hl : IsB l) (h : rKid (d : Int) l e = (k, l', 0)) : e = 0 ∧ l = kidB k ++ l' ∧ KidW k d ∧ IsB k.sum := by
  unfold rKid at h
  obtain ⟨h1, h2⟩ := Prod.mk.inj h
  rcases q1 : (rTake 32 l e).2 with ⟨l1, e1⟩
  rw [q1] at h1 h2
  dsimp only at h1 h2
  rcases q2 : rCount 1048576 l1 e1 with ⟨n2, l2, e2⟩
  rw [q2] at h1 h2
  dsimp only at h1 h2
  rcases q3 : rCount 1048576 l2 e2 with ⟨n3, l3, e3⟩
  rw [q3] at h1 h2
  dsimp only at h1 h2
  rcases q4 : rRowI (d : Int) l3 e3 with ⟨r4, l4, e4⟩
  rw [q4] at h1 h2
  dsimp only at h1 h2
  rcases q5 : rRowI (d : Int) l4 e4 with ⟨r5, l5, e5⟩
  rw [q5] at h1 h2
  dsimp only at h1 h2
  rcases q6 : rRowI (d : Int) l5 e5 with ⟨r6, l6, e6⟩
  rw [q6] at h1 h2
  dsimp only at h1 h2
  obtain ⟨rfl, rfl⟩ := Prod.mk.inj h2
  have b1 : IsB l1 := by have := (take_suf 32 l e).isB hl; rwa [q1] at this
  have b2 : IsB l2 := by have := (count_suf 1048576 l1 e1).isB b1; rwa [q2] at this
  have b3 : IsB l3 := by have := (count_suf 1048576 l2 e2).isB b2; rwa [q3] at this
  have b4 : IsB l4 := by have := (row_suf d l3 e3).isB b3; rw [← rRowI_nat, q4] at this; exact this
  have b5 : IsB l5 := by have := (row_suf d l4 e4).isB b4; rw [← rRowI_nat, q5] at this; exact this
  obtain ⟨rfl, g6, g7, g8⟩ := rowI_inv b5 q6
  obtain ⟨rfl, f6, f7, f8⟩ := rowI_inv b4 q5
  obtain ⟨rfl, k6, k7, k8⟩ := rowI_inv b3 q4
  obtain ⟨rfl, m6, m7⟩ := count_inv b2 q3
  obtain ⟨rfl, p6, p7⟩ := count_inv b1 q2
  obtain ⟨rfl, s6, s7⟩ := dig_inv q1
  rw [← h1]
  refine ⟨rfl, ?_, ⟨s7, ⟨by simp, by simp; omega⟩, ⟨by simp, by simp; omega⟩, ⟨k7, k8⟩, ⟨f7, f8⟩, ⟨g7, g8⟩⟩, ?_⟩
  · unfold kidB
    dsimp only
    rw [Int.toNat_natCast, Int.toNat_natCast]
    simp only [List.append_assoc]
    rw [← g6, ← f6, ← k6, ← m6, ← p6, ← s6]
  · rw [s6] at hl
    exact (isB_app hl).1
theorem kidsB_app (d : Nat) : ∀ (ks : List KidD) (k : Nat) (l : List Nat), k ≤ ks.length → (∀ x ∈ ks, KidW x d) → rKids (d : Int) k (((ks.take k).map kidB).flatten ++ l) 0 = (ks.take k, l, 0)
  | ks, 0, l, _, _ => by simp [rKids]
  | ks, k + 1, l, hk, h => by
    have hi : k < ks.length := by omega
    rw [rKids, flat_take_succ kidB ks k hi, List.append_assoc, kidsB_app d ks k _ (by omega) h]
    dsimp only
    rw [kid_app d _ l (h _ (getD_mem' hi)), take_getD ks k hi]
structure EntW (x : EntD) (d : Nat) : Prop where
  len : x.row.length ≤ d
  isI : IsI x.row
theorem entsB_app (d : Nat) : ∀ (es : List EntD) (k : Nat) (l : List Nat), k ≤ es.length → (∀ x ∈ es, EntW x d) → rEnts (d : Int) k (((es.take k).map entB).flatten ++ l) 0 = (es.take k, l, 0)
  | es, 0, l, _, _ => by simp [rEnts]
  | es, k + 1, l, hk, h => by
    have hi : k < es.length := by omega
    have hw := h _ (getD_mem' hi)
    rw [rEnts, flat_take_succ entB es k hi, List.append_assoc, entsB_app d es k _ (by omega) h]
    dsimp only
    unfold entB
    rw [List.append_assoc, truth_app]
    dsimp only
    rw [rowI_app d _ l hw.isI hw.len, take_getD es k hi]
theorem rKids_inv (d : Nat) : ∀ (k : Nat) {ks : List KidD} {l l' : List Nat} {e : Int}, IsB l → rKids (d : Int) k l e = (ks, l', 0) → e = 0 ∧ ks.length = k ∧ l = (ks.map kidB).flatten ++ l' ∧ ∀ x ∈ ks, KidW x d ∧ IsB x.sum
  | 0, ks, l, l', e, hl, h => by
    simp only [rKids, Prod.mk.injEq] at h
    obtain ⟨rfl, rfl, rfl⟩ := h
    simp
  | k + 1, ks, l, l', e, hl, h => by
    rw [rKids] at h
    (try dsimp only at h)
    rcases q1 : rKids (d : Int) k l e with ⟨ks1, l1, e1⟩
    rw [q1] at h
    (try dsimp only at h)
    rcases q2 : rKid (d : Int) l1 e1 with ⟨x, l2, e2⟩
    rw [q2] at h
    obtain ⟨rfl, h2⟩ := Prod.mk.inj h
    obtain ⟨rfl, rfl⟩ := Prod.mk.inj h2
    have b1 : IsB l1 := by have := (kids_suf (d : Int) l e k).isB hl; rwa [q1] at this
    obtain ⟨rfl, f1, f2, f3⟩ := kid_inv b1 q2
    obtain ⟨rfl, g1, g2, g3⟩ := rKids_inv d k hl q1
    refine ⟨rfl, by simp [g1], ?_, fun y hy => ?_⟩
    · rw [g2, f1]; simp
    · rcases List.mem_append.1 hy with hy | hy
      · exact g3 y hy
      · rw [List.mem_singleton.1 hy]; exact ⟨f2, f3⟩
theorem rEnts_inv (d : Nat) : ∀ (k : Nat) {es : List EntD} {l l' : List Nat} {e : Int}, IsB l → rEnts (d : Int) k l e = (es, l', 0) → e = 0 ∧ es.length = k ∧ l = (es.map entB).flatten ++ l' ∧ ∀ x ∈ es, EntW x d
  | 0, es, l, l', e, hl, h => by
    simp only [rEnts, Prod.mk.injEq] at h
    obtain ⟨rfl, rfl, rfl⟩ := h
    simp
  | k + 1, es, l, l', e, hl, h => by
    rw [rEnts] at h
    (try dsimp only at h)
    rcases q1 : rEnts (d : Int) k l e with ⟨es1, l1, e1⟩
    rw [q1] at h
    (try dsimp only at h)
    rcases q2 : rTruth l1 e1 with ⟨t, l2, e2⟩
    rw [q2] at h
    (try dsimp only at h)
    rcases q3 : rRowI (d : Int) l2 e2 with ⟨r, l3, e3⟩
    rw [q3] at h
    obtain ⟨rfl, h2⟩ := Prod.mk.inj h
    obtain ⟨rfl, rfl⟩ := Prod.mk.inj h2
    have b1 : IsB l1 := by have := (ents_suf (d : Int) l e k).isB hl; rwa [q1] at this
    have b2 : IsB l2 := by have := (take_suf 1 l1 e1).isB b1; have h5 := congrArg (fun x => x.2.1) q2; simp only [rTruth] at h5; rwa [h5] at this
    obtain ⟨rfl, f1, f2, f3⟩ := rowI_inv b2 q3
    obtain ⟨rfl, t1⟩ := truth_inv q2
    obtain ⟨rfl, g1, g2, g3⟩ := rEnts_inv d k hl q1
    refine ⟨rfl, by simp [g1], ?_, fun y hy => ?_⟩
    · rw [g2, t1, f1]; simp [entB]
    · rcases List.mem_append.1 hy with hy | hy
      · exact g3 y hy
      · rw [List.mem_singleton.1 hy]; exact ⟨f2, f3⟩
theorem kidR_len {k : KidD} {d : Nat} (h : kidR k (d : Int) = true) : k.lo.length ≤ d ∧ k.hi.length ≤ d := by
  unfold kidR at h
  simp only [Bool.or_eq_true, Bool.and_eq_true, decide_eq_true_eq] at h
  rcases h with rfl | ⟨h1, h2, h3, h4, h5⟩
  · simp [kidZ]
  · split at h5
    · simp only [Bool.and_eq_true, decide_eq_true_eq] at h5
      omega
    · have := rightB_len h5
      omega
theorem nodeR_parts {n : NodeD} {d : Int} (h : nodeR n d = true) : ∃ k : Nat, d = (k : Int) ∧ (∀ x ∈ n.rows, x.row.length ≤ k) ∧ ∀ x ∈ n.kids, kidR x (k : Int) = true ∧ x.key.length ≤ k := by
  unfold nodeR at h
  simp only [Bool.and_eq_true, decide_eq_true_eq, List.all_eq_true] at h
  obtain ⟨h1, h2, h3, h4, h5⟩ := h
  obtain ⟨k, rfl⟩ := Int.eq_ofNat_of_zero_le (show 0 ≤ d by omega)
  refine ⟨k, rfl, fun x hx => by have := h3 x hx; omega, fun x hx => ⟨h4 x hx, ?_⟩⟩
  unfold kindR at h5
  split at h5
  · simp only [Bool.and_eq_true, decide_eq_true_eq, List.all_eq_true] at h5
    have := h5.2.2 x hx; omega
  · split at h5
    · simp only [Bool.and_eq_true, decide_eq_true_eq] at h5
      rw [List.eq_nil_of_length_eq_zero h5.2.2.1] at hx; cases hx
    · simp only [Bool.and_eq_true, decide_eq_true_eq, List.all_eq_true] at h5
      have := (h5.2.2.2.2 x hx).1; omega
theorem mem_getD {α : Type} [Inhabited α] {l : List α} {x : α} (hx : x ∈ l) : ∃ i, i < l.length ∧ l.getD i default = x := by
  obtain ⟨i, hi, rfl⟩ := List.getElem_of_mem hx
  exact ⟨i, hi, by simp [List.getD, List.getElem?_eq_getElem hi]⟩
theorem rNode_app {n : NodeD} {d : Int} (hn : NodeOk n) (h : nodeR n d = true) : rNode d (nodeB n) = (n, [], 0) := by
  have hF := nodeR_facts h
  obtain ⟨k, rfl, hr, hk⟩ := nodeR_parts h
  have hE : ∀ x ∈ n.rows, EntW x k := fun x hx => by
    obtain ⟨i, hi, rfl⟩ := mem_getD hx
    exact ⟨hr _ hx, (hn.row i hi).1⟩
  have hK : ∀ x ∈ n.kids, KidW x k := fun x hx => by
    have h1 := hk x hx
    have h2 := kidR_facts h1.1
    have h3 := kidR_len h1.1
    obtain ⟨i, hi, rfl⟩ := mem_getD hx
    have h4 := hn.kid i hi
    exact ⟨h4.s, h2.1, h2.2.1, ⟨h3.1, h4.lI⟩, ⟨h3.2, h4.hI⟩, ⟨h1.2, h4.kI⟩⟩
  have a1 := entsB_app k n.rows n.rows.length ([n.kids.length] ++ ((n.kids.map kidB).flatten ++ [])) (Nat.le_refl _) hE
  have a2 := kidsB_app k n.kids n.kids.length [] (Nat.le_refl _) hK
  rw [List.take_length] at a1 a2
  have b1 := byte_app n.kind ([n.rows.length] ++ ((n.rows.map entB).flatten ++ ([n.kids.length] ++ ((n.kids.map kidB).flatten ++ []))))
  have b2 := byte_app n.rows.length ((n.rows.map entB).flatten ++ ([n.kids.length] ++ ((n.kids.map kidB).flatten ++ [])))
  have b3 := byte_app n.kids.length ((n.kids.map kidB).flatten ++ [])
  have e : nodeB n = n.kind :: ([n.rows.length] ++ ((n.rows.map entB).flatten ++ ([n.kids.length] ++ ((n.kids.map kidB).flatten ++ [])))) := by
    unfold nodeB; simp only [List.append_assoc, List.append_nil, List.singleton_append, List.cons_append, List.nil_append]
  unfold rNode
  rw [e, b1.1, b1.2]
  dsimp only
  rw [List.singleton_append, b2.1, b2.2]
  dsimp only
  rw [a1]
  dsimp only
  rw [List.singleton_append, b3.1, b3.2]
  dsimp only
  rw [a2]
theorem readN_app {n : NodeD} {d : Int} (hn : NodeOk n) (h : nodeR n d = true) : readN d (nodeB n) = some n := by
  unfold readN
  rw [rNode_app hn h]
  dsimp only
  rw [if_pos ⟨by decide, h⟩]
theorem readN_inv {d : Int} {b : List Nat} {n : NodeD} (hb : IsB b) (h : readN d b = some n) : b = nodeB n ∧ nodeR n d = true ∧ NodeOk n := by
  unfold readN at h
  split at h
  case isFalse => cases h
  rename_i hc
  obtain ⟨hE, hR⟩ := hc
  have hq := Option.some.inj h
  rw [hq] at hR
  have hF := nodeR_facts hR
  obtain ⟨k, rfl, hr, hk⟩ := nodeR_parts hR
  obtain ⟨z1, z2⟩ := rEnd_zero hE
  have hN : rNode (k : Int) b = (n, [], 0) := by
    rcases q : rNode (k : Int) b with ⟨x, y, z⟩
    rw [q] at hq z1 z2
    dsimp only at hq z1 z2
    rw [hq, z1, z2]
  clear hE hq z1 z2 h
  unfold rNode at hN
  dsimp only at hN
  rcases q1 : (rTake 1 b 0).2 with ⟨l1, e1⟩
  rw [q1] at hN
  dsimp only at hN
  rcases q2 : (rTake 1 l1 e1).2 with ⟨l2, e2⟩
  rw [q2] at hN
  dsimp only at hN
  rcases q3 : rEnts (k : Int) (rByte l1 e1) l2 e2 with ⟨es, l3, e3⟩
  rw [q3] at hN
  dsimp only at hN
  rcases q4 : (rTake 1 l3 e3).2 with ⟨l4, e4⟩
  rw [q4] at hN
  dsimp only at hN
  rcases q5 : rKids (k : Int) (rByte l3 e3) l4 e4 with ⟨ks, l5, e5⟩
  rw [q5] at hN
  dsimp only at hN
  obtain ⟨hn, h2⟩ := Prod.mk.inj hN
  obtain ⟨rfl, rfl⟩ := Prod.mk.inj h2
  have b1 : IsB l1 := by have := (take_suf 1 b 0).isB hb; rwa [q1] at this
  have b2 : IsB l2 := by have := (take_suf 1 l1 e1).isB b1; rwa [q2] at this
  have b3 : IsB l3 := by have := (ents_suf (k : Int) l2 e2 (rByte l1 e1)).isB b2; rwa [q3] at this
  have b4 : IsB l4 := by have := (take_suf 1 l3 e3).isB b3; rwa [q4] at this
  obtain ⟨rfl, f1, f2, f3⟩ := rKids_inv k _ b4 q5
  obtain ⟨rfl, g1⟩ := byte_inv q4
  obtain ⟨rfl, i1, i2, i3⟩ := rEnts_inv k _ b2 q3
  obtain ⟨rfl, j1⟩ := byte_inv q2
  obtain ⟨_, k1⟩ := byte_inv q1
  have hkb : rByte b 0 < 256 := rByte_lt b 0 hb
  subst hn
  refine ⟨?_, hR, ⟨hkb, fun i hi => ?_, fun i hi => ?_, ?_, ?_⟩⟩
  · unfold nodeB
    dsimp only
    rw [i1, f1]
    conv => lhs; rw [k1, j1, i2, g1, f2]
    simp only [List.append_assoc, List.singleton_append, List.append_nil, List.cons_append, List.nil_append]
  · have := i3 _ (getD_mem' hi)
    exact ⟨this.isI, by have := this.len; have := hF.d; dsimp only; omega⟩
  · have h1 := f3 _ (getD_mem' hi)
    have h2 := h1.1
    exact ⟨h2.s, h1.2, h2.lo.2, h2.hi.2, h2.key.2, by have := h2.a; dsimp only; omega, by have := h2.b; dsimp only; omega, by have := h2.lo.1; have := hF.d; dsimp only; omega, by have := h2.hi.1; have := hF.d; dsimp only; omega, by have := h2.key.1; have := hF.d; dsimp only; omega⟩
  · have := hF.rows; dsimp only at this ⊢; omega
  · have := hF.kids; dsimp only at this ⊢; omega
end Go.Proofs.Ytgcbodpjidoanaa
namespace Go.Proofs.Ytgcbodpjidoanaa
open Go.RowKit
/-- what is known of a struct's parts may be carried where their blocks stay -/
def Moves {α : Type} (M : (Nat → Prop) → World → α → Prop) : Prop := ∀ (S S' : Nat → Prop) (w W : World) (q : α), M S w q → But S w W → (∀ b, b < w.heap.size → ¬ S b → ¬ S' b) → M S' W q
/-- a row of structs that the call owns, their parts apart from it -/
structure LOwn {α : Type} (E s : Nat) (C : α → List Value) (M : (Nat → Prop) → World → α → Prop) (w : World) (base : Nat) (A : Option Addr) (c : Nat) (qs : List α) : Prop where
  own : OwnC E s w base A c (qs.map C)
  mem : ∀ q ∈ qs, M (fun b => b < base ∨ ∃ off s, A = some ⟨b, off, s⟩) w q
section
variable {α : Type} {E s : Nat} {C : α → List Value} {M : (Nat → Prop) → World → α → Prop} {w W : World} {base c : Nat} {A : Option Addr} {qs : List α}
theorem LOwn.nil (w : World) (base : Nat) : LOwn E s C M w base none 0 [] := ⟨OwnC.nil _ _ _ _, by simp⟩
theorem LOwn.but {S : Nat → Prop} (mv : Moves M) (h : LOwn E s C M w base A c qs) (b : But S w W) (hS : ∀ k, S k → k < base) : LOwn E s C M W base A c qs :=
  ⟨h.own.but b fun k hk e => by have := hS k e; omega, fun q hq => mv _ _ _ _ _ (h.mem q hq) (b.mono fun k hk => .inl (hS k hk)) fun _ _ h => h⟩
theorem LOwn.ext (mv : Moves M) (h : LOwn E s C M w base A c qs) (b : Ext w W) : LOwn E s C M W base A c qs := h.but (S := fun _ => False) mv (But.of_ext b) fun _ h => h.elim
theorem LOwn.lt (h : LOwn E s C M w base A c qs) {b off : Nat} {q} (e : A = some ⟨b, off, q⟩) : b < w.heap.size := (h.own.block e).2
theorem LOwn.after {base' : Nat} (mv : Moves M) (h : LOwn E s C M w base A c qs) (b : Below base' w W) (hb : w.heap.size ≤ base') : LOwn E s C M W base A c qs := by
  have hB : But (fun _ => False) w W := ⟨b.size, fun k hk _ => b.block k (Nat.lt_of_lt_of_le hk hb), b.os, b.tape, b.output⟩
  exact h.but mv hB fun _ h => h.elim
theorem LOwn.arrC [Inhabited α] (h : LOwn E s C M w base A c qs) (hs : 0 < s) : ArrC w w.heap.size A qs.length s (fun i => C (qs.getD i default)) := by
  have := h.own.arrC hs
  rw [List.length_map] at this
  refine this.congr fun i hi => ?_
  simp only [List.getD, List.getElem?_map, List.getElem?_eq_getElem hi, Option.map_some, Option.getD_some]
theorem turn_append_L {S : Nat → Prop} {o : Oper} {a : Act} {Kk : Value → World → Prop} (mv : Moves M) (T by_ : Nat) (i0 : TypeInfo) (z0 : Value) (hT : Try.prog.underlying T = some (.slice E)) (hi : Try.prog.info? E = some i0) (hz0 : i0.zero = some z0) (hsz : i0.size = s) (hby : i0.bytes = by_) (hzs : z0.cells.size = s) (hs0 : 0 < s) (hb0 : by_ ≤ 1000)
    (x y : Operand) (ho : o.op = .call { callee := .builtin .append, args := #[x, y], argTypes := #[T, T] })
    (n : Nat) (hl : n = qs.length) (hs : a.eval x = .slice A n c) (hown : LOwn E s C M w base A c qs) (b cap : Nat) (q : α) (z : Nat) (hx : a.eval y = .slice (some ⟨b, 0, none⟩) 1 cap)
    (hr : w.rangeAt b 0 (C q)) (hc : (C q).length = s) (h1 : ∀ u ∈ C q, u.oneCell' = true) (hq : M (fun b => b < z) w q) (hz : base ≤ z) (hzA : ∀ b off s, A = some ⟨b, off, s⟩ → b < z) (hn : n ≤ 1000000000) (hbase : base ≤ w.heap.size) (hS : ∀ b, base ≤ b → S b)
    (h : ∀ g' c' w', LOwn E s C M w' base (some ⟨g', 0, none⟩) c' (qs ++ [q]) → Below base w w' → But S w w' → Kk (.slice (some ⟨g', 0, none⟩) (n + 1) c') w') :
    ∃ v w', ((execOp a.eval o).run Try.prog w = .ok (.value v) w' ∧ But S w w') ∧ Kk v w' := by
  refine turn_append_C T E s by_ i0 z0 hT hi hz0 hsz hby hzs hs0 hb0 x y ho base A c n (qs.map C) (by rw [List.length_map]; exact hl) hs hown.own b 0 cap (C q) hx hr hc h1 hn hbase hS fun g' c' w' o1 b1 bS b2 hat => ?_
  refine h g' c' w' ⟨?_, fun r hr => ?_⟩ b1 bS
  · rw [List.map_append]; exact o1
  · rcases List.mem_append.1 hr with hr | hr
    · refine mv _ _ _ _ _ (hown.mem r hr) (b2.mono fun _ h => .inr h) fun b hb hn => ?_
      rintro (e | ⟨off, s, e⟩)
      · exact hn (.inl e)
      · injection e with e; injection e with e _ _
        rcases hat with ⟨off, s, e2⟩ | e2
        · exact hn (.inr ⟨off, s, e ▸ e2⟩)
        · omega
    · rw [List.mem_singleton.1 hr]
      refine mv _ _ _ _ _ hq (b2.mono fun b => by rintro ⟨off, s, e⟩; exact hzA b off s e) fun b hb hn => ?_
      rintro (e | ⟨off, s, e⟩)
      · exact hn (Nat.lt_of_lt_of_le e hz)
      · injection e with e; injection e with e _ _
        rcases hat with ⟨off, s, e2⟩ | e2
        · exact hn (e ▸ hzA _ _ _ e2)
        · omega
end
abbrev EntQ := EntD × EntP
abbrev KidQ := KidD × KidP
def entQ (q : EntQ) : List Value := entC q.1 q.2
def kidQ (q : KidQ) : List Value := kidC q.1 q.2
def EntN (S : Nat → Prop) (w : World) (q : EntQ) : Prop := ArrN S w q.2.1 q.1.row.length (i64s q.1.row)
structure KidN (S : Nat → Prop) (w : World) (q : KidQ) : Prop where
  l : ArrN S w q.2.lA q.1.lo.length (i64s q.1.lo)
  h : ArrN S w q.2.hA q.1.hi.length (i64s q.1.hi)
  k : ArrN S w q.2.kA q.1.key.length (i64s q.1.key)
theorem ent_moves : Moves EntN := fun S S' w W q h b hS => ArrN.to h b hS
theorem kid_moves : Moves KidN := fun S S' w W q h b hS => ⟨h.l.to b hS, h.h.to b hS, h.k.to b hS⟩
theorem KidOwn.n {w : World} {lo : Nat} {k : KidD} {p : KidP} (h : KidOwn w lo k p) : KidN (fun b => b < lo) w (k, p) := ⟨h.l.arrN fun _ h => h, h.h.arrN fun _ h => h, h.k.arrN fun _ h => h⟩
theorem info_ent : (Try.prog.info? 56).map (fun i => (i.zero, i.size, i.bytes)) = some (some (.agg #[.slice none 0 0, .bool false]), 2, 32) := by kernel_rfl
theorem info_kid : (Try.prog.info? 43).map (fun i => (i.zero, i.size, i.bytes)) = some (some (.agg kidL13.toArray), 37, 120) := by kernel_rfl
/-- a node of the two lists -/
theorem nodeMem_of {w : World} {b1 b2 c1 c2 k : Nat} {A1 A2 : Option Addr} {es : List EntQ} {ks : List KidQ} (h1 : LOwn 56 2 entQ EntN w b1 A1 c1 es) (h2 : LOwn 43 37 kidQ KidN w b2 A2 c2 ks) :
    NodeMem w w.heap.size ⟨k, es.map Prod.fst, ks.map Prod.fst⟩ ⟨A1, c1, fun i => (es.getD i default).2, A2, c2, fun i => (ks.getD i default).2⟩ := by
  have g1 : ∀ i, i < es.length → ((es.map Prod.fst).getD i default = (es.getD i default).1 ∧ es.getD i default ∈ es) := fun i hi => by
    simp only [List.getD, List.getElem?_map, List.getElem?_eq_getElem hi, Option.map_some, Option.getD_some, true_and]
    exact List.getElem_mem _
  have g2 : ∀ i, i < ks.length → ((ks.map Prod.fst).getD i default = (ks.getD i default).1 ∧ ks.getD i default ∈ ks) := fun i hi => by
    simp only [List.getD, List.getElem?_map, List.getElem?_eq_getElem hi, Option.map_some, Option.getD_some, true_and]
    exact List.getElem_mem _
  constructor
  · have := h1.arrC (by decide)
    simp only [List.length_map]
    exact this.congr fun i hi => by rw [(g1 i hi).1]; rfl
  · intro i hi
    rw [List.length_map] at hi
    simp only [(g1 i hi).1]
    exact ArrN.arr (h1.mem _ (g1 i hi).2)
  · have := h2.arrC (by decide)
    simp only [List.length_map]
    exact this.congr fun i hi => by rw [(g2 i hi).1]; rfl
  · intro i hi
    rw [List.length_map] at hi
    simp only [(g2 i hi).1]
    have := h2.mem _ (g2 i hi).2
    exact ⟨this.l.arr, this.h.arr, this.k.arr⟩
theorem foldset_all : ∀ (C : List Value) (k : Nat) (B : Array Value) (j : Nat), (C.zipIdx k).foldl (fun cs (x : Value × Nat) => cs.setIfInBounds x.2 x.1) B = (C.zipIdx k).foldl (fun cs (x : Value × Nat) => cs.setIfInBounds x.2 x.1) B → k + C.length ≤ B.size → ((C.zipIdx k).foldl (fun cs (x : Value × Nat) => cs.setIfInBounds x.2 x.1) B)[j]? = if k ≤ j ∧ j < k + C.length then C[j - k]? else B[j]?
  | [], k, B, j, _, _ => by simp; omega
  | c :: C, k, B, j, _, h => by
    simp only [List.length_cons] at h
    rw [List.zipIdx_cons, List.foldl_cons, foldset_all C (k + 1) _ j rfl (by simp; omega)]
    simp only [List.length_cons]
    by_cases h1 : k + 1 ≤ j ∧ j < k + 1 + C.length
    · rw [if_pos h1, if_pos (by omega), show j - k = (j - (k + 1)) + 1 by omega, List.getElem?_cons_succ]
    · rw [if_neg h1, Array.getElem?_setIfInBounds]
      by_cases h2 : k = j
      · subst h2
        rw [if_pos rfl, if_pos (by omega), if_pos (by omega)]
        simp
      · rw [if_neg h2, if_neg (by omega)]
/-- all cells are set -/
theorem fold_all (C : List Value) (B : Array Value) (h : B.size = C.length) : (C.zipIdx).foldl (fun cs (x : Value × Nat) => cs.setIfInBounds x.2 x.1) B = C.toArray := by
  apply Array.ext_getElem?
  intro j
  rw [foldset_all C 0 B j rfl (by omega)]
  simp only [Nat.zero_add, Nat.zero_le, true_and, Nat.sub_zero, List.getElem?_toArray]
  split
  · rfl
  · rename_i hj
    rw [List.getElem?_eq_none (by omega), Array.getElem?_eq_none (by omega)]
end Go.Proofs.Ytgcbodpjidoanaa
namespace Go.Proofs.Ytgcbodpjidoanaa
open Go.RowKit
theorem rowI_isI {m : Int} {l : List Nat} {e : Int} (hl : IsB l) : IsI (rRowI m l e).1 ∧ (rRowI m l e).1.length ≤ 255 := by
  have hk := rByte_lt l e hl
  have hs := (take_suf 1 l e).isB hl
  unfold rRowI
  dsimp only
  generalize (if m < (rByte l e : Int) ∧ (rTake 1 l e).2.2 = 0 then 10 else (rTake 1 l e).2.2) = f
  have := rNums_len (rByte l e) (rTake 1 l e).2.1 f
  rcases hq : rNums (rByte l e) (rTake 1 l e).2.1 f with ⟨r, l', g⟩
  rw [hq] at this
  dsimp only at this ⊢
  by_cases hg : g = 0
  · subst hg
    rw [if_pos rfl]
    exact ⟨(nums_inv _ hs hq).2.2.2, by omega⟩
  · rw [if_neg hg]
    exact ⟨fun i => by simp, by simp⟩
theorem rDig_isB {l : List Nat} {e : Int} (hl : IsB l) : IsB (rDig l e) := by
  unfold rDig rTake
  split
  · intro i; simp only [Option.getD_none, List.getD, List.getElem?_replicate]; split <;> decide
  · split
    · intro i; simp only [Option.getD_none, List.getD, List.getElem?_replicate]; split <;> decide
    · exact isB_take hl _
theorem rKid_ok (d : Int) {l : List Nat} {e : Int} (hl : IsB l) : KidOk (rKid d l e).1 := by
  unfold rKid
  dsimp only
  have b1 := (take_suf 32 l e).isB hl
  have b2 := (count_suf 1048576 (rTake 32 l e).2.1 (rTake 32 l e).2.2).isB b1
  generalize rTake 32 l e = s at *
  have n1 := (rCount_le 1048576 s.2.1 s.2.2).1
  generalize rCount 1048576 s.2.1 s.2.2 = c1 at *
  have n2 := (rCount_le 1048576 c1.2.1 c1.2.2).1
  have b3 := (count_suf 1048576 c1.2.1 c1.2.2).isB b2
  generalize rCount 1048576 c1.2.1 c1.2.2 = c2 at *
  have i1 := rowI_isI (m := d) (e := c2.2.2) b3
  have b4 := (rowI_suf d c2.2.1 c2.2.2).isB b3
  generalize rRowI d c2.2.1 c2.2.2 = r1 at *
  have i2 := rowI_isI (m := d) (e := r1.2.2) b4
  have b5 := (rowI_suf d r1.2.1 r1.2.2).isB b4
  generalize rRowI d r1.2.1 r1.2.2 = r2 at *
  have i3 := rowI_isI (m := d) (e := r2.2.2) b5
  generalize rRowI d r2.2.1 r2.2.2 = r3 at *
  have j1 := i1.2
  have j2 := i2.2
  have j3 := i3.2
  constructor
  all_goals (try dsimp only)
  all_goals first
    | exact rDig_len l e
    | exact rDig_isB hl
    | exact i1.1
    | exact i2.1
    | exact i3.1
    | (refine ⟨?_, ?_⟩ <;> omega)
    | omega
theorem rKids_ok (d : Int) {l : List Nat} {e : Int} (hl : IsB l) : ∀ k, (rKids d k l e).1.length = k ∧ ∀ x ∈ (rKids d k l e).1, KidOk x
  | 0 => by simp [rKids]
  | k + 1 => by
    obtain ⟨h1, h2⟩ := rKids_ok d (e := e) hl k
    rw [rKids]
    dsimp only
    refine ⟨by simp [h1], fun x hx => ?_⟩
    rcases List.mem_append.1 hx with hx | hx
    · exact h2 x hx
    · rw [List.mem_singleton.1 hx]; exact rKid_ok d ((kids_suf d l e k).isB hl)
theorem rEnts_ok (d : Int) {l : List Nat} {e : Int} (hl : IsB l) : ∀ k, (rEnts d k l e).1.length = k ∧ ∀ x ∈ (rEnts d k l e).1, IsI x.row ∧ x.row.length ≤ 255
  | 0 => by simp [rEnts]
  | k + 1 => by
    obtain ⟨h1, h2⟩ := rEnts_ok d (e := e) hl k
    rw [rEnts]
    dsimp only
    refine ⟨by simp [h1], fun x hx => ?_⟩
    rcases List.mem_append.1 hx with hx | hx
    · exact h2 x hx
    · rw [List.mem_singleton.1 hx]; exact rowI_isI ((take_suf 1 _ _).isB ((ents_suf d l e k).isB hl))
theorem rNode_ok (d : Int) {b : List Nat} (hb : IsB b) : NodeOk (rNode d b).1 := by
  unfold rNode
  dsimp only
  have b1 := (take_suf 1 b 0).isB hb
  have b2 := (take_suf 1 (rTake 1 b 0).2.1 (rTake 1 b 0).2.2).isB b1
  have hk := rByte_lt b 0 hb
  have hn := rByte_lt (rTake 1 b 0).2.1 (rTake 1 b 0).2.2 b1
  obtain ⟨e1, e2⟩ := rEnts_ok d (e := (rTake 1 (rTake 1 b 0).2.1 (rTake 1 b 0).2.2).2.2) b2 (rByte (rTake 1 b 0).2.1 (rTake 1 b 0).2.2)
  have b3 := (ents_suf d (rTake 1 (rTake 1 b 0).2.1 (rTake 1 b 0).2.2).2.1 (rTake 1 (rTake 1 b 0).2.1 (rTake 1 b 0).2.2).2.2 (rByte (rTake 1 b 0).2.1 (rTake 1 b 0).2.2)).isB b2
  generalize rEnts d (rByte (rTake 1 b 0).2.1 (rTake 1 b 0).2.2) (rTake 1 (rTake 1 b 0).2.1 (rTake 1 b 0).2.2).2.1 (rTake 1 (rTake 1 b 0).2.1 (rTake 1 b 0).2.2).2.2 = E at *
  have b4 := (take_suf 1 E.2.1 E.2.2).isB b3
  have hm := rByte_lt E.2.1 E.2.2 b3
  obtain ⟨k1, k2⟩ := rKids_ok d (e := (rTake 1 E.2.1 E.2.2).2.2) b4 (rByte E.2.1 E.2.2)
  generalize rKids d (rByte E.2.1 E.2.2) (rTake 1 E.2.1 E.2.2).2.1 (rTake 1 E.2.1 E.2.2).2.2 = K at *
  constructor
  all_goals (try dsimp only)
  · exact hk
  · intro i hi
    have := e2 _ (getD_mem' hi)
    exact ⟨this.1, by omega⟩
  · intro i hi
    exact k2 _ (getD_mem' hi)
  · omega
  · omega
end Go.Proofs.Ytgcbodpjidoanaa
