/- Plain: the page store as a list, and its first clash. No program in sight. The digest, told twice: both are one. The page store, told at once: New, Len, Get, Put, Clash. Plain: sorting by a total order; the order of rows at a depth. No program in sight. Plain: nodes put into a store, and got from it. No program in sight. -/
import Derived.Test.YtbidoddghdbaoaaY24
import Derived.Test.YtbidoddghdbaoaaY26
import Derived.Test.YtbidoddghdbaoaaY43
set_option linter.unusedVariables false
set_option linter.unusedSimpArgs false
namespace Go.Proofs.Ytbidoddghdbaoaa
structure Sto where
  L : List (List Nat)
  c : Option (List Nat × List Nat)
deriving Inhabited
def Sto.new : Sto := ⟨[], none⟩
structure StoOk (s : Sto) : Prop where
  b : ∀ t ∈ s.L, Pl.IsB t ∧ t.length ≤ 1000000
  c : ∀ p, s.c = some p → p.1.length ≤ 1000000 ∧ p.2.length ≤ 1000000
def Sto.get (s : Sto) (d : List Nat) : Option (List Nat) := s.L.find? fun t => decide (Pl.sum9 t = d)
def Sto.put (s : Sto) (t : List Nat) : Sto := match s.get (Pl.sum9 t) with
  | none => ⟨s.L ++ [t], s.c⟩
  | some u => if s.c.isSome = true ∨ u = t then s else ⟨s.L, some (u, t)⟩
theorem Sto.get_some {s : Sto} {d t : List Nat} (h : s.get d = some t) : t ∈ s.L ∧ Pl.sum9 t = d := by
  have h1 := List.mem_of_find?_eq_some h
  have h2 := List.find?_some h
  exact ⟨h1, by simpa using h2⟩
theorem Sto.get_none {s : Sto} {d : List Nat} (h : s.get d = none) : ∀ t ∈ s.L, Pl.sum9 t ≠ d := fun t ht => by
  have := List.find?_eq_none.1 h t ht
  simpa using this
theorem StoOk.new : StoOk Sto.new := ⟨fun t h => (by cases h), fun p h => (by cases h)⟩
theorem StoOk.put {s : Sto} (h : StoOk s) {t : List Nat} (hB : Pl.IsB t) (hl : t.length ≤ 1000000) : StoOk (s.put t) := by
  unfold Sto.put
  split
  · refine ⟨fun u hu => ?_, h.c⟩
    rcases List.mem_append.1 hu with hu | hu
    · exact h.b u hu
    · rw [List.mem_singleton.1 hu]; exact ⟨hB, hl⟩
  · rename_i u hg
    split
    · exact h
    · exact ⟨h.b, fun p hp => by cases hp; exact ⟨(h.b _ (Sto.get_some hg).1).2, hl⟩⟩
end Go.Proofs.Ytbidoddghdbaoaa
namespace Go.Proofs.Ytbidoddghdbaoaa
theorem pe_s0 : s0 = Pl.s0 := rfl
theorem pe_s1 : s1 = Pl.s1 := rfl
theorem pe_wrd (b : List Nat) (i : Nat) : wrd b i = Pl.wrd b i := by
  induction i using Nat.strongRecOn with
  | _ i ih =>
    rw [wrd, Pl.wrd]
    split
    · rfl
    · rw [ih _ (by omega), ih _ (by omega), ih _ (by omega), ih _ (by omega), pe_s0, pe_s1]
theorem pe_rnd (v : List UInt32) (k w : UInt32) : rnd v k w = Pl.rnd v k w := rfl
theorem pe_kk : kk = Pl.kk := rfl
theorem pe_rnds (h : List UInt32) (b : List Nat) : ∀ n, rnds h b n = Pl.rnds h b n
  | 0 => rfl
  | n + 1 => by rw [rnds, Pl.rnds, pe_rnds h b n, pe_rnd, pe_kk, pe_wrd]
theorem pe_turn (h : List UInt32) (b : List Nat) : turnS h b = Pl.turnS h b := by unfold turnS Pl.turnS; rw [pe_rnds]
theorem pe_comp (h : List UInt32) (l : List Nat) : ∀ n, compN h l n = Pl.compN h l n
  | 0 => rfl
  | n + 1 => by rw [compN, Pl.compN, pe_comp h l n, pe_turn]; rfl
theorem pe_be8 (n : Nat) : be8 n = Pl.be8 n := rfl
theorem pe_padl (b : List Nat) : padl b = Pl.padl b := rfl
theorem pe_sum (b : List Nat) : sumW b = Pl.sumW b := by unfold sumW Pl.sumW; rw [pe_comp, pe_padl]; rfl
theorem pe_pre (tag : Nat) (ts : List (List Nat)) : ∀ n, prePart tag ts n = Pl.prePart tag ts n
  | 0 => rfl
  | n + 1 => by rw [prePart, Pl.prePart, pe_pre tag ts n, pe_be8]
theorem pgD_eq (t : List Nat) : pgD t = Pl.sum9 t := by
  unfold pgD Pl.sum9 preN Pl.preN
  rw [pe_pre, pe_sum]; rfl
end Go.Proofs.Ytbidoddghdbaoaa
namespace Go.Proofs.Ytbidoddghdbaoaa
open Go.RowKit
set_option maxRecDepth 100000
set_option maxHeartbeats 4000000
def Sto.a (s : Sto) : List Nat := match s.c with | none => [] | some p => p.1
def Sto.b (s : Sto) : List Nat := match s.c with | none => [] | some p => p.2
def stoH (o m : Nat) (s : Sto) : OH := stH o m s.L (byteL s.a) (byteL s.b) s.c.isSome
theorem cppnew : ACall Try.prog 15 [] [] (.ptr 900 0 0 0) (stoH 900 901 Sto.new) := by
  obtain ⟨σ, τ, hστ, e1, e2⟩ := names2 (a1 := 3) (a2 := 1) (b1 := 900) (b2 := 901) (by decide) (by decide)
  have q := cpnew_ok.ren (σ := σ) (τ := τ) (δ := fun _ => 0) hστ (by intros; rfl)
  simpa [mapC, mapA, mapA1, rnA, rnH, rnO, stH, stoH, Sto.new, Sto.a, Sto.b, e1, e2, exB] using q
def getA : Option (List Nat) → AV
  | some t => .tup [.d (byteL t), exI .i64 0]
  | none => .tup [.d nilX, exI .i64 9]
theorem cppget (s : Sto) (hs : StoOk s) (d : List Nat) (hd : d.length = 32) (hB : Pl.IsB d) : ACall Try.prog 17 [.ptr 900 0 0 0, agD (digL d)] (stoH 900 901 s) (getA (s.get d)) (stoH 900 901 s) := by
  cases h : s.get d with
  | some t =>
    obtain ⟨h1, rfl⟩ := Sto.get_some h
    rw [← pgD_eq]
    have := (hs.b t h1).2
    exact cpget_in9 s.L s.a s.b s.c.isSome t h1 (by omega)
  | none =>
    have hn := Sto.get_none h
    simp only [← pgD_eq] at hn
    exact cpget_no9 s.L s.a s.b s.c.isSome d hd hB hn
theorem cppput (s : Sto) (hs : StoOk s) (t : List Nat) (hB : Pl.IsB t) (hl : t.length ≤ 1000000) : ACall Try.prog 23 [.ptr 900 0 0 0, .d (byteL t)] (stoH 900 901 s) (agD (digL (Pl.sum9 t))) (stoH 900 901 (s.put t)) := by
  unfold Sto.put
  cases h : s.get (Pl.sum9 t) with
  | none =>
    have hn := Sto.get_none h
    simp only [← pgD_eq] at hn
    rw [← pgD_eq]
    exact cpput_new9 s.L s.a s.b s.c.isSome t hB (by omega) hn
  | some u =>
    obtain ⟨h1, h2⟩ := Sto.get_some h
    rw [← pgD_eq, ← pgD_eq] at h2
    rw [← pgD_eq]
    obtain ⟨L, c⟩ := s
    cases c with
    | some p =>
      dsimp only
      rw [if_pos (.inl rfl)]
      exact cpput_same1 L p.1 p.2 t u hB (by omega) h1 h2
    | none =>
      dsimp only
      by_cases e : u = t
      · subst e
        rw [if_pos (.inr rfl)]
        exact cpput_same0 L [] [] u hB (by omega) h1
      · rw [if_neg (by rintro (q | q); cases q; exact e q)]
        exact cpput_clash L [] [] t u hB (by omega) (hs.b u h1).1 h1 h2 e
end Go.Proofs.Ytbidoddghdbaoaa
namespace Go.Proofs.Ytbidoddghdbaoaa.Kd
/-- of unlike ones one is ahead -/
structure Tot {α : Type} (lt : α → α → Bool) (P : α → Prop) : Prop where
  tr : ∀ x y z, P x → P y → P z → lt x y = true → lt y z = true → lt x z = true
  ir : ∀ x, lt x x = false
  tot : ∀ x y, P x → P y → lt x y = false → lt y x = false → x = y
section
variable {α : Type} {lt : α → α → Bool} {P : α → Prop}
def ins1 (lt : α → α → Bool) (x : α) : List α → List α
  | [] => [x]
  | y :: r => if lt y x = true then y :: ins1 lt x r else x :: y :: r
def isort (lt : α → α → Bool) (l : List α) : List α := l.foldl (fun a x => ins1 lt x a) []
def Sd (lt : α → α → Bool) (l : List α) : Prop := l.Pairwise fun a b => lt b a = false
end
/-! ### Rows -/
def lexLt : List Int → List Int → Bool
  | [], [] => false
  | [], _ :: _ => true
  | _ :: _, [] => false
  | x :: p, y :: q => decide (x < y) || (decide (x = y) && lexLt p q)
def ltAt (at_ : Nat) (p q : List Int) : Bool := decide (p.getD at_ 0 < q.getD at_ 0) || (decide (p.getD at_ 0 = q.getD at_ 0) && lexLt p q)
/-- as Go's comparing tells it -/
def cmpL (lt : List Int → List Int → Bool) (p q : List Int) : Int := if lt p q = true then -1 else if lt q p = true then 1 else 0
end Go.Proofs.Ytbidoddghdbaoaa.Kd
namespace Go.Proofs.Ytbidoddghdbaoaa.Kd
open Pl
/-! ### Stores -/
structure Le (s s' : Sto) : Prop where
  c : s'.c = none → s.c = none
  g : ∀ d t, s.get d = some t → s'.get d = some t
theorem Le.refl (s : Sto) : Le s s := ⟨id, fun _ _ => id⟩
theorem Le.trans {a b c : Sto} (h : Le a b) (k : Le b c) : Le a c := ⟨fun e => h.c (k.c e), fun d t q => k.g d t (h.g d t q)⟩
theorem get_app {s : Sto} {t d : List Nat} {x : List Nat} {c : Option (List Nat × List Nat)} (h : s.get d = some x) : Sto.get ⟨s.L ++ [t], c⟩ d = some x := by
  unfold Sto.get at h ⊢
  rw [List.find?_append, h]; rfl
theorem get_new {s : Sto} {t d : List Nat} {c : Option (List Nat × List Nat)} (h : s.get d = none) (e : sum9 t = d) : Sto.get ⟨s.L ++ [t], c⟩ d = some t := by
  unfold Sto.get at h ⊢
  rw [List.find?_append, h]
  simp [e]
theorem Le.put (s : Sto) (t : List Nat) : Le s (s.put t) := by
  unfold Sto.put
  split
  · exact ⟨id, fun d x q => get_app q⟩
  · split
    · exact Le.refl s
    · exact ⟨fun e => (by cases e), fun d x q => q⟩
theorem put_get {s : Sto} {t : List Nat} (h : (s.put t).c = none) : (s.put t).get (sum9 t) = some t := by
  unfold Sto.put at h ⊢
  split
  · exact get_new ‹_› rfl
  · rename_i u hu
    rw [hu] at h
    dsimp only at h
    split
    · rename_i q
      rw [if_pos q] at h
      rcases q with q | q
      · rw [h] at q; cases q
      · rw [← q]; subst q; exact hu
    · rename_i q
      rw [if_neg q] at h
      cases h
/-! ### Nodes -/
def nPut (s : Sto) (n : NodeD) (d : Int) : Sto × KidD × Int := if nodeR n d = true ∧ (sayN n).size ≤ 1048576 then (s.put (nodeB n), sayN n, 0) else (s, kidZ, 1)
def nGet (s : Sto) (k : KidD) (d : Int) : Option NodeD := match s.get k.sum with
  | none => none
  | some b => match readN d b with
    | none => none
    | some n => if (sayN n).size ≤ 1048576 ∧ sayN n = k then some n else none
theorem Le.nPut (s : Sto) (n : NodeD) (d : Int) : Le s (nPut s n d).1 := by
  unfold Kd.nPut
  split
  · exact Le.put _ _
  · exact Le.refl _
theorem nGet_of {s : Sto} {n : NodeD} {d : Int} (hn : NodeOk n) (hr : nodeR n d = true) (hz : (sayN n).size ≤ 1048576) (h : s.get (sum9 (nodeB n)) = some (nodeB n)) : nGet s (sayN n) d = some n := by
  unfold nGet
  rw [show (sayN n).sum = sum9 (nodeB n) from rfl, h]
  dsimp only
  rw [readN_app hn hr]
  dsimp only
  rw [if_pos ⟨hz, rfl⟩]
theorem StoOk.nPut {s : Sto} (hs : StoOk s) {n : NodeD} {d : Int} (hn : NodeOk n) : StoOk (nPut s n d).1 := by
  unfold Kd.nPut
  split
  · rename_i h
    obtain ⟨D, _, hrt⟩ := nodeR_rt h.1
    exact hs.put (nodeB_isB hrt hn) (by have := nodeB_len hrt hn; omega)
  · exact hs
/-! ### What a node says -/
theorem sayR_le (n : NodeD) : ∀ i, i ≤ n.rows.length → 0 ≤ (sayR n i).live ∧ (sayR n i).live ≤ i ∧ (sayR n i).size = n.rows.length
  | 0, _ => by simp [sayR]
  | i + 1, hi => by
    have ih := sayR_le n i (by omega)
    rw [sayR_one n i (by omega)]
    unfold sayE
    split
    · dsimp only; omega
    · omega
end Go.Proofs.Ytbidoddghdbaoaa.Kd
