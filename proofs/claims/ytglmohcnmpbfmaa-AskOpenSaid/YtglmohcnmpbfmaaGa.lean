import Derived.Test.YtglmohcnmpbfmaaProg
import Derived.Test.YtglmohcnmpbfmaaFv
import Derived.Test.YtglmohcnmpbfmaaPd
import Derived.KernelRfl
set_option linter.unusedVariables false
set_option linter.unusedSimpArgs false
namespace Go.Proofs.Ytglmohcnmpbfmaa
open Go.RowKit
def strL (l : List ByteArray) : DV := .sl 1 l.length (fun i => [.v (.string (l.getD i default))])
def i64L (l : List Int) : DV := .sl 1 l.length (fun i => [.v (.int .i64 (l.getD i 0))])
def b32 (f : Nat → DV) : List DV := [f 0, f 1, f 2, f 3, f 4, f 5, f 6, f 7, f 8, f 9, f 10, f 11, f 12, f 13, f 14, f 15, f 16, f 17, f 18, f 19, f 20, f 21, f 22, f 23, f 24, f 25, f 26, f 27, f 28, f 29, f 30, f 31]
def kidL (k : KidD) : List DV := b32 (fun i => .v (.int .u8 (k.sum.getD i 0 : Nat))) ++ [i64L k.lo, i64L k.hi, .v (.int .i64 k.live), .v (.int .i64 k.size), i64L k.key]
def tableL (t : TableD) : List DV := [.v (.string t.name), strL t.cols] ++ kidL t.kd ++ kidL t.zb
def agD (l : List DV) : AV := .agg (l.map .d)
theorem avEqT_len : ∀ {xs bs : List AV}, avEqT xs bs → xs.length = bs.length
  | [], [], _ => rfl
  | _ :: r, _ :: s, h => by simp [avEqT_len h.2]
theorem avEqT_get {C : Cx} : ∀ {xs bs : List AV}, avEqT xs bs → ∀ j, j < bs.length → ∀ v, Rv C (xs.getD j .any) v → Rv C (bs.getD j .any) v
  | [], [], _, j, h, _, _ => by cases h
  | a :: r, b :: s, e, 0, _, v, h => by
    simp only [List.getD_cons_zero] at h ⊢
    have e1 := e.1
    cases a with
    | tup cs => cases b <;> first | trivial | (cases e1; done) | (cases e1; exact h)
    | _ => cases b <;> exact Rv.eqv h e1
  | a :: r, b :: s, e, j + 1, hj, v, h => by
    simp only [List.getD_cons_succ] at h ⊢
    exact avEqT_get e.2 j (by simpa using hj) v h
/-- arguments may be told anew -/
theorem ACall.arg {P : Program} {f : FuncId} {xs bs : List AV} {Hp H' : OH} {r : AV} (e : avEqT xs bs) (hc : ACall P f bs Hp r H') : ACall P f xs Hp r H' := by
  refine ⟨hc.1, fun A W vl vs G hl hv => hc.2 A W vl vs G (by rw [← hl, avEqT_len e]) fun j hj => avEqT_get e j hj _ (hv j (by rw [avEqT_len e]; exact hj))⟩
theorem mixed : Try.prog.follows .mixedOrders = true := by kernel_rfl
set_option maxRecDepth 100000
theorem dims (t : TableD) (h : t.cols.length ≤ 1000) : ACall Try.prog 85 [agD (tableL t)] [] (exI .i64 (t.cols.length + 1)) [] := by
  refine acall_of (mu := []) mixed Try.func85 rfl rfl rfl ?_
  conv => whnf
  refine ⟨by omega, ?_⟩
  conv => whnf
  refine ⟨by omega, ?_⟩
  conv => whnf
  exact ⟨rfl, rfl, trivial⟩
def tablesL (l : List TableD) : DV := .sl 76 l.length (fun i => tableL (l.getD i default))
theorem obEq_refl (b : Ob) : obEq b b := by
  cases b with
  | row ty sz g fz n f => exact ⟨rfl, rfl, rfl, rfl, rfl, fun _ _ => rfl⟩
  | box ty cs => exact ⟨rfl, avEqL_refl cs⟩
def hasN (l : List TableD) (nm : ByteArray) : Bool := l.any fun t => decide (t.name = nm)
def findT (l : List TableD) (nm : ByteArray) : TableD := (l.find? fun t => decide (t.name = nm)).getD default
theorem find_at {l : List TableD} {nm : ByteArray} {k : Nat} (hk : k < l.length) (hn : ∀ i, i < k → (l.getD i default).name ≠ nm) (he : (l.getD k default).name = nm) : hasN l nm = true ∧ findT l nm = l.getD k default := by
  induction l generalizing k with
  | nil => cases hk
  | cons t r ih =>
    cases k with
    | zero =>
      have e : t.name = nm := by simpa using he
      constructor
      · simp [hasN, e]
      · simp [findT, List.find?, e]
    | succ k =>
      have e : t.name ≠ nm := by simpa using hn 0 (by omega)
      obtain ⟨h1, h2⟩ := ih (k := k) (by simpa using hk) (fun i hi => by simpa using hn (i + 1) (by omega)) (by simpa using he)
      constructor
      · simp only [hasN, List.any_cons] at h1 ⊢; rw [h1]; simp
      · simp only [findT, List.find?, e, decide_false] at h2 ⊢; simpa using h2
theorem find_no {l : List TableD} {nm : ByteArray} (hn : ∀ i, i < l.length → (l.getD i default).name ≠ nm) : hasN l nm = false ∧ findT l nm = default := by
  have h : ∀ t ∈ l, decide (t.name = nm) = false := fun t ht => by
    obtain ⟨i, hi, rfl⟩ := List.getElem_of_mem ht
    have := hn i hi
    simpa [List.getD_eq_getElem?_getD, hi] using this
  constructor
  · rw [Bool.eq_false_iff]
    intro q
    simp only [hasN, List.any_eq_true] at q
    obtain ⟨t, ht, q⟩ := q
    rw [h t ht] at q; cases q
  · simp only [findT]
    rw [List.find?_eq_none.2 fun t ht => by rw [h t ht]; decide]
    rfl
set_option maxHeartbeats 1000000
theorem find_any (l : List TableD) (nm : ByteArray) (h : l.length ≤ 1000) : ACall Try.prog 17 [.d (tablesL l), exS nm] [] (.tup [agD (tableL (findT l nm)), exB (hasN l nm)]) [] := by
  refine acall_of (mu := []) mixed Try.func17 rfl rfl rfl ?_
  conv => whnf
  refine ⟨[], ?_⟩
  conv => whnf
  refine ⟨Nat, fun k => k ≤ l.length ∧ ∀ i, i < k → (l.getD i default).name ≠ nm, fun k => l.length - k, fun k => [(10, exI .i64 k), (5, exB false)], fun _ => [], ⟨0, ⟨by omega, fun i hi => by omega⟩, ?_⟩, ?_⟩
  · refine ⟨[], ?_⟩
    conv => whnf
    exact ⟨rfl, ⟨rfl, rfl, trivial⟩, obEq_refl _, trivial⟩
  intro k ⟨hk, hn⟩
  conv => whnf
  refine ⟨rfl, ?_⟩
  conv => whnf
  refine ⟨?_, ?_⟩
  · intro hlt
    have hlt : k < l.length := by simpa using hlt
    conv => whnf
    refine ⟨by omega, ?_⟩
    conv => whnf
    refine ⟨by omega, ?_⟩
    conv => whnf
    refine ⟨?_, ?_⟩
    · intro he
      obtain ⟨h1, h2⟩ := find_at hlt hn (by simpa using he)
      rw [h1, h2]
      conv => whnf
      exact ⟨rfl, by (repeat' (first | exact trivial | exact rfl | exact fun _ _ => rfl | apply And.intro | (intro i hi; rcases i with _ | _ | i <;> first | rfl | (exfalso; omega) | (simp at hi; done) | (simp at hi; omega)) | exact fun _ _ => by simp)), trivial⟩
    · intro hne
      conv => whnf
      refine ⟨by omega, ?_⟩
      conv => whnf
      refine ⟨by omega, ?_⟩
      conv => whnf
      refine ⟨k + 1, ⟨by omega, fun i hi => ?_⟩, by dsimp only; omega, ?_⟩
      · rcases Nat.lt_or_ge i k with q | q
        · exact hn i q
        · obtain rfl : i = k := by omega
          simpa using hne
      · refine ⟨[], ?_⟩
        conv => whnf
        exact ⟨rfl, ⟨by rfl, rfl, trivial⟩, obEq_refl _, trivial⟩
  · intro hge
    have hge : ¬ k < l.length := by simpa using hge
    obtain ⟨h1, h2⟩ := find_no (l := l) (nm := nm) (fun i hi => hn i (by omega))
    rw [h1, h2]
    conv => whnf
    exact ⟨rfl, by (repeat' (first | exact trivial | exact rfl | exact fun _ _ => rfl | apply And.intro | (intro i hi; rcases i with _ | _ | i <;> first | rfl | (exfalso; omega) | (simp at hi; done) | (simp at hi; omega)) | exact fun _ _ => by simp)), trivial⟩
end Go.Proofs.Ytglmohcnmpbfmaa
