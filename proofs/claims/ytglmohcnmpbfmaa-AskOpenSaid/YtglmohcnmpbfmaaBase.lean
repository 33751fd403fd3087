/- Words and small laws on memory that all my texts share; no program in sight. -/
import Derived.WalkKit
import Derived.WalkSpells
import Derived.WalkLawsBesides
import Derived.BigQuiet
import Derived.Deep.QuietTactic
import Derived.Deep.OwnRows
import Derived.StillTailTactics
import Derived.Lib.Hide
import Derived.Handy
set_option linter.unusedVariables false
set_option linter.unusedSimpArgs false
namespace Go.Proofs.Ytglmohcnmpbfmaa
open Go.RowKit

/-- n elements of one cell each, f i, lie at A (nil is let in where n = 0), below block B. -/
def Arr (w : World) (B : Nat) (A : Option Addr) (n : Nat) (f : Nat → Value) : Prop :=
  0 < n → ∃ b off, A = some ⟨b, off, none⟩ ∧ b < B ∧ ∀ i, i < n → w.cell? ⟨b, off + i, none⟩ = some (f i)

def u8s (l : List Nat) (i : Nat) : Value := .int .u8 (l.getD i 0 : Nat)
def u64s (l : List Nat) (i : Nat) : Value := .int .u64 (l.getD i 0 : Nat)
def i64s (l : List Int) (i : Nat) : Value := .int .i64 (l.getD i 0)
def IsB (l : List Nat) : Prop := ∀ i, l.getD i 0 < 256
def IsI (l : List Int) : Prop := ∀ i, -9223372036854775808 ≤ l.getD i 0 ∧ l.getD i 0 ≤ 9223372036854775807

section
variable {w w' : World} {B B' n : Nat} {A : Option Addr} {f g : Nat → Value}
theorem Arr.keep (h : Arr w B A n f) (hk : ∀ p : Addr, p.block < B → w'.cell? p = w.cell? p) : Arr w' B A n f := fun hn => by
  obtain ⟨b, off, e, hb, hc⟩ := h hn
  exact ⟨b, off, e, hb, fun i hi => (hk _ hb).trans (hc i hi)⟩
theorem Arr.more (h : Arr w B A n f) (hB : B ≤ B') : Arr w B' A n f := fun hn => by
  obtain ⟨b, off, e, hb, hc⟩ := h hn
  exact ⟨b, off, e, by omega, hc⟩
theorem Arr.below (h : Arr w B A n f) (hb : Below B w w') : Arr w' B A n f := h.keep fun _ hp => hb.cell hp
/-- behind a call that has left old memory alone -/
theorem Arr.after (h : Arr w w.heap.size A n f) (hb : Below w.heap.size w w') : Arr w' w'.heap.size A n f := (h.below hb).more hb.size
theorem Arr.congr (h : Arr w B A n f) (e : ∀ i, i < n → f i = g i) : Arr w B A n g := fun hn => by
  obtain ⟨b, off, ea, hb, hc⟩ := h hn
  exact ⟨b, off, ea, hb, fun i hi => by rw [hc i hi, e i hi]⟩
theorem Arr.none_ : Arr w B A 0 f := fun h => absurd h (by omega)
theorem Arr.of_row {r : Nat} {t : TypeId} {m : Nat} (h : w.rowIs r t m f) (hn : n ≤ m) : Arr w w.heap.size (some ⟨r, 0, none⟩) n f :=
  fun _ => ⟨r, 0, rfl, h.lt, fun i hi => by rw [Nat.zero_add]; exact h.cell (by omega)⟩
theorem Arr.of_own {base : Nat} {e : TypeId} {c : Nat} {xs : List Value} (h : w.ownsRow base e 1 (.slice A n c) n xs) (hf : ∀ i, i < n → xs[i]? = some (f i)) : Arr w w.heap.size A n f := fun hn => by
  rcases h.2 with ⟨he, h0⟩ | ⟨r, cap, cur, hv, hb, hh, hcap, hm, hs, ht⟩
  · omega
  · injection hv with hA _ _
    subst hA
    refine ⟨r, 0, rfl, ?_, fun i hi => ?_⟩
    · exact (Array.getElem?_eq_some_iff.1 hh).1
    · rw [Nat.zero_add, cell_of_row w r i cur e (0, 0) hh]
      have h1 := hf i hi
      rw [← ht, List.getElem?_take] at h1
      split at h1
      · simpa using h1
      · cases h1
theorem Arr.cut (h : Arr w B A n f) {k cap : Nat} (hk : k ≤ n) (hc : n ≤ cap) :
    Arr w B (if cap = k then A else A.map (·.add k)) (n - k) (fun i => f (k + i)) := fun hn => by
  obtain ⟨b, off, rfl, hb, hcell⟩ := h (by omega)
  rw [if_neg (by omega)]
  refine ⟨b, off + k, ?_, hb, fun i hi => ?_⟩
  · simp only [Option.map_some, Addr.add]
    split
    · simp_all
    · rfl
  · rw [Nat.add_assoc]; exact hcell _ (by omega)
theorem Arr.front (h : Arr w B A n f) {k : Nat} (hk : k ≤ n) : Arr w B A k f := fun hn => by
  obtain ⟨b, off, e, hb, hc⟩ := h (by omega)
  exact ⟨b, off, e, hb, fun i hi => hc i (by omega)⟩
end

theorem below_drewN {B : Nat} {a w : World} (h : Below B a w) (n : Nat) : Below B a (w.drewN n) := ⟨h.os, h.tape, h.output, h.size, h.block⟩
theorem rowIs_below {w w' : World} {b t n B : Nat} {f : Nat → Value} (h : w.rowIs b t n f) (hb : Below B w w') (hB : b < B) : w'.rowIs b t n f := h.of_block (hb.block b hB)
theorem rowIs_drewN {w : World} {b : Nat} {t : TypeId} {n : Nat} {f : Nat → Value} (h : w.rowIs b t n f) (k : Nat) : (w.drewN k).rowIs b t n f := h

theorem getD_out {α : Type} (l : List α) (i : Nat) (d : α) (h : l.length ≤ i) : l.getD i d = d := by simp [List.getD, List.getElem?_eq_none h]
theorem ret_int {k : IntKind} {a b : Int} (h : a = b) : Ending.returned (.int k a) = .returned (.int k b) := by rw [h]
theorem ret_bool {a b : Bool} (h : a = b) : Ending.returned (.bool a) = .returned (.bool b) := by rw [h]
theorem hideP {p : Prop} (h : p) : Hid p := h
end Go.Proofs.Ytglmohcnmpbfmaa
