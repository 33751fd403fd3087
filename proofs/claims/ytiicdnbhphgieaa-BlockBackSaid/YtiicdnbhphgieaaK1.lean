/- Words and small laws on memory that all my texts share; no program in sight. Words of 32 bits; turning them. -/
import Derived.WalkKit
import Derived.WalkSpells
import Derived.WalkLawsBesides
import Derived.BigQuiet
import Derived.Deep.QuietTactic
import Derived.Deep.OwnRows
import Derived.StillTailTactics
import Derived.Lib.Hide
import Derived.Handy
import Derived.Test.YtiicdnbhphgieaaProg
import Derived.Laws.BitsAllLaws

set_option linter.unusedVariables false
set_option linter.unusedSimpArgs false
namespace Go.Proofs.Ytiicdnbhphgieaa
open Go.RowKit

/-- n elements of one cell each, f i, lie at A (nil is let in where n = 0), below block B. -/
def Arr (w : World) (B : Nat) (A : Option Addr) (n : Nat) (f : Nat → Value) : Prop :=
  0 < n → ∃ b off, A = some ⟨b, off, none⟩ ∧ b < B ∧ ∀ i, i < n → w.cell? ⟨b, off + i, none⟩ = some (f i)

def u8s (l : List Nat) (i : Nat) : Value := .int .u8 (l.getD i 0 : Nat)
def u64s (l : List Nat) (i : Nat) : Value := .int .u64 (l.getD i 0 : Nat)
def i64s (l : List Int) (i : Nat) : Value := .int .i64 (l.getD i 0)
def IsB (l : List Nat) : Prop := ∀ i, l.getD i 0 < 256
def IsI (l : List Int) : Prop := ∀ i, -9223372036854775808 ≤ l.getD i 0 ∧ l.getD i 0 ≤ 9223372036854775807

section
variable {w w' : World} {B B' n : Nat} {A : Option Addr} {f g : Nat → Value}
theorem Arr.keep (h : Arr w B A n f) (hk : ∀ p : Addr, p.block < B → w'.cell? p = w.cell? p) : Arr w' B A n f := fun hn => by
  obtain ⟨b, off, e, hb, hc⟩ := h hn
  exact ⟨b, off, e, hb, fun i hi => (hk _ hb).trans (hc i hi)⟩
theorem Arr.more (h : Arr w B A n f) (hB : B ≤ B') : Arr w B' A n f := fun hn => by
  obtain ⟨b, off, e, hb, hc⟩ := h hn
  exact ⟨b, off, e, by omega, hc⟩
theorem Arr.below (h : Arr w B A n f) (hb : Below B w w') : Arr w' B A n f := h.keep fun _ hp => hb.cell hp
/-- behind a call that has left old memory alone -/
theorem Arr.after (h : Arr w w.heap.size A n f) (hb : Below w.heap.size w w') : Arr w' w'.heap.size A n f := (h.below hb).more hb.size
theorem Arr.congr (h : Arr w B A n f) (e : ∀ i, i < n → f i = g i) : Arr w B A n g := fun hn => by
  obtain ⟨b, off, ea, hb, hc⟩ := h hn
  exact ⟨b, off, ea, hb, fun i hi => by rw [hc i hi, e i hi]⟩
theorem Arr.none_ : Arr w B A 0 f := fun h => absurd h (by omega)
theorem Arr.of_row {r : Nat} {t : TypeId} {m : Nat} (h : w.rowIs r t m f) (hn : n ≤ m) : Arr w w.heap.size (some ⟨r, 0, none⟩) n f :=
  fun _ => ⟨r, 0, rfl, h.lt, fun i hi => by rw [Nat.zero_add]; exact h.cell (by omega)⟩
theorem Arr.of_own {base : Nat} {e : TypeId} {c : Nat} {xs : List Value} (h : w.ownsRow base e 1 (.slice A n c) n xs) (hf : ∀ i, i < n → xs[i]? = some (f i)) : Arr w w.heap.size A n f := fun hn => by
  rcases h.2 with ⟨he, h0⟩ | ⟨r, cap, cur, hv, hb, hh, hcap, hm, hs, ht⟩
  · omega
  · injection hv with hA _ _
    subst hA
    refine ⟨r, 0, rfl, ?_, fun i hi => ?_⟩
    · exact (Array.getElem?_eq_some_iff.1 hh).1
    · rw [Nat.zero_add, cell_of_row w r i cur e (0, 0) hh]
      have h1 := hf i hi
      rw [← ht, List.getElem?_take] at h1
      split at h1
      · simpa using h1
      · cases h1
theorem Arr.cut (h : Arr w B A n f) {k cap : Nat} (hk : k ≤ n) (hc : n ≤ cap) :
    Arr w B (if cap = k then A else A.map (·.add k)) (n - k) (fun i => f (k + i)) := fun hn => by
  obtain ⟨b, off, rfl, hb, hcell⟩ := h (by omega)
  rw [if_neg (by omega)]
  refine ⟨b, off + k, ?_, hb, fun i hi => ?_⟩
  · simp only [Option.map_some, Addr.add]
    split
    · simp_all
    · rfl
  · rw [Nat.add_assoc]; exact hcell _ (by omega)
theorem Arr.front (h : Arr w B A n f) {k : Nat} (hk : k ≤ n) : Arr w B A k f := fun hn => by
  obtain ⟨b, off, e, hb, hc⟩ := h (by omega)
  exact ⟨b, off, e, hb, fun i hi => hc i (by omega)⟩
end

theorem below_drewN {B : Nat} {a w : World} (h : Below B a w) (n : Nat) : Below B a (w.drewN n) := ⟨h.os, h.tape, h.output, h.size, h.block⟩
theorem rowIs_below {w w' : World} {b t n B : Nat} {f : Nat → Value} (h : w.rowIs b t n f) (hb : Below B w w') (hB : b < B) : w'.rowIs b t n f := h.of_block (hb.block b hB)
theorem rowIs_drewN {w : World} {b : Nat} {t : TypeId} {n : Nat} {f : Nat → Value} (h : w.rowIs b t n f) (k : Nat) : (w.drewN k).rowIs b t n f := h

theorem getD_out {α : Type} (l : List α) (i : Nat) (d : α) (h : l.length ≤ i) : l.getD i d = d := by simp [List.getD, List.getElem?_eq_none h]
theorem ret_int {k : IntKind} {a b : Int} (h : a = b) : Ending.returned (.int k a) = .returned (.int k b) := by rw [h]
theorem ret_bool {a b : Bool} (h : a = b) : Ending.returned (.bool a) = .returned (.bool b) := by rw [h]
theorem hideP {p : Prop} (h : p) : Hid p := h
end Go.Proofs.Ytiicdnbhphgieaa
namespace Go.Proofs.Ytiicdnbhphgieaa
open Go.RowKit
/-- a word as Go's number -/
def n32 (x : UInt32) : Int := (x.toNat : Int)
theorem n32_bd (x : UInt32) : 0 ≤ n32 x ∧ n32 x ≤ 4294967295 := by unfold n32; have := x.toNat_lt; omega
theorem n32_inj {x y : UInt32} (h : n32 x = n32 y) : x = y := by
  unfold n32 at h
  exact UInt32.toNat_inj.1 (by omega)
def shr (x : UInt32) (n : Nat) : UInt32 := UInt32.ofNat (x.toNat / 2 ^ n)
def shl (x : UInt32) (n : Nat) : UInt32 := UInt32.ofNat (x.toNat * 2 ^ n)
def rotr (x : UInt32) (n : Nat) : UInt32 := shr x n ||| shl x (32 - n)
theorem n32_ofNat (n : Nat) : n32 (UInt32.ofNat n) = ((n % 4294967296 : Nat) : Int) := by unfold n32; rw [UInt32.toNat_ofNat']
theorem n32_xor (x y : UInt32) : bits .xor .u32 (n32 x) (n32 y) = n32 (x ^^^ y) := by
  unfold n32; rw [u32_xor_nat _ _ x.toNat_lt y.toNat_lt, UInt32.toNat_xor]
theorem n32_and (x y : UInt32) : bits .and .u32 (n32 x) (n32 y) = n32 (x &&& y) := by
  unfold n32; rw [u32_and_nat _ _ x.toNat_lt y.toNat_lt, UInt32.toNat_and]
theorem n32_or (x y : UInt32) : bits .or .u32 (n32 x) (n32 y) = n32 (x ||| y) := by
  unfold n32; rw [u32_or_nat _ _ x.toNat_lt y.toNat_lt, UInt32.toNat_or]
theorem n32_add (x y : UInt32) : IntKind.u32.wrap (n32 x + n32 y) = n32 (x + y) := by
  unfold n32; rw [IntKind.wrap_u32', UInt32.toNat_add]; omega
theorem n32_shl (x : UInt32) (n : Nat) : IntKind.u32.wrap (n32 x * 2 ^ n) = n32 (shl x n) := by
  unfold shl; rw [n32_ofNat, IntKind.wrap_u32']; unfold n32
  rw [show ((x.toNat : Int) * 2 ^ n) = ((x.toNat * 2 ^ n : Nat) : Int) by simp]
  omega
theorem n32_shr (x : UInt32) (n : Nat) : n32 x / 2 ^ n = n32 (shr x n) := by
  unfold shr; rw [n32_ofNat]; unfold n32
  have h : x.toNat / 2 ^ n < 4294967296 := Nat.lt_of_le_of_lt (Nat.div_le_self _ _) x.toNat_lt
  rw [Nat.mod_eq_of_lt h]
  simp
theorem rot_eq (x : UInt32) (n m : Nat) (hm : m = 32 - n) (hn : n ≤ 32) : bits .or .u32 (n32 x * 2 ^ min m 32 % 4294967296) (n32 x / 2 ^ min n 32) = n32 (rotr x n) := by
  rw [Nat.min_eq_left (by omega), Nat.min_eq_left hn, n32_shr, ← IntKind.wrap_u32', n32_shl, n32_or]
  unfold rotr; rw [hm, UInt32.or_comm]
theorem rot_eq' (x : UInt32) (n m : Nat) (hm : m = 32 - n) (hn : n ≤ 32) : bits .or .u32 (n32 x / 2 ^ min n 32) (n32 x * 2 ^ min m 32 % 4294967296) = n32 (rotr x n) := by
  rw [Nat.min_eq_left (show n ≤ 32 from hn), Nat.min_eq_left (show m ≤ 32 by omega), n32_shr, ← IntKind.wrap_u32', n32_shl, n32_or]
  unfold rotr; rw [hm]
theorem n32_not' (y : UInt32) : IntKind.u32.wrap (4294967295 - n32 y) = n32 (~~~ y) := by
  unfold n32; rw [IntKind.wrap_u32', UInt32.toNat_not]
  have := y.toNat_lt
  simp [UInt32.size]
  omega
theorem ones_xor (y : UInt32) : (4294967295 : UInt32) ^^^ y = ~~~ y := by
  apply UInt32.toBitVec_inj.1
  rw [UInt32.toBitVec_xor, UInt32.toBitVec_not]
  exact BitVec.allOnes_xor
theorem n32_not (y : UInt32) : bits .xor .u32 (if IntKind.u32.signed = true then -1 else IntKind.u32.max) (n32 y) = n32 (~~~ y) := by
  rw [← ones_xor, ← n32_xor]
  rfl
theorem rot_any (x : UInt32) (k : Int) (n : Nat) (hn : n ≤ 32) (hk : bits .and .u64 (IntKind.u64.wrap k) 31 = ((32 - n : Nat) : Int)) (w : World) :
    Calls Try.prog 148 #[.int .u32 (n32 x), .int .i64 k] w fun e w' => e = .returned (.int .u32 (n32 (rotr x n))) ∧ w = w' := by
  obtain ⟨m, hm⟩ : ∃ m, m = 32 - n := ⟨_, rfl⟩
  rw [← hm] at hk
  have h3 : IntKind.u64.wrap (32 - (m : Int)) = (n : Int) := by rw [IntKind.wrap_u64]; omega
  have h5 := hideP (rot_eq x n m hm hn)
  clear hm hn
  go_enter Try.func148, Try.ntmps148
  go_wp2
  go_ret
  exact ⟨ret_int h5.out, rfl⟩
theorem turned_any (x : UInt32) (n : Nat) (hn : n ≤ 32) (w : World) :
    Calls Try.prog 155 #[.int .u32 (n32 x), .int .u64 n] w fun e w' => e = .returned (.int .u32 (n32 (rotr x n))) ∧ w = w' := by
  obtain ⟨m, hm⟩ : ∃ m, m = 32 - n := ⟨_, rfl⟩
  have h3 : IntKind.u64.wrap (32 - (n : Int)) = (m : Int) := by rw [IntKind.wrap_u64]; omega
  have h5 := hideP (rot_eq' x n m hm hn)
  clear hm hn
  go_enter Try.func155, Try.ntmps155
  go_wp2
  go_ret
  exact ⟨ret_int h5.out, rfl⟩
end Go.Proofs.Ytiicdnbhphgieaa
