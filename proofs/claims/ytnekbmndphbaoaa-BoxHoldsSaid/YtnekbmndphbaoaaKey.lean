/- Keys of rows: contracts of up, down, ahead. -/
import Derived.Test.YtnekbmndphbaoaaOrd
import Derived.Test.YtnekbmndphbaoaaMortPl
set_option linter.unusedVariables false
set_option linter.unusedSimpArgs false
namespace Go.Proofs.Ytnekbmndphbaoaa
open Go.RowKit
theorem xor_up (x : Int) (hx : I64 x) : bits BinOp.xor IntKind.u64 (IntKind.u64.wrap x) 9223372036854775808 = ((x + 9223372036854775808).toNat : Nat) := by
  unfold I64 at hx
  obtain ⟨u, hu⟩ : ∃ u : Nat, IntKind.u64.wrap x = (u : Int) ∧ u < 18446744073709551616 ∧ (u : Int) = x % 18446744073709551616 := by
    refine ⟨(x % 18446744073709551616).toNat, ?_, by omega, by omega⟩
    rw [IntKind.wrap_u64]; omega
  rw [hu.1]
  have := bits_xor_u64_nat u 9223372036854775808 hu.2.1 (by decide)
  rw [show ((9223372036854775808 : Nat) : Int) = 9223372036854775808 from rfl] at this
  rw [this]
  by_cases h : u < 9223372036854775808
  · rw [xor63 u h]; omega
  · obtain ⟨y, hy⟩ : ∃ y, u = y + 9223372036854775808 := ⟨u - 9223372036854775808, by omega⟩
    have hyl : y < 9223372036854775808 := by omega
    rw [hy, ← xor63 y hyl, Nat.xor_assoc, Nat.xor_self, Nat.xor_zero]
    omega
theorem dv_small (n : Nat) (h : n < 18446744073709551616) : dv n = .agg #[.int .u64 0, .int .u64 (n : Nat)] := by
  unfold dv dvp
  rw [Nat.div_eq_of_lt h, Nat.mod_eq_of_lt h]; rfl
theorem up_any (x : Int) (w : World) (hx : I64 x) : Calls Try.prog 58 #[.int .i64 x] w fun e w' => e = .returned (dv (x + 9223372036854775808).toNat) ∧ Below w.heap.size w w' := by
  rw [dv_small _ (by unfold I64 at hx; omega)]
  have t := xor_up x hx
  obtain ⟨u, hu⟩ : ∃ u, u = (x + 9223372036854775808).toNat := ⟨_, rfl⟩
  rw [← hu] at t ⊢
  clear hu
  go_enter Try.func58, Try.ntmps58
  go_wp2
  refine ret_dist rfl rfl (heap_alloc_new _ _) rfl ?_
  exact ⟨rfl, below_new _ _⟩
theorem down_any (x : Int) (w : World) (hx : I64 x) : Calls Try.prog 57 #[.int .i64 x] w fun e w' => e = .returned (dv (9223372036854775807 - x).toNat) ∧ Below w.heap.size w w' := by
  rw [dv_small _ (by unfold I64 at hx; omega)]
  have t : IntKind.u64.wrap (9223372036854775807 - IntKind.u64.wrap x) = ((9223372036854775807 - x).toNat : Nat) := by
    unfold I64 at hx
    rw [IntKind.wrap_u64, IntKind.wrap_u64]; omega
  obtain ⟨u, hu⟩ : ∃ u, u = (9223372036854775807 - x).toNat := ⟨_, rfl⟩
  rw [← hu] at t ⊢
  clear hu
  go_enter Try.func57, Try.ntmps57
  go_wp2
  refine ret_dist rfl rfl (heap_alloc_new _ _) rfl ?_
  exact ⟨rfl, below_new _ _⟩
/-- is a key with an id ahead of another one? -/
def aheadB (a b : Nat) (id other : Int) : Bool := decide (a < b ∨ (a = b ∧ id < other))
theorem ahead_any (a b : Nat) (id other : Int) (w : World) (ha : a < 340282366920938463463374607431768211456) (hb : b < 340282366920938463463374607431768211456) :
    Calls Try.prog 59 #[dv a, .int .i64 id, dv b, .int .i64 other] w fun e w' => e = .returned (.bool (aheadB a b id other)) ∧ Below w.heap.size w w' := by
  have tC := fun W => dist_cmp a b W ha hb
  obtain ⟨r, hr⟩ : ∃ r : Int, r = if a < b then -1 else if b < a then 1 else 0 := ⟨_, rfl⟩
  rw [← hr] at tC
  have hres : (r = -1 ∧ aheadB a b id other = true) ∨ (r = 1 ∧ aheadB a b id other = false) ∨ (r = 0 ∧ aheadB a b id other = decide (id < other)) := by
    rw [hr]
    unfold aheadB
    rcases Nat.lt_trichotomy a b with h | h | h
    · left; simp [h]
    · right; right; subst h; simp
    · right; left; simp [Nat.lt_asymm h, h]; exact fun e => absurd h (by rw [e]; exact Nat.lt_irrefl _)
  unfold dv dvp at tC ⊢
  obtain ⟨h1, e1⟩ : ∃ h, h = a / 18446744073709551616 := ⟨_, rfl⟩
  obtain ⟨l1, e2⟩ : ∃ l, l = a % 18446744073709551616 := ⟨_, rfl⟩
  obtain ⟨h2, e3⟩ : ∃ h, h = b / 18446744073709551616 := ⟨_, rfl⟩
  obtain ⟨l2, e4⟩ : ∃ l, l = b % 18446744073709551616 := ⟨_, rfl⟩
  rw [← e1, ← e2, ← e3, ← e4] at tC ⊢
  clear hr ha hb e1 e2 e3 e4
  have HtC := hideP tC; clear tC
  obtain ⟨q, hq⟩ : ∃ q, q = aheadB a b id other := ⟨_, rfl⟩
  rw [← hq] at hres ⊢
  clear hq
  have go : ∀ r q, ((r = -1 ∧ q = true) ∨ (r = 1 ∧ q = false) ∨ (r = 0 ∧ q = decide (id < other))) → Hid (∀ (W : World), Calls Try.prog 28 #[.agg #[.int .u64 h1, .int .u64 l1], .agg #[.int .u64 h2, .int .u64 l2]] W fun e w' => e = .returned (.int .i64 r) ∧ Below W.heap.size W w') →
      Calls Try.prog 59 #[.agg #[.int .u64 h1, .int .u64 l1], .int .i64 id, .agg #[.int .u64 h2, .int .u64 l2], .int .i64 other] w fun e w' => e = .returned (.bool q) ∧ Below w.heap.size w w' := by
    intro r q hres HtC
    rcases hres with ⟨rfl, rfl⟩ | ⟨rfl, rfl⟩ | ⟨rfl, rfl⟩
    all_goals
      go_enter Try.func59, Try.ntmps59
      go_wp2_with fail
      have bw := hideP (((below_new w (Obj.cells #[.int .u64 h1, .int .u64 l1] 29))).alloc (by simp) (Obj.cells #[.int .u64 h2, .int .u64 l2] 29))
      refine (HtC.out _).mono ?_
      rintro e w2 ⟨rfl, hb⟩
      replace bw := hideP (bstep bw.out hb)
      clear hb
      go_wp2
      go_ret
      exact ⟨rfl, bw.out⟩
  exact go r q hres HtC
end Go.Proofs.Ytnekbmndphbaoaa
