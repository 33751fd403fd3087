/- Contracts of package dist: Apart, Gap, Add, Sum, Cmp. -/
import Derived.Test.YtnekbmndphbaoaaProg
import Derived.Test.YtnekbmndphbaoaaMem
import Derived.Laws.Rows
import Derived.Laws.Externs
import Derived.Laws.StructEq
set_option linter.unusedVariables false
set_option linter.unusedSimpArgs false
namespace Go.Proofs.Ytnekbmndphbaoaa
open Go.RowKit

/-- how far two numbers are apart -/
def apart (a b : Int) : Nat := (a - b).natAbs
def gap (x lo hi : Int) : Nat := if x < lo then apart x lo else if hi < x then apart x hi else 0
/-- a distance's value: high and low word -/
def dvp (h l : Nat) : Value := .agg #[.int .u64 h, .int .u64 l]
def dv (D : Nat) : Value := dvp (D / 18446744073709551616) (D % 18446744073709551616)
def I64 (z : Int) : Prop := -9223372036854775808 ≤ z ∧ z ≤ 9223372036854775807
theorem apart_lt {a b : Int} (ha : I64 a) (hb : I64 b) : apart a b < 18446744073709551616 := by unfold apart I64 at *; omega
theorem gap_lt {x l h : Int} (hx : I64 x) (hl : I64 l) (hh : I64 h) : gap x l h < 18446744073709551616 := by
  unfold gap
  split
  · exact apart_lt hx hl
  · split
    · exact apart_lt hx hh
    · omega

theorem apart_any (a b : Int) (w : World) (ha : I64 a) (hb : I64 b) : Calls Try.prog 23 #[.int .i64 a, .int .i64 b] w fun e w' => e = .returned (.int .u64 (apart a b)) ∧ w = w' := by
  have key : IntKind.u64.wrap (IntKind.u64.wrap (if a < b then b else a) - IntKind.u64.wrap (if a < b then a else b)) = (apart a b : Int) := by
    unfold apart; unfold I64 at ha hb; simp only [IntKind.wrap, IntKind.signed, IntKind.bits]; split <;> simp <;> omega
  obtain ⟨x, hx⟩ : ∃ x, x = apart a b := ⟨_, rfl⟩
  rw [← hx] at key ⊢
  unfold I64 at ha hb
  clear hx
  by_cases h : a < b
  · rw [if_pos h, if_pos h] at key
    have key' := hideP key; clear key
    go_enter Try.func23, Try.ntmps23
    go_wp2
    go_ret
    exact ⟨ret_int key'.out, rfl⟩
  · rw [if_neg h, if_neg h] at key
    have key' := hideP key; clear key
    by_cases e : a = b
    · subst e
      go_enter Try.func23, Try.ntmps23
      go_wp2
      go_ret
      exact ⟨ret_int (by have := key'.out; simpa [IntKind.wrap, IntKind.signed] using this), rfl⟩
    · have h' : b < a := by omega
      go_enter Try.func23, Try.ntmps23
      go_wp2
      go_ret
      exact ⟨ret_int key'.out, rfl⟩

theorem gap_any (x lo hi : Int) (w : World) (hx : I64 x) (hl : I64 lo) (hh : I64 hi) : Calls Try.prog 25 #[.int .i64 x, .int .i64 lo, .int .i64 hi] w fun e w' => e = .returned (.int .u64 (gap x lo hi)) ∧ w = w' := by
  unfold gap
  by_cases h : x < lo
  · rw [if_pos h]
    have t : decide (x < lo) = true := by simp [h]
    go_enter Try.func25, Try.ntmps25
    go_wp2_with fail
    refine (apart_any x lo w hx hl).mono ?_
    rintro e w' ⟨rfl, rfl⟩
    go_wp2
    go_ret
    exact ⟨rfl, rfl⟩
  · rw [if_neg h]
    have t : decide (x < lo) = false := by simp [h]
    by_cases h' : hi < x
    · rw [if_pos h']
      have t : decide (hi < x) = true := by simp [h']
      go_enter Try.func25, Try.ntmps25
      go_wp2_with fail
      refine (apart_any x hi w hx hh).mono ?_
      rintro e w' ⟨rfl, rfl⟩
      go_wp2
      go_ret
      exact ⟨rfl, rfl⟩
    · rw [if_neg h']
      have t : decide (hi < x) = false := by simp [h']
      go_enter Try.func25, Try.ntmps25
      go_wp2
      go_ret
      exact ⟨rfl, rfl⟩

theorem add64_any (x y : Nat) (hx : x < 18446744073709551616) (hy : y < 18446744073709551616) (w : World) : (callFunc 53 #[.int .u64 x, .int .u64 y, .int .u64 0]).run Try.prog w =
    .ok (.value (.tuple #[.int .u64 ((x + y) % 18446744073709551616 : Nat), .int .u64 ((x + y) / 18446744073709551616 : Nat)])) w := by
  rw [run_callFunc_extern (P := Try.prog) (f := 53) (fn := Try.f53) (e := add64Entry) Try.func53 (by kernel_rfl) (by kernel_rfl) (by kernel_rfl) (by kernel_rfl), run_add64 x y 0 (by omega) (by omega) (by omega) (by omega)]
  simp only [Result.andThen]
  congr 5 <;> omega

/-- the end of a function whose one result is a distance in a variable -/
theorem ret_dist {fn : Func} {p : Tmp} {a : Act} {w : World} {R : Ending → World → Prop} (h : fn.results = #[.cell p 29]) {g : Nat} {x y : Value}
    (hp : a.tmps.getD p undef = .pointer (some ⟨g, 0, none⟩)) (hg : w.heap[g]? = some (.cells #[x, y] 29 (0, 0))) (hd : a.defers = []) (hR : R (.returned (.agg #[x, y])) w) : bodyPost Try.prog fn R .ret a w :=
  bodyPost_ret (results_cell_row h _ w g 29 #[x, y] (0, 0) _ hp hg Try.underlying29 rfl (by kernel_rfl)) hd hR

theorem dist_add (D n : Nat) (w : World) (hD : D < 340282366920938463463374607431768211456) (hn : n < 18446744073709551616) :
    Calls Try.prog 22 #[dv D, .int .u64 n] w fun e w' => e = .returned (dv ((D + n) % 340282366920938463463374607431768211456)) ∧ Below w.heap.size w w' := by
  unfold dv dvp
  obtain ⟨h, hh⟩ : ∃ h, h = D / 18446744073709551616 := ⟨_, rfl⟩
  obtain ⟨l, hl⟩ : ∃ l, l = D % 18446744073709551616 := ⟨_, rfl⟩
  obtain ⟨a, ha⟩ : ∃ a, a = (D + n) % 340282366920938463463374607431768211456 / 18446744073709551616 := ⟨_, rfl⟩
  obtain ⟨b, hb⟩ : ∃ b, b = (D + n) % 340282366920938463463374607431768211456 % 18446744073709551616 := ⟨_, rfl⟩
  rw [← hh, ← hl, ← ha, ← hb]
  have hadd := add64_any l n (by omega) hn
  obtain ⟨s, hs⟩ : ∃ s, s = (l + n) % 18446744073709551616 := ⟨_, rfl⟩
  obtain ⟨c, hc⟩ : ∃ c, c = (l + n) / 18446744073709551616 := ⟨_, rfl⟩
  rw [← hs, ← hc] at hadd
  have e1 : IntKind.u64.wrap ((h : Int) + (c : Int)) = (a : Int) := by simp only [IntKind.wrap, IntKind.signed, IntKind.bits]; simp; omega
  have e2 : s = b := by omega
  subst e2
  have E1 := hideP e1
  clear hh hl ha hb hs hc e1
  go_enter Try.func22, Try.ntmps22
  go_wp2_with (rw [hadd])
  refine ret_dist rfl rfl (heap_alloc2_new _ _ _) rfl ?_
  exact ⟨by rw [E1.out], ((Below.refl _ _).alloc (Nat.le_refl _) _).alloc (by simp) _⟩

theorem dist_cmp (a b : Nat) (w : World) (ha : a < 340282366920938463463374607431768211456) (hb : b < 340282366920938463463374607431768211456) :
    Calls Try.prog 28 #[dv a, dv b] w fun e w' => e = .returned (.int .i64 (if a < b then -1 else if b < a then 1 else 0)) ∧ Below w.heap.size w w' := by
  obtain ⟨r, hr⟩ : ∃ r : Int, r = if a < b then -1 else if b < a then 1 else 0 := ⟨_, rfl⟩
  rw [← hr]
  unfold dv dvp
  obtain ⟨h, hh⟩ : ∃ h, h = a / 18446744073709551616 := ⟨_, rfl⟩
  obtain ⟨l, hl⟩ : ∃ l, l = a % 18446744073709551616 := ⟨_, rfl⟩
  obtain ⟨h', hh'⟩ : ∃ h, h = b / 18446744073709551616 := ⟨_, rfl⟩
  obtain ⟨l', hl'⟩ : ∃ l, l = b % 18446744073709551616 := ⟨_, rfl⟩
  rw [← hh, ← hl, ← hh', ← hl']
  have HH := hideP hh; have HL := hideP hl; have HH' := hideP hh'; have HL' := hideP hl'; have HR := hideP hr
  clear hh hl hh' hl' hr
  go_enter Try.func28, Try.ntmps28
  go_wp2
  all_goals go_ret
  all_goals refine ⟨ret_int ?_, ((Below.refl _ _).alloc (Nat.le_refl _) _).alloc (by simp) _⟩
  all_goals
    have e1 := HH.out
    have e2 := HL.out
    have e3 := HH'.out
    have e4 := HL'.out
    rw [HR.out]
  all_goals (repeat' split)
  all_goals omega

theorem dist_sum (A : Option Addr) (l : List Nat) (c : Nat) (w : World) (hA : Arr w w.heap.size A l.length (u64s l)) (hl : ∀ i, l.getD i 0 < 18446744073709551616) (hn : l.length ≤ 17592186043904) :
    Calls Try.prog 21 #[.slice A l.length c] w fun e w' => e = .returned (dv (l.sum % 340282366920938463463374607431768211456)) ∧ Below w.heap.size w w' := by
  have HA := hideP hA; have HL := hideP hl
  clear hA hl
  go_enter Try.func21, Try.ntmps21
  go_wp2
  obtain ⟨g, hg⟩ : ∃ g, g = w.heap.size := ⟨_, rfl⟩
  obtain ⟨w0, hw0⟩ : ∃ w0, w0 = (w.alloc (Obj.cells #[.int .u64 0, .int .u64 0] 29)).alloc (Obj.cells #[.int .u64 0, .int .u64 0] 29) := ⟨_, rfl⟩
  have r0 : Two w0 g 29 (.int .u64 (0 : Nat)) (.int .u64 (0 : Nat)) := by
    rw [hw0, hg]; exact (Below.heap_alloc _ _ _ (by simp)).trans (heap_alloc_new _ _)
  have r1 : Two w0 (g + 1) 29 (.int .u64 (0 : Nat)) (.int .u64 (0 : Nat)) := by rw [hw0, hg]; exact heap_alloc2_new _ _ _
  have rb : Below w.heap.size w w0 := by rw [hw0]; exact ((Below.refl _ _).alloc (Nat.le_refl _) _).alloc (by simp) _
  rw [← hw0, ← hg]
  clear hw0
  have HG := hideP hg
  clear hg
  go_loopw [8] (fun v8 wr => ∃ k D : Nat, k ≤ l.length ∧ v8 = .int .i64 k ∧ Hid (D = (l.take k).sum % 340282366920938463463374607431768211456) ∧
    Hid (Two wr g 29 (.int .u64 (0 : Nat)) (.int .u64 (0 : Nat)) ∧ Two wr (g + 1) 29 (.int .u64 (D / 18446744073709551616 : Nat)) (.int .u64 (D % 18446744073709551616 : Nat)) ∧ Below w.heap.size w wr)) (fun v8 _ => l.length - (intOf v8).toNat)
  case atStart => exact ⟨0, 0, by omega, rfl, rfl, r0, r1, rb⟩
  case round =>
    obtain ⟨k, D, hk, rfl, hD, hW⟩ := hrel
    clear r0 r1 rb
    by_cases hlt : k < l.length
    · have t : decide ((k : Int) < l.length) = true := by simp; omega
      obtain ⟨b, off, rfl, hb, hc⟩ := (HA.out.below hW.out.2.2) (by omega)
      have k1 := hc k hlt
      unfold u64s at k1
      have hx := HL.out k
      obtain ⟨x, ex⟩ : ∃ x, x = l.getD k 0 := ⟨_, rfl⟩
      rw [← ex] at k1 hx
      have EX := hideP ex
      clear hc ex
      have q0 := hW.out.2.1.c0
      have q1 := hW.out.2.1.c1
      go_wp2_with fail
      refine (dist_add D x wr (by have := hD.out; omega) hx).mono ?_
      unfold dv dvp
      rintro e w1 ⟨rfl, hb1⟩
      obtain ⟨D', hD'⟩ : ∃ D', D' = (D + x) % 340282366920938463463374607431768211456 := ⟨_, rfl⟩
      rw [← hD']
      have hs : D' = (l.take (k + 1)).sum % 340282366920938463463374607431768211456 := by
        rw [hD', hD.out, List.take_add_one, List.sum_append, List.getElem?_eq_getElem hlt, EX.out]
        simp [List.getD, List.getElem?_eq_getElem hlt, Nat.add_mod]
      have r0 := hW.out.1.below hb1 (hW.out.1.lt)
      have r1 := hW.out.2.1.below hb1 (hW.out.2.1.lt)
      have rb := hW.out.2.2.trans (hb1.mono hW.out.2.2.size)
      have f0 := r1.fz 0
      have f1 := r1.fz 1
      have p0 := r1.c0
      have p1 := r1.c1
      have HS := hideP hs; have R0 := hideP r0; have R1 := hideP r1; have RB := hideP rb
      clear hs r0 r1 rb hb1 hD' q0 q1
      go_wp2
      go_roundw
      case rel =>
        refine ⟨k + 1, D', by omega, by go_num, HS.out, ?_, ?_, ?_⟩
        · exact (R0.out.setOther (by simp) _).setOther (by simp) _
        · exact R1.out.set2 _ _
        · have := HG.out
          exact (RB.out.setCell (p := ⟨g + 1, 0, none⟩) (by simp; omega) _).setCell (p := ⟨g + 1, 1, none⟩) (by simp; omega) _
      case measure => simp [intOf]; omega
    · have t : decide ((k : Int) < l.length) = false := by simp; omega
      have q0 := hW.out.2.1.c0
      have q1 := hW.out.2.1.c1
      have f0 := hW.out.1.fz 0
      have f1 := hW.out.1.fz 1
      have p0 := hW.out.1.c0
      have p1 := hW.out.1.c1
      go_wp2
      refine ret_dist rfl rfl (hW.out.1.set2 _ _) rfl ?_
      refine ⟨?_, ?_⟩
      · have e : k = l.length := by omega
        have := hD.out
        rw [e, List.take_length] at this
        rw [this]; rfl
      · have := HG.out
        exact (hW.out.2.2.setCell (p := ⟨g, 0, none⟩) (by simp; omega) _).setCell (p := ⟨g, 1, none⟩) (by simp; omega) _
end Go.Proofs.Ytnekbmndphbaoaa
