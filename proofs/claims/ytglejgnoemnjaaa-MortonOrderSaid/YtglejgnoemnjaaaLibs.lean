/- Contracts of Go's library: bytes.Clone, bytes.Compare, cmp.Compare at int. -/
import Derived.Test.YtglejgnoemnjaaaProg
import Derived.Test.YtglejgnoemnjaaaMem
import Derived.Test.YtglejgnoemnjaaaMort
set_option linter.unusedVariables false
set_option linter.unusedSimpArgs false
namespace Go.Proofs.Ytglejgnoemnjaaa
open Go.RowKit
theorem isNaN_int (a : Int) (w : World) : Calls Try.prog 27 #[.int .i64 a] w fun e w' => e = .returned (.bool false) ∧ w = w' := by
  go_enter Try.func27, Try.ntmps27
  go_wp2
  go_ret
  exact ⟨by simp, rfl⟩
def cmpI (a b : Int) : Int := if a < b then -1 else if b < a then 1 else 0
theorem cmp_int (a b : Int) (w : World) : Calls Try.prog 25 #[.int .i64 a, .int .i64 b] w fun e w' => e = .returned (.int .i64 (cmpI a b)) ∧ w = w' := by
  unfold cmpI
  rcases Int.lt_trichotomy a b with h | h | h
  · have h1 : decide (a < b) = true := by simp [h]
    rw [if_pos h]
    go_enter Try.func25, Try.ntmps25
    go_wp2_with (go_at_call 27; refine (isNaN_int _ _).mono ?_; rintro e w' ⟨rfl, rfl⟩)
    go_ret
    exact ⟨rfl, rfl⟩
  · subst h
    have h1 : decide (a < a) = false := by simp
    rw [if_neg (by omega), if_neg (by omega)]
    go_enter Try.func25, Try.ntmps25
    go_wp2_with (go_at_call 27; refine (isNaN_int _ _).mono ?_; rintro e w' ⟨rfl, rfl⟩)
    go_ret
    exact ⟨rfl, rfl⟩
  · have h1 : decide (a < b) = false := by simp; omega
    have h2 : decide (b < a) = true := by simp [h]
    rw [if_neg (by omega), if_pos h]
    go_enter Try.func25, Try.ntmps25
    go_wp2_with (go_at_call 27; refine (isNaN_int _ _).mono ?_; rintro e w' ⟨rfl, rfl⟩)
    go_ret
    exact ⟨rfl, rfl⟩
def cmpB (a b : List Nat) : Int := if lexLt a b then -1 else if lexLt b a then 1 else 0
theorem bytes_compare (A B : Option Addr) (a b : List Nat) (c d : Nat) (w : World) (hA : Arr w w.heap.size A a.length (u8s a)) (hB : Arr w w.heap.size B b.length (u8s b)) (ha : IsB a) (hb : IsB b) (hl : a.length = b.length) :
    Calls Try.prog 26 #[.slice A a.length c, .slice B b.length d] w fun e w' => e = .returned (.int .i64 (cmpB a b)) ∧ w = w' := by
  have h1 := run_compareBytes (P := Try.prog) w (c := c) (d := d) hA rfl hB rfl
  rw [compareBytes_eq a b ha hb hl] at h1
  have h2 := run_callFunc_extern (P := Try.prog) (f := 28) (fn := Try.f28) (e := Extern.BytealgCompare.compare) Try.func28 (by kernel_rfl) (by kernel_rfl) (by kernel_rfl) (by kernel_rfl) #[.slice A a.length c, .slice B b.length d] w
  rw [h1] at h2
  have hv : (if lexLt a b = true then (-1 : Int) else if lexLt b a = true then 1 else 0) = cmpB a b := rfl
  rw [hv] at h2
  simp only [Result.andThen] at h2
  clear h1 hv hl
  go_enter Try.func26, Try.ntmps26
  go_wp2
  go_ret
  exact ⟨rfl, rfl⟩
theorem clone_any (A : Option Addr) (l : List Nat) (c : Nat) (w : World) (hA : Arr w w.heap.size A l.length (u8s l)) (hn : l.length ≤ 140737488351232) :
    Calls Try.prog 22 #[.slice A l.length c] w fun e w' => ∃ R d, e = .returned (.slice R l.length d) ∧
      w'.ownsRow w.heap.size 5 1 (.slice R l.length d) l.length ((List.range l.length).map (u8s l)) ∧ Below w.heap.size w w' := by
  obtain ⟨i0, hi0, hz0, hz1, hz2⟩ := info_parts info_u8
  rcases A with _ | ad
  · have h0 : l.length = 0 := by
      rcases Nat.eq_zero_or_pos l.length with h | h
      · exact h
      · obtain ⟨_, _, h, _⟩ := hA h; cases h
    have h1 := Lib.run_eql_slice_nil (P := Try.prog) w 25 5 none l.length c 0 0 Try.underlying25
    simp only [Option.isNone_none] at h1
    have H0 := hideP h0
    clear hA h0
    go_enter Try.func22, Try.ntmps22
    go_wp2
    go_ret
    refine ⟨none, 0, by rw [H0.out]; rfl, ?_, Below.refl _ _⟩
    rw [H0.out]
    exact World.ownsRow_nil _ _ _ _
  · have h1 := Lib.run_eql_slice_nil (P := Try.prog) w 25 5 (some ad) l.length c 0 0 Try.underlying25
    simp only [Option.isNone_some] at h1
    have HA := hideP hA
    clear hA
    go_enter Try.func22, Try.ntmps22
    go_wp2_with (at_builtin; refine wpList_append_arr _ rfl (.tmp 5) (.tmp 6) 25 rfl w.heap.size 5 i0 _ 1 Try.underlying25 hi0 hz0 hz1 hz2 rfl (.slice (some ⟨w.heap.size, 0, none⟩) 0 0) 0 [] rfl (World.ownsRow_lit w #[] 0 (Nat.le_refl _) (by unfold maxLen; omega) (by simp)) w.heap.size (some ad) l.length c (u8s l) rfl (HA.out.keep fun p hp => World.cell?_alloc_lt w _ p hp) (fun _ => rfl) (by unfold maxLen; omega) (by omega) (by simp) ?_; intro A3 c3 w3 hown3 hg3 hat3)
    simp only [Nat.zero_add, List.nil_append] at hown3
    have HO := hideP hown3
    clear hown3
    go_ret
    refine ⟨A3, c3, by simp, HO.out, ?_⟩
    refine Below.trans ((Below.refl _ _).alloc (Nat.le_refl _) _) ((Below.refl _ _).grown hg3 (by simp) fun k hk => ?_)
    simp [Value.ownBlock] at hk
    omega
end Go.Proofs.Ytglejgnoemnjaaa
