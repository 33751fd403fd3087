/- The walks of the laws of chapter 5. -/
import Derived.Test.YtglejgnoemnjaaaMort3
import Derived.Test.YtglejgnoemnjaaaRef05
import Derived.Test.YtglejgnoemnjaaaRef02
set_option linter.unusedVariables false
set_option linter.unusedSimpArgs false
namespace Go.Proofs.Ytglejgnoemnjaaa
open Go.RowKit

theorem code_in' (A : Option Addr) (p : List Int) (n c : Nat) (w : World) (hn : p.length = n) (hA : Arr w w.heap.size A n (i64s p)) (hz : IsI p) (h1 : 1 ≤ n) (h8 : n ≤ 8) :
    Calls Try.prog 9 #[.slice A n c] w fun e w' => ∃ g, e = .returned (.tuple #[.slice (some ⟨g, 0, none⟩) (8 * n) (8 * n), .int .i64 0]) ∧ w.heap.size ≤ g ∧
      w'.rowIs g 5 (8 * n) (u8s (code p)) ∧ Below w.heap.size w w' := by
  subst hn
  exact code_in A p c w hA hz h1 h8
theorem ahead_in' (A B : Option Addr) (p q : List Int) (n c d : Nat) (w : World) (hp' : p.length = n) (hq' : q.length = n) (hA : Arr w w.heap.size A n (i64s p)) (hB : Arr w w.heap.size B n (i64s q)) (hp : IsI p) (hq : IsI q) (h1 : 1 ≤ n) (h8 : n ≤ 8) :
    Calls Try.prog 18 #[.slice A n c, .slice B n d] w fun e w' => e = .returned (.bool (aheadB p q)) ∧ ∃ nq, w.drewN nq = w' := by
  subst hp'
  have h := ahead_in A B p q c d w hA (by rw [hq']; exact hB) hp hq h1 h8 hq'.symm
  rwa [hq'] at h
theorem isI_of (l : List Int) (h : ∀ z ∈ l, -9223372036854775808 ≤ z ∧ z ≤ 9223372036854775807) : IsI l := fun i => by
  by_cases hi : i < l.length
  · rw [show l.getD i 0 = l[i] from by simp [List.getD, List.getElem?_eq_getElem hi]]; exact h _ (List.getElem_mem hi)
  · rw [getD_out _ _ _ (by omega)]; omega

theorem al1 : code [0] = [128, 0, 0, 0, 0, 0, 0, 0] := by decide +kernel
theorem al2 : u8s (code [-9223372036854775808, -9223372036854775807]) 15 = .int .u8 1 := by
  unfold u8s; rw [show (code [-9223372036854775808, -9223372036854775807]).getD 15 0 = 1 from by decide +kernel]; rfl
theorem al3 : u8s (code [-9223372036854775807, -9223372036854775808]) 15 = .int .u8 2 := by
  unfold u8s; rw [show (code [-9223372036854775807, -9223372036854775808]).getD 15 0 = 2 from by decide +kernel]; rfl
theorem al4 : aheadB [0] [1] = true := by decide +kernel
theorem al5 : bstr [128, 0, 0, 0, 0, 0, 0, 0] = ⟨#[128, 0, 0, 0, 0, 0, 0, 0]⟩ := by decide +kernel

set_option maxHeartbeats 2000000 in
theorem alive_any (w : World) : Calls Try.prog 8 #[] w fun e w' => e = .returned (.bool true) ∧ Below w.heap.size w w' := by
  go_enter Try.func8, Try.ntmps8
  go_wp2_with fail
  refine (code_in' _ [0] 1 1 _ rfl (Arr.of_i64 w [0] _) (isI_of _ (by simp)) (by omega) (by omega)).mono ?_
  rintro e w1 ⟨g1, rfl, hg1, hr1, hb1⟩
  have hb1' := (below_new w (.cells #[.int .i64 0] 2)).trans (hb1.mono (by simp))
  have H1 := hideP (And.intro hr1 hb1'); clear hr1 hb1 hb1'
  go_wp2_with fail
  refine (code_in' _ [-9223372036854775808, -9223372036854775807] 2 2 _ rfl (Arr.of_i64 w1 [-9223372036854775808, -9223372036854775807] _) (isI_of _ (by simp)) (by omega) (by omega)).mono ?_
  rintro e w2 ⟨g2, rfl, hg2, hr2, hb2⟩
  have hb2' := (below_new w1 (.cells #[.int .i64 (-9223372036854775808), .int .i64 (-9223372036854775807)] 2)).trans (hb2.mono (by simp))
  have H2 := hideP (And.intro hr2 hb2'); clear hr2 hb2 hb2'
  go_wp2_with fail
  refine (code_in' _ [-9223372036854775807, -9223372036854775808] 2 2 _ rfl (Arr.of_i64 w2 [-9223372036854775807, -9223372036854775808] _) (isI_of _ (by simp)) (by omega) (by omega)).mono ?_
  rintro e w3 ⟨g3, rfl, hg3, hr3, hb3⟩
  have hb3' := (below_new w2 (.cells #[.int .i64 (-9223372036854775807), .int .i64 (-9223372036854775808)] 2)).trans (hb3.mono (by simp))
  have H3 := hideP (And.intro hr3 hb3'); clear hr3 hb3 hb3'
  have r1 := rowIs_below (rowIs_below H1.out.1 H2.out.2 (H1.out.1.lt)) H3.out.2 (Nat.lt_of_lt_of_le H1.out.1.lt H2.out.2.size)
  have r2 := rowIs_below H2.out.1 H3.out.2 H2.out.1.lt
  have r3 := H3.out.1
  rw [al1] at r1
  have hs := run_str (P := Try.prog) w3 25 5 Try.underlying25 Try.underlying5 (c := 8) (l := [128, 0, 0, 0, 0, 0, 0, 0]) (n := 8) (Arr.of_row r1 (by simp)) rfl 9 Try.underlying9
  rw [al5] at hs
  have c2 := r2.cell (i := 15) (by omega)
  have c3 := r3.cell (i := 15) (by omega)
  rw [al2] at c2
  rw [al3] at c3
  clear r1 r2 r3
  go_wp2_with fail
  have hA := (Arr.of_i64' w3 [0] 2 w3.heap.size 1 rfl rfl).after (below_new (w3.alloc (.cells #[.int .i64 0] 2)) (.cells #[.int .i64 1] 2))
  have hB := Arr.of_i64' (w3.alloc (.cells #[.int .i64 0] 2)) [1] 2 (w3.heap.size + 1) 1 (by simp) rfl
  refine (ahead_in' (some ⟨w3.heap.size, 0, none⟩) (some ⟨w3.heap.size + 1, 0, none⟩) [0] [1] 1 1 1 _ rfl rfl hA hB (isI_of _ (by simp)) (isI_of _ (by simp)) (by omega) (by omega)).mono ?_
  rintro e w4 ⟨rfl, nq, hw4⟩
  rw [al4]
  clear hA hB hs c2 c3
  have hb4 : Below w.heap.size w w4 := by
    rw [← hw4]
    refine below_drewN ?_ _
    refine (H1.out.2.trans ((H2.out.2.trans (H3.out.2.mono H2.out.2.size)).mono H1.out.2.size)).trans ?_
    have := (below_new w3 (.cells #[.int .i64 0] 2)).trans ((below_new (w3.alloc (.cells #[.int .i64 0] 2)) (.cells #[.int .i64 1] 2)).mono (by simp))
    exact this.mono (by have := H1.out.2.size; have := H2.out.2.size; have := H3.out.2.size; omega)
  have H4 := hideP hb4; clear hb4 hw4
  go_wp2
  go_ret
  exact ⟨rfl, H4.out⟩
end Go.Proofs.Ytglejgnoemnjaaa
