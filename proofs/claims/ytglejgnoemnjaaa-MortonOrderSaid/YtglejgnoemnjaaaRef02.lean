/- Contracts of the reference of chapter 2: two rows the same. -/
import Derived.Test.YtglejgnoemnjaaaProg
import Derived.Test.YtglejgnoemnjaaaMem
set_option linter.unusedVariables false
set_option linter.unusedSimpArgs false
namespace Go.Proofs.Ytglejgnoemnjaaa
open Go.RowKit
def sameB (p q : List Int) : Bool := decide (p = q)
theorem sameB_iff (p q : List Int) : sameB p q = true ↔ p = q := by simp [sameB]
theorem sameB_len (p q : List Int) (h : p.length ≠ q.length) : sameB p q = false := by
  unfold sameB; rw [decide_eq_false_iff_not]; rintro rfl; exact h rfl
theorem eq_of_getD (p q : List Int) (h : p.length = q.length) (he : ∀ i, i < p.length → p.getD i 0 = q.getD i 0) : p = q := by
  apply List.ext_getElem h
  intro i h1 h2
  have := he i h1
  simpa [List.getD, List.getElem?_eq_getElem h1, List.getElem?_eq_getElem h2] using this
set_option maxHeartbeats 400000 in
theorem same_any (A B : Option Addr) (p q : List Int) (c d : Nat) (w : World) (hA : Arr w w.heap.size A p.length (i64s p)) (hB : Arr w w.heap.size B q.length (i64s q)) (hn : p.length ≤ 140737488351232) (hm : q.length ≤ 140737488351232) :
    Calls Try.prog 15 #[.slice A p.length c, .slice B q.length d] w fun e w' => e = .returned (.bool (sameB p q)) ∧ ∃ nq, w.drewN nq = w' := by
  by_cases h : p.length = q.length
  · have hb1 : ((p.length : Int) != (q.length : Int)) = false := by simp [h]
    have HB := hideP hB; clear hB
    have HA := hideP hA; clear hA
    have H := hideP h; clear h
    go_enter Try.func15, Try.ntmps15
    go_wp2
    go_loopw [5] (fun v5 wr => ∃ k : Nat, k ≤ p.length ∧ v5 = .int .i64 k ∧ Hid (∀ i, i < k → p.getD i 0 = q.getD i 0) ∧ ∃ nq, w.drewN nq = wr) (fun v5 _ => p.length - (intOf v5).toNat)
    case atStart => exact ⟨0, by omega, rfl, fun i hi => absurd hi (by omega), 0, rfl⟩
    case round =>
      obtain ⟨k, hk, rfl, hall, nq, rfl⟩ := hrel
      by_cases hlt : k < p.length
      · have hlq : k < q.length := by have := H.out; omega
        obtain ⟨b, off, rfl, hb, hc⟩ := HA.out (by omega)
        obtain ⟨b', off', rfl, hb', hc'⟩ := HB.out (by omega)
        have h1 := hc k hlt
        have h2 := hc' k hlq
        unfold i64s at h1 h2
        clear hc hc'
        have i1 : (0 : Int) ≤ (k : Int) := by omega
        have i2 : (k : Int) < (p.length : Int) := by omega
        have i3 : (k : Int) < (q.length : Int) := by omega
        obtain ⟨x, hx⟩ : ∃ x, x = p.getD k 0 := ⟨_, rfl⟩
        obtain ⟨y, hy⟩ : ∃ y, y = q.getD k 0 := ⟨_, rfl⟩
        rw [← hx] at h1
        rw [← hy] at h2
        by_cases hxy : x = y
        · have hb2 : (x != y) = false := by simp [hxy]
          have HX := hideP hx; have HY := hideP hy; have HXY := hideP hxy; clear hx hy hxy
          go_wp2
          go_quiet (fail)
          go_wp2
          go_roundw
          case rel =>
            refine ⟨k + 1, by omega, by go_num, fun i hi => ?_, _, rfl⟩
            by_cases e : i = k
            · subst e; rw [← HX.out, ← HY.out, HXY.out]
            · exact hall.out i (by omega)
          case measure => simp [intOf]; omega
        · have hb2 : (x != y) = true := by simp [hxy]
          have HX := hideP hx; have HY := hideP hy; have HXY := hideP hxy; clear hx hy hxy
          go_wp2
          go_quiet (fail)
          go_wp2
          go_ret
          refine ⟨ret_bool ?_, _, (World.drewN_drewN _ _ _).symm⟩
          unfold sameB
          symm
          rw [decide_eq_false_iff_not]
          rintro e
          exact HXY.out (by rw [HX.out, HY.out, e])
      · go_wp2
        go_ret
        refine ⟨ret_bool ?_, _, rfl⟩
        symm
        rw [sameB_iff]
        exact eq_of_getD p q H.out fun i hi => hall.out i (by omega)
  · have hb1 : ((p.length : Int) != (q.length : Int)) = true := by simp; omega
    have H := hideP h; clear h
    go_enter Try.func15, Try.ntmps15
    go_wp2
    go_ret
    exact ⟨ret_bool (sameB_len p q H.out).symm, 0, rfl⟩
end Go.Proofs.Ytglejgnoemnjaaa
