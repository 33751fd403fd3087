/- The walk of MortonNext. -/
import Derived.Test.YtglejgnoemnjaaaLaw05
set_option linter.unusedVariables false
set_option linter.unusedSimpArgs false
namespace Go.Proofs.Ytglejgnoemnjaaa
open Go.RowKit

def nextL (l : List Nat) (k : Nat) : List Nat := (List.range l.length).map fun i => if i < k then l.getD i 0 else if i = k then l.getD k 0 + 1 else 0
theorem nextL_len (l : List Nat) (k : Nat) : (nextL l k).length = l.length := by simp [nextL]
theorem nextL_get (l : List Nat) (k i : Nat) (hi : i < l.length) : (nextL l k).getD i 0 = if i < k then l.getD i 0 else if i = k then l.getD k 0 + 1 else 0 := by
  unfold nextL
  simp only [List.getD, List.getElem?_map, List.getElem?_range hi, Option.map_some, Option.getD_some]
theorem nextF_eq (l : List Nat) (k i : Nat) (hi : i < l.length) : nextF l k i = u8s (nextL l k) i := by
  unfold nextF u8s; rw [nextL_get l k i hi]
theorem nextL_B (l : List Nat) (k : Nat) (hl : IsB l) (h : l.getD k 0 ≠ 255) : IsB (nextL l k) := fun i => by
  by_cases hi : i < l.length
  · rw [nextL_get l k i hi]
    have h1 := hl i; have h2 := hl k
    split
    · exact h1
    · split <;> omega
  · rw [getD_out _ _ _ (by rw [nextL_len]; omega)]; omega
theorem next_less (l : List Nat) (k : Nat) (hk : k < l.length) : lexLt l (nextL l k) = true := by
  rw [lexLt_iff _ _ (nextL_len l k).symm]
  refine ⟨k, hk, fun j hj => ?_, ?_⟩
  · rw [nextL_get l k j (by omega), if_pos hj]
  · rw [nextL_get l k k hk, if_neg (by omega), if_pos rfl]; omega
theorem next_none (l b : List Nat) (k : Nat) (hl : l.length = b.length) (hk : k < l.length) (hb : IsB b) (h2 : ∀ i, k < i → i < l.length → l.getD i 0 = 255) (h3 : lexLt l b = true) (h4 : lexLt b (nextL l k) = true) : False := by
  rw [lexLt_iff _ _ hl] at h3
  rw [lexLt_iff _ _ (by rw [nextL_len, hl])] at h4
  obtain ⟨i, hi, he, hlt⟩ := h3
  obtain ⟨j, hj, he', hlt'⟩ := h4
  have hbi := hb i
  have g := fun m (hm : m < l.length) => nextL_get l k m hm
  rw [g j (by omega)] at hlt'
  rcases Nat.lt_trichotomy i k with hik | hik | hik
  · rcases Nat.lt_trichotomy j i with hji | hji | hji
    · rw [if_pos (by omega)] at hlt'
      have := he j hji; omega
    · subst hji
      rw [if_pos hik] at hlt'; omega
    · have := he' i hji
      rw [g i hi, if_pos hik] at this; omega
  · subst hik
    rcases Nat.lt_trichotomy j i with hji | hji | hji
    · rw [if_pos hji] at hlt'
      have := he j hji; omega
    · subst hji
      rw [if_neg (by omega), if_pos rfl] at hlt'; omega
    · rw [if_neg (by omega), if_neg (by omega)] at hlt'; omega
  · have := h2 i hik hi; omega
/-- the last one that isn't 255, if there is any -/
theorem last_or (l : List Nat) : (∀ i, i < l.length → l.getD i 0 = 255) ∨ ∃ k, k < l.length ∧ l.getD k 0 ≠ 255 ∧ ∀ i, k < i → i < l.length → l.getD i 0 = 255 := by
  have key : ∀ n, n ≤ l.length → (∀ i, n ≤ i → i < l.length → l.getD i 0 = 255) → (∀ i, i < l.length → l.getD i 0 = 255) ∨ ∃ k, k < l.length ∧ l.getD k 0 ≠ 255 ∧ ∀ i, k < i → i < l.length → l.getD i 0 = 255 := by
    intro n
    induction n with
    | zero => exact fun _ h => .inl fun i hi => h i (by omega) hi
    | succ n ih =>
      intro hn h
      by_cases e : l.getD n 0 = 255
      · exact ih (by omega) fun i h1 h2 => by
          by_cases e2 : i = n
          · rw [e2, e]
          · exact h i (by omega) h2
      · exact .inr ⟨n, by omega, e, fun i h1 h2 => h i (by omega) h2⟩
  exact key l.length (Nat.le_refl _) fun i h1 h2 => absurd h1 (by omega)

/-- how the law's loop comes out -/
def all255 (l : List Nat) (n : Nat) : Bool := (List.range n).all fun i => l.getD i 0 == 255
theorem all255_succ (l : List Nat) (n : Nat) : all255 l (n + 1) = (all255 l n && (l.getD n 0 == 255)) := by simp [all255, List.range_succ]
theorem all255_iff (l : List Nat) (n : Nat) : all255 l n = true ↔ ∀ i, i < n → l.getD i 0 = 255 := by simp [all255]

set_option maxHeartbeats 2000000 in
theorem walk_MortonNext (A0 : Option Addr) (l0 : List Nat) (c0 : Nat) (A1 : Option Addr) (l1 : List Nat) (c1 : Nat) (w : World)
    (a0 : Arr w w.heap.size A0 l0.length (u8s l0)) (i0 : IsB l0) (n0 : l0.length ≤ 140737488351232) (a1 : Arr w w.heap.size A1 l1.length (u8s l1)) (i1 : IsB l1) (n1 : l1.length ≤ 140737488351232) :
    Calls Try.prog 4 #[.slice A0 l0.length c0, .slice A1 l1.length c1] w fun e w' => e = .returned (.bool true) ∧ Below w.heap.size w w' := by
  have HA0 := hideP a0; have HA1 := hideP a1; have HI0 := hideP i0; have HI1 := hideP i1
  clear a0 a1 i0 i1
  by_cases g1 : 200 < l0.length
  · have t1 : decide ((200 : Int) < l0.length) = true := by simp; omega
    go_enter Try.func4, Try.ntmps4
    go_wp2_with (go_at_call 8; refine (alive_any w).mono ?_; rintro e w1 ⟨rfl, hb1⟩)
    go_ret
    exact ⟨rfl, hb1⟩
  · have t1 : decide ((200 : Int) < l0.length) = false := by simp; omega
    by_cases g2 : 200 < l1.length
    · have t2 : decide ((200 : Int) < l1.length) = true := by simp; omega
      go_enter Try.func4, Try.ntmps4
      go_wp2_with (go_at_call 8; refine (alive_any w).mono ?_; rintro e w1 ⟨rfl, hb1⟩)
      go_ret
      exact ⟨rfl, hb1⟩
    · have t2 : decide ((200 : Int) < l1.length) = false := by simp; omega
      go_enter Try.func4, Try.ntmps4
      go_wp2_with fail
      refine (alive_any w).mono ?_
      rintro e w1 ⟨rfl, hb1⟩
      have B1 := hideP hb1; clear hb1
      have A0' := HA0.out.after B1.out
      have hs1 := run_str (P := Try.prog) w1 25 5 Try.underlying25 Try.underlying5 (c := c0) A0' rfl 9 Try.underlying9
      have HA0' := hideP A0'; clear A0'
      go_wp2_with fail
      clear hs1
      rcases last_or l0 with hall | ⟨k, hk, hk1, hk2⟩
      · refine (next_all A0 l0 c0 w1 HA0'.out (by omega) hall).mono ?_
        rintro e w2 ⟨rfl, hb2⟩
        have B2 := hideP hb2; have HALL := hideP hall; clear hb2 hall
        go_wp2_with fail
        go_loop [8, 9] (fun v8 v9 => ∃ i : Nat, i ≤ l0.length ∧ v9 = .int .i64 i ∧ v8 = .bool true) (fun _ v9 => l0.length - (intOf v9).toNat)
        case atStart => exact ⟨0, by omega, rfl, rfl⟩
        case round =>
          obtain ⟨i, hi, rfl, rfl⟩ := hrel
          by_cases hlt : i < l0.length
          · have u1 : decide ((i : Int) < l0.length) = true := by simp; omega
            obtain ⟨b, off, rfl, hb, hc⟩ := (HA0'.out.after B2.out) (by omega)
            have k1 := hc i hlt
            unfold u8s at k1
            rw [HALL.out i hlt] at k1
            clear hc
            go_wp2_with fail
            go_round
            case rel => exact ⟨i + 1, by omega, by go_num, rfl⟩
            case measure => simp [intOf]; omega
          · have u1 : decide ((i : Int) < l0.length) = false := by simp; omega
            go_wp2_with fail
            go_ret
            exact ⟨rfl, B1.out.trans (B2.out.mono B1.out.size)⟩
      · have hB2 := next_at A0 l0 c0 k w1 HA0'.out HI0.out (by omega) hk hk1 hk2
        refine hB2.mono ?_
        rintro e w2 ⟨g, d, rfl, hblk, hb2⟩
        have B2 := hideP hb2; have K1 := hideP hk1; have K2 := hideP hk2; have HBK := hideP hblk; clear hb2 hk1 hk2 hblk hB2
        go_wp2_with fail
        go_loop [8, 9] (fun v8 v9 => ∃ i : Nat, ∃ b : Bool, i ≤ l0.length ∧ v9 = .int .i64 i ∧ v8 = .bool b ∧ Hid (b = all255 l0 i)) (fun _ v9 => l0.length - (intOf v9).toNat)
        case atStart => exact ⟨0, true, by omega, rfl, rfl, rfl⟩
        case round =>
          obtain ⟨i, b, hi, rfl, rfl, hbb⟩ := hrel
          by_cases hlt : i < l0.length
          · have u1 : decide ((i : Int) < l0.length) = true := by simp; omega
            cases b
            · go_wp2_with fail
              go_round
              case rel => exact ⟨i + 1, false, by omega, by go_num, rfl, by simp only [Hid]; rw [all255_succ, ← hbb.out]; rfl⟩
              case measure => simp [intOf]; omega
            · obtain ⟨b0, off, rfl, hb, hc⟩ := (HA0'.out.after B2.out) (by omega)
              have k1 := hc i hlt
              unfold u8s at k1
              clear hc
              obtain ⟨x, hx⟩ : ∃ x, x = l0.getD i 0 := ⟨_, rfl⟩
              rw [← hx] at k1
              have HX := hideP hx; clear hx
              go_wp2_with fail
              go_round
              case rel =>
                refine ⟨i + 1, _, by omega, by go_num, rfl, ?_⟩
                simp only [Hid]
                rw [all255_succ, ← hbb.out, ← HX.out, Bool.true_and, Bool.eq_iff_iff, beq_iff_eq, beq_iff_eq]
                omega
              case measure => simp [intOf]; omega
          · have u1 : decide ((i : Int) < l0.length) = false := by simp; omega
            have hbf : b = false := by
              have e : i = l0.length := by omega
              cases b
              · rfl
              · have h := hbb.out.symm
                rw [e, all255_iff] at h
                exact absurd (h k hk) K1.out
            subst hbf
            have A2 := HA0'.out.after B2.out
            have AN : Arr w2 w2.heap.size (some ⟨g, 0, none⟩) l0.length (u8s (nextL l0 k)) := Arr.of_blk (HBK.out.congr fun i hi => nextF_eq l0 k i hi)
            have hs2 := run_str (P := Try.prog) w2 25 5 Try.underlying25 Try.underlying5 (c := c0) A2 rfl 9 Try.underlying9
            have L1 := hideP (less_any A0 (some ⟨g, 0, none⟩) l0 (nextL l0 k) c0 d w2 A2 (by rw [nextL_len]; exact AN) HI0.out (nextL_B l0 k HI0.out K1.out) (by omega) (by rw [nextL_len]; omega))
            have e1 : lessB l0 (nextL l0 k) = true := by unfold lessB; rw [if_pos (nextL_len l0 k).symm]; exact next_less l0 k hk
            rw [nextL_len, e1] at L1
            have A1' := (HA1.out.after B1.out).after B2.out
            have HA2 := hideP A2; have HAN := hideP AN; have HA1' := hideP A1'
            have BB := hideP (B1.out.trans (B2.out.mono B1.out.size))
            clear A2 AN A1' e1
            by_cases hlen : l1.length = l0.length
            · have v1 : ((l1.length : Int) != (l0.length : Int)) = false := by simp [hlen]
              have L2 := hideP (less_any A0 A1 l0 l1 c0 c1 w2 HA2.out HA1'.out HI0.out HI1.out (by omega) (by omega))
              have L3 := hideP (less_any A1 (some ⟨g, 0, none⟩) l1 (nextL l0 k) c1 d w2 HA1'.out (by rw [nextL_len]; exact HAN.out) HI1.out (nextL_B l0 k HI0.out K1.out) (by omega) (by rw [nextL_len]; omega))
              rw [nextL_len] at L3
              have hno := next_none l0 l1 k hlen.symm hk HI1.out K2.out
              have f2 : lessB l0 l1 = lexLt l0 l1 := by unfold lessB; rw [if_pos hlen.symm]
              have f3 : lessB l1 (nextL l0 k) = lexLt l1 (nextL l0 k) := by unfold lessB; rw [if_pos (by rw [nextL_len, hlen])]
              rw [f2] at L2
              rw [f3] at L3
              have HLEN := hideP hlen; have HNO := hideP hno
              clear hlen f2 f3 hno
              obtain ⟨p, hp⟩ : ∃ p, p = lexLt l0 l1 := ⟨_, rfl⟩
              obtain ⟨q, hq⟩ : ∃ q, q = lexLt l1 (nextL l0 k) := ⟨_, rfl⟩
              rw [← hp, ← hq] at HNO
              rw [← hp] at L2
              rw [← hq] at L3
              clear hp hq
              cases p
              · go_wp2_with fail
                refine L1.out.mono ?_
                rintro e w' ⟨rfl, rfl⟩
                go_wp2_with fail
                refine L2.out.mono ?_
                rintro e w' ⟨rfl, rfl⟩
                go_wp2_with fail
                go_ret
                exact ⟨rfl, BB.out⟩
              · cases q
                · go_wp2_with fail
                  refine L1.out.mono ?_
                  rintro e w' ⟨rfl, rfl⟩
                  go_wp2_with fail
                  refine L2.out.mono ?_
                  rintro e w' ⟨rfl, rfl⟩
                  go_wp2_with fail
                  refine L3.out.mono ?_
                  rintro e w' ⟨rfl, rfl⟩
                  go_wp2_with fail
                  go_ret
                  exact ⟨rfl, BB.out⟩
                · exact (HNO.out rfl rfl).elim
            · have v1 : ((l1.length : Int) != (l0.length : Int)) = true := by simp; omega
              clear hlen
              go_wp2_with fail
              refine L1.out.mono ?_
              rintro e w' ⟨rfl, rfl⟩
              go_wp2_with fail
              go_ret
              exact ⟨rfl, BB.out⟩
end Go.Proofs.Ytglejgnoemnjaaa
