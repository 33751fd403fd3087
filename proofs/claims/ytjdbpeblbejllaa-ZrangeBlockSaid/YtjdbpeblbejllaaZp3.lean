/- Back finds what the document's Find finds backwards; no program in sight. -/
import Derived.Test.YtjdbpeblbejllaaZp2
set_option linter.unusedVariables false
set_option linter.unusedSimpArgs false
namespace Go.Proofs.Ytjdbpeblbejllaa
open Go.RowKit
set_option maxHeartbeats 2000000 in
theorem back_eq {lo hi : List Int} {d : Nat} (hb : Bx lo hi d) (c : List Nat) : ∀ (m t : Nat) (xl xh : List Int) (best : Option (List Nat)), t + m = 64 * d → SInv (bitAt c) d lo hi t xl xh → best = findB (bitAt c) lo hi d t →
    backGo c d m t xl xh best = if cOk (rgn (bitAt c) (64 * d) d 0) (rgn (bitAt c) (64 * d) d 1) lo hi d = true then some c else findB (bitAt c) lo hi d (64 * d)
  | 0, t, xl, xh, best, ht, inv, hbest => by
    have : Meets (bitAt c) (64 * d) d lo hi := fun k hk => by
      have h1 := inv.lo k hk; have h2 := inv.hi k hk; have h3 := inv.le k hk
      rw [Nat.add_zero] at ht
      rw [ht] at h1 h2
      omega
    rw [if_pos ((cOk_iff hb _ _).2 this)]
    rfl
  | m + 1, t, xl, xh, best, ht, inv, hbest => by
    have hd : 0 < d := hb.d1
    have hk := Nat.mod_lt t hd
    have hf := fun i => bitAt_le c i
    have tl : t < 64 * d := by omega
    obtain ⟨M, q, hq, hM, r0, r1, s0, s1, hx⟩ := side_step (bitAt c) hf t d hd tl
    obtain ⟨M', q', hq', hM', r0', r1', s0', s1', hx'⟩ := side_step (bend (bitAt c) t 0) (bend_le hf (by omega)) t d hd tl
    have eb0 := regF_congr (bend (bitAt c) t 0) (bitAt c) t d (t % d) 0 (fun i hi => if_pos hi)
    have eb1 := regF_congr (bend (bitAt c) t 0) (bitAt c) t d (t % d) 1 (fun i hi => if_pos hi)
    rw [r0, r0'] at eb0
    rw [r1, r1'] at eb1
    subst eb0
    obtain rfl : q' = q := by omega
    rw [bend_at] at s0' s1'
    have i1 := inv.lo _ hk; have i2 := inv.hi _ hk; have i3 := inv.le _ hk
    rw [r0] at i1
    rw [r1] at i2
    have hL := pl_bd _ (inv.li (t % d)); have hH := pl_bd _ (inv.hi' (t % d))
    have bL := (hx (pl (xl.getD (t % d) 0)) (by omega) (by omega))
    have bH := (hx (pl (xh.getD (t % d) 0)) (by omega) (by omega))
    obtain ⟨x, hxd⟩ : ∃ x, x = pl (xl.getD (t % d) 0) := ⟨_, rfl⟩
    obtain ⟨y, hyd⟩ : ∃ x, x = pl (xh.getD (t % d) 0) := ⟨_, rfl⟩
    rw [← hxd] at i1 i3 bL hL
    rw [← hyd] at i2 i3 bH hH
    have hxset : ∀ v, v = xl.getD (t % d) 0 → xl.set (t % d) v = xl := fun v hv => set_same _ _ _ hv (by rw [inv.ll]; exact hk)
    have hyset : ∀ v, v = xh.getD (t % d) 0 → xh.set (t % d) v = xh := fun v hv => set_same _ _ _ hv (by rw [inv.hl]; exact hk)
    rw [backGo, ← hxd, ← hyd, bL.1, bH.1, bL.2.2, bH.2.1]
    by_cases hz : bitAt c t = 1
    · rw [if_pos hz]
      rw [hz] at s0 s1
      by_cases hh : M' + q' ≤ y
      · rw [if_pos hh, if_neg (by omega)]
        by_cases hl : M' + q' ≤ x
        · rw [if_pos hl, if_neg (by omega)]
          refine back_eq hb c m (t + 1) _ _ _ (by omega) ?_ ?_
          · have := inv.next hd x y (by omega) (by omega) (by omega) (by omega) (by omega)
            rw [hxset _ hL.2.symm, hyset _ hH.2.symm] at this
            exact this
          · rw [findB, if_neg, hbest]
            intro h
            have := ((cOk_iff hb _ _).1 h.2 _ hk).2
            omega
        · rw [if_neg hl, if_pos rfl]
          refine back_eq hb c m (t + 1) _ _ _ (by omega) ?_ ?_
          · have := inv.next hd (M' + q') y (by omega) (by omega) (by omega) (by omega) (by omega)
            rw [hyset _ hH.2.symm] at this
            exact this
          · rw [findB, if_pos]
            · refine congrArg (fun z => some (code z)) (list_eq _ _ d (by rw [List.length_set]; exact inv.hl) (cHi_len _ _ _) fun k hkd => ?_)
              rw [cHi_get hb.hi' _ _ _ hkd, getD_set]
              by_cases e : k = t % d
              · subst e; rw [if_pos ⟨rfl, by rw [inv.hl]; exact hk⟩, s1']; congr 1; omega
              · rw [if_neg (fun h => e h.1), regF_bend _ _ _ _ _ _ hd hkd e, (pl_bd _ (inv.hi' k)).2, inv.hi k hkd]
            · refine ⟨hz, (cOk_iff hb _ _).2 fun k hkd => ?_⟩
              by_cases e : k = t % d
              · subst e; rw [s0', s1']; omega
              · rw [regF_bend _ _ _ _ _ _ hd hkd e, regF_bend _ _ _ _ _ _ hd hkd e]
                have h1 := inv.lo k hkd; have h2 := inv.hi k hkd; have h3 := inv.le k hkd
                omega
      · rw [if_neg hh, if_pos rfl]
        have hne : ¬ Meets (bitAt c) (t + 1) d lo hi := fun h => by have := (h _ hk).1; omega
        have hall : ¬ cOk (rgn (bitAt c) (64 * d) d 0) (rgn (bitAt c) (64 * d) d 1) lo hi d = true := fun h => hne (((cOk_iff hb _ _).1 h).of_finer hf (by omega))
        rw [if_neg hall, show 64 * d = t + 1 + m by omega, findB_empty hb hf hne, findB, if_pos]
        · refine congrArg (fun z => some (code z)) (list_eq _ _ d inv.hl (cHi_len _ _ _) fun k hkd => ?_)
          rw [cHi_get hb.hi' _ _ _ hkd]
          have e1 := (pl_bd _ (inv.hi' k)).2
          rw [e1, inv.hi k hkd]
          by_cases e : k = t % d
          · subst e; rw [s1', r1]; congr 1; omega
          · rw [regF_bend _ _ _ _ _ _ hd hkd e]
        · refine ⟨hz, (cOk_iff hb _ _).2 fun k hkd => ?_⟩
          by_cases e : k = t % d
          · subst e; rw [s0', s1']; omega
          · rw [regF_bend _ _ _ _ _ _ hd hkd e, regF_bend _ _ _ _ _ _ hd hkd e]
            have h1 := inv.lo k hkd; have h2 := inv.hi k hkd; have h3 := inv.le k hkd
            omega
    · have hz1 : bitAt c t = 0 := by have := hf t; omega
      rw [if_neg hz]
      rw [hz1] at s0 s1
      have hfs : findB (bitAt c) lo hi d (t + 1) = findB (bitAt c) lo hi d t := by rw [findB, if_neg (fun h => hz h.1)]
      by_cases hl : M' + q' ≤ x
      · rw [if_pos hl, if_pos rfl]
        have hne : ¬ Meets (bitAt c) (t + 1) d lo hi := fun h => by have := (h _ hk).2; omega
        have hall : ¬ cOk (rgn (bitAt c) (64 * d) d 0) (rgn (bitAt c) (64 * d) d 1) lo hi d = true := fun h => hne (((cOk_iff hb _ _).1 h).of_finer hf (by omega))
        rw [if_neg hall, show 64 * d = t + 1 + m by omega, findB_empty hb hf hne, hfs, hbest]
      · rw [if_neg hl, if_neg (by omega)]
        by_cases hh : M' + q' ≤ y
        · rw [if_pos hh, if_pos rfl]
          refine back_eq hb c m (t + 1) _ _ _ (by omega) ?_ (by rw [hfs]; exact hbest)
          have := inv.next hd x (M' + q' - 1) (by omega) (by omega) (by omega) (by omega) (by omega)
          rw [hxset _ hL.2.symm] at this
          exact this
        · rw [if_neg hh, if_neg (by omega)]
          refine back_eq hb c m (t + 1) _ _ _ (by omega) ?_ (by rw [hfs]; exact hbest)
          have := inv.next hd x y (by omega) (by omega) (by omega) (by omega) (by omega)
          rw [hxset _ hL.2.symm, hyset _ hH.2.symm] at this
          exact this
end Go.Proofs.Ytjdbpeblbejllaa
