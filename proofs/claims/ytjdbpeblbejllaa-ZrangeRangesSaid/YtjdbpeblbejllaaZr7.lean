/- Contract of zrange's Block. -/
import Derived.Test.YtjdbpeblbejllaaZr6
set_option linter.unusedVariables false
set_option linter.unusedSimpArgs false
namespace Go.Proofs.Ytjdbpeblbejllaa
open Go.RowKit
def blockP (lo hi : List Int) : Bool := rightB lo hi lo.length && (decide ((uSt lo hi lo.length).2 < 0) || decide (lo.length = 1) || (List.range lo.length).all (wholeB lo hi (uSt lo hi lo.length).1 (uSt lo hi lo.length).2.toNat))
theorem uSt_side (lo hi : List Int) : ∀ k, 0 < k → (uSt lo hi k).1 < k
  | 1, _ => by unfold uSt uStep; split <;> simp [uSt]
  | k + 2, _ => by
    have ih := uSt_side lo hi (k + 1) (by omega)
    show (uStep lo hi (uSt lo hi (k + 1)) (k + 1)).1 < k + 2
    unfold uStep
    split
    · show k + 1 < k + 2; omega
    · omega
theorem info_int1 : (Try.prog.info? 3).map (·.size) = some 1 := by kernel_rfl
set_option maxRecDepth 100000 in
set_option maxHeartbeats 1000000 in
theorem block_any (L H : Option Addr) (lo hi : List Int) (dl sh : Nat) (w : World) (hL : Arr w w.heap.size L lo.length (i64s lo)) (hH : Arr w w.heap.size H hi.length (i64s hi)) (hp : IsI lo) (hq : IsI hi) :
    Calls Try.prog 32 #[.agg #[.slice L lo.length dl, .slice H hi.length sh]] w fun e w' => e = .returned (.bool (blockP lo hi)) ∧ Below w.heap.size w w' := by
  have tR := fun W h h' => right_any L H lo hi dl sh lo.length W h h'
  have hf : rightB lo hi lo.length = true → 1 ≤ lo.length ∧ lo.length ≤ 8 ∧ hi.length = lo.length := fun h => by have := rightB_len h; omega
  have tU := fun (hr : rightB lo hi lo.length = true) W h h' => unlike_any L H lo hi dl sh W h h' (hf hr).2.2 hp hq (hf hr).2.1
  have hbd := uSt_bd lo hi hp hq lo.length
  have hsd := uSt_side lo hi lo.length
  obtain ⟨RR, hRR⟩ : ∃ R, R = blockP lo hi := ⟨_, rfl⟩
  rw [← hRR]
  unfold blockP at hRR
  obtain ⟨n, hn⟩ : ∃ n, n = lo.length := ⟨_, rfl⟩
  obtain ⟨m, hm⟩ : ∃ m, m = hi.length := ⟨_, rfl⟩
  obtain ⟨s1, hs1⟩ : ∃ s, s = (uSt lo hi lo.length).1 := ⟨_, rfl⟩
  obtain ⟨s2, hs2⟩ : ∃ s, s = (uSt lo hi lo.length).2 := ⟨_, rfl⟩
  obtain ⟨rr, hrr⟩ : ∃ s, s = rightB lo hi lo.length := ⟨_, rfl⟩
  rw [← hs1, ← hs2, ← hrr] at hRR
  rw [← hs1, ← hs2] at hbd
  rw [← hs1] at hsd
  rw [← hs1, ← hs2, ← hrr] at tU
  rw [← hrr] at tR hf
  rw [← hn] at hL tR tU hf hbd hsd hRR ⊢
  rw [← hm] at hH tR tU hf ⊢
  clear hn hm hs1 hs2 hrr
  have HhL := hideP hL; have HhH := hideP hH; have HtR := hideP tR; have Hhp := hideP hp; have Hhq := hideP hq; have HhRR := hideP hRR; clear hL hH tR hp hq hRR
  go_enter Try.func32, Try.ntmps32
  go_upto_region 1 with fail
  obtain ⟨w1, hw1⟩ : ∃ w1, w1 = w.alloc (Obj.cells #[.slice L n dl, .slice H m sh] 58) := ⟨_, rfl⟩
  have c1 := hideP (show Two w1 w.heap.size 58 (.slice L n dl) (.slice H m sh) by rw [hw1]; exact Two.new _ _ _ _)
  have cb := hideP (show Below w.heap.size w w1 by rw [hw1]; exact below_new _ _)
  rw [← hw1]
  clear hw1
  cases rr
  · clear tU hf
    have kc10 := c1.out.c0; have kc11 := c1.out.c1
    go_wp2_with fail
    refine (HtR.out w1 (HhL.out.after cb.out) (HhH.out.after cb.out)).mono ?_
    rintro e w2 ⟨rfl, hb⟩
    clear kc10 kc11
    replace c1 := hideP (c1.out.after hb)
    replace cb := hideP (bstep cb.out hb)
    clear hb
    go_wp2
    go_ret
    exact ⟨by rw [HhRR.out]; rfl, cb.out⟩
  · obtain ⟨h1, h8, rfl⟩ := hf rfl
    have tU1 := hideP (tU rfl)
    clear tU hf
    have hlt := hsd (by omega)
    clear hsd
    have kc10 := c1.out.c0; have kc11 := c1.out.c1
    go_wp2_with fail
    refine (HtR.out w1 (HhL.out.after cb.out) (HhH.out.after cb.out)).mono ?_
    rintro e w2 ⟨rfl, hb⟩
    clear kc10 kc11
    replace c1 := hideP (c1.out.after hb)
    replace cb := hideP (bstep cb.out hb)
    clear hb
    have kc10 := c1.out.c0; have kc11 := c1.out.c1
    by_cases h0 : s2 < 0
    · have hd : decide ((0 : Int) ≤ s2) = false := by simp; omega
      rw [hd] at tU1
      have hres := hideP (show RR = true by rw [HhRR.out]; simp [h0])
      clear hd h0
      go_wp2_with fail
      refine (tU1.out w2 (HhL.out.after cb.out) (HhH.out.after cb.out)).mono ?_
      rintro e w3 ⟨rfl, hb⟩
      clear kc10 kc11
      replace hb := hb.below
      replace c1 := hideP (c1.out.after hb)
      replace cb := hideP (bstep cb.out hb)
      clear hb
      go_wp2
      go_ret
      exact ⟨by rw [hres.out]; rfl, (cb.out.alloc cb.out.size _).alloc (by have := cb.out.size; simp; omega) _⟩
    · obtain ⟨bt, rfl⟩ : ∃ bt : Nat, s2 = (bt : Int) := ⟨s2.toNat, by omega⟩
      have hd : decide ((0 : Int) ≤ (bt : Int)) = true := by simp
      rw [hd] at tU1
      clear hd h0
      go_upto_region 4 with fail
      refine (tU1.out w2 (HhL.out.after cb.out) (HhH.out.after cb.out)).mono ?_
      rintro e w3 ⟨rfl, hb⟩
      clear kc10 kc11
      replace hb := hb.below
      replace c1 := hideP (c1.out.after hb)
      replace cb := hideP (bstep cb.out hb)
      clear hb
      go_upto_region 4 with fail
      obtain ⟨gs, hgs⟩ : ∃ g, g = w3.heap.size := ⟨_, rfl⟩
      obtain ⟨w4, hw4⟩ : ∃ W, W = (w3.alloc (Obj.cells #[.int .i64 (s1 : Int)] 3)).alloc (Obj.cells #[.int .i64 (bt : Int)] 3) := ⟨_, rfl⟩
      have b1 := hideP (show One w4 gs 3 (.int .i64 (s1 : Int)) by rw [hw4, hgs]; exact (One.new _ _ _).alloc _)
      have b2 := hideP (show One w4 (gs + 1) 3 (.int .i64 (bt : Int)) by rw [hw4]; exact One.new' _ _ _ _ (by simp [hgs]))
      have bb := hideP (show Below w3.heap.size w3 w4 by rw [hw4]; exact (below_new _ _).alloc (by simp) _)
      rw [← hw4, ← hgs]
      have c1' := hideP (c1.out.after bb.out)
      have cb' := hideP (cb.out.trans (bb.out.mono cb.out.size))
      clear hw4 hgs tU1 bb c1 cb
      have k0 := c1'.out.c0
      by_cases hm1 : m = 1
      · have hres := hideP (show RR = true by rw [HhRR.out]; simp [hm1])
        subst hm1
        go_wp2
        go_ret
        exact ⟨by rw [hres.out]; rfl, cb'.out⟩
      · have hm2 : ((m : Int) == 1) = false := by simp; omega
        have hres := hideP (show RR = (List.range m).all (wholeB lo hi s1 bt) by
          rw [HhRR.out]
          simp [hm1, show ¬ ((bt : Int) < 0) by omega])
        obtain ⟨lb, lf, hLe, hLb, hLc⟩ := HhL.out (by omega)
        obtain ⟨hb, hf, hHe, hHb, hHc⟩ := HhH.out (by omega)
        subst hLe hHe
        have hLc' := hideP (show ∀ i, i < m → w4.cell? ⟨lb, lf + i, none⟩ = some (.int .i64 (lo.getD i 0)) from fun i hi => (World.cell?_of_block (w := w) (cb'.out.block lb hLb)).trans (hLc i hi))
        have hHc' := hideP (show ∀ i, i < m → w4.cell? ⟨hb, hf + i, none⟩ = some (.int .i64 (hi.getD i 0)) from fun i hi => (World.cell?_of_block (w := w) (cb'.out.block hb hHb)).trans (hHc i hi))
        have hbt63 : bt ≤ 63 := by omega
        have hW := hideP (fun (i : Nat) (hi' : i < m) => whole_any (gs + 1) gs w.heap.size lb lf hb hf lo hi m dl sh i s1 bt w4 b2.out b1.out c1'.out (hLc'.out i hi') (hHc'.out i hi') Hhp.out Hhq.out hi' h8 hlt hbt63)
        clear hLb hLc hHb hHc hm1
        go_wp2
        go_loop [32] (fun v => ∃ k : Nat, k ≤ m ∧ v = .int .i64 k ∧ Hid ((List.range k).all (wholeB lo hi s1 bt) = true)) (fun v => m - (intOf v).toNat)
        case atStart => exact ⟨0, Nat.zero_le _, rfl, hideP rfl⟩
        case round =>
          obtain ⟨k, hkn, rfl, hall⟩ := hrel
          by_cases hk : k < m
          · have hc := hideP (hW.out k hk)
            have hsucc := hideP (range_all_succ (wholeB lo hi s1 bt) k)
            obtain ⟨o, ho⟩ : ∃ o, o = wholeB lo hi s1 bt k := ⟨_, rfl⟩
            rw [← ho] at hc hsucc
            have ho' := hideP ho
            clear ho
            cases o
            · have hf := hideP (range_all_false (wholeB lo hi s1 bt) m k hk ho'.out.symm)
              go_wp2_with fail
              refine hc.out.mono ?_
              rintro e w' ⟨rfl, rfl⟩
              go_wp2
              go_ret
              exact ⟨by rw [hres.out, hf.out]; rfl, cb'.out⟩
            · go_wp2_with fail
              refine hc.out.mono ?_
              rintro e w' ⟨rfl, rfl⟩
              go_wp2
              go_round
              case rel => exact ⟨k + 1, by omega, by go_num, hideP (by rw [hsucc.out, hall.out]; rfl)⟩
              case measure => simp [intOf]; omega
          · obtain rfl : k = m := by omega
            go_wp2
            go_ret
            exact ⟨by rw [hres.out, hall.out]; rfl, cb'.out⟩
end Go.Proofs.Ytjdbpeblbejllaa
