/- The example of chapter 10 comes true. Arms that stop the walk at a return, ahead of the walk's own tries. A box under way: a struct variable of two rows of the call's own, grown side by side. -/
import Derived.Lib.Hide
import Derived.Test.YtgcbodpjidoanaaQ1
import Derived.Test.YtgcbodpjidoanaaQ6
import Derived.Test.YtgcbodpjidoanaaQ41
import Derived.Test.YtgcbodpjidoanaaQ43
set_option linter.unusedVariables false
set_option linter.unusedSimpArgs false
namespace Go.Proofs.Ytgcbodpjidoanaa
open Go.RowKit
def nd10 : NodeD := ⟨2, [⟨[1, 5], true⟩, ⟨[2, 3], true⟩], []⟩
theorem isI_2 (a b : Int) (ha : -9223372036854775808 ≤ a ∧ a ≤ 9223372036854775807) (hb : -9223372036854775808 ≤ b ∧ b ≤ 9223372036854775807) : IsI [a, b] := fun i => by
  rcases i with _ | _ | i
  · simpa using ha
  · simpa using hb
  · simp
theorem nd10_ok : NodeOk nd10 := by
  refine ⟨by decide, fun i hi => ?_, fun i hi => absurd hi (by simp [nd10]), by decide, by decide⟩
  have : i = 0 ∨ i = 1 := by simp [nd10] at hi; omega
  rcases this with rfl | rfl
  · exact ⟨isI_2 1 5 (by decide) (by decide), by decide⟩
  · exact ⟨isI_2 2 3 (by decide) (by decide), by decide⟩
theorem nd10_r : nodeR nd10 ((2 : Nat) : Int) = true := by decide
theorem nd10_rt : NodeRt nd10 2 := by
  obtain ⟨D, h, r⟩ := nodeR_rt nd10_r
  have : D = 2 := by omega
  subst this
  exact r
theorem nd10_live : (sayN nd10).live = 2 := by show (sayA nd10 0).live = 2; decide
theorem nd10_size : (sayN nd10).size = 2 := by show (sayA nd10 0).size = 2; decide
theorem nd10_lo : (sayN nd10).lo = [1, 3] := by show (sayA nd10 0).lo = [1, 3]; decide
theorem nd10_hi : (sayN nd10).hi = [2, 5] := by show (sayA nd10 0).hi = [2, 5]; decide
theorem nd10_key : (sayN nd10).key = [1, 5] := rfl
def nd10P (b : Nat) : NodeP := ⟨some ⟨b + 2, 0, none⟩, 2, fun i => (some ⟨b + i, 0, none⟩, 2), none, 0, fun _ => default⟩
/-- the world behind the literal -/
def lit10 (w : World) : World := (((w.alloc (.cells #[.int .i64 1, .int .i64 5] 2)).alloc (.cells #[.int .i64 2, .int .i64 3] 2)).alloc (.cells #[.slice (some ⟨w.heap.size, 0, none⟩) 2 2, .bool true, .slice (some ⟨w.heap.size + 1, 0, none⟩) 2 2, .bool true] 56)).alloc (.cells #[.int .u8 2, .slice (some ⟨w.heap.size + 2, 0, none⟩) 2 2, .slice none 0 0] 27)
theorem lit10_facts (w : World) : Below w.heap.size w (lit10 w) ∧ (lit10 w).heap.size = w.heap.size + 4 ∧ Row (lit10 w) (w.heap.size + 3) 27 (nodeC nd10 (nd10P w.heap.size)) ∧ NodeMem (lit10 w) (lit10 w).heap.size nd10 (nd10P w.heap.size) := by
  obtain ⟨a1, h1⟩ : ∃ v, v = w.alloc (.cells #[.int .i64 1, .int .i64 5] 2) := ⟨_, rfl⟩
  obtain ⟨a2, h2⟩ : ∃ v, v = a1.alloc (.cells #[.int .i64 2, .int .i64 3] 2) := ⟨_, rfl⟩
  obtain ⟨a3, h3⟩ : ∃ v, v = a2.alloc (.cells #[.slice (some ⟨w.heap.size, 0, none⟩) 2 2, .bool true, .slice (some ⟨w.heap.size + 1, 0, none⟩) 2 2, .bool true] 56) := ⟨_, rfl⟩
  obtain ⟨a4, h4⟩ : ∃ v, v = a3.alloc (.cells #[.int .u8 2, .slice (some ⟨w.heap.size + 2, 0, none⟩) 2 2, .slice none 0 0] 27) := ⟨_, rfl⟩
  have e4 : lit10 w = a4 := by rw [h4, h3, h2, h1]; rfl
  have s1 : a1.heap.size = w.heap.size + 1 := by rw [h1]; simp
  have s2 : a2.heap.size = w.heap.size + 2 := by rw [h2]; simp [s1]
  have s3 : a3.heap.size = w.heap.size + 3 := by rw [h3]; simp [s2]
  have s4 : a4.heap.size = w.heap.size + 4 := by rw [h4]; simp [s3]
  have b1 : Below w.heap.size w a1 := by rw [h1]; exact below_new _ _
  have b2 : Below w.heap.size w a2 := by rw [h2]; exact bstep b1 (below_new _ _)
  have b3 : Below w.heap.size w a3 := by rw [h3]; exact bstep b2 (below_new _ _)
  have b4 : Below w.heap.size w a4 := by rw [h4]; exact bstep b3 (below_new _ _)
  have r1 : Row a4 w.heap.size 2 [.int .i64 1, .int .i64 5] := by
    rw [h4, h3, h2, h1]
    exact Row.alloc (Row.alloc (Row.alloc (Row.new w 2 [.int .i64 1, .int .i64 5]) _) _) _
  have r2 : Row a4 (w.heap.size + 1) 2 [.int .i64 2, .int .i64 3] := by
    rw [h4, h3, h2]
    exact Row.alloc (Row.alloc (Row.new' a1 2 [.int .i64 2, .int .i64 3] _ s1) _) _
  have r3 : Row a4 (w.heap.size + 2) 56 [.slice (some ⟨w.heap.size, 0, none⟩) 2 2, .bool true, .slice (some ⟨w.heap.size + 1, 0, none⟩) 2 2, .bool true] := by
    rw [h4, h3]
    exact Row.alloc (Row.new' a2 56 _ _ s2) _
  have r4 : Row a4 (w.heap.size + 3) 27 [.int .u8 2, .slice (some ⟨w.heap.size + 2, 0, none⟩) 2 2, .slice none 0 0] := by
    rw [h4]
    exact Row.new' a3 27 _ _ s3
  rw [e4]
  refine ⟨b4, s4, r4, ?_, fun i hi => ?_, fun h => absurd h (by simp [nd10]), fun i hi => absurd hi (by simp [nd10])⟩
  · intro _
    refine ⟨w.heap.size + 2, 0, rfl, by omega, fun i hi j v hj => ?_⟩
    have hi2 : i = 0 ∨ i = 1 := by simp [nd10] at hi; omega
    rw [Row.cell r3]
    rcases hi2 with rfl | rfl
    · rcases j with _ | _ | j
      · exact hj
      · exact hj
      · simp [entC, nd10] at hj
    · rcases j with _ | _ | j
      · exact hj
      · exact hj
      · simp [entC, nd10] at hj
  · have hi2 : i = 0 ∨ i = 1 := by simp [nd10] at hi; omega
    rcases hi2 with rfl | rfl
    · intro _
      exact ⟨w.heap.size, 0, rfl, by omega, fun j hj => by
        have : j = 0 ∨ j = 1 := by simp [nd10] at hj; omega
        rw [Row.cell r1]
        rcases this with rfl | rfl <;> rfl⟩
    · intro _
      exact ⟨w.heap.size + 1, 0, rfl, by omega, fun j hj => by
        have : j = 0 ∨ j = 1 := by simp [nd10] at hj; omega
        rw [Row.cell r2]
        rcases this with rfl | rfl <;> rfl⟩
set_option maxRecDepth 100000 in
set_option maxHeartbeats 4000000 in
theorem alive10 (w : World) : Calls Try.prog 14 #[] w fun e w' => e = .returned (.bool true) ∧ Below w.heap.size w w' := by
  obtain ⟨nd, hnd⟩ : ∃ n, n = nd10 := ⟨_, rfl⟩
  have hok := hideP (show NodeOk nd by rw [hnd]; exact nd10_ok)
  have hrr := hideP (show nodeR nd ((2 : Nat) : Int) = true by rw [hnd]; exact nd10_r)
  have hrt := hideP (show NodeRt nd 2 by rw [hnd]; exact nd10_rt)
  have hk := hideP (show (sayN nd).live = 2 ∧ (sayN nd).size = 2 ∧ (sayN nd).lo = [1, 3] ∧ (sayN nd).hi = [2, 5] ∧ (sayN nd).key = [1, 5] by rw [hnd]; exact ⟨nd10_live, nd10_size, nd10_lo, nd10_hi, nd10_key⟩)
  have hko := hideP (sayN_ok hrt.out hok.out)
  have hsz := hideP (show (sayN nd).size ≤ 1048576 by rw [hk.out.2.1]; decide)
  obtain ⟨v, hv⟩ : ∃ v, v = lit10 w := ⟨_, rfl⟩
  obtain ⟨b0, s0, r0, m0⟩ := lit10_facts w
  rw [← hv, ← hnd] at r0 m0
  rw [← hv] at b0 s0
  obtain ⟨pd, hpd⟩ : ∃ p, p = nd10P w.heap.size := ⟨_, rfl⟩
  rw [← hpd] at r0 m0
  obtain ⟨C, hC⟩ : ∃ C, C = nodeC nd pd := ⟨_, rfl⟩
  have tC := hideP (show (Try.prog.info? 27).map (·.size) = some C.toArray.size by rw [hC]; kernel_rfl)
  have tCl := hideP (show (Try.prog.info? 27).map (·.size) = some C.length by rw [hC]; kernel_rfl)
  rw [← hC] at r0
  have hSay := hideP (nsay_le nd pd 2 v hok.out m0 hrr.out hrt.out hsz.out)
  rw [← hC] at hSay
  have HV := hideP hv; have HC := hideP hC
  obtain ⟨g1, hg1⟩ : ∃ g, g = w.heap.size + 3 := ⟨_, rfl⟩
  rw [← hg1] at r0
  have R0 := hideP r0; have M0 := hideP m0; have B0 := hideP b0
  have HG1 := hideP hg1
  clear hv r0 m0 b0 s0 hC hg1 hpd
  go_enter Try.func14, Try.ntmps14
  go_upto_region 2 with fail
  rw [show ((((w.alloc (.cells #[.int .i64 1, .int .i64 5] 2)).alloc (.cells #[.int .i64 2, .int .i64 3] 2)).alloc (.cells #[.slice (some ⟨w.heap.size, 0, none⟩) 2 2, .bool true, .slice (some ⟨w.heap.size + 1, 0, none⟩) 2 2, .bool true] 56)).alloc (.cells #[.int .u8 2, .slice (some ⟨w.heap.size + 2, 0, none⟩) 2 2, .slice none 0 0] 27)) = v from HV.out.symm]
  rw [← HG1.out]
  have hcl := hideP (fun q => hko.out.cells q)
  obtain ⟨KS, eKS⟩ : ∃ k, k = sayN nd := ⟨_, rfl⟩
  rw [← eKS] at hk hko hsz hSay hcl
  have EKS := hideP eKS
  clear eKS
  go_upto_region 3 with (first
    | (refine wpList_load_row rfl 27 (.tmp 1) rfl g1 rfl 27 C.toArray (0, 0) _ R0.out Try.underlying27 rfl tC.out ?_)
    | (go_at_call 26; refine hSay.out.mono ?_; rintro e_ w1 ⟨q1, rfl, k_, b_⟩; have K1 := hideP (KidN.mem k_); have R1 := hideP (Row.after R0.out b_); have M1 := hideP (M0.out.after b_); have B1 := hideP (bstep B0.out b_); clear k_ b_; obtain ⟨KC, hKC⟩ : ∃ C, C = kidC KS q1 := ⟨_, rfl⟩; have hl37 := hideP (show KC.length = 37 by rw [hKC]; exact hcl.out q1); have tK := hideP (show (Try.prog.info? 43).map (·.size) = some KC.toArray.size by rw [List.size_toArray]; exact size_k37 hl37.out); have tso := hideP (show kidL13.toArray.size = KC.toArray.size by rw [List.size_toArray, List.size_toArray, hl37.out]; rfl); have tone := hideP (show KC.toArray.all (·.oneCell') = true by rw [hKC]; exact kidC_one _ _); rw [← hKC]; have HKC := hideP hKC; clear hKC)
    | (refine wpList_store_row rfl 43 (.tmp 2) (.tmp 18) rfl w1.heap.size KC.toArray rfl rfl 43 kidL13.toArray (Row.new w1 43 kidL13) tK.out tso.out tone.out ?_))
  try simp only [Act.put]
  obtain ⟨x, hx⟩ : ∃ x, x = w1.heap.size := ⟨_, rfl⟩
  obtain ⟨v2, hv2⟩ : ∃ v, v = (w1.alloc (.cells kidL13.toArray 43)).setRow x KC.toArray := ⟨_, rfl⟩
  rw [← hx, ← hv2]
  have hb2 : Below w1.heap.size w1 v2 := by rw [hv2, hx]; exact below_setRow' (below_new w1 _) (Nat.le_refl _) _
  have X := hideP (show Row v2 x 43 KC by rw [hv2, hx]; exact Row.setRow (Row.new w1 43 kidL13) KC)
  have K2 := hideP (K1.out.after hb2)
  have R2 := hideP (Row.after R1.out hb2)
  have M2 := hideP (M1.out.after hb2)
  have B2 := hideP (bstep B1.out hb2)
  clear hx hv2 hb2 K1 R1 M1 B1 R0 M0 hSay
  go_upto_region 4 with (go_at_call 80; refine (pnew_any v2).mono ?_; rintro e_ w3 ⟨g, St, rfl, b_, p_, s_⟩; have P3 := hideP p_; have S3 := hideP (fun b hb => Nat.le_trans B2.out.size (s_ b hb)); have nX := hideP (show ¬ St x from fun h => by have := s_ x h; have := Row.lt X.out; omega); have nR := hideP (show ¬ St g1 from fun h => by have := s_ g1 h; have := Row.lt R2.out; omega); have nK := hideP (fun b (hb : St b) => s_ b hb); have X3 := hideP (Row.after X.out b_); have K3 := hideP (K2.out.below b_); have R3 := hideP (Row.after R2.out b_); have M3 := hideP (M2.out.below b_); have B3 := hideP (bstep B2.out b_); have z3 := hideP b_.size; clear b_ p_ s_)
  have hput := nput_ok g St [] none nd pd 2 w3 P3.out hok.out (M3.out.more z3.out) hrr.out hrt.out (by rw [← EKS.out]; exact hsz.out)
  rw [← HC.out, ← EKS.out, show putL [] (nodeB nd) = [nodeB nd] from rfl] at hput
  have HPut := hideP hput
  clear hput
  go_upto_region 5 with (first
    | (refine wpList_load_row rfl 27 (.tmp 1) rfl g1 rfl 27 C.toArray (0, 0) _ R3.out Try.underlying27 rfl tC.out ?_)
    | (go_at_call 81; refine HPut.out.mono ?_; rintro e_ w4 ⟨q2, S', rfl, k_, b_, s_, p_⟩; have P4 := hideP p_; have K4 := hideP (KidN.mem k_); have X4 := hideP (row_but2 b_ X3.out nX.out); have R4 := hideP (row_but2 b_ R3.out nR.out); have M4 := hideP (M3.out.below (B := v2.heap.size) ⟨b_.os, b_.tape, b_.output, by have := b_.size; have := z3.out; omega, fun k hk => b_.block k (by have := z3.out; omega) (fun h => by have := nK.out k h; omega)⟩); have KK4 := hideP (K3.out.below (B := v2.heap.size) ⟨b_.os, b_.tape, b_.output, by have := b_.size; have := z3.out; omega, fun k hk => b_.block k (by have := z3.out; omega) (fun h => by have := nK.out k h; omega)⟩); have B4 := hideP (B3.out.trans (But.low b_ (fun k hk => S3.out k hk) B3.out.size)); have z4 := hideP (Nat.le_trans z3.out b_.size); clear k_ b_ s_ p_; obtain ⟨KD, hKD⟩ : ∃ C, C = kidC KS q2 := ⟨_, rfl⟩; have hD37 := hideP (show KD.length = 37 by rw [hKD]; exact hcl.out q2); have tD := hideP (show (Try.prog.info? 43).map (·.size) = some KD.toArray.size by rw [List.size_toArray]; exact size_k37 hD37.out); have dso := hideP (show kidL13.toArray.size = KD.toArray.size by rw [List.size_toArray, List.size_toArray, hD37.out]; rfl); have done_ := hideP (show KD.toArray.all (·.oneCell') = true by rw [hKD]; exact kidC_one _ _); rw [← hKD]; have HKD := hideP hKD; clear hKD)
    | (refine wpList_store_row rfl 43 (.tmp 5) (.tmp 25) rfl w4.heap.size KD.toArray rfl rfl 43 kidL13.toArray (Row.new w4 43 kidL13) tD.out dso.out done_.out ?_))
  try simp only [Act.put]
  obtain ⟨y, hy⟩ : ∃ x, x = w4.heap.size := ⟨_, rfl⟩
  obtain ⟨v5, hv5⟩ : ∃ v, v = (w4.alloc (.cells kidL13.toArray 43)).setRow y KD.toArray := ⟨_, rfl⟩
  rw [← hy, ← hv5]
  have hb5 : Below w4.heap.size w4 v5 := by rw [hv5, hy]; exact below_setRow' (below_new w4 _) (Nat.le_refl _) _
  have Y := hideP (show Row v5 y 43 KD by rw [hv5, hy]; exact Row.setRow (Row.new w4 43 kidL13) KD)
  have K5 := hideP (K4.out.after hb5)
  have KK5 := hideP (KK4.out.below (hb5.mono z4.out))
  have X5 := hideP (Row.after X4.out hb5)
  have R5 := hideP (Row.after R4.out hb5)
  have M5 := hideP (M4.out.below (hb5.mono z4.out))
  have B5 := hideP (bstep B4.out hb5)
  have P5 := hideP (P4.out.after hb5)
  have z5 := hideP (Nat.le_trans z4.out hb5.size)
  clear hy hv5 hb5 K4 X4 R4 M4 KK4 B4 P4 K3 X3 R3 M3 B3 P3 HPut X K2 R2 M2 B2
  have hget := nget_in g S' [nodeB nd] (putC [] none (nodeB nd)) nd q2 2 v5 P5.out (by simp) hok.out (by rw [← EKS.out]; exact K5.out) hrr.out hrt.out (by rw [← EKS.out]; exact hsz.out)
  rw [← EKS.out, ← HKD.out] at hget
  have HGet := hideP hget
  clear hget
  have n3 := hideP (show (Try.prog.info? 27).map (·.size) = some 3 by kernel_rfl)
  go_upto_region 6 with (first
    | (refine wpList_load_row rfl 43 (.tmp 5) rfl y rfl 43 KD.toArray (0, 0) _ Y.out Try.underlying43 rfl tD.out ?_)
    | (go_at_call 82; refine HGet.out.mono ?_; rintro e_ w6 ⟨p6, rfl, m_, b_⟩; have N6 := hideP m_; have Y6 := hideP (Row.after Y.out b_); have K6 := hideP (K5.out.after b_); have KK6 := hideP (KK5.out.below (b_.mono z5.out)); have X6 := hideP (Row.after X5.out b_); have R6 := hideP (Row.after R5.out b_); have M6 := hideP (M5.out.below (b_.mono z5.out)); have B6 := hideP (bstep B5.out b_); have z6 := hideP (Nat.le_trans z5.out b_.size); clear b_ m_; obtain ⟨D, hD⟩ : ∃ C, C = nodeC nd p6 := ⟨_, rfl⟩; have l3 := hideP (show D.length = 3 by rw [hD]; rfl); have tN := hideP (show (Try.prog.info? 27).map (·.size) = some D.toArray.size by rw [List.size_toArray, l3.out]; exact n3.out); have tNl := hideP (show (Try.prog.info? 27).map (·.size) = some D.length by rw [l3.out]; exact n3.out); have nso := hideP (show (nodeV 0 none 0 0 none 0 0).toArray.size = D.toArray.size by rw [List.size_toArray, List.size_toArray, l3.out]; rfl); have none_ := hideP (show D.toArray.all (·.oneCell') = true by rw [hD]; unfold nodeC; simp [Value.oneCell']); rw [← hD]; have HD := hideP hD; clear hD)
    | (refine wpList_store_row rfl 27 (.tmp 7) (.tmp 31) rfl w6.heap.size D.toArray rfl rfl 27 (nodeV 0 none 0 0 none 0 0).toArray (Row.new w6 27 (nodeV 0 none 0 0 none 0 0)) tN.out nso.out none_.out ?_))
  try simp only [Act.put]
  obtain ⟨u, hu⟩ : ∃ x, x = w6.heap.size := ⟨_, rfl⟩
  obtain ⟨v7, hv7⟩ : ∃ v, v = (w6.alloc (.cells #[.int .u8 0, .slice none 0 0, .slice none 0 0] 27)).setRow u D.toArray := ⟨_, rfl⟩
  rw [← hu, ← hv7]
  have hb7 : Below w6.heap.size w6 v7 := by rw [hv7, hu]; exact below_setRow' (below_new w6 _) (Nat.le_refl _) _
  have U := hideP (show Row v7 u 27 D by rw [hv7, hu]; exact Row.setRow (Row.new w6 27 (nodeV 0 none 0 0 none 0 0)) D)
  have N7 := hideP (N6.out.after hb7)
  have Y7 := hideP (Row.after Y6.out hb7)
  have K7 := hideP (K6.out.after hb7)
  have z7 := hideP (Nat.le_trans z6.out hb7.size)
  have KK7 := hideP ((KK6.out.below (hb7.mono z6.out)).more z7.out)
  have X7 := hideP (Row.after X6.out hb7)
  have R7 := hideP (Row.after R6.out hb7)
  have M7 := hideP ((M6.out.below (hb7.mono z6.out)).more z7.out)
  have B7 := hideP (bstep B6.out hb7)
  clear hu hv7 hb7 N6 Y6 K6 KK6 X6 R6 M6 B6 HGet Y K5 KK5 X5 R5 M5 B5 P5
  have tKl := hideP (size_k37 hl37.out)
  have tDl := hideP (size_k37 hD37.out)
  have KR := hideP (show v7.rangeAt x 0 (kidC KS q1) by rw [← HKC.out]; exact Row.range X7.out)
  have k0 : v7.cell? ⟨x, 32, none⟩ = some (.slice q1.lA 2 q1.lc) := by have := kid_at hko.out KR.out 0 rfl; rw [hk.out.2.2.1] at this; exact this
  have k1 : v7.cell? ⟨x, 33, none⟩ = some (.slice q1.hA 2 q1.hc) := by have := kid_at hko.out KR.out 1 rfl; rw [hk.out.2.2.2.1] at this; exact this
  have k2 : v7.cell? ⟨x, 34, none⟩ = some (.int .i64 2) := by have := kid_at hko.out KR.out 2 rfl; rw [hk.out.1] at this; exact this
  have k3 : v7.cell? ⟨x, 35, none⟩ = some (.int .i64 2) := by have := kid_at hko.out KR.out 3 rfl; rw [hk.out.2.1] at this; exact this
  have k4 := hideP (fun W (hW : Below v7.heap.size v7 W) => show W.cell? ⟨x, 36, none⟩ = some (.slice q1.kA 2 q1.kc) by have := kid_at hko.out (Row.range (Row.after (show Row v7 x 43 (kidC KS q1) by rw [← HKC.out]; exact X7.out) hW)) 4 rfl; rw [hk.out.2.2.2.2] at this; exact this)
  have b9 := hideP (show Below v7.heap.size v7 ((v7.alloc (.cells #[.int .i64 1, .int .i64 3] 2)).alloc (.cells #[.int .i64 2, .int .i64 5] 2)) from bstep (below_new _ _) (below_new _ _))
  have aL := hideP (show Arr v7 v7.heap.size q1.lA ([1, 3] : List Int).length (i64s [1, 3]) by have := KK7.out.lo; rw [hk.out.2.2.1] at this; exact this)
  have aH := hideP (show Arr v7 v7.heap.size q1.hA ([2, 5] : List Int).length (i64s [2, 5]) by have := KK7.out.hi; rw [hk.out.2.2.2.1] at this; exact this)
  have aK := hideP (show Arr v7 v7.heap.size q1.kA ([1, 5] : List Int).length (i64s [1, 5]) by have := KK7.out.key; rw [hk.out.2.2.2.2] at this; exact this)
  have hS1 := (same_any q1.lA q1.hA (some ⟨v7.heap.size, 0, none⟩) (some ⟨v7.heap.size + 1, 0, none⟩) [1, 3] [2, 5] [1, 3] [2, 5] q1.lc q1.hc 2 2 ((v7.alloc (.cells #[.int .i64 1, .int .i64 3] 2)).alloc (.cells #[.int .i64 2, .int .i64 5] 2)) (aL.out.after b9.out) (aH.out.after b9.out) (Arr.after (Arr.of_i64' v7 [1, 3] 2 _ 2 rfl rfl) (below_new _ _)) (Arr.of_i64' (v7.alloc (.cells #[.int .i64 1, .int .i64 3] 2)) [2, 5] 2 _ 2 (by simp) rfl) (by decide) (by decide)).mono (R' := fun e w' => e = .returned (.bool true) ∧ Below ((v7.alloc (.cells #[.int .i64 1, .int .i64 3] 2)).alloc (.cells #[.int .i64 2, .int .i64 5] 2)).heap.size ((v7.alloc (.cells #[.int .i64 1, .int .i64 3] 2)).alloc (.cells #[.int .i64 2, .int .i64 5] 2)) w') (fun e w' h => ⟨by rw [h.1]; simp, h.2⟩)
  have HS1 := hideP hS1
  clear hS1
  go_wp2_with (first
    | (go_at_call 83; refine HS1.out.mono ?_; rintro e_ w10 ⟨rfl, b_⟩; have b10 := hideP (bstep b9.out b_); clear b_ k0 k1 k2 k3; have k4' := k4.out w10 b10.out)
    | (go_at_call 84; refine ((sameRow_any q1.kA (some ⟨w10.heap.size, 0, none⟩) [1, 5] [1, 5] q1.kc 2 (w10.alloc (.cells #[.int .i64 1, .int .i64 5] 2)) (aK.out.after (bstep b10.out (below_new _ _))) (Arr.of_i64' w10 [1, 5] 2 _ 2 rfl rfl) (by decide)).mono (R' := fun e w' => e = .returned (.bool true) ∧ Below v7.heap.size v7 w') (fun e w' h => ⟨by rw [h.1]; simp, bstep (bstep b10.out (below_new _ _)) h.2⟩)).mono ?_; rintro e_ w11 ⟨rfl, b_⟩; have b11 := hideP b_; clear b_ k4'; have X11 := hideP (Row.after X7.out b11.out); have Y11 := hideP (Row.after Y7.out b11.out))
    | (refine wpList_loadG rfl 43 (.tmp 2) rfl x 0 rfl KC _ (Row.range X11.out) Try.underlying43 rfl tKl.out ?_)
    | (refine wpList_loadG rfl 43 (.tmp 5) rfl y 0 rfl KD _ (Row.range Y11.out) Try.underlying43 rfl tDl.out ?_)
    | (go_at_call 22; refine ((show Calls Try.prog 22 #[.agg KC.toArray, .agg KD.toArray] w11 fun e w' => e = .returned (.bool true) ∧ Below v7.heap.size v7 w' by rw [HKC.out, HKD.out]; exact (nsame_any KS KS q1 q2 w11 hko.out hko.out (KK7.out.after b11.out) (K7.out.after b11.out)).mono (fun e w' h => ⟨by rw [h.1]; simp, bstep b11.out h.2⟩))).mono ?_; rintro e_ w12 ⟨rfl, b_⟩; have b12 := hideP b_; clear b_; have U12 := hideP (Row.after U.out b12.out); have R12 := hideP (Row.after R7.out b12.out))
    | (refine wpList_loadG rfl 27 (.tmp 7) rfl u 0 rfl D _ (Row.range U12.out) Try.underlying27 rfl tNl.out ?_)
    | (refine wpList_loadG rfl 27 (.tmp 1) rfl g1 0 rfl C _ (Row.range R12.out) Try.underlying27 rfl tCl.out ?_)
    | (go_at_call 17; refine ((show Calls Try.prog 17 #[.agg D.toArray, .agg C.toArray] w12 fun e w' => e = .returned (.bool true) ∧ Below v7.heap.size v7 w' by rw [HD.out, HC.out]; exact (rsamenode_any nd nd p6 pd w12 hok.out hok.out (N7.out.after b12.out) (M7.out.after b12.out)).mono (fun e w' h => ⟨by rw [h.1]; simp, bstep b12.out h.2⟩))).mono ?_; rintro e_ w13 ⟨rfl, b_⟩; have b13 := hideP b_; clear b_))
  go_ret
  exact ⟨rfl, B7.out.trans (b13.out.mono B7.out.size)⟩
end Go.Proofs.Ytgcbodpjidoanaa
namespace Go.Proofs.Ytgcbodpjidoanaa
open Go.RowKit
theorem stop_ret {P : Program} {fn : Func} {R : Ending → World → Prop} {a : Act} {w : World} (h : Hid (bodyPost P fn R .ret a w)) : bodyPost P fn R .ret a w := h
theorem then_ret {K : Act → World → Prop} {Q : Exit → Act → World → Prop} {a : Act} {w : World} (h : Q .ret a w) : Exit.then K Q .ret a w := h
theorem block_ret {id : Nat} {Q : Exit → Act → World → Prop} {a : Act} {w : World} (h : Q .ret a w) : Exit.inBlock id Q .ret a w := h
end Go.Proofs.Ytgcbodpjidoanaa
namespace Go.Proofs.Ytgcbodpjidoanaa
open Go.RowKit
/-- block g is a box of two rows of the call's own -/
def DuoAt (w : World) (B g : Nat) (R : Option Addr) (s : Nat) (R' : Option Addr) (s' : Nat) (l l' : List Int) : Prop :=
  Two w g 41 (.slice R l.length s) (.slice R' l'.length s') ∧ Own w B R s l ∧ Own w B R' s' l' ∧ Sep (.slice R l.length s) (.slice R' l'.length s') ∧ g < B
def Duo (w : World) (B g : Nat) (l l' : List Int) : Prop := ∃ R s R' s', DuoAt w B g R s R' s' l l'
theorem Duo.nil {w : World} {B g : Nat} (h : Two w g 41 (.slice none 0 0) (.slice none 0 0)) (hg : g < B) : Duo w B g [] [] :=
  ⟨none, 0, none, 0, h, World.ownsRow_nil _ _ _ _, World.ownsRow_nil _ _ _ _, .inl rfl, hg⟩
theorem Duo.ext {w W : World} {B g : Nat} {l l' : List Int} (h : Duo w B g l l') (hW : Ext w W) : Duo W B g l l' := by
  obtain ⟨R, s, R', s', h1, h2, h3, h4, h5⟩ := h
  exact ⟨R, s, R', s', h1.ext hW, h2.ext hW, h3.ext hW, h4, h5⟩
/-- an int's append to a row of the call's own: as 'Own' -/
theorem own_of {w : World} {B : Nat} {R : Option Addr} {n s : Nat} {l : List Int} {z : Int} (hn : n = l.length) (h : w.ownsRow B 2 1 (.slice R (n + 1) s) (n + 1) (l.map (Value.int .i64) ++ (#[Value.int .i64 z] : Array Value).toList)) : Own w B R s (l ++ [z]) := by
  unfold Own
  subst hn
  simpa using h
theorem sep_grown {w : World} {B : Nat} {R R' : Option Addr} {n m s s' g3 n3 c3 : Nat} {l' : List Int} (hs : Sep (.slice R n s) (.slice R' m s')) (ho : Own w B R' s' l') (hm : m = l'.length) (hat : (Value.slice R n s).ownBlock = some g3 ∨ w.heap.size ≤ g3) : Sep (.slice (some ⟨g3, 0, none⟩) n3 c3) (.slice R' m s') := by
  subst hm
  unfold Sep
  rcases hb : (Value.slice R' l'.length s').ownBlock with _ | b
  · right; intro h; cases h
  · right
    have h2 := (World.ownsRow.lt ho b hb).2
    intro hh
    have h3 : g3 = b := by simpa [Value.ownBlock] using hh
    rcases hat with hat | hat
    · rcases hs with h | h
      · rw [h] at hat; cases hat
      · apply h; rw [hat, hb, h3]
    · omega
/-- the lower side has grown by one, and is stored -/
theorem DuoAt.push0 {w w3 : World} {B g s s' n g3 c3 : Nat} {R R' : Option Addr} {l l' : List Int} {z : Int} (h : DuoAt w B g R s R' s' l l') (hB : B ≤ w.heap.size) (hn : n = l.length)
    (h1 : w3.ownsRow B 2 1 (.slice (some ⟨g3, 0, none⟩) (n + 1) c3) (n + 1) (l.map (Value.int .i64) ++ (#[Value.int .i64 z] : Array Value).toList)) (h2 : w.grownBy w3 (Value.slice R n s).ownBlock) (h3 : (Value.slice R n s).ownBlock = some g3 ∨ w.heap.size ≤ g3) :
    Duo (w3.setCell ⟨g, 0, none⟩ (.slice (some ⟨g3, 0, none⟩) (n + 1) c3)) B g (l ++ [z]) l' := by
  obtain ⟨t, o1, o2, sp, hg⟩ := h
  subst hn
  have hb := below_own o1 h2 (Nat.le_refl _) hB
  have o3 := own_of rfl h1
  have g3B : B ≤ g3 := by
    rcases h3 with h | h
    · exact (World.ownsRow.lt o1 g3 h).1
    · omega
  have e : (l ++ [z]).length = l.length + 1 := by simp
  refine ⟨some ⟨g3, 0, none⟩, c3, R', s', ?_, ?_, ?_, ?_, hg⟩
  · rw [e]
    exact two_set0 (t.below hb hg) _
  · exact own_setCell o3 (by simpa using hg) _
  · exact own_setCell (World.ownsRow.kept o2 h2 (by
      rcases sp.symm with h | h
      · exact .inl h
      · exact .inr h)) (by simpa using hg) _
  · rw [e]; exact sep_grown sp o2 rfl h3
theorem DuoAt.push1 {w w3 : World} {B g s s' n g3 c3 : Nat} {R R' : Option Addr} {l l' : List Int} {z : Int} (h : DuoAt w B g R s R' s' l l') (hB : B ≤ w.heap.size) (hn : n = l'.length)
    (h1 : w3.ownsRow B 2 1 (.slice (some ⟨g3, 0, none⟩) (n + 1) c3) (n + 1) (l'.map (Value.int .i64) ++ (#[Value.int .i64 z] : Array Value).toList)) (h2 : w.grownBy w3 (Value.slice R' n s').ownBlock) (h3 : (Value.slice R' n s').ownBlock = some g3 ∨ w.heap.size ≤ g3) :
    Duo (w3.setCell ⟨g, 1, none⟩ (.slice (some ⟨g3, 0, none⟩) (n + 1) c3)) B g l (l' ++ [z]) := by
  obtain ⟨t, o1, o2, sp, hg⟩ := h
  subst hn
  have hb := below_own o2 h2 (Nat.le_refl _) hB
  have o3 := own_of rfl h1
  have e : (l' ++ [z]).length = l'.length + 1 := by simp
  refine ⟨R, s, some ⟨g3, 0, none⟩, c3, ?_, ?_, ?_, ?_, hg⟩
  · rw [e]
    exact two_set1 (t.below hb hg) _
  · exact own_setCell (World.ownsRow.kept o1 h2 (by
      rcases sp with h | h
      · exact .inl h
      · exact .inr h)) (by simpa using hg) _
  · exact own_setCell o3 (by simpa using hg) _
  · rw [e]; exact (sep_grown sp.symm o1 rfl h3).symm
/-- what a cut tells -/
def CutTold (w w' : World) (e : Ending) (ok : Bool) (l l' : List Int) : Prop :=
  Below w.heap.size w w' ∧ if ok then ∃ R s R' s', e = .returned (.tuple #[.agg #[.slice R l.length s, .slice R' l'.length s'], .bool true]) ∧ Own w' w.heap.size R s l ∧ Own w' w.heap.size R' s' l'
    else e = .returned (.tuple #[.agg #[.slice none 0 0, .slice none 0 0], .bool false])
def cLo (lo lo' : List Int) (k : Nat) : List Int := (List.range k).map fun i => mx (lo.getD i 0) (lo'.getD i 0)
def cHi (hi hi' : List Int) (k : Nat) : List Int := (List.range k).map fun i => mn (hi.getD i 0) (hi'.getD i 0)
/-- do the sides meet? -/
def cOk (lo hi lo' hi' : List Int) (k : Nat) : Bool := (List.range k).all fun i => decide (mx (lo.getD i 0) (lo'.getD i 0) ≤ mn (hi.getD i 0) (hi'.getD i 0))
end Go.Proofs.Ytgcbodpjidoanaa
