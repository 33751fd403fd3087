/- Contract of indentureref06's Find. -/
import Derived.Test.YtjdbpeblbejllaaZr12
import Derived.Test.YtjdbpeblbejllaaZp3
import Derived.Test.YtjdbpeblbejllaaRef05
import Derived.Test.YtjdbpeblbejllaaSha6
import Derived.Test.YtjdbpeblbejllaaFloat
import Derived.Deep.DeepCutAuto
set_option linter.unusedVariables false
set_option linter.unusedSimpArgs false
namespace Go.Proofs.Ytjdbpeblbejllaa
open Go.RowKit
def tn (be : Bool) : Nat := if be then 1 else 0
def cornerX (be : Bool) (f : Nat → Nat) (lo hi : List Int) (d t : Nat) : List Int := if be then cHi (rgn f t d 1) hi d else cLo (rgn f t d 0) lo d
def findX (be : Bool) (f : Nat → Nat) (lo hi : List Int) (d : Nat) : Nat → Option (List Nat)
  | 0 => none
  | t + 1 => if f t = tn be ∧ cOk (rgn (bend f t (1 - tn be)) (t + 1) d 0) (rgn (bend f t (1 - tn be)) (t + 1) d 1) lo hi d = true then some (code (cornerX be (bend f t (1 - tn be)) lo hi d (t + 1))) else findX be f lo hi d t
theorem findX_skip (f : Nat → Nat) (lo hi : List Int) (d : Nat) : ∀ t, findX false f lo hi d t = findS f lo hi d t
  | 0 => rfl
  | t + 1 => by rw [findX, findS, findX_skip f lo hi d t]; rfl
theorem findX_back (f : Nat → Nat) (lo hi : List Int) (d : Nat) : ∀ t, findX true f lo hi d t = findB f lo hi d t
  | 0 => rfl
  | t + 1 => by rw [findX, findB, findX_back f lo hi d t]; rfl
/-- the first k bits of a code, as a list -/
def bl (c : List Nat) (k : Nat) : List Nat := (List.range k).map (bitAt c)
theorem bl_len (c : List Nat) (k : Nat) : (bl c k).length = k := by simp [bl]
theorem bl_succ (c : List Nat) (k : Nat) : bl c (k + 1) = bl c k ++ [bitAt c k] := by simp [bl, List.range_succ]
theorem bl_get (c : List Nat) (k i : Nat) (hi : i < k) : (bl c k).getD i 0 = bitAt c i := by simp [bl, List.getD, List.getElem?_map, List.getElem?_range hi]
theorem bl_take (c : List Nat) (k i : Nat) (hi : i ≤ k) : (bl c k).take i = bl c i := by
  unfold bl
  rw [← List.map_take, List.take_range, Nat.min_eq_left hi]
/-- the regions of a list of bits -/
theorem regL_bend (c : List Nat) (i b d x : Nat) : regL (bl c i ++ [b]) (i + 1) d x d = rgn (bend (bitAt c) i b) (i + 1) d x := by
  unfold regL rgn
  refine List.map_congr_left fun k _ => ?_
  refine congrArg toI (regF_congr (fun j => (bl c i ++ [b]).getD j 0) _ _ _ _ _ fun j hj => ?_)
  unfold bend List.getD
  by_cases h : j < i
  · rw [if_pos h, List.getElem?_append_left (by rw [bl_len]; exact h)]
    have := bl_get c i j h
    unfold List.getD at this
    exact this
  · obtain rfl : j = i := by omega
    rw [if_neg h, List.getElem?_append_right (by rw [bl_len]; exact Nat.le_refl _), bl_len, Nat.sub_self]
    rfl
theorem bend_list_le (c : List Nat) (i b : Nat) (hb : b ≤ 1) : ∀ j, (bl c i ++ [b]).getD j 0 ≤ 1 := fun j => by
  unfold List.getD
  rw [List.getElem?_append]
  split
  · rename_i h
    rw [bl_len] at h
    have := bl_get c i j h
    unfold List.getD at this
    rw [this]; exact bitAt_le _ _
  · cases j - (bl c i).length with
    | zero => simpa using hb
    | succ m => simp
/-- what Find answers -/
def findAll (be : Bool) (c : List Nat) (lo hi : List Int) (d : Nat) : Option (List Nat) := if hasB lo hi (ptL c d) then some c else findX be (bitAt c) lo hi d (64 * d)
theorem OwnB.capL {w : World} {base : Nat} {A : Option Addr} {c : Nat} {l : List Nat} (h : OwnB w base A c l) : l.length ≤ c := by
  rcases Nat.eq_zero_or_pos l.length with h0 | h0
  · omega
  · obtain ⟨g, _, _, _, hc, _⟩ := h.at h0; exact hc
theorem CutTold.val {w w' : World} {e : Ending} {ok : Bool} {l l' : List Int} (h : CutTold w w' e ok l l') : ∃ X Y, e = .returned (.tuple #[.agg #[X, Y], .bool ok]) ∧ X.oneCell' = true ∧ Y.oneCell' = true ∧ Below w.heap.size w w' ∧
    (ok = true → ∃ R s R' s', X = .slice R l.length s ∧ Y = .slice R' l'.length s' ∧ Own w' w.heap.size R s l ∧ Own w' w.heap.size R' s' l') := by
  obtain ⟨hb, h⟩ := h
  cases ok
  · exact ⟨_, _, h, rfl, rfl, hb, fun h => by cases h⟩
  · obtain ⟨R, s, R', s', rfl, h1, h2⟩ := h
    exact ⟨_, _, rfl, rfl, rfl, hb, fun _ => ⟨R, s, R', s', rfl, rfl, h1, h2⟩⟩
theorem cornerX_len (be : Bool) (f : Nat → Nat) (lo hi : List Int) (d t : Nat) : (cornerX be f lo hi d t).length = d := by cases be <;> simp [cornerX, cLo_len, cHi_len]
theorem cornerX_I (be : Bool) {f : Nat → Nat} (hf : ∀ i, f i ≤ 1) {lo hi : List Int} {d t : Nat} (hb : Bx lo hi d) : IsI (cornerX be f lo hi d t) := fun k => by
  by_cases hk : k < d
  · cases be
    · show _ ∧ _
      simp only [cornerX, Bool.false_eq_true, if_false]
      rw [cLo_get hb.li _ _ _ hk]
      have := regF_lt f hf t d k 0 (by omega); have := (pl_bd _ (hb.li k)).1
      exact toI_bd _ (by omega)
    · simp only [cornerX, if_true]
      rw [cHi_get hb.hi' _ _ _ hk]
      have := regF_lt f hf t d k 1 (by omega); have := (pl_bd _ (hb.hi' k)).1
      exact toI_bd _ (by omega)
  · rw [getD_out _ _ _ (by rw [cornerX_len]; omega)]; omega
set_option maxRecDepth 100000 in
set_option maxHeartbeats 8000000 in
theorem rfind_in (be : Bool) (A L H : Option Addr) (c : List Nat) (lo hi : List Int) (ca dl sh : Nat) (w : World) (hA : Arr w w.heap.size A c.length (u8s c)) (hc : IsB c) (hL : Arr w w.heap.size L lo.length (i64s lo)) (hH : Arr w w.heap.size H hi.length (i64s hi)) (hp : IsI lo) (hq : IsI hi)
    (hR : rightB lo hi lo.length = true) (hcl : c.length = 8 * lo.length) :
    Calls Try.prog 40 #[.slice A c.length ca, .agg #[.slice L lo.length dl, .slice H hi.length sh], .bool be] w fun e w' => Told w w' e lo.length (findAll be c lo hi lo.length) := by
  have hf := rightB_len hR
  have t1 := fun W h h' => rright_any L H lo hi dl sh (lo.length : Int) W h h'
  rw [hR] at t1
  have bx := Bx.of hR hp hq
  obtain ⟨RR, hRR⟩ : ∃ R, R = findAll be c lo hi lo.length := ⟨_, rfl⟩
  rw [← hRR]
  have t3 := fun (P : Option Addr) (cp : Nat) W h h' (h3 : Arr W W.heap.size P (ptL c lo.length).length (i64s (ptL c lo.length))) => rhas_any L H P lo hi (ptL c lo.length) dl sh cp W h h' h3 (by rw [ptL_len]; omega)
  obtain ⟨n, hn⟩ : ∃ n, n = lo.length := ⟨_, rfl⟩
  have hhl : hi.length = n := by omega
  have t2 := fun W (h : Arr W W.heap.size A c.length (u8s c)) => rpoint_any A c ca n W h hc (by omega) (by rw [hcl, hn])
  rw [← hn] at hL t1 t3 hcl hRR bx ⊢
  rw [hhl] at hH t1 t3 ⊢
  rw [ptL_len] at t3
  rw [hcl] at hA t2 ⊢
  have h1 : 1 ≤ n := by omega
  have h8 : n ≤ 8 := by omega
  obtain ⟨hb, hhb⟩ : ∃ b, b = hasB lo hi (ptL c n) := ⟨_, rfl⟩
  rw [← hhb] at t3
  have hRR2 := hideP (show RR = if hb = true then some c else findX be (bitAt c) lo hi n (64 * n) by rw [hRR, hhb]; rfl)
  clear hn hf hR hhl hRR hhb
  have HhA := hideP hA; have Hhc := hideP hc; have HhL := hideP hL; have HhH := hideP hH; have Ht1 := hideP t1; have Ht2 := hideP t2; have Ht3 := hideP t3; have Hhp := hideP hp; have Hhq := hideP hq; have Hhcl := hideP hcl; have Hbx := hideP bx; clear hA hc hL hH t1 t2 t3 hp hq hcl bx
  have hlen8 : ((8 * n : Nat) : Int) == 8 * (n : Int) := by simp
  go_enter Try.func40, Try.ntmps40
  go_upto_region 1 with fail
  obtain ⟨w1, hw1⟩ : ∃ w1, w1 = w.alloc (Obj.cells #[.slice L n dl, .slice H n sh] 58) := ⟨_, rfl⟩
  have c1 := hideP (show Two w1 w.heap.size 58 (.slice L n dl) (.slice H n sh) by rw [hw1]; exact Two.new _ _ _ _)
  have cb := hideP (show Below w.heap.size w w1 by rw [hw1]; exact below_new _ _)
  rw [← hw1]
  clear hw1
  have kc10 := c1.out.c0; have kc11 := c1.out.c1
  go_wp2_with fail
  refine (Ht1.out w1 (HhL.out.after cb.out) (HhH.out.after cb.out)).mono ?_
  rintro e w2 ⟨rfl, hb_⟩
  clear kc10 kc11
  replace c1 := hideP (c1.out.after hb_)
  replace cb := hideP (bstep cb.out hb_)
  clear hb_
  have kc10 := c1.out.c0; have kc11 := c1.out.c1
  go_upto_region 4 with fail
  have AA := hideP (HhA.out.after cb.out)
  have AL := hideP (HhL.out.after cb.out)
  have AH := hideP (HhH.out.after cb.out)
  refine wp_region_fork 5 (.q 0 (.q 1 (.q 2 (.l 3 (.q 4 .nil))))) (by kernel_rfl) (by kernel_rfl) ?_
  simp only [pickT, nthO_zero, nthO_succ]
  iterate 3 (refine wpT_valK (by rfl) (fun K hK => ?_); apply Exists.intro; refine ⟨fun W hW => ?_, ?_⟩; (focus (have hs0 := hW.cell kc10; have hs1 := hW.cell kc11; go_simp; (try rfl); done)); go_simp; refine hK _ ?_; clear hK K)
  refine wpT_loudK 38 #[.slice A (8 * n) ca, .int .i64 n] (by rfl) (fun W => by go_simp) (fun W hW => (Ht2.out W (AA.out.ext hW.drew_left)).mono ?_)
  rintro e wp ⟨RP, sp, rfl, hown, hb_⟩
  refine ⟨_, rfl, Ext.of_below hb_, fun K hK => ?_⟩
  go_simp
  refine hK _ ?_
  clear hK K
  have xP := hideP (hW.drew_left.trans (Ext.of_below hb_))
  have AP := hideP (show Arr wp wp.heap.size RP n (i64s (ptL c n)) from Arr.of_own hown fun i hi => ptVals_get c n i hi)
  clear hown hW hb_
  refine wpT_callK (.bool hb) 34 #[.agg #[.slice L n dl, .slice H n sh], .slice RP n sp] (by rfl) (fun W => by go_simp) (fun W hW => (Ht3.out RP sp W (AL.out.ext (xP.out.trans hW)) (AH.out.ext (xP.out.trans hW)) (AP.out.ext hW)).mono fun e w2 ⟨h1, h2⟩ => ⟨h1, Ext.of_below h2⟩) (fun K hK => ?_)
  go_simp
  refine hK _ ?_
  clear hK K
  refine wpT_nil (fun W5 hW => ?_)
  simp only [List.drop_succ_cons, List.drop_zero, List.drop_nil]
  have x5 := hideP (xP.out.trans hW)
  clear kc10 kc11
  replace c1 := hideP (c1.out.ext x5.out)
  replace cb := hideP (below_ext cb.out x5.out)
  replace AA := hideP (AA.out.ext x5.out)
  clear x5 xP AP AL AH hW hlen8
  cases hb
  case true =>
    go_wp2_with (refine wpList_appn rfl (.tmp 35) (.tmp 36) rfl W5.heap.size _ 0 0 [] rfl rfl (OwnB.lit0 W5) (W5.alloc (.cells #[] 5)).heap.size A (8 * n) ca c Hhcl.out.symm rfl (AA.out.ext (Ext.alloc _ _)) (by omega) (by simp) ?_; intro A' c' w' ho hb_; have HO := hideP ho; have HB := hideP hb_; clear ho hb_)
    go_ret2
    rw [hRR2.out]
    have e0 : c.length = 8 * n := Hhcl.out
    have := HO.out.arr
    rw [List.nil_append, e0] at this
    exact ⟨A', c', by simp, e0, this, cb.out.trans (((below_new W5 _).trans HB.out).mono cb.out.size)⟩
  case false =>
    have hRR3 := hideP (show RR = findX be (bitAt c) lo hi n (64 * n) by rw [hRR2.out]; rfl)
    clear hRR2 Ht1 Ht2 Ht3
    obtain ⟨B, hB⟩ : ∃ B, B = W5.heap.size := ⟨_, rfl⟩
    have gB := hideP (show w.heap.size < B by rw [hB]; exact c1.out.lt)
    have sB := hideP (show B ≤ W5.heap.size by rw [hB]; exact Nat.le_refl _)
    clear hB
    have k64 : IntKind.i64.wrap (64 * (n : Int)) = ((64 * n : Nat) : Int) := by rw [IntWalk.i64_in _ (by omega)]; omega
    go_wp2
    go_loopw [9, 10] (fun v9 v10 wr => ∃ k : Nat, ∃ R s, k ≤ 64 * n ∧ v10 = .int .i64 k ∧ v9 = .slice R k s ∧ Hid (OwnB wr B R s (bl c k) ∧ Below B W5 wr ∧ Two wr w.heap.size 58 (.slice L n dl) (.slice H n sh) ∧ Below w.heap.size w wr)) (fun _ v _ => 64 * n - (intOf v).toNat)
    case atStart => exact ⟨0, none, 0, Nat.zero_le _, rfl, rfl, ⟨OwnB.nil _ _, Below.refl _ _, c1.out, cb.out⟩⟩
    case round =>
      obtain ⟨k, R, s, hkn, rfl, rfl, hI⟩ := hrel
      have o1 := hideP hI.out.1
      have b1 := hideP hI.out.2.1
      have sr := hideP (Nat.le_trans sB.out b1.out.size)
      replace c1 := hideP hI.out.2.2.1
      replace cb := hideP hI.out.2.2.2
      clear hI
      by_cases hlt : k < 64 * n
      · have t1 := hideP (fun W (h : Arr W W.heap.size A c.length (u8s c)) => rbitx_in A c ca (k : Int) W h Hhc.out (by have := Hhcl.out; omega) (by omega) (by have := Hhcl.out; omega))
        rw [Hhcl.out, show ((k : Int)).toNat = k by omega] at t1
        have hst := hideP (bl_succ c k)
        have hlt2 : decide ((k : Int) < 64 * (n : Int)) = true := by simp; omega
        obtain ⟨y, hy⟩ : ∃ y, y = bitAt c k := ⟨_, rfl⟩
        rw [← hy] at t1 hst
        clear hy
        go_wp2_with fail
        refine (t1.out wr (HhA.out.after cb.out)).mono ?_
        rintro e W ⟨rfl, rfl⟩
        go_wp2_with (refine wpList_app1 rfl (.tmp 44) (.tmp 48) rfl B R s k (bl c k) (bl_len c k).symm rfl o1.out y rfl (by omega) sr.out ?_; intro A' c' w' ho hb_; have HO := hideP ho; have HB := hideP hb_; clear ho hb_)
        go_roundw
        case rel => exact ⟨k + 1, A', c', by omega, by go_num, rfl, ⟨by rw [hst.out]; exact HO.out, b1.out.trans HB.out, c1.out.below HB.out gB.out, cb.out.trans (HB.out.mono (Nat.le_of_lt gB.out))⟩⟩
        case measure => simp [intOf]; omega
      · obtain rfl : k = 64 * n := by omega
        clear b1
        go_upto_if 50 with fail
        go_cut [11] (fun v11 wx => v11 = .int .u8 (tn be : Nat) ∧ wx = wr)
        case first =>
          cases be
          · go_wp2_with fail
            go_meet
            exact ⟨rfl, rfl⟩
          · go_wp2_with fail
            go_meet
            exact ⟨rfl, rfl⟩
        case rest =>
          obtain ⟨rfl, rfl⟩ := hcut
          obtain ⟨w6, rfl⟩ : ∃ W, W = wc := ⟨_, rfl⟩
          have hτ1 := hideP (show tn be ≤ 1 by cases be <;> decide)
          obtain ⟨τ, hτ⟩ : ∃ τ, τ = tn be := ⟨_, rfl⟩
          obtain ⟨σ, hσ⟩ : ∃ σ, σ = 1 - tn be := ⟨_, rfl⟩
          rw [← hτ] at hτ1 ⊢
          have eσ : (1 : Int) - (τ : Int) = (σ : Int) := by have := hτ1.out; omega
          have hσ1 := hideP (show σ ≤ 1 by omega)
          have Hτ := hideP hτ; have Hσ := hideP hσ
          have hcap := hideP (OwnB.capL o1.out)
          rw [bl_len] at hcap
          clear hτ hσ
          go_wp2
          go_loopw [12] (fun v12 wr => ∃ t : Nat, t ≤ 64 * n ∧ v12 = .int .i64 ((t : Int) - 1) ∧ Hid (RR = findX be (bitAt c) lo hi n t ∧ OwnB wr B R s (bl c (64 * n)) ∧ B ≤ wr.heap.size ∧ Two wr w.heap.size 58 (.slice L n dl) (.slice H n sh) ∧ Below w.heap.size w wr)) (fun v _ => (intOf v + 1).toNat)
          case atStart => exact ⟨64 * n, Nat.le_refl _, by go_num, ⟨hRR3.out, o1.out, sr.out, c1.out, cb.out⟩⟩
          case round =>
            obtain ⟨t, htn, rfl, hI⟩ := hrel
            clear o1 sr c1 cb
            have hres := hideP hI.out.1
            have o1 := hideP hI.out.2.1
            have sr := hideP hI.out.2.2.1
            have c1 := hideP hI.out.2.2.2.1
            have cb := hideP hI.out.2.2.2.2
            clear hI
            rcases t with _ | i
            · have hno := hideP (show RR = none from hres.out)
              go_wp2
              go_ret2
              rw [hno.out]
              exact ⟨rfl, cb.out⟩
            · have ei : (((i + 1 : Nat) : Int) - 1) = (i : Int) := by omega
              rw [ei]
              obtain ⟨g, hge, hgB, hgl, hcp, hcell⟩ := o1.out.at (by rw [bl_len]; omega)
              have hc1 := hcell i (by rw [bl_len]; omega)
              rw [bl_get c _ i (by omega)] at hc1
              unfold b8 at hc1
              subst hge
              have hG := hideP (show B ≤ g ∧ g < wr.heap.size from ⟨hgB, hgl⟩)
              clear hcell hcp ei hgB hgl
              have hstep := hideP (show findX be (bitAt c) lo hi n (i + 1) = if bitAt c i = tn be ∧ cOk (rgn (bend (bitAt c) i (1 - tn be)) (i + 1) n 0) (rgn (bend (bitAt c) i (1 - tn be)) (i + 1) n 1) lo hi n = true then some (code (cornerX be (bend (bitAt c) i (1 - tn be)) lo hi n (i + 1))) else findX be (bitAt c) lo hi n i from rfl)
              rw [← Hσ.out, ← Hτ.out] at hstep
              obtain ⟨y, hy⟩ : ∃ y, y = bitAt c i := ⟨_, rfl⟩
              have hy1 := bitAt_le c i
              rw [← hy] at hc1 hstep hy1
              clear hy
              by_cases hyt : y = τ
              · subst hyt
                have heq : ((y : Int) != (y : Int)) = false := by simp
                have kc := hcap.out
                have ki : decide ((i : Int) ≤ (s : Int)) = true := by simp; omega
                have o1f := hideP (show Arr wr wr.heap.size (some ⟨g, 0, none⟩) i (u8s (bl c i)) from ((o1.out.arr.front (show i ≤ (bl c (64 * n)).length by rw [bl_len]; omega)).congr fun j hj => by
                  unfold u8s; rw [bl_get c _ j (by omega), bl_get c _ j hj]))
                have hk1 := hstep
                go_upto_region 19 with (refine wpList_appn rfl (.tmp 64) (.tmp 67) rfl wr.heap.size _ 0 0 [] rfl rfl (OwnB.lit0 wr) (wr.alloc (.cells #[] 5)).heap.size (some ⟨g, 0, none⟩) i s (bl c i) (bl_len c i).symm rfl (o1f.out.ext (Ext.alloc _ _)) (by omega) (by simp) ?_; intro A' c' w' ho hb_; have HO := hideP ho; have HB := hideP hb_; clear ho hb_)
                have xr := hideP ((below_new wr (.cells #[] 5)).trans HB.out)
                rw [List.nil_append] at HO
                clear HB o1f kc ki heq hc1 hk1
                go_upto_region 20 with (refine wpList_app1 rfl (.tmp 69) (.tmp 72) rfl wr.heap.size A' c' i (bl c i) (bl_len c i).symm rfl HO.out σ rfl (by omega) xr.out.size ?_; intro A2 c2 w2' ho hb_; have HO2 := hideP ho; have HB2 := hideP hb_; clear ho hb_)
                have xm := hideP (Ext.of_below (xr.out.trans HB2.out))
                replace o1 := hideP (o1.out.ext xm.out)
                replace c1 := hideP (c1.out.ext xm.out)
                replace cb := hideP (below_ext cb.out xm.out)
                replace sr := hideP (Nat.le_trans sr.out xm.out.size)
                have AM := hideP HO2.out.arr
                have hlm : (bl c i ++ [σ]).length = i + 1 := by simp [bl_len]
                have tR := hideP (fun W h => region_any A2 (bl c i ++ [σ]) c2 (i + 1) n W h (bend_list_le c i σ hσ1.out) h8 (by omega) (by omega))
                rw [hlm, regL_bend, regL_bend, show ((i + 1 : Nat) : Int) = (i : Int) + 1 from rfl] at tR
                rw [hlm] at AM
                have HLM := hideP hlm
                clear hlm xm xr HB2 HO HO2 hG
                have hfl := bend_le (f := bitAt c) (fun j => bitAt_le c j) (t := i) hσ1.out
                have hbx2 := rgn_bx (bend (bitAt c) i σ) hfl (i + 1) n h1 h8
                have tC := hideP (fun (R R' : Option Addr) (s s' : Nat) (W : World) hX hY hZ hU => rcut_in R R' L H (rgn (bend (bitAt c) i σ) (i + 1) n 0) (rgn (bend (bitAt c) i σ) (i + 1) n 1) lo hi n s s' dl sh W hX hY hZ hU (rgn_len _ _ _ _) (rgn_len _ _ _ _) Hbx.out.ll Hbx.out.hl hbx2.right Hbx.out.right hbx2.li hbx2.hi' Hhp.out Hhq.out)
                have cLI := hideP (show IsI (cornerX be (bend (bitAt c) i σ) lo hi n (i + 1)) from cornerX_I be hfl Hbx.out)
                have cLL := hideP (cornerX_len be (bend (bitAt c) i σ) lo hi n (i + 1))
                have cXd := hideP (show cornerX be (bend (bitAt c) i σ) lo hi n (i + 1) = if be then cHi (rgn (bend (bitAt c) i σ) (i + 1) n 1) hi n else cLo (rgn (bend (bitAt c) i σ) (i + 1) n 0) lo n from rfl)
                obtain ⟨xl, hxl⟩ : ∃ x, x = rgn (bend (bitAt c) i σ) (i + 1) n 0 := ⟨_, rfl⟩
                obtain ⟨xh, hxh⟩ : ∃ x, x = rgn (bend (bitAt c) i σ) (i + 1) n 1 := ⟨_, rfl⟩
                obtain ⟨cn, hcn⟩ : ∃ x, x = cornerX be (bend (bitAt c) i σ) lo hi n (i + 1) := ⟨_, rfl⟩
                rw [← hxl, ← hxh] at tR tC hstep cXd
                rw [← hcn] at hstep cLI cLL cXd
                have hxln := hideP (show xl.length = n by rw [hxl]; exact rgn_len _ _ _ _)
                have hxhn := hideP (show xh.length = n by rw [hxh]; exact rgn_len _ _ _ _)
                obtain ⟨ok, hok⟩ : ∃ b, b = cOk xl xh lo hi n := ⟨_, rfl⟩
                rw [← hok] at tC hstep
                clear hfl hbx2 hxl hxh hcn hok
                have kc10 := c1.out.c0; have kc11 := c1.out.c1
                have e1 : IntKind.i64.wrap ((i : Int) + 1) = (i : Int) + 1 := IntWalk.i64_in _ (by omega)
                have ns := hideP (show ¬ (w2'.heap.size ≤ w.heap.size) by have := c1.out.lt; omega)
                refine wp_region_float 13 (.q 0 (.q 1 (.q 2 (.q 3 (.q 5 (.l 4 (.l 6 (.q 7 (.q 8 (.q 9 .nil)))))))))) (.l 11 (.q 12 .nil)) (fun k => w2'.heap.size ≤ k) [10] (fun _ => .cells #[.slice none 0 0, .slice none 0 0] 58) (by kernel_rfl) (by kernel_rfl) (fun f hf => by
                  obtain rfl : f = 10 := by simpa using hf
                  exact ⟨rfl, fun ρ W => by simp only [nthO_zero, nthO_succ]; go_simp⟩) ?_
                simp only [pickT, nthO_zero, nthO_succ]
                iterate 5 (refine wpF_valK (by rfl) (fun K hK => ?_); apply Exists.intro; refine ⟨fun W hW => ?_, ?_⟩; (focus (have hs0 := hW.cell kc10 ns.out; have hs1 := hW.cell kc11 ns.out; go_simp; (try rfl); done)); go_simp; refine hK _ ?_; clear hK K)
                clear e1 ns
                refine wpF_loudK 59 #[.slice A2 (i + 1) c2, .int .i64 ((i : Int) + 1), .int .i64 n] (by rfl) (fun W => by go_simp) (fun V1 hV1 => (tR.out V1 (AM.out.ext hV1.drew_left)).mono ?_)
                rintro e V2 ⟨R1, s1, R2, s2, rfl, ho1, ho2, hb1⟩
                refine ⟨_, rfl, Ext.of_below hb1, fun K hK => ?_⟩
                go_simp
                refine hK _ ?_
                clear hK K
                have xV2 := hideP (hV1.drew_left.trans (Ext.of_below hb1))
                have a1 := hideP ho1.arr
                have a2 := hideP ho2.arr
                rw [hxln.out] at a1
                rw [hxhn.out] at a2
                have ivv := hideP hV1.drew_left.size
                clear ho1 ho2 hb1 hV1
                refine wpF_loudK 58 #[.agg #[.slice R1 n s1, .slice R2 n s2], .agg #[.slice L n dl, .slice H n sh]] (by rfl) (fun W => by go_simp) (fun V3 hV3 => (tC.out R1 R2 s1 s2 V3 (a1.out.ext hV3) (a2.out.ext hV3) (HhL.out.after (below_ext cb.out (xV2.out.trans hV3))) (HhH.out.after (below_ext cb.out (xV2.out.trans hV3)))).mono ?_)
                intro e V4 hct
                obtain ⟨X, Y, rfl, hX, hY, hb4, hrows⟩ := hct.val
                refine ⟨_, rfl, Ext.of_below hb4, fun K hK => ?_⟩
                go_simp
                refine hK _ ?_
                clear hK K
                have xV4 := hideP (xV2.out.trans (hV3.trans (Ext.of_below hb4)))
                have hR := hideP hrows
                have bV3 := hideP (show w2'.heap.size ≤ V3.heap.size from (xV2.out.trans hV3).size)
                have HX := hideP hX; have HY := hideP hY
                clear hct hV3 hb4 hrows hX hY xV2 a1 a2
                clear kc10 kc11
                iterate 3 (refine wpF_valK (by rfl) (fun K hK => ?_); apply Exists.intro; refine ⟨fun W hW => ?_, ?_⟩; (focus (go_simp; (try rfl); done)); go_simp; refine hK _ ?_; clear hK K)
                refine wpF_nil1 (fun W7 p hW7 hp1 hp2 hp3 hp4 => ?_)
                simp only [pickT, nthO_zero, nthO_succ]
                have tp := hideP (show Two W7 p 58 (.slice none 0 0) (.slice none 0 0) from hp3)
                have hpv := hideP (hp4 (V3.heap.size, V4.heap.size) (by simp))
                have hpb := hideP (show w2'.heap.size ≤ p from hp1)
                have x7 := hideP (xV4.out.trans hW7)
                have rows7 := hideP (fun h => by obtain ⟨R, s, R', s', h1, h2, h3, h4⟩ := hR.out h; exact (⟨R, s, R', s', h1, h2, h3, h3.ext hW7, h4, h4.ext hW7⟩ : ∃ R s R' s', X = .slice R (cLo xl lo n).length s ∧ Y = .slice R' (cHi xh hi n).length s' ∧ Own V4 V3.heap.size R s (cLo xl lo n) ∧ Own W7 V3.heap.size R s (cLo xl lo n) ∧ Own V4 V3.heap.size R' s' (cHi xh hi n) ∧ Own W7 V3.heap.size R' s' (cHi xh hi n)))
                clear hp1 hp2 hp3 hp4 hW7 xV4 hR
                go_simp
                refine wpM_storeK (by rfl) (fun W hW => ⟨_, ⟨exec_store_two 58 (.tmp 14) (.tmp 82) rfl p _ _ 58 _ _ rfl rfl (tp.out.ext hW) size_box' HX.out HY.out, (But.set _ _ _ hpb.out).trans (But.set _ _ _ hpb.out)⟩, fun K hK => ?_⟩)
                go_simp
                refine hK _ ?_
                clear hK K
                have xW := hideP hW
                obtain ⟨W8, hW8⟩ : ∃ V, V = (W.setCell ⟨p, 0, none⟩ X).setCell ⟨p, 1, none⟩ Y := ⟨_, rfl⟩
                have tp8 := hideP (show Two W8 p 58 X Y by rw [hW8]; exact (tp.out.ext xW.out).set2 _ _)
                have x8 := hideP (show Ext w2' W8 by rw [hW8]; exact Ext.of_below (((x7.out.trans xW.out).below.setCell (p := ⟨p, 0, none⟩) hpb.out _).setCell (p := ⟨p, 1, none⟩) hpb.out _))
                have rows8 := hideP (fun h => by
                  obtain ⟨R, s, R', s', e1, e2, h1, h2, h3, h4⟩ := rows7.out h
                  obtain ⟨g1, rfl, g1a, g1b⟩ := h1.at (cLo_len _ _ _) (by omega)
                  obtain ⟨g2, rfl, g2a, g2b⟩ := h3.at (cHi_len _ _ _) (by omega)
                  have hpv' := hpv.out
                  simp only at hpv'
                  exact (⟨_, s, _, s', e1, e2, by rw [hW8]; exact own_two (h2.ext xW.out) (by omega), by rw [hW8]; exact own_two (h4.ext xW.out) (by omega)⟩ : ∃ R s R' s', X = .slice R (cLo xl lo n).length s ∧ Y = .slice R' (cHi xh hi n).length s' ∧ Own W8 V3.heap.size R s (cLo xl lo n) ∧ Own W8 V3.heap.size R' s' (cHi xh hi n)))
                rw [← hW8]
                clear hW8 hW xW tp rows7 x7 hpv
                (refine wpM_valK (by rfl) (fun K hK => ?_); apply Exists.intro; refine ⟨fun W hW => ?_, ?_⟩; (focus (go_simp; (try rfl); done)); go_simp; refine hK _ ?_; clear hK K)
                refine wpM_nil (fun W9 hW9 => ?_)
                try simp only [List.drop_succ_cons, List.drop_zero, List.drop_nil]
                have x9 := hideP (x8.out.trans hW9)
                have tp9 := hideP (tp8.out.ext hW9)
                have rows9 := hideP (fun h => by obtain ⟨R, s, R', s', h1, h2, h3, h4⟩ := rows8.out h; exact (⟨R, s, R', s', h1, h2, h3.ext hW9, h4.ext hW9⟩ : ∃ R s R' s', X = .slice R (cLo xl lo n).length s ∧ Y = .slice R' (cHi xh hi n).length s' ∧ Own W9 V3.heap.size R s (cLo xl lo n) ∧ Own W9 V3.heap.size R' s' (cHi xh hi n)))
                replace o1 := hideP (o1.out.ext x9.out)
                replace c1 := hideP (c1.out.ext x9.out)
                replace cb := hideP (below_ext cb.out x9.out)
                replace sr := hideP (Nat.le_trans sr.out x9.out.size)
                clear hW9 x9 x8 tp8 rows8 hpb bV3 HX HY AM tR tC Hσ
                cases ok
                case false =>
                  have hst2 := hideP (show RR = findX be (bitAt c) lo hi n i by rw [hres.out, hstep.out, if_neg (fun h => by cases h.2)])
                  go_wp2
                  go_roundw
                  case rel =>
                    exact ⟨_, _, _, ⟨i, by omega, rfl, ⟨hst2.out, o1.out, sr.out, c1.out, cb.out⟩⟩, rfl, rfl, rfl⟩
                  case measure => simp [intOf]; omega
                case true =>
                  have hst2 := hideP (show RR = some (code cn) by rw [hres.out, hstep.out, if_pos ⟨rfl, rfl⟩])
                  obtain ⟨R, s, R', s', rfl, rfl, hoL, hoH⟩ := rows9.out rfl
                  rw [cLo_len, cHi_len] at tp9
                  have aL := hideP hoL.arr
                  have aH := hideP hoH.arr
                  rw [cLo_len] at aL
                  rw [cHi_len] at aH
                  clear rows9 hoL hoH hstep hres
                  cases be
                  case false =>
                    have hcode := hideP (fun hX => rcode_any R cn s W9 hX cLI.out (by rw [cLL.out]; exact h8))
                    have eX := cXd.out
                    simp only [Bool.false_eq_true, if_false] at eX
                    rw [← eX] at aL
                    rw [cLL.out] at hcode
                    clear eX cXd
                    have ktp90 := tp9.out.c0; have ktp91 := tp9.out.c1
                    go_wp2_with fail
                    refine (hcode.out aL.out).mono ?_
                    rintro e W10 ⟨RC, dc, rfl, ha, hb_⟩
                    have HA10 := hideP ha; have HB10 := hideP hb_
                    clear ha hb_
                    go_wp2
                    go_ret2
                    rw [hst2.out]
                    exact ⟨RC, dc, rfl, by rw [code_len, cLL.out], HA10.out, bstep cb.out HB10.out⟩
                  case true =>
                    have hcode := hideP (fun hX => rcode_any R' cn s' W9 hX cLI.out (by rw [cLL.out]; exact h8))
                    have eX := cXd.out
                    simp only [if_true] at eX
                    rw [← eX] at aH
                    rw [cLL.out] at hcode
                    clear eX cXd
                    have ktp90 := tp9.out.c0; have ktp91 := tp9.out.c1
                    go_wp2_with fail
                    refine (hcode.out aH.out).mono ?_
                    rintro e W10 ⟨RC, dc, rfl, ha, hb_⟩
                    have HA10 := hideP ha; have HB10 := hideP hb_
                    clear ha hb_
                    go_wp2
                    go_ret2
                    rw [hst2.out]
                    exact ⟨RC, dc, rfl, by rw [code_len, cLL.out], HA10.out, bstep cb.out HB10.out⟩
              · have hst2 := hideP (show RR = findX be (bitAt c) lo hi n i by rw [hres.out, hstep.out, if_neg (fun h => hyt h.1)])
                have hne : ((y : Int) != (τ : Int)) = true := by simp; omega
                clear hyt
                go_wp2
                go_roundw
                case rel => exact ⟨i, by omega, rfl, ⟨hst2.out, o1.out, sr.out, c1.out, cb.out⟩⟩
                case measure => simp [intOf]
end Go.Proofs.Ytjdbpeblbejllaa
