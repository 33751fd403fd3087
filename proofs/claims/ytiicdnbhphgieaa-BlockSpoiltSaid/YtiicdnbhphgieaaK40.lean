/- Blocks read, plain. Contract of the reference's Ops (what is written). -/
import Derived.Test.YtiicdnbhphgieaaK34
import Derived.Test.YtiicdnbhphgieaaK39
set_option linter.unusedVariables false
set_option linter.unusedSimpArgs false
namespace Go.Proofs.Ytiicdnbhphgieaa
open Go.RowKit
theorem blockR_facts {h : HeadD} {l : List OpD} (e : blockR h l = true) : headR h = true ∧ allB l = true ∧ h.ops = tagD 79 (opsB l) := by
  simpa [blockR, Bool.and_eq_true, decide_eq_true_eq] using e
theorem blockR_of {h : HeadD} {l : List OpD} (h1 : headR h = true) (h2 : allB l = true) (h3 : h.ops = tagD 79 (opsB l)) : blockR h l = true := by
  simp [blockR, h1, h2, h3]
theorem rBlock_more {h : HeadD} {l : List OpD} (k : HeadOk h) (e : blockR h l = true) (hI : ∀ o ∈ l, IsI o.row) (m : List Nat) : rBlock (blockB h l ++ m) = if m = [] then some (h, l) else none := by
  obtain ⟨e1, e2, e3⟩ := blockR_facts e
  have t1 := text_app 1048576 (headB h) (textB (opsB l) ++ m) (by rw [k.len]; decide) (by rw [k.len]; decide)
  have t2 := text_app 1048576 (opsB l) m (opsB_small e2) (opsB_small e2)
  unfold rBlock blockB
  rw [List.append_assoc, t1]
  dsimp only
  rw [t2]
  dsimp only
  rw [rHead_app h k e1, readP_app l e2 hI]
  dsimp only
  rw [if_pos e3.symm]
  rcases m with _ | ⟨x, m⟩
  · rfl
  · rw [if_neg (show ¬ rEnd (x :: m) 0 = 0 by unfold rEnd; rw [if_pos ⟨by simp, rfl⟩]; decide), if_neg (List.cons_ne_nil x m)]
theorem rBlock_app {h : HeadD} {l : List OpD} (k : HeadOk h) (e : blockR h l = true) (hI : ∀ o ∈ l, IsI o.row) : rBlock (blockB h l) = some (h, l) := by
  have := rBlock_more k e hI []
  rwa [List.append_nil, if_pos rfl] at this
theorem rBlock_inv {b : List Nat} {h : HeadD} {l : List OpD} (hb : IsB b) (e : rBlock b = some (h, l)) : b = blockB h l ∧ HeadOk h ∧ blockR h l = true ∧ ∀ o ∈ l, IsI o.row := by
  unfold rBlock at e
  rcases q1 : rText 1048576 b 0 with ⟨x, l1, e1⟩
  rw [q1] at e
  dsimp only at e
  rcases q2 : rText 1048576 l1 e1 with ⟨y, l2, e2⟩
  rw [q2] at e
  dsimp only at e
  split at e
  case isFalse => cases e
  rename_i hE
  obtain ⟨rfl, rfl⟩ := rEnd_zero hE
  have b1 : IsB l1 := by have := (text_suf 1048576 b 0).isB hb; rwa [q1] at this
  obtain ⟨rfl, d1, _⟩ := text_inv b1 q2
  obtain ⟨_, d2, _⟩ := text_inv hb q1
  have bx : IsB x := by have := isB_rText 1048576 b 0 hb; rwa [q1] at this
  have bY : IsB y := by have := isB_rText 1048576 l1 0 b1; rwa [q2] at this
  split at e
  case h_2 => cases e
  rename_i h' l' hh hl
  split at e
  case isFalse => cases e
  rename_i hs
  obtain ⟨rfl, rfl⟩ := Prod.mk.inj (Option.some.inj e)
  obtain ⟨f1, f2, f3⟩ := rHead_inv bx hh
  obtain ⟨g1, g2⟩ := readP_inv hl
  refine ⟨?_, f2, blockR_of f3 g1 (by rw [← g2]; exact hs.symm), readP_isI bY hl⟩
  unfold blockB
  rw [d2, d1, List.append_nil, f1, g2]
end Go.Proofs.Ytiicdnbhphgieaa
namespace Go.Proofs.Ytiicdnbhphgieaa
open Go.RowKit
/-- a change's bytes, by the reference -/
def opR (o : OpD) : List Nat := [o.kind] ++ textB (nb o.table) ++ (if o.kind = 1 then [o.cols.length] ++ textsB o.cols else []) ++ (if 2 < o.kind then rowB o.row else [])
def opsR (l : List OpD) : List Nat := be3 l.length ++ (l.map opR).flatten
theorem opR_eq {o : OpD} (h : oprB o = true) : opR o = opB o := by
  have hk := (oprB_facts h).1
  unfold opR opB
  congr 1
  by_cases h2 : 2 < o.kind
  · rw [if_pos h2, if_pos (by omega)]
  · rw [if_neg h2, if_neg (by omega)]
theorem opsR_eq {l : List OpD} (h : allB l = true) : opsR l = opsB l := by
  simp only [allB, Bool.and_eq_true, List.all_eq_true] at h
  unfold opsR opsB
  rw [List.map_congr_left fun o ho => opR_eq (h.1 o ho)]
theorem opsR_succ (l : List OpD) (k : Nat) (hk : k < l.length) : ((l.take (k + 1)).map opR).flatten = ((l.take k).map opR).flatten ++ opR (l.getD k default) := by
  rw [List.take_add_one, List.map_append, List.flatten_append, List.getElem?_eq_getElem hk]
  simp [List.getD, List.getElem?_eq_getElem hk]
theorem opR_len {o : OpD} (h : OpOk o) : (opR o).length ≤ 2000000000 := by
  have h1 := texts_len_le o.cols h.col o.cols.length
  rw [List.take_length] at h1
  have h2 := h.table
  have h3 := h.cols
  have h4 := h.row
  have e1 : (if o.kind = 1 then [o.cols.length] ++ textsB o.cols else []).length ≤ 1 + (textsB o.cols).length := by
    split
    · simp; omega
    · simp
  have e2 : (if 2 < o.kind then rowB o.row else []).length ≤ 1 + 8 * o.row.length := by
    split
    · unfold rowB; rw [List.length_append, rows_len]; exact Nat.le_refl _
    · simp
  unfold opR
  rw [List.length_append, List.length_append, List.length_append, textB_len]
  have : ([o.kind] : List Nat).length = 1 := rfl
  omega
theorem opsR_len {l : List OpD} (h : ∀ i, i < l.length → OpOk (l.getD i default)) : ∀ k, k ≤ l.length → (((l.take k).map opR).flatten).length ≤ k * 2000000000 := by
  intro k hk
  induction k with
  | zero => simp
  | succ k ih =>
    rw [opsR_succ l k (by omega), List.length_append, Nat.succ_mul]
    have := opR_len (h k (by omega))
    have := ih (by omega)
    omega
set_option maxRecDepth 100000 in
set_option maxHeartbeats 4000000 in
theorem rwops_any (A : Option Addr) (l : List OpD) (ps : Nat → OpP) (n c : Nat) (w : World) (hn : n = l.length) (hA : OpsL w w.heap.size A l ps) (hl : n ≤ 10000) (hw : ∀ i, i < n → (l.getD i default).cols.length ≤ 255 ∧ (l.getD i default).row.length ≤ 255) :
    Calls Try.prog 21 #[.slice A n c] w fun e w' => ∃ R d, e = .returned (.slice R (opsR l).length d) ∧ OwnB w' w.heap.size R d (opsR l) ∧ Below w.heap.size w w' := by
  have hT := hideP (rwcount_any n w (by omega))
  have hAA := hideP hA
  have hlen := hideP (fun k (hk : k ≤ n) => opsR_len (fun i hi => (hA.2 i hi).2) k (by omega))
  have hend := hideP (show be3 n ++ ((l.take n).map opR).flatten = opsR l by rw [hn, List.take_length]; rfl)
  have hw' := hideP hw
  have hn' := hideP hn
  obtain ⟨RS, hRS⟩ : ∃ RS, RS = opsR l := ⟨_, rfl⟩
  rw [← hRS] at hend ⊢
  clear hA hn hw hRS
  go_enter Try.func21, Try.ntmps21
  go_wp2_with (go_at_call 70; refine hT.out.mono ?_; rintro e1 w1 ⟨rfl, o1_, b1_⟩; have O1 := hideP o1_; have B1 := hideP b1_; clear o1_ b1_)
  go_loopw [3, 4] (fun v3 v4 wr => ∃ (i : Nat) (R : Option Addr) (m d : Nat), i ≤ n ∧ v4 = .int .i64 (i : Nat) ∧ v3 = .slice R m d ∧ Hid (OwnB wr w.heap.size R d (be3 n ++ ((l.take i).map opR).flatten) ∧ m = (be3 n ++ ((l.take i).map opR).flatten).length ∧ Below w.heap.size w wr)) (fun _ v4 _ => n - (intOf v4).toNat)
  case atStart => exact ⟨0, _, 3, 3, Nat.zero_le _, rfl, rfl, by simpa using O1.out, rfl, B1.out⟩
  case round =>
    obtain ⟨i, R, m, d, hi, rfl, rfl, hV⟩ := hrel
    by_cases hlt : i < n
    · have i1 : (i : Int) < (n : Int) := by omega
      obtain ⟨b0, off, hA, hB0, hc⟩ := hAA.out.1 (by have := hn'.out; omega)
      subst hA
      have hmem := (hAA.out.2 i (by have := hn'.out; omega)).1
      have hok := hideP (hAA.out.2 i (by have := hn'.out; omega)).2
      have hww := hideP (hw'.out i hlt)
      have hrg : w.rangeAt b0 (off + i * 4) (opC (l.getD i default) (ps i)) := hc i (by have := hn'.out; omega)
      have hst := opsR_succ l i (by have := hn'.out; omega)
      obtain ⟨o, ho⟩ : ∃ o, o = l.getD i default := ⟨_, rfl⟩
      obtain ⟨p, hp⟩ : ∃ p, p = ps i := ⟨_, rfl⟩
      rw [← ho] at hmem hok hrg hst hww
      rw [← hp] at hmem hrg
      have hC := hideP (fun W (hW : Below w.heap.size w W) => (hmem.below hW))
      have hll := hideP (show (be3 n ++ ((l.take i).map opR).flatten).length ≤ 100000000000000 by
        rw [List.length_append]
        have h1 := hlen.out i hi
        have h3 : (be3 n).length = 3 := rfl
        omega)
      obtain ⟨P, hP⟩ : ∃ P, P = be3 n ++ ((l.take i).map opR).flatten := ⟨_, rfl⟩
      have hst' := hideP (show P ++ opR o = be3 n ++ ((l.take (i + 1)).map opR).flatten by rw [hst, hP, List.append_assoc])
      rw [← hP] at hV hll
      have O2 := hideP hV.out.1
      have hm := hideP hV.out.2.1
      have B2 := hideP hV.out.2.2
      clear ho hp hmem hst hV hc hP
      obtain ⟨AC, cc, AR, cr⟩ := p
      unfold opC opV at hrg
      have hO := hideP (show opR o = [o.kind] ++ textB (nb o.table) ++ (if o.kind = 1 then [o.cols.length] ++ textsB o.cols else []) ++ (if 2 < o.kind then rowB o.row else []) from rfl)
      obtain ⟨k, e1⟩ : ∃ k, k = o.kind := ⟨_, rfl⟩
      obtain ⟨t, e2⟩ : ∃ k, k = o.table := ⟨_, rfl⟩
      obtain ⟨nc, e3⟩ : ∃ k, k = o.cols.length := ⟨_, rfl⟩
      obtain ⟨nr, e4⟩ : ∃ k, k = o.row.length := ⟨_, rfl⟩
      rw [← e1, ← e2, ← e3, ← e4] at hrg
      rw [← e1, ← e2, ← e3] at hO
      have E3 := hideP e3
      have E4 := hideP e4
      have hkb := hideP (show k < 256 by rw [e1]; exact hok.out.kind)
      have hts := hideP (show t.size ≤ 1048576 by rw [e2]; exact hok.out.table)
      have hcl := hideP (show nc ≤ 255 by rw [e3]; exact hww.out.1)
      have hrl := hideP (show nr ≤ 255 by rw [e4]; exact hww.out.2)
      have hQ := hideP (fun W (hW : Below w.heap.size w W) => (show W.cell? ⟨b0, off + i * 4, none⟩ = some (.int .u8 (k : Nat)) ∧ W.cell? ⟨b0, off + i * 4 + 1, none⟩ = some (.string t) ∧ W.cell? ⟨b0, off + i * 4 + 2, none⟩ = some (.slice AC nc cc) ∧ W.cell? ⟨b0, off + i * 4 + 3, none⟩ = some (.slice AR nr cr) from
        ⟨(hW.cell (p := ⟨b0, off + i * 4, none⟩) hB0).trans (hrg 0 _ rfl), (hW.cell (p := ⟨b0, off + i * 4 + 1, none⟩) hB0).trans (hrg 1 _ rfl), (hW.cell (p := ⟨b0, off + i * 4 + 2, none⟩) hB0).trans (hrg 2 _ rfl), (hW.cell (p := ⟨b0, off + i * 4 + 3, none⟩) hB0).trans (hrg 3 _ rfl)⟩))
      clear e1 e2 e3 e4 hrg hww
      obtain ⟨k0, k1, k2, k3⟩ := hQ.out _ B2.out
      go_upto_region 6 with (at_builtin; refine wpList_app1 rfl (.tmp 15) (.tmp 21) rfl w.heap.size R d m P hm.out rfl O2.out k rfl (by have := hll.out; have := hm.out; omega) B2.out.size ?_; intro R3 d3 w3 o3_ b3_; have O3 := hideP o3_; have B3 := hideP (B2.out.trans b3_); clear o3_ b3_)
      clear k0 k1 k2 k3
      obtain ⟨k0, k1, k2, k3⟩ := hQ.out _ B3.out
      go_upto_region 7 with (first
        | (refine wpList_conv_sb rfl (.tmp 28) rfl t rfl ?_; intro W4 c4 b_ z_ a_; have A4 := hideP a_; have B4 := hideP (bstep B3.out b_); have O4 := hideP (O3.out.after b_); clear b_ z_ a_)
        | (go_at_call 71; refine (rwtext_any _ (nb t) t.size c4 W4 (nb_len t).symm A4.out (by have := hts.out; omega)).mono ?_; rintro e1 w5 ⟨R5, d5, rfl, o5_, b5_⟩; have Q5 := hideP o5_.arr; have B5 := hideP (bstep B4.out b5_); have O5 := hideP (O4.out.after b5_); clear o5_ b5_)
        | (at_builtin; refine wpList_appn rfl (.tmp 23) (.tmp 30) rfl w.heap.size R3 d3 (m + 1) (P ++ [k]) (by have := hm.out; simp; omega) rfl O5.out w5.heap.size R5 (textB (nb t)).length d5 (textB (nb t)) rfl rfl Q5.out (by rw [textB_len]; have := hll.out; have := hm.out; have := hts.out; omega) B5.out.size ?_; intro R6 d6 w6 o6_ b6_; have O6 := hideP o6_; have B6 := hideP (B5.out.trans b6_); clear o6_ b6_))
      obtain ⟨m1, hm1⟩ : ∃ m1, m1 = m + 1 + (textB (nb t)).length := ⟨_, rfl⟩
      rw [← hm1]
      obtain ⟨P1, hP1⟩ : ∃ P1, P1 = P ++ [k] ++ textB (nb t) := ⟨_, rfl⟩
      rw [← hP1] at O6
      have hM1 := hideP (show m1 = P1.length by rw [hm1, hP1, List.length_append, List.length_append, ← hm.out]; rfl)
      have hL1 := hideP (show P1.length ≤ 100000010000000 by rw [hP1, List.length_append, List.length_append, textB_len]; have := hll.out; have := hts.out; simp; omega)
      have hP2 := hideP (show P ++ opR o = P1 ++ (if k = 1 then [nc] ++ textsB o.cols else []) ++ (if 2 < k then rowB o.row else []) by rw [hO.out, hP1]; simp only [List.append_assoc])
      clear hm1 hP1 O5 O4 O3 O2 Q5 A4 B5 B4 B3 B2 hm hll hO k0 k1 k2 k3
      obtain ⟨k0, k1, k2, k3⟩ := hQ.out _ B6.out
      by_cases h1 : k = 1
      · subst h1
        have hP3 := hideP (show P ++ opR o = P1 ++ [nc] ++ textsB o.cols by rw [hP2.out]; simp)
        clear hP2
        have m255 : (nc : Int) % 256 = (nc : Int) := by have := hcl.out; omega
        go_upto_region 9 with (at_builtin; refine wpList_app1 rfl (.tmp 38) (.tmp 46) rfl w.heap.size R6 d6 m1 P1 hM1.out rfl O6.out nc rfl (by have := hL1.out; have := hM1.out; omega) B6.out.size ?_; intro R7 d7 w7 o7_ b7_; have O7 := hideP o7_; have B7 := hideP (B6.out.trans b7_); clear o7_ b7_)
        obtain ⟨m2, hm2⟩ : ∃ m2, m2 = m1 + 1 := ⟨_, rfl⟩
        rw [← hm2]
        obtain ⟨P2, hP2⟩ : ∃ P2, P2 = P1 ++ [nc] := ⟨_, rfl⟩
        have hM2 := hideP (show m2 = P2.length by rw [hm2, hP2, List.length_append, ← hM1.out]; rfl)
        have hL2 := hideP (show P2.length ≤ 100000020000000 by rw [hP2, List.length_append]; have := hL1.out; simp; omega)
        rw [← hP2] at O7 hP3
        clear hm2 hP2 O6 B6 hM1 hL1 k0 k1 k2 k3
        have hcs := hideP hok.out.col
        have hcc := hideP (fun W (hW : Below w.heap.size w W) => (hC.out W hW).cols)
        obtain ⟨L, hL⟩ : ∃ L, L = o.cols := ⟨_, rfl⟩
        rw [← hL] at hP3 hcs hcc E3
        rw [← E3.out] at hcc
        clear hL
        go_wp2_with fail
        go_loopw [3, 5] (fun v3 v5 W => ∃ (j : Nat) (R : Option Addr) (m d : Nat), j ≤ nc ∧ v5 = .int .i64 (j : Nat) ∧ v3 = .slice R m d ∧ Hid (OwnB W w.heap.size R d (P2 ++ textsB (L.take j)) ∧ m = (P2 ++ textsB (L.take j)).length ∧ Below w.heap.size w W)) (fun _ v5 _ => nc - (intOf v5).toNat)
        case atStart => exact ⟨0, R7, m2, d7, Nat.zero_le _, rfl, rfl, by simpa [textsB] using O7.out, by simpa [textsB] using hM2.out, B7.out⟩
        case round =>
          obtain ⟨j, Rj, mj, dj, hj, rfl, rfl, hW⟩ := hrel
          have Oj := hideP hW.out.1
          have Mj := hideP hW.out.2.1
          have Bj := hideP hW.out.2.2
          clear hW
          by_cases hjl : j < nc
          · have j1 : (j : Int) < (nc : Int) := by omega
            obtain ⟨k0, k1, k2, k3⟩ := hQ.out _ Bj.out
            obtain ⟨b9, of9, hA9, hB9, hc9⟩ := (hcc.out _ Bj.out) (by omega)
            subst hA9
            have c9 := hc9 j hjl
            unfold strs at c9
            have hx := hideP (hcs.out j)
            have hsx := hideP (textsB_succ L j (by rw [← E3.out]; exact hjl))
            obtain ⟨x, hxx⟩ : ∃ x, x = L.getD j default := ⟨_, rfl⟩
            rw [← hxx] at c9 hsx hx
            have hsx' := hideP (show P2 ++ textsB (L.take j) ++ textB (nb x) = P2 ++ textsB (L.take (j + 1)) by rw [hsx.out, List.append_assoc])
            have hlj := hideP (show (P2 ++ textsB (L.take j)).length ≤ 100001020000000 by
              rw [List.length_append]
              have h1 := texts_len_le L hcs.out j
              have := hL2.out
              have := hcl.out
              have : j * 1048579 ≤ 255 * 1048579 := Nat.mul_le_mul_right _ (by omega)
              omega)
            obtain ⟨Pj, hPj⟩ : ∃ Pj, Pj = P2 ++ textsB (L.take j) := ⟨_, rfl⟩
            rw [← hPj] at hsx' Oj Mj hlj
            clear hxx hc9 hsx hPj
            go_wp2_with (first
              | (refine wpList_conv_sb rfl (.tmp 66) rfl x rfl ?_; intro W4 c4 b_ z_ a_; have A4 := hideP a_; have B4 := hideP (bstep Bj.out b_); have O4 := hideP (Oj.out.after b_); clear b_ z_ a_)
              | (go_at_call 71; refine (rwtext_any _ (nb x) x.size c4 W4 (nb_len x).symm A4.out (by have := hx.out; omega)).mono ?_; rintro e1 w5 ⟨R5, d5, rfl, o5_, b5_⟩; have Q5 := hideP o5_.arr; have B5 := hideP (bstep B4.out b5_); have O5 := hideP (O4.out.after b5_); clear o5_ b5_)
              | (at_builtin; refine wpList_appn rfl (.tmp 58) (.tmp 68) rfl w.heap.size Rj dj mj Pj Mj.out rfl O5.out w5.heap.size R5 (textB (nb x)).length d5 (textB (nb x)) rfl rfl Q5.out (by rw [textB_len]; have := hlj.out; have := Mj.out; have := hx.out; omega) B5.out.size ?_; intro R6 d6 w6 o6_ b6_; have O6 := hideP o6_; have B6 := hideP (B5.out.trans b6_); clear o6_ b6_))
            rw [hsx'.out] at O6
            go_roundw
            case rel => exact ⟨j + 1, R6, _, d6, by omega, by go_num, rfl, O6.out, by rw [← hsx'.out, List.length_append, ← Mj.out], B6.out⟩
            case measure => simp [intOf]; omega
          · obtain rfl : nc = j := by omega
            have j1 : ¬ ((nc : Int) < (nc : Int)) := by omega
            have hff := hideP (show P2 ++ textsB (L.take nc) = P ++ opR o by rw [hP3.out, E3.out, List.take_length])
            rw [hff.out] at Oj Mj
            obtain ⟨k0, k1, k2, k3⟩ := hQ.out _ Bj.out
            go_wp2_with fail
            go_roundw
            case rel => exact ⟨i + 1, Rj, mj, dj, by omega, by go_num, rfl, by rw [← hst'.out]; exact Oj.out, by rw [← hst'.out]; exact Mj.out, Bj.out⟩
            case measure => simp [intOf]; omega
      · have h1' : ((k : Int) == 1) = false := by simp; omega
        by_cases h2 : 2 < k
        · have h2' : (2 : Int) < (k : Int) := by omega
          have hP3 := hideP (show P ++ opR o = P1 ++ rowB o.row by rw [hP2.out, if_neg h1, if_pos h2]; simp)
          have hrw := hideP (fun W (hW : Below w.heap.size w W) => rwrow_any AR o.row nr cr W E4.out ((hC.out W hW).row.more hW.size |> fun x => by rw [E4.out]; exact x) hok.out.num hrl.out)
          have hrb := hideP (show (rowB o.row).length ≤ 100000 by unfold rowB; rw [List.length_append, rows_len, ← E4.out]; have := hrl.out; simp; omega)
          obtain ⟨r, hr⟩ : ∃ r, r = rowB o.row := ⟨_, rfl⟩
          rw [← hr] at hP3 hrw hrb
          clear hP2 hr h1
          go_wp2_with (first
            | (go_at_call 72; refine (hrw.out _ B6.out).mono ?_; rintro e1 w7 ⟨R7, d7, rfl, o7_, b7_⟩; have Q7 := hideP o7_.arr; have B7 := hideP (bstep B6.out b7_); have O7 := hideP (O6.out.after b7_); clear o7_ b7_)
            | (at_builtin; refine wpList_appn rfl (.tmp 76) (.tmp 82) rfl w.heap.size R6 d6 m1 P1 hM1.out rfl O7.out w7.heap.size R7 r.length d7 r rfl rfl Q7.out (by have := hL1.out; have := hM1.out; have := hrb.out; omega) B7.out.size ?_; intro R8 d8 w8 o8_ b8_; have O8 := hideP o8_; have B8 := hideP (B7.out.trans b8_); clear o8_ b8_))
          go_roundw
          case rel => exact ⟨i + 1, R8, _, d8, by omega, by go_num, rfl, by rw [← hst'.out, hP3.out]; exact O8.out, by rw [← hst'.out, hP3.out, List.length_append, ← hM1.out], B8.out⟩
          case measure => simp [intOf]; omega
        · have h2' : ¬ (2 : Int) < (k : Int) := by omega
          have hP3 := hideP (show P ++ opR o = P1 by rw [hP2.out, if_neg h1, if_neg h2]; simp)
          clear hP2 h1
          go_wp2_with fail
          go_roundw
          case rel => exact ⟨i + 1, R6, m1, d6, by omega, by go_num, rfl, by rw [← hst'.out, hP3.out]; exact O6.out, by rw [← hst'.out, hP3.out]; exact hM1.out, B6.out⟩
          case measure => simp [intOf]; omega
    · obtain rfl : n = i := by omega
      have i1 : ¬ ((n : Int) < (n : Int)) := by omega
      have hf := hideP (show OwnB wr w.heap.size R d RS by rw [← hend.out]; exact hV.out.1)
      have hB := hideP hV.out.2.2
      have hl := hideP (show m = RS.length by rw [← hend.out]; exact hV.out.2.1)
      clear hV
      go_wp2_with fail
      go_ret
      exact ⟨R, d, by rw [← hl.out]; rfl, hf.out, hB.out⟩
end Go.Proofs.Ytiicdnbhphgieaa
