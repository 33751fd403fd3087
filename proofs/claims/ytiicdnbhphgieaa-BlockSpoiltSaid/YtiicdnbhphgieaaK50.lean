/- Lists of changes of any size: contracts of the law's Great and all. -/
import Derived.Test.YtiicdnbhphgieaaK42
set_option linter.unusedVariables false
set_option linter.unusedSimpArgs false
namespace Go.Proofs.Ytiicdnbhphgieaa
open Go.RowKit
/-- a slice of changes, of any sizes -/
def OpsM (w : World) (B : Nat) (A : Option Addr) (l : List OpD) (ps : Nat → OpP) : Prop :=
  ArrC w B A l.length 4 (fun i => opC (l.getD i default) (ps i)) ∧ ∀ i, i < l.length → OpMem w B (l.getD i default) (ps i) ∧ (l.getD i default).kind < 256 ∧ IsI (l.getD i default).row
section
variable {w w' : World} {B B' : Nat} {A : Option Addr} {l : List OpD} {ps : Nat → OpP}
theorem OpsM.below (h : OpsM w B A l ps) (hb : Below B w w') : OpsM w' B A l ps := ⟨h.1.below hb, fun i hi => ⟨(h.2 i hi).1.below hb, (h.2 i hi).2⟩⟩
theorem OpsM.more (h : OpsM w B A l ps) (hB : B ≤ B') : OpsM w B' A l ps := ⟨h.1.more hB, fun i hi => ⟨(h.2 i hi).1.more hB, (h.2 i hi).2⟩⟩
theorem OpsM.after (h : OpsM w w.heap.size A l ps) (hb : Below w.heap.size w w') : OpsM w' w'.heap.size A l ps := (h.below hb).more hb.size
end
def wideC (cs : List ByteArray) : Nat → Bool := anyTo fun k => decide (100 < (cs.getD k default).size)
def greatO (o : OpD) : Bool := decide (100 < o.table.size) || (decide (20 < o.cols.length) || (decide (50 < o.row.length) || wideC o.cols o.cols.length))
def greatB (l : List OpD) : Bool := decide (300 < l.length) || anyTo (fun i => greatO (l.getD i default)) l.length
theorem anyTo_false {p : Nat → Bool} {n : Nat} (h : anyTo p n = false) (k : Nat) (hk : k < n) : p k = false := by
  unfold anyTo at h
  rw [List.any_eq_false] at h
  simpa using h k (List.mem_range.2 hk)
/-- what is left where the changes are not great -/
theorem small_ops {w : World} {B : Nat} {A : Option Addr} {l : List OpD} {ps : Nat → OpP} (h : OpsM w B A l ps) (hg : greatB l = false) : l.length ≤ 300 ∧ OpsL w B A l ps ∧ ∀ i, i < l.length → (l.getD i default).cols.length ≤ 255 ∧ (l.getD i default).row.length ≤ 255 := by
  simp only [greatB, Bool.or_eq_false_iff, decide_eq_false_iff_not] at hg
  have hO : ∀ i, i < l.length → (l.getD i default).table.size ≤ 100 ∧ (l.getD i default).cols.length ≤ 20 ∧ (l.getD i default).row.length ≤ 50 ∧ ∀ k, ((l.getD i default).cols.getD k default).size ≤ 100 := fun i hi => by
    have := anyTo_false hg.2 i hi
    simp only [greatO, Bool.or_eq_false_iff, decide_eq_false_iff_not] at this
    refine ⟨by omega, by omega, by omega, fun k => ?_⟩
    rcases Nat.lt_or_ge k (l.getD i default).cols.length with hk | hk
    · have := anyTo_false this.2.2.2 k hk
      simp only [decide_eq_false_iff_not] at this
      omega
    · have e : ∀ (L : List ByteArray), L.length ≤ k → L.getD k default = default := fun L h => by simp [List.getD, List.getElem?_eq_none h]
      rw [e _ hk]; decide
  refine ⟨by omega, ⟨h.1, fun i hi => ⟨(h.2 i hi).1, ⟨(h.2 i hi).2.1, ?_, fun k => ?_, ?_, ?_, (h.2 i hi).2.2⟩⟩⟩, fun i hi => ?_⟩
  · have := (hO i hi).1; omega
  · have := (hO i hi).2.2.2 k; omega
  · have := (hO i hi).2.1; omega
  · have := (hO i hi).2.2.1; omega
  · have := (hO i hi).2.1; have := (hO i hi).2.2.1; omega
set_option maxRecDepth 100000 in
set_option maxHeartbeats 4000000 in
theorem great19_any (A : Option Addr) (l : List OpD) (ps : Nat → OpP) (n c : Nat) (w : World) (hn : n = l.length) (hA : OpsM w w.heap.size A l ps) :
    Calls Try.prog 13 #[.slice A n c] w fun e w' => e = .returned (.bool (greatB l)) ∧ w = w' := by
  obtain ⟨RS, hRS⟩ : ∃ RS, RS = greatB l := ⟨_, rfl⟩
  rw [← hRS]
  have hE := hideP (show RS = (decide (300 < n) || anyTo (fun i => greatO (l.getD i default)) n) by rw [hRS, hn]; rfl)
  have hAA := hideP hA
  have hn' := hideP hn
  clear hA hRS hn
  by_cases h3 : n ≤ 300
  · have h3' : ¬ (300 : Int) < (n : Int) := by omega
    have hE2 := hideP (show RS = anyTo (fun i => greatO (l.getD i default)) n by rw [hE.out]; simp; omega)
    clear hE
    go_enter Try.func13, Try.ntmps13
    go_wp2
    go_loop [3] (fun v3 => ∃ i : Nat, i ≤ n ∧ v3 = .int .i64 (i : Nat) ∧ Hid (anyTo (fun i => greatO (l.getD i default)) i = false)) (fun v3 => n - (intOf v3).toNat)
    case atStart => exact ⟨0, Nat.zero_le _, rfl, rfl⟩
    case round =>
      obtain ⟨i, hi, rfl, hV⟩ := hrel
      by_cases hlt : i < n
      · have i1 : (i : Int) < (n : Int) := by omega
        obtain ⟨b0, off, hA, hB0, hc⟩ := hAA.out.1 (by have := hn'.out; omega)
        subst hA
        have hm := (hAA.out.2 i (by have := hn'.out; omega)).1
        have hrg : w.rangeAt b0 (off + i * 4) (opC (l.getD i default) (ps i)) := hc i (by have := hn'.out; omega)
        have hst := hideP (anyTo_succ (fun i => greatO (l.getD i default)) i)
        have hno := hideP (fun h => (anyTo_true (p := fun i => greatO (l.getD i default)) hlt h))
        obtain ⟨o, ho⟩ : ∃ o, o = l.getD i default := ⟨_, rfl⟩
        obtain ⟨⟨AC, cc, AR, cr⟩, hp⟩ : ∃ p, p = ps i := ⟨_, rfl⟩
        rw [← ho] at hm hrg
        rw [← hp] at hm hrg
        (try dsimp only at hst); (try dsimp only at hno)
        rw [← ho] at hst hno
        unfold opC at hrg
        have hG := hideP (show greatO o = (decide (100 < o.table.size) || (decide (20 < o.cols.length) || (decide (50 < o.row.length) || wideC o.cols o.cols.length))) from rfl)
        have hcl := hideP hm.cols
        obtain ⟨k, e1⟩ : ∃ k, k = o.kind := ⟨_, rfl⟩
        obtain ⟨t, e2⟩ : ∃ k, k = o.table := ⟨_, rfl⟩
        obtain ⟨nc, e3⟩ : ∃ k, k = o.cols.length := ⟨_, rfl⟩
        obtain ⟨nr, e4⟩ : ∃ k, k = o.row.length := ⟨_, rfl⟩
        obtain ⟨L, e5⟩ : ∃ L, L = o.cols := ⟨_, rfl⟩
        obtain ⟨G, e6⟩ : ∃ G, G = greatO o := ⟨_, rfl⟩
        rw [← e1, ← e2, ← e3, ← e4] at hrg
        rw [← e6, ← e2, ← e3, ← e4, ← e5] at hG
        rw [← e3, ← e5] at hcl
        rw [← e6] at hst hno
        obtain ⟨k0, k1, k2, k3⟩ := ops_cells i k nc cc nr cr t AC AR hB0 hrg w (Below.refl _ _)
        have Hbad := hideP (fun h => (show RS = true by rw [hE2.out]; exact hno.out h))
        clear e1 e2 e3 e4 e5 e6 hrg hm ho hp hc hno
        by_cases c1 : t.size ≤ 100
        · have c1' : decide ((100 : Int) < (t.size : Int)) = false := by simp; omega
          by_cases c2 : nc ≤ 20
          · have c2' : decide ((20 : Int) < (nc : Int)) = false := by simp; omega
            by_cases c3 : nr ≤ 50
            · have c3' : decide ((50 : Int) < (nr : Int)) = false := by simp; omega
              have hG2 := hideP (show G = wideC L nc by rw [hG.out, decide_eq_false (by omega), decide_eq_false (by omega), decide_eq_false (by omega)]; rfl)
              clear hG
              go_upto_region 8 with fail
              go_wp2_with fail
              go_loop [4] (fun v4 => ∃ j : Nat, j ≤ nc ∧ v4 = .int .i64 (j : Nat) ∧ Hid (wideC L j = false)) (fun v4 => nc - (intOf v4).toNat)
              case atStart => exact ⟨0, Nat.zero_le _, rfl, rfl⟩
              case round =>
                obtain ⟨j, hj, rfl, hW⟩ := hrel
                by_cases hjl : j < nc
                · have j1 : (j : Int) < (nc : Int) := by omega
                  obtain ⟨b9, of9, hA9, hB9, hc9⟩ := hcl.out (by omega)
                  subst hA9
                  have c9 := hc9 j hjl
                  unfold strs at c9
                  have hs1 := hideP (anyTo_succ (fun k => decide (100 < (L.getD k default).size)) j)
                  have hn1 := hideP (fun h => (anyTo_true (p := fun k => decide (100 < (L.getD k default).size)) hjl h))
                  obtain ⟨x, hxx⟩ : ∃ x, x = L.getD j default := ⟨_, rfl⟩
                  (try dsimp only at hs1); (try dsimp only at hn1)
                  rw [← hxx] at c9 hs1 hn1
                  clear hxx hc9
                  by_cases c4 : x.size ≤ 100
                  · have c4' : ¬ (100 : Int) < (x.size : Int) := by omega
                    have hs2 := hideP (show wideC L (j + 1) = false by unfold wideC; rw [hs1.out]; have := hW.out; unfold wideC at this; rw [this]; simp; omega)
                    go_wp2_with fail
                    go_round
                    case rel => exact ⟨j + 1, by omega, by go_num, hs2.out⟩
                    case measure => simp [intOf]; omega
                  · have c4' : (100 : Int) < (x.size : Int) := by omega
                    have hf := hideP (Hbad.out (by rw [hG2.out]; unfold wideC; exact hn1.out (by simp; omega)))
                    go_wp2_with fail
                    go_ret
                    exact ⟨ret_bool hf.out.symm, rfl⟩
                · obtain rfl : nc = j := by omega
                  have j1 : ¬ ((nc : Int) < (nc : Int)) := by omega
                  have hs2 := hideP (show anyTo (fun i => greatO (l.getD i default)) (i + 1) = false by rw [hst.out, hV.out, hG2.out, hW.out]; rfl)
                  go_wp2_with fail
                  go_round
                  case rel => exact ⟨i + 1, by omega, by go_num, hs2.out⟩
                  case measure => simp [intOf]; omega
            · have c3' : decide ((50 : Int) < (nr : Int)) = true := by simp; omega
              have hf := hideP (Hbad.out (by rw [hG.out]; simp; omega))
              go_wp2_with fail
              go_ret
              exact ⟨ret_bool hf.out.symm, rfl⟩
          · have c2' : decide ((20 : Int) < (nc : Int)) = true := by simp; omega
            have hf := hideP (Hbad.out (by rw [hG.out]; simp; omega))
            go_wp2_with fail
            go_ret
            exact ⟨ret_bool hf.out.symm, rfl⟩
        · have c1' : decide ((100 : Int) < (t.size : Int)) = true := by simp; omega
          have hf := hideP (Hbad.out (by rw [hG.out]; simp; omega))
          go_wp2_with fail
          go_ret
          exact ⟨ret_bool hf.out.symm, rfl⟩
      · obtain rfl : n = i := by omega
        have i1 : ¬ ((n : Int) < (n : Int)) := by omega
        go_wp2_with fail
        go_ret
        exact ⟨ret_bool (by rw [hE2.out]; exact hV.out.symm), rfl⟩
  · have h3' : (300 : Int) < (n : Int) := by omega
    have hf := hideP (show RS = true by rw [hE.out]; simp; omega)
    clear hE
    go_enter Try.func13, Try.ntmps13
    go_wp2_with fail
    go_ret
    exact ⟨ret_bool hf.out.symm, rfl⟩
set_option maxRecDepth 100000 in
set_option maxHeartbeats 4000000 in
theorem all19_any (A : Option Addr) (l : List OpD) (ps : Nat → OpP) (n c : Nat) (w : World) (hn : n = l.length) (hA : OpsL w w.heap.size A l ps) (hl : n ≤ 1000000) :
    Calls Try.prog 19 #[.slice A n c] w fun e w' => e = .returned (.bool (allB l)) ∧ Below w.heap.size w w' := by
  obtain ⟨RS, hRS⟩ : ∃ RS, RS = allB l := ⟨_, rfl⟩
  rw [← hRS]
  have hE := hideP (show RS = (!(anyTo (fun i => !oprB (l.getD i default)) n) && decide (n ≤ 256)) by rw [hRS, allB, hn, anyTo_all, Bool.not_not])
  have hAA := hideP hA
  have hn' := hideP hn
  have hsz := hideP (show (Try.prog.info? 30).map (·.size) = some 4 by kernel_rfl)
  clear hA hRS hn
  go_enter Try.func19, Try.ntmps19
  go_wp2
  go_loopw [3] (fun v3 wr => ∃ i : Nat, i ≤ n ∧ v3 = .int .i64 (i : Nat) ∧ Hid (anyTo (fun i => !oprB (l.getD i default)) i = false ∧ Below w.heap.size w wr)) (fun v3 _ => n - (intOf v3).toNat)
  case atStart => exact ⟨0, Nat.zero_le _, rfl, rfl, Below.refl _ _⟩
  case round =>
    obtain ⟨i, hi, rfl, hV⟩ := hrel
    by_cases hlt : i < n
    · have i1 : (i : Int) < (n : Int) := by omega
      obtain ⟨b0, off, hA, hB0, hc⟩ := hAA.out.1 (by have := hn'.out; omega)
      subst hA
      have hm := (hAA.out.2 i (by have := hn'.out; omega)).1
      have hok := hideP (hAA.out.2 i (by have := hn'.out; omega)).2
      have hrg : wr.rangeAt b0 (off + i * 4) (opC (l.getD i default) (ps i)) := fun j v hv => (hV.out.2.cell (p := ⟨b0, off + i * 4 + j, none⟩) hB0).trans (hc i (by have := hn'.out; omega) j v hv)
      have hst := hideP (anyTo_succ (fun i => !oprB (l.getD i default)) i)
      have hno := hideP (fun h => (anyTo_true (p := fun i => !oprB (l.getD i default)) hlt h))
      obtain ⟨o, ho⟩ : ∃ o, o = l.getD i default := ⟨_, rfl⟩
      obtain ⟨⟨AC, cc, AR, cr⟩, hp⟩ : ∃ p, p = ps i := ⟨_, rfl⟩
      rw [← ho] at hm hrg hok
      rw [← hp] at hm hrg
      (try dsimp only at hst); (try dsimp only at hno)
      rw [← ho] at hst hno
      unfold opC at hrg
      have hR := hideP (rright_any o o.kind o.cols.length o.row.length o.table AC AR cc cr wr rfl rfl rfl rfl ((hm.below hV.out.2).cols.more hV.out.2.size) (fun j => by have := hok.out.col j; omega) (by have := hok.out.table; omega) (by have := hok.out.cols; omega) (by have := hok.out.row; omega))
      obtain ⟨k, e1⟩ : ∃ k, k = o.kind := ⟨_, rfl⟩
      obtain ⟨t, e2⟩ : ∃ k, k = o.table := ⟨_, rfl⟩
      obtain ⟨nc, e3⟩ : ∃ k, k = o.cols.length := ⟨_, rfl⟩
      obtain ⟨nr, e4⟩ : ∃ k, k = o.row.length := ⟨_, rfl⟩
      obtain ⟨G, e6⟩ : ∃ G, G = oprB o := ⟨_, rfl⟩
      rw [← e1, ← e2, ← e3, ← e4] at hrg hR
      rw [← e6] at hst hno hR
      have Hrg := hideP hrg
      clear e1 e2 e3 e4 e6 hrg hm ho hp hc hok
      rcases Bool.eq_false_or_eq_true G with hG | hG
      · subst hG
        have hs2 := hideP (show anyTo (fun i => !oprB (l.getD i default)) (i + 1) = false by rw [hst.out, hV.out.1]; rfl)
        go_wp2_with (first
          | (refine wpList_load_mid rfl 30 (.tmp 12) rfl b0 (off + i * 4) rfl [.int .u8 (k : Nat), .string t, .slice AC nc cc, .slice AR nr cr] _ Hrg.out Try.underlying30 rfl hsz.out ?_)
          | (go_at_call 15; refine hR.out.mono ?_; rintro e1 w2 ⟨rfl, b_⟩; have B2 := hideP (hV.out.2.trans (b_.mono hV.out.2.size)); clear b_))
        go_roundw
        case rel => exact ⟨i + 1, by omega, by go_num, hs2.out, B2.out⟩
        case measure => simp [intOf]; omega
      · subst hG
        have hf := hideP (show RS = false by rw [hE.out, hno.out rfl]; rfl)
        go_wp2_with (first
          | (refine wpList_load_mid rfl 30 (.tmp 12) rfl b0 (off + i * 4) rfl [.int .u8 (k : Nat), .string t, .slice AC nc cc, .slice AR nr cr] _ Hrg.out Try.underlying30 rfl hsz.out ?_)
          | (go_at_call 15; refine hR.out.mono ?_; rintro e1 w2 ⟨rfl, b_⟩; have B2 := hideP (hV.out.2.trans (b_.mono hV.out.2.size)); clear b_))
        go_ret
        exact ⟨ret_bool hf.out.symm, B2.out⟩
    · obtain rfl : n = i := by omega
      have i1 : ¬ ((n : Int) < (n : Int)) := by omega
      by_cases h6 : n ≤ 256
      · have hf := hideP (show RS = true by rw [hE.out, hV.out.1]; simpa using h6)
        go_wp2_with fail
        go_ret
        exact ⟨ret_bool (by rw [hf.out]; simp; omega), hV.out.2⟩
      · have hf := hideP (show RS = false by rw [hE.out, hV.out.1]; simpa using h6)
        go_wp2_with fail
        go_ret
        exact ⟨ret_bool (by rw [hf.out]; simp; omega), hV.out.2⟩
end Go.Proofs.Ytiicdnbhphgieaa
