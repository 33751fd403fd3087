/- Contracts of the reference's Name and of slices.Index, slices.Contains at texts. Contracts of block.IsName and block.areCols. -/
import Derived.Deep.DeepCutAuto
import Derived.Laws.RangeAny
import Derived.Test.YtiicdnbhphgieaaK20
set_option linter.unusedVariables false
set_option linter.unusedSimpArgs false
namespace Go.Proofs.Ytiicdnbhphgieaa
open Go.RowKit
theorem okCh_iff (i c : Nat) : okCh i c = true ↔ (97 ≤ c ∧ c ≤ 122) ∨ (0 < i ∧ ((48 ≤ c ∧ c ≤ 57) ∨ c = 95)) := by
  simp [okCh]
theorem okTo_step {s : ByteArray} {k : Nat} (hk : k < s.size) (h : okTo (nb s) k = true) (hc : (97 ≤ (s[k].toNat : Int) ∧ (s[k].toNat : Int) ≤ 122) ∨ (0 < k ∧ ((48 ≤ (s[k].toNat : Int) ∧ (s[k].toNat : Int) ≤ 57) ∨ (s[k].toNat : Int) = 95))) : okTo (nb s) (k + 1) = true := by
  rw [okTo_succ, h, nb_getD s k hk, Bool.true_and, okCh_iff]
  omega
theorem name_stop {s : ByteArray} {k : Nat} (hk : k < s.size) (hc : ¬ ((97 ≤ (s[k].toNat : Int) ∧ (s[k].toNat : Int) ≤ 122) ∨ (0 < k ∧ ((48 ≤ (s[k].toNat : Int) ∧ (s[k].toNat : Int) ≤ 57) ∨ (s[k].toNat : Int) = 95)))) : nameB (nb s) = false := by
  unfold nameB
  rw [okTo_false (nb s) (k := k) (by rw [nb_len]; exact hk) (by rw [nb_getD s k hk, Bool.eq_false_iff]; intro h; rw [okCh_iff] at h; omega)]
  rfl
theorem name_end {s : ByteArray} (h : okTo (nb s) s.size = true) : nameB (nb s) = (decide (0 < s.size) && decide (s.size ≤ 16)) := by
  unfold nameB
  rw [nb_len, h, Bool.true_and]
set_option maxRecDepth 100000 in
set_option maxHeartbeats 1000000 in
theorem rname_any (s : ByteArray) (w : World) (hs : s.size ≤ 140737488351232) :
    Calls Try.prog 18 #[.string s] w fun e w' => e = .returned (.bool (nameB (nb s))) ∧ w = w' := by
  obtain ⟨RS, hRS⟩ : ∃ RS, RS = nameB (nb s) := ⟨_, rfl⟩
  rw [← hRS]
  have HhRS := hideP hRS; clear hRS
  go_enter Try.func18, Try.ntmps18
  go_wp2
  go_loop [3] (fun v3 => ∃ k : Nat, k ≤ s.size ∧ v3 = .int .i64 (k : Nat) ∧ Hid (okTo (nb s) k = true)) (fun v3 => s.size - (intOf v3).toNat)
  case atStart => exact ⟨0, Nat.zero_le _, rfl, rfl⟩
  case round =>
    obtain ⟨k, hk, rfl, hV⟩ := hrel
    by_cases hlt : k < s.size
    · have i1 : (k : Int) < (s.size : Int) := by omega
      by_cases hk0 : k = 0
      · subst hk0
        go_wp2_with fail
        all_goals first
          | (go_round; (case rel => exact ⟨1, by omega, rfl, okTo_step hlt hV.out (by (try simp only [beq_iff_eq, bne_iff_ne, ne_eq, Bool.not_eq_true', Bool.not_eq_false', decide_eq_false_iff_not, decide_eq_true_eq] at *); omega)⟩); (case measure => simp [intOf]; try omega))
          | (go_ret; exact ⟨ret_bool (by rw [HhRS.out, name_stop hlt (by (try simp only [beq_iff_eq, bne_iff_ne, ne_eq, Bool.not_eq_true', Bool.not_eq_false', decide_eq_false_iff_not, decide_eq_true_eq] at *); omega)]), rfl⟩)
      · have hk1 : ((k : Int) == 0) = false := by simpa using hk0
        go_wp2_with fail
        all_goals first
          | (go_round; (case rel => exact ⟨k + 1, by omega, by go_num, okTo_step hlt hV.out (by (try simp only [beq_iff_eq, bne_iff_ne, bne_eq_false_iff_eq, ne_eq, Bool.not_eq_true', Bool.not_eq_false', decide_eq_false_iff_not, decide_eq_true_eq] at *); omega)⟩); (case measure => simp [intOf]; try omega))
          | (go_ret; exact ⟨ret_bool (by rw [HhRS.out, name_stop hlt (by (try simp only [beq_iff_eq, bne_iff_ne, bne_eq_false_iff_eq, ne_eq, Bool.not_eq_true', Bool.not_eq_false', decide_eq_false_iff_not, decide_eq_true_eq] at *); omega)]), rfl⟩)
    · have hkn : k = s.size := by omega
      have hE := hideP (name_end (by rw [← hkn]; exact hV.out))
      have i1 : ¬ ((k : Int) < (s.size : Int)) := by omega
      clear hV hk
      by_cases h0 : 0 < s.size
      · have h0' : (0 : Int) < (s.size : Int) := by omega
        by_cases h1 : s.size ≤ 16
        · have h1' : (s.size : Int) < 17 := by omega
          go_wp2_with fail
          all_goals (go_ret; exact ⟨ret_bool (by rw [HhRS.out, hE.out]; simp [h0, h1]; try omega), rfl⟩)
        · have h1' : ¬ (s.size : Int) < 17 := by omega
          go_wp2_with fail
          all_goals (go_ret; exact ⟨ret_bool (by rw [HhRS.out, hE.out]; simp [h0, h1]; try omega), rfl⟩)
      · have h0' : ¬ (0 : Int) < (s.size : Int) := by omega
        go_wp2_with fail
        all_goals (go_ret; exact ⟨ret_bool (by rw [HhRS.out, hE.out]; simp [h0]; try omega), rfl⟩)
theorem str_ne {s t : ByteArray} (h : s ≠ t) : (s.toList == t.toList) = false := by
  rw [beq_eq_false_iff_ne]
  intro e
  rw [ByteArray.toList_eq, ByteArray.toList_eq] at e
  exact h (by cases s; cases t; simp only [Array.toList_inj] at e; rw [e])
theorem str_eq (s : ByteArray) : (s.toList == s.toList) = true := by simp
/-- texts -/
def strs (l : List ByteArray) (i : Nat) : Value := .string (l.getD i default)
/-- is a text among the first k ones? -/
def hasTo (l : List ByteArray) (t : ByteArray) (k : Nat) : Bool := (List.range k).all fun j => !decide (l.getD j default = t)
theorem hasTo_succ (l : List ByteArray) (t : ByteArray) (k : Nat) : hasTo l t (k + 1) = (hasTo l t k && !decide (l.getD k default = t)) := by
  simp [hasTo, List.range_succ, List.all_append]
theorem hasTo_false (l : List ByteArray) (t : ByteArray) {k n : Nat} (hk : k < n) (h : l.getD k default = t) : hasTo l t n = false := by
  unfold hasTo
  rw [List.all_eq_false]
  exact ⟨k, List.mem_range.2 hk, by rw [h]; simp⟩
set_option maxRecDepth 100000 in
set_option maxHeartbeats 1000000 in
theorem sindex_any (A : Option Addr) (l : List ByteArray) (n c : Nat) (t : ByteArray) (w : World) (hA : Arr w w.heap.size A n (strs l)) (hn : n ≤ 1000000000) :
    Calls Try.prog 144 #[.slice A n c, .string t] w fun e w' => ((∃ k : Nat, e = .returned (.int .i64 k) ∧ k < n ∧ l.getD k default = t ∧ hasTo l t k = true) ∨ (e = .returned (.int .i64 (-1)) ∧ hasTo l t n = true)) ∧ w = w' := by
  have HhA := hideP hA; clear hA
  go_enter Try.func144, Try.ntmps144
  go_wp2
  go_loop [8] (fun v8 => ∃ k : Nat, k ≤ n ∧ v8 = .int .i64 (k : Nat) ∧ Hid (hasTo l t k = true)) (fun v8 => n - (intOf v8).toNat)
  case atStart => exact ⟨0, Nat.zero_le _, rfl, rfl⟩
  case round =>
    obtain ⟨k, hk, rfl, hV⟩ := hrel
    by_cases hlt : k < n
    · have i1 : (k : Int) < (n : Int) := by omega
      obtain ⟨b0, off, hA, hB0, hc⟩ := HhA.out (by omega)
      subst hA
      have c0 := hc k hlt
      unfold strs at c0
      obtain ⟨x, hx⟩ : ∃ x, x = l.getD k default := ⟨_, rfl⟩
      rw [← hx] at c0
      have Hx := hideP hx
      clear hx hc
      by_cases he : x = t
      · subst he
        go_wp2_with fail
        go_ret
        exact ⟨.inl ⟨k, rfl, hlt, Hx.out.symm, hV.out⟩, rfl⟩
      · have e1 := str_ne (fun h => he h.symm)
        go_wp2_with fail
        go_round
        case rel => exact ⟨k + 1, by omega, by go_num, by show hasTo l t (k + 1) = true; rw [hasTo_succ, hV.out, ← Hx.out]; simp [he]⟩
        case measure => simp [intOf]; omega
    · have hkn : k = n := by omega
      have i1 : ¬ ((k : Int) < (n : Int)) := by omega
      subst hkn
      go_wp2_with fail
      go_ret
      exact ⟨.inr ⟨rfl, hV.out⟩, rfl⟩
set_option maxRecDepth 100000 in
set_option maxHeartbeats 1000000 in
theorem scontains_any (A : Option Addr) (l : List ByteArray) (n c : Nat) (t : ByteArray) (w : World) (hA : Arr w w.heap.size A n (strs l)) (hn : n ≤ 1000000000) :
    Calls Try.prog 115 #[.slice A n c, .string t] w fun e w' => e = .returned (.bool (!hasTo l t n)) ∧ w = w' := by
  have hT := hideP (sindex_any A l n c t w hA hn)
  clear hA
  go_enter Try.func115, Try.ntmps115
  go_wp2_with (go_at_call 144; refine hT.out.mono ?_; rintro e1 w1 ⟨(⟨k, rfl, hk, hx, _⟩ | ⟨rfl, hx⟩), rfl⟩ <;> have Hx := hideP hx <;> clear hx)
  · go_ret
    exact ⟨ret_bool (by rw [hasTo_false l t hk Hx.out]; rfl), rfl⟩
  · go_ret
    exact ⟨ret_bool (by rw [Hx.out]; rfl), rfl⟩
end Go.Proofs.Ytiicdnbhphgieaa
namespace Go.Proofs.Ytiicdnbhphgieaa
open Go.RowKit
set_option maxRecDepth 100000 in
set_option maxHeartbeats 1000000 in
theorem isname_any (s : ByteArray) (w : World) (hs : s.size ≤ 140737488351232) :
    Calls Try.prog 17 #[.string s] w fun e w' => e = .returned (.bool (nameB (nb s))) ∧ Below w.heap.size w w' := by
  obtain ⟨RS, hRS⟩ : ∃ RS, RS = nameB (nb s) := ⟨_, rfl⟩
  rw [← hRS]
  have hB := hideP (fun k => (below_new w (.stringIter s k) : Below w.heap.size w (w.iter s k)))
  have HhRS := hideP hRS; clear hRS
  go_enter Try.func17, Try.ntmps17
  go_wp2_with fail
  go_loopw [] (fun wr => ∃ k : Nat, k ≤ s.size ∧ wr = w.iter s k ∧ Hid (okTo (nb s) k = true)) (fun wr => s.size - wr.iterPos w.heap.size)
  case atStart => exact ⟨0, Nat.zero_le _, rfl, rfl⟩
  case round =>
    obtain ⟨k, hk, rfl, hV⟩ := hrel
    by_cases hlt : k < s.size
    · by_cases ha : s[k].toNat < 128
      · have hn := fun ty => run_next_ascii (P := Try.prog) w s k ty hlt ha
        by_cases hk0 : k = 0
        · subst hk0
          go_wp2_with fail
          all_goals first
            | (go_roundw; (case rel => exact ⟨1, by omega, rfl, okTo_step hlt hV.out (by (try simp only [beq_iff_eq, bne_iff_ne, bne_eq_false_iff_eq, ne_eq, Bool.not_eq_true', Bool.not_eq_false', decide_eq_false_iff_not, decide_eq_true_eq] at *); omega)⟩); (case measure => simp; try omega))
            | (go_ret; exact ⟨ret_bool (by rw [HhRS.out, name_stop hlt (by (try simp only [beq_iff_eq, bne_iff_ne, bne_eq_false_iff_eq, ne_eq, Bool.not_eq_true', Bool.not_eq_false', decide_eq_false_iff_not, decide_eq_true_eq] at *); omega)]), hB.out _⟩)
        · have hk1 : ((k : Int) == 0) = false := by simpa using hk0
          go_wp2_with fail
          all_goals first
            | (go_roundw; (case rel => exact ⟨k + 1, by omega, rfl, okTo_step hlt hV.out (by (try simp only [beq_iff_eq, bne_iff_ne, bne_eq_false_iff_eq, ne_eq, Bool.not_eq_true', Bool.not_eq_false', decide_eq_false_iff_not, decide_eq_true_eq] at *); omega)⟩); (case measure => simp; try omega))
            | (go_ret; exact ⟨ret_bool (by rw [HhRS.out, name_stop hlt (by (try simp only [beq_iff_eq, bne_iff_ne, bne_eq_false_iff_eq, ne_eq, Bool.not_eq_true', Bool.not_eq_false', decide_eq_false_iff_not, decide_eq_true_eq] at *); omega)]), hB.out _⟩)
      · have hd := decode_high s k hlt (by omega)
        have hn := fun ty => run_next_any (P := Try.prog) w s k ty hlt
        obtain ⟨r, hr⟩ : ∃ r, r = (Utf8.decode s k).1 := ⟨_, rfl⟩
        obtain ⟨d, hdd⟩ : ∃ d, d = (Utf8.decode s k).2 := ⟨_, rfl⟩
        rw [← hr] at hn hd
        rw [← hdd] at hn
        have hd1 := hd.1
        have hF := hideP (name_stop hlt (by omega))
        clear hr hdd hd
        have g1 : (97 : Int) ≤ (r : Int) := by omega
        have g2 : decide ((r : Int) ≤ 122) = false := by simp; omega
        have g3 : decide ((r : Int) < 48) = false := by simp; omega
        have g4 : (57 : Int) < (r : Int) := by omega
        have g5 : ((r : Int) != 95) = true := by simp; omega
        clear ha
        by_cases hk0 : k = 0
        · subst hk0
          go_wp2_with fail
          go_ret
          exact ⟨ret_bool (by rw [HhRS.out, hF.out]), hB.out _⟩
        · have hk1 : ((k : Int) == 0) = false := by simpa using hk0
          go_wp2_with fail
          go_ret
          exact ⟨ret_bool (by rw [HhRS.out, hF.out]), hB.out _⟩
    · have hkn : k = s.size := by omega
      subst hkn
      have hE := hideP (name_end hV.out)
      have hn := fun ty => run_next_end (P := Try.prog) w s s.size ty hlt
      clear hV hk
      by_cases h0 : 0 < s.size
      · have h0' : (1 : Int) ≤ (s.size : Int) := by omega
        by_cases h1 : s.size ≤ 16
        · have h1' : (s.size : Int) ≤ 16 := by omega
          go_wp2_with fail
          all_goals (go_ret; exact ⟨ret_bool (by rw [HhRS.out, hE.out]; simp [h0, h1]; try omega), hB.out _⟩)
        · have h1' : ¬ (s.size : Int) ≤ 16 := by omega
          go_wp2_with fail
          all_goals (go_ret; exact ⟨ret_bool (by rw [HhRS.out, hE.out]; simp [h0, h1]; try omega), hB.out _⟩)
      · have h0' : ¬ (1 : Int) ≤ (s.size : Int) := by omega
        go_wp2_with fail
        all_goals (go_ret; exact ⟨ret_bool (by rw [HhRS.out, hE.out]; simp [h0]; try omega), hB.out _⟩)
theorem id_list : ([105, 100] : List UInt8) = idS.toList := by rw [ByteArray.toList_eq]; rfl
theorem id_eq {x : ByteArray} (h : x = idS) : (x.toList == [105, 100]) = true := by
  rw [h, id_list]; exact str_eq idS
theorem id_ne {x : ByteArray} (h : ¬ x = idS) : (x.toList == [105, 100]) = false := by rw [id_list]; exact str_ne h
theorem hasTo_col (l : List ByteArray) (k : Nat) : colB l k = (nameB (nb (l.getD k default)) && (!decide (l.getD k default = idS) && hasTo l (l.getD k default) k)) := rfl
set_option maxRecDepth 100000 in
set_option maxHeartbeats 1000000 in
theorem arecols_any (A : Option Addr) (l : List ByteArray) (n c : Nat) (w : World) (hl : n = l.length) (hA : Arr w w.heap.size A n (strs l)) (hs : ∀ i, (l.getD i default).size ≤ 140737488351232) (hn : n ≤ 1000000000) (hc : n ≤ c) :
    Calls Try.prog 57 #[.slice A n c] w fun e w' => e = .returned (.bool (colsB l)) ∧ Below w.heap.size w w' := by
  obtain ⟨RS, hRS⟩ : ∃ RS, RS = colsB l := ⟨_, rfl⟩
  rw [← hRS]
  have hE := hideP (show colsB l = (colsTo l n && (decide (0 < n) && decide (n ≤ 7))) by rw [hl]; rfl)
  have hc' : (n : Int) ≤ (c : Int) := by omega
  have HhRS := hideP hRS; have HhA := hideP hA; have Hhs := hideP hs; have Hhl := hideP hl; clear hRS hA hs hl
  go_enter Try.func57, Try.ntmps57
  go_wp2_with fail
  go_loopw [7] (fun v7 wr => ∃ k : Nat, k ≤ n ∧ v7 = .int .i64 (k : Nat) ∧ Hid (colsTo l k = true ∧ Below w.heap.size w wr)) (fun v7 _ => n - (intOf v7).toNat)
  case atStart => exact ⟨0, Nat.zero_le _, rfl, rfl, Below.refl _ _⟩
  case round =>
    obtain ⟨k, hk, rfl, hV⟩ := hrel
    by_cases hlt : k < n
    · have i1 : (k : Int) < (n : Int) := by omega
      have i2 : (k : Int) ≤ (c : Int) := by omega
      obtain ⟨b0, off, hA, hB0, hc⟩ := HhA.out (by omega)
      subst hA
      have c0 := (hV.out.2.cell (p := ⟨b0, off + k, none⟩) hB0).trans (hc k hlt)
      unfold strs at c0
      have hcol := hasTo_col l k
      have hx := hideP (Hhs.out k)
      obtain ⟨x, hxx⟩ : ∃ x, x = l.getD k default := ⟨_, rfl⟩
      rw [← hxx] at c0 hx hcol
      have Hcol := hideP hcol
      have hT := hideP (fun W (hW : Below w.heap.size w W) => scontains_any (some ⟨b0, off, none⟩) l k c x W ((((HhA.out.front hk).below hW).more hW.size)) (by omega))
      clear hxx hc hcol
      have bad : colB l k = false → RS = false := fun h => by rw [HhRS.out, hE.out, colsTo_false l hlt h]; rfl
      have Hbad := hideP bad
      clear bad
      by_cases hb1 : nameB (nb x) = true
      · by_cases hb2 : x = idS
        · have e2 := id_eq hb2
          have E2 := hideP hb2
          clear hb2
          go_wp2_with (go_at_call 17; refine (isname_any _ _ hx.out).mono ?_; rintro e1 w1 ⟨rfl, b1⟩; have B1 := hideP (hV.out.2.trans (b1.mono hV.out.2.size)); clear b1)
          go_ret
          exact ⟨ret_bool (Hbad.out (by rw [Hcol.out, E2.out]; simp)).symm, B1.out⟩
        · have e2 := id_ne hb2
          by_cases hb3 : hasTo l x k = true
          · have Hok := hideP (show colsTo l (k + 1) = true by rw [colsTo_succ, hV.out.1, Hcol.out]; simp [hb1, hb2, hb3])
            clear hb2
            go_wp2_with (first
              | (go_at_call 17; refine (isname_any _ _ hx.out).mono ?_; rintro e1 w1 ⟨rfl, b1⟩; have B1 := hideP (hV.out.2.trans (b1.mono hV.out.2.size)); clear b1)
              | (go_at_call 115; refine (hT.out _ B1.out).mono ?_; rintro e1 w1 ⟨rfl, rfl⟩))
            go_roundw
            case rel => exact ⟨k + 1, by omega, by go_num, Hok.out, B1.out⟩
            case measure => simp [intOf]; omega
          · have hb4 : hasTo l x k = false := Bool.eq_false_iff.2 hb3
            have Hok := hideP (Hbad.out (by rw [Hcol.out, hb4]; simp))
            clear hb2 hb3
            go_wp2_with (first
              | (go_at_call 17; refine (isname_any _ _ hx.out).mono ?_; rintro e1 w1 ⟨rfl, b1⟩; have B1 := hideP (hV.out.2.trans (b1.mono hV.out.2.size)); clear b1)
              | (go_at_call 115; refine (hT.out _ B1.out).mono ?_; rintro e1 w1 ⟨rfl, rfl⟩))
            go_ret
            exact ⟨ret_bool Hok.out.symm, B1.out⟩
      · have hb4 : nameB (nb x) = false := Bool.eq_false_iff.2 hb1
        have Hok := hideP (Hbad.out (by rw [Hcol.out, hb4]; simp))
        clear hb1
        go_wp2_with (go_at_call 17; refine (isname_any _ _ hx.out).mono ?_; rintro e1 w1 ⟨rfl, b1⟩; have B1 := hideP (hV.out.2.trans (b1.mono hV.out.2.size)); clear b1)
        go_ret
        exact ⟨ret_bool Hok.out.symm, B1.out⟩
    · have hkn : k = n := by omega
      subst hkn
      have i1 : ¬ ((k : Int) < (k : Int)) := by omega
      have hR := hideP (show RS = (decide (0 < k) && decide (k ≤ 7)) by rw [HhRS.out, hE.out, hV.out.1]; rfl)
      have B1 := hideP hV.out.2
      clear hV hk hc
      by_cases h0 : 0 < k
      · have h0' : (1 : Int) ≤ (k : Int) := by omega
        by_cases h1 : k ≤ 7
        · have h1' : (k : Int) ≤ 7 := by omega
          go_wp2_with fail
          all_goals (go_ret; exact ⟨ret_bool (by rw [hR.out]; simp [h0, h1]; try omega), B1.out⟩)
        · have h1' : ¬ (k : Int) ≤ 7 := by omega
          go_wp2_with fail
          all_goals (go_ret; exact ⟨ret_bool (by rw [hR.out]; simp [h0, h1]; try omega), B1.out⟩)
      · have h0' : ¬ (1 : Int) ≤ (k : Int) := by omega
        go_wp2_with fail
        all_goals (go_ret; exact ⟨ret_bool (by rw [hR.out]; simp [h0]; try omega), B1.out⟩)
end Go.Proofs.Ytiicdnbhphgieaa
