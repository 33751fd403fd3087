/- block.IsName; a pure contract of the old kind, as one of the new. -/
import Derived.Test.YtglmohcnmpbfmaaBase
import Derived.Test.YtglmohcnmpbfmaaGc
import Derived.Laws.RangeAny
set_option linter.unusedVariables false
set_option linter.unusedSimpArgs false
namespace Go.Proofs.Ytglmohcnmpbfmaa
open Go.RowKit
def nb (s : ByteArray) : List Nat := s.data.toList.map UInt8.toNat
theorem nb_len (s : ByteArray) : (nb s).length = s.size := by
  unfold nb
  rw [List.length_map, Array.length_toList]
  rfl
theorem nb_getD (s : ByteArray) (k : Nat) (hk : k < s.size) : (nb s).getD k 0 = s[k].toNat := by
  unfold nb List.getD
  rw [List.getElem?_map, List.getElem?_eq_getElem (by simpa using hk)]
  rfl
/-! ### what is read: bytes in hand -/
/-- may a byte stand at place i of a name? -/
def okCh (i c : Nat) : Bool := (decide (97 ≤ c) && decide (c ≤ 122)) || (decide (0 < i) && ((decide (48 ≤ c) && decide (c ≤ 57)) || decide (c = 95)))
def okTo (s : List Nat) (k : Nat) : Bool := (List.range k).all fun i => okCh i (s.getD i 0)
theorem okTo_succ (s : List Nat) (k : Nat) : okTo s (k + 1) = (okTo s k && okCh k (s.getD k 0)) := by
  simp [okTo, List.range_succ, List.all_append]
theorem okTo_false (s : List Nat) {k n : Nat} (hk : k < n) (h : okCh k (s.getD k 0) = false) : okTo s n = false := by
  unfold okTo
  rw [List.all_eq_false]
  exact ⟨k, List.mem_range.2 hk, by simpa using h⟩
/-- is a text a name? -/
def nameB (s : List Nat) : Bool := okTo s s.length && (decide (0 < s.length) && decide (s.length ≤ 16))
theorem nameB_len {s : List Nat} (h : nameB s = true) : s.length ≤ 16 := by
  simp only [nameB, Bool.and_eq_true, decide_eq_true_eq] at h; exact h.2.2
def idS : ByteArray := ⟨#[105, 100]⟩
theorem okCh_iff (i c : Nat) : okCh i c = true ↔ (97 ≤ c ∧ c ≤ 122) ∨ (0 < i ∧ ((48 ≤ c ∧ c ≤ 57) ∨ c = 95)) := by
  simp [okCh]
theorem okTo_step {s : ByteArray} {k : Nat} (hk : k < s.size) (h : okTo (nb s) k = true) (hc : (97 ≤ (s[k].toNat : Int) ∧ (s[k].toNat : Int) ≤ 122) ∨ (0 < k ∧ ((48 ≤ (s[k].toNat : Int) ∧ (s[k].toNat : Int) ≤ 57) ∨ (s[k].toNat : Int) = 95))) : okTo (nb s) (k + 1) = true := by
  rw [okTo_succ, h, nb_getD s k hk, Bool.true_and, okCh_iff]
  omega
theorem name_stop {s : ByteArray} {k : Nat} (hk : k < s.size) (hc : ¬ ((97 ≤ (s[k].toNat : Int) ∧ (s[k].toNat : Int) ≤ 122) ∨ (0 < k ∧ ((48 ≤ (s[k].toNat : Int) ∧ (s[k].toNat : Int) ≤ 57) ∨ (s[k].toNat : Int) = 95)))) : nameB (nb s) = false := by
  unfold nameB
  rw [okTo_false (nb s) (k := k) (by rw [nb_len]; exact hk) (by rw [nb_getD s k hk, Bool.eq_false_iff]; intro h; rw [okCh_iff] at h; omega)]
  rfl
theorem name_end {s : ByteArray} (h : okTo (nb s) s.size = true) : nameB (nb s) = (decide (0 < s.size) && decide (s.size ≤ 16)) := by
  unfold nameB
  rw [nb_len, h, Bool.true_and]
set_option maxRecDepth 100000 in
set_option maxHeartbeats 1000000 in
theorem isname_any (s : ByteArray) (w : World) (hs : s.size ≤ 140737488351232) :
    Calls Try.prog 213 #[.string s] w fun e w' => e = .returned (.bool (nameB (nb s))) ∧ Below w.heap.size w w' := by
  obtain ⟨RS, hRS⟩ : ∃ RS, RS = nameB (nb s) := ⟨_, rfl⟩
  rw [← hRS]
  have hB := hideP (fun k => ((Below.refl _ _).alloc (Nat.le_refl _) (.stringIter s k) : Below w.heap.size w (w.iter s k)))
  have HhRS := hideP hRS; clear hRS
  go_enter Try.func213, Try.ntmps213
  go_wp2_with fail
  go_loopw [] (fun wr => ∃ k : Nat, k ≤ s.size ∧ wr = w.iter s k ∧ Hid (okTo (nb s) k = true)) (fun wr => s.size - wr.iterPos w.heap.size)
  case atStart => exact ⟨0, Nat.zero_le _, rfl, rfl⟩
  case round =>
    obtain ⟨k, hk, rfl, hV⟩ := hrel
    by_cases hlt : k < s.size
    · by_cases ha : s[k].toNat < 128
      · have hn := fun ty => run_next_ascii (P := Try.prog) w s k ty hlt ha
        by_cases hk0 : k = 0
        · subst hk0
          go_wp2_with fail
          all_goals first
            | (go_roundw; (case rel => exact ⟨1, by omega, rfl, okTo_step hlt hV.out (by (try simp only [beq_iff_eq, bne_iff_ne, bne_eq_false_iff_eq, ne_eq, Bool.not_eq_true', Bool.not_eq_false', decide_eq_false_iff_not, decide_eq_true_eq] at *); omega)⟩); (case measure => simp; try omega))
            | (go_ret; exact ⟨ret_bool (by rw [HhRS.out, name_stop hlt (by (try simp only [beq_iff_eq, bne_iff_ne, bne_eq_false_iff_eq, ne_eq, Bool.not_eq_true', Bool.not_eq_false', decide_eq_false_iff_not, decide_eq_true_eq] at *); omega)]), hB.out _⟩)
        · have hk1 : ((k : Int) == 0) = false := by simpa using hk0
          go_wp2_with fail
          all_goals first
            | (go_roundw; (case rel => exact ⟨k + 1, by omega, rfl, okTo_step hlt hV.out (by (try simp only [beq_iff_eq, bne_iff_ne, bne_eq_false_iff_eq, ne_eq, Bool.not_eq_true', Bool.not_eq_false', decide_eq_false_iff_not, decide_eq_true_eq] at *); omega)⟩); (case measure => simp; try omega))
            | (go_ret; exact ⟨ret_bool (by rw [HhRS.out, name_stop hlt (by (try simp only [beq_iff_eq, bne_iff_ne, bne_eq_false_iff_eq, ne_eq, Bool.not_eq_true', Bool.not_eq_false', decide_eq_false_iff_not, decide_eq_true_eq] at *); omega)]), hB.out _⟩)
      · have hd := decode_high s k hlt (by omega)
        have hn := fun ty => run_next_any (P := Try.prog) w s k ty hlt
        obtain ⟨r, hr⟩ : ∃ r, r = (Utf8.decode s k).1 := ⟨_, rfl⟩
        obtain ⟨d, hdd⟩ : ∃ d, d = (Utf8.decode s k).2 := ⟨_, rfl⟩
        rw [← hr] at hn hd
        rw [← hdd] at hn
        have hd1 := hd.1
        have hF := hideP (name_stop hlt (by omega))
        clear hr hdd hd
        have g1 : (97 : Int) ≤ (r : Int) := by omega
        have g2 : decide ((r : Int) ≤ 122) = false := by simp; omega
        have g3 : decide ((r : Int) < 48) = false := by simp; omega
        have g4 : (57 : Int) < (r : Int) := by omega
        have g5 : ((r : Int) != 95) = true := by simp; omega
        clear ha
        by_cases hk0 : k = 0
        · subst hk0
          go_wp2_with fail
          go_ret
          exact ⟨ret_bool (by rw [HhRS.out, hF.out]), hB.out _⟩
        · have hk1 : ((k : Int) == 0) = false := by simpa using hk0
          go_wp2_with fail
          go_ret
          exact ⟨ret_bool (by rw [HhRS.out, hF.out]), hB.out _⟩
    · have hkn : k = s.size := by omega
      subst hkn
      have hE := hideP (name_end hV.out)
      have hn := fun ty => run_next_end (P := Try.prog) w s s.size ty hlt
      clear hV hk
      by_cases h0 : 0 < s.size
      · have h0' : (1 : Int) ≤ (s.size : Int) := by omega
        by_cases h1 : s.size ≤ 16
        · have h1' : (s.size : Int) ≤ 16 := by omega
          go_wp2_with fail
          all_goals (go_ret; exact ⟨ret_bool (by rw [HhRS.out, hE.out]; simp [h0, h1]; try omega), hB.out _⟩)
        · have h1' : ¬ (s.size : Int) ≤ 16 := by omega
          go_wp2_with fail
          all_goals (go_ret; exact ⟨ret_bool (by rw [HhRS.out, hE.out]; simp [h0, h1]; try omega), hB.out _⟩)
      · have h0' : ¬ (1 : Int) ≤ (s.size : Int) := by omega
        go_wp2_with fail
        all_goals (go_ret; exact ⟨ret_bool (by rw [HhRS.out, hE.out]; simp [h0]; try omega), hB.out _⟩)

theorem acall_below {P : Program} {f : FuncId} {xs : List Value} {u : Value} (hE : Enters P f) (h : ∀ w, Calls P f xs.toArray w fun e w' => e = .returned u ∧ Below w.heap.size w w') : ACall P f (xs.map fun x => .d (.v x)) [] (.d (.v u)) [] := by
  refine ⟨hE, fun A W vl vs G hl hv => ?_⟩
  obtain rfl : vs = xs := by
    apply List.ext_getElem (by simpa using hl.symm)
    intro i h1 h2
    have := hv i (by simpa using h2)
    rw [List.getD_eq_getElem?_getD, List.getD_eq_getElem?_getD, List.getElem?_map, List.getElem?_eq_getElem h2, List.getElem?_eq_getElem h1] at this
    exact rv_ex_inv this
  refine (h W).mono ?_
  rintro e W' ⟨rfl, K⟩
  obtain ⟨g1, g2, g3⟩ := G.grow (W' := W') K.size (fun k hk => K.block k hk) K.os K.tape K.output
  exact ⟨u, ⟨_, W', [], vl⟩, rfl, rfl, rfl, rfl, g1, g2, rv_ex u⟩
theorem enters_of {P : Program} {f : FuncId} {fn : Func} {c : Code} (hf : P.funcs[f]? = some fn) (hb : fn.body = some c) (hn : (fn.name == "runtime.NumGoroutine") = false) : Enters P f := fun vs W => by
  unfold callFunc
  simp only [program, Sem.run_bind, Sem.run]
  simp [hf, hn, hb]
  simpa using hn
theorem isname_ok (s : ByteArray) (hs : s.size ≤ 140737488351232) : ACall Try.prog 213 [exS s] [] (exB (nameB (nb s))) [] :=
  acall_below (xs := [.string s]) (enters_of Try.func213 rfl rfl) fun w => isname_any s w hs
end Go.Proofs.Ytglmohcnmpbfmaa
