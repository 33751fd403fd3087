/- Contracts: math/bits.Mul64, Mul; slices.Repeat of a row of one number, at most 8 times. Contracts of package box: Of, Whole. -/
import Derived.Laws.CopyOwn
import Derived.Laws.MakeOwn
import Derived.Lib.Mul64
import Derived.Laws.Bits64b
import Derived.Shelf.Bits.Mul64
import Derived.Test.YtgcbodpjidoanaaK5
import Derived.Test.YtgcbodpjidoanaaK6
set_option linter.unusedVariables false
set_option linter.unusedSimpArgs false
namespace Go.Proofs.Ytgcbodpjidoanaa
open Go.RowKit
set_option maxRecDepth 100000 in
set_option maxHeartbeats 1000000 in
theorem mul64_any (x y : Nat) (hx : x < 18446744073709551616) (hy : y < 18446744073709551616) (w : World) :
    Calls Try.prog 277 #[.int .u64 x, .int .u64 y] w fun e w' => e = .returned (.tuple #[.int .u64 ((x * y / 18446744073709551616 : Nat) : Int), .int .u64 ((x * y % 18446744073709551616 : Nat) : Int)]) ∧ w = w' := by
  obtain ⟨bd, bt, bw, hhi⟩ := Lib.mul64_hi x y hx hy
  have ba := Lib.half_mul_le (a := x / 4294967296) (b := y / 4294967296) (by omega) (by omega)
  have bb := Lib.half_mul_le (a := x / 4294967296) (b := y % 4294967296) (by omega) (by omega)
  have bc := Lib.half_mul_le (a := x % 4294967296) (b := y / 4294967296) (by omega) (by omega)
  have ba' : x / 4294967296 * (y / 4294967296) < 18446744073709551616 := by omega
  have bb' : x / 4294967296 * (y % 4294967296) < 18446744073709551616 := by omega
  have bc' : x % 4294967296 * (y / 4294967296) < 18446744073709551616 := by omega
  have bh1 : x / 4294967296 * (y / 4294967296) + (x / 4294967296 * (y % 4294967296) + x % 4294967296 * (y % 4294967296) / 4294967296) / 4294967296 < 18446744073709551616 := by omega
  have bh : x / 4294967296 * (y / 4294967296) + (x / 4294967296 * (y % 4294967296) + x % 4294967296 * (y % 4294967296) / 4294967296) / 4294967296 + ((x / 4294967296 * (y % 4294967296) + x % 4294967296 * (y % 4294967296) / 4294967296) % 4294967296 + x % 4294967296 * (y / 4294967296)) / 4294967296 < 18446744073709551616 := by omega
  go_enter Try.func277, Try.ntmps277
  go_wp2
  simp only [Mul64.maskN x hx, Mul64.maskN y hy, Mul64.divN, Mul64.mulN, Mul64.addN, Mul64.wrapN _ bd, Mul64.wrapN _ bb', Mul64.wrapN _ bt, Mul64.maskN _ bt, Mul64.wrapN _ bc', Mul64.wrapN _ bw, Mul64.wrapN _ ba', Mul64.wrapN _ bh1, Mul64.wrapN _ bh, Mul64.wrapM (x * y)]
  rw [hhi]
  go_ret2
  exact ⟨rfl, rfl⟩
set_option maxRecDepth 100000 in
set_option maxHeartbeats 1000000 in
theorem mul_any (x y : Nat) (hx : x < 18446744073709551616) (hy : y < 18446744073709551616) (w : World) :
    Calls Try.prog 272 #[.int .u64 x, .int .u64 y] w fun e w' => e = .returned (.tuple #[.int .u64 ((x * y / 18446744073709551616 : Nat) : Int), .int .u64 ((x * y % 18446744073709551616 : Nat) : Int)]) ∧ w = w' := by
  have c64 := hideP (fun w => mul64_any x y hx hy w)
  go_enter Try.func272, Try.ntmps272
  go_wp2_with fail
  refine (c64.out _).mono ?_
  rintro e w' ⟨rfl, rfl⟩
  go_wp2
  go_ret2
  exact ⟨rfl, rfl⟩
theorem mul_small (n : Nat) (hn : n ≤ 1000) (w : World) :
    Calls Try.prog 272 #[.int .u64 1, .int .u64 n] w fun e w' => e = .returned (.tuple #[.int .u64 0, .int .u64 n]) ∧ w = w' := by
  have := mul_any 1 n (by omega) (by omega) w
  rw [Nat.one_mul, Nat.div_eq_of_lt (by omega), Nat.mod_eq_of_lt (by omega)] at this
  exact this
/-- the first k cells of a row are all m -/
def lead (cur : List Value) (n k : Nat) (m : Int) : Prop := cur.length = n ∧ ∀ i, i < k → cur[i]? = some (.int .i64 m)
theorem lead_step (cur : List Value) (n k : Nat) (m : Int) (h : lead cur n k m) (hk : k ≤ n) : lead (splice cur k ((cur.take k).take (n - k))) n (k + Nat.min k (n - k)) m := by
  have hl : ((cur.take k).take (n - k)).length = Nat.min k (n - k) := by
    simp only [List.length_take, h.1]; show min _ _ = min _ _; omega
  refine ⟨by rw [length_splice _ _ _ (by rw [hl, h.1]; show k + min _ _ ≤ n; omega)]; exact h.1, fun i hi => ?_⟩
  have h' : i < k + min k (n - k) := hi
  have hl' : ((cur.take k).take (n - k)).length = min k (n - k) := hl
  have hkl : (List.take k cur).length = k := by rw [List.length_take, h.1]; omega
  unfold splice
  by_cases hik : i < k
  · rw [List.getElem?_append_left (by rw [hkl]; exact hik), List.getElem?_take, if_pos hik]
    exact h.2 i hik
  · rw [List.getElem?_append_right (by rw [hkl]; omega)]
    have e : i - (List.take k cur).length = i - k := by rw [hkl]
    have hlt' : i - k < min k (n - k) := by omega
    rw [e, List.getElem?_append_left (by rw [hl']; exact hlt'), List.getElem?_take, if_pos (by omega), List.getElem?_take, if_pos (by omega)]
    exact h.2 _ (by omega)
theorem lead_all (cur : List Value) (n : Nat) (m : Int) (h : lead cur n n m) : cur = (List.replicate n m).map (Value.int .i64) := by
  refine List.ext_getElem? fun i => ?_
  rcases Nat.lt_or_ge i n with hi | hi
  · rw [h.2 i hi]; simp [hi]
  · rw [List.getElem?_eq_none (by rw [h.1]; exact hi)]; simp [hi]
theorem info_size_i64 : (Try.prog.info? 2).map (·.size) = some 1 := by kernel_rfl
set_option maxRecDepth 100000 in
set_option maxHeartbeats 2000000 in
theorem repeat_any (X : Option Addr) (m : Int) (n c : Nat) (w : World) (hX : Arr w w.heap.size X 1 (i64s [m])) (h1 : 1 ≤ n) (h8 : n ≤ 1000) :
    Calls Try.prog 243 #[.slice X 1 c, .int .i64 n] w fun e w' => ∃ R s, e = .returned (.slice R n s) ∧ Below w.heap.size w w' ∧ Own w' w.heap.size R s (List.replicate n m) := by
  have hm := mul_small n h8
  obtain ⟨b, off, rfl, hb, hcx⟩ := hX (by omega)
  have u0 := hcx 0 (by omega)
  rw [Nat.add_zero] at u0
  unfold i64s at u0
  rw [show [m].getD 0 0 = m from rfl] at u0
  have t0 : decide ((n : Int) < 0) = false := by simp
  have hmk : ∀ w, (Instr.makeSlice 39 (.int .i64 (n : Int)) (.int .i64 (n : Int))).run Try.prog w = .ok (.slice (some ⟨w.heap.size, 0, none⟩) n n) (w.alloc (.cells (madeCells #[.int .i64 0] n) 2)) := fun w => by
    obtain ⟨i0, hi0, hz0, hz1, hz2⟩ := info_parts info_i64
    have := run_makeSlice (P := Try.prog) w 39 2 i0 _ Try.underlying39 hi0 hz0 .i64 .i64 n n (by omega) (by omega) (by rw [hz1]; omega) (by rw [hz2]; omega) (by omega)
    rw [hz1] at this
    simpa [Value.cells] using this
  obtain ⟨C, hC⟩ : ∃ C : Array Value, C = madeCells #[.int .i64 0] n := ⟨_, rfl⟩
  have hCl : C.toList.length = n := by rw [hC]; simp [size_madeCells]
  rw [← hC] at hmk
  have j1 : (0 : Int) ≤ (n : Int) := by omega
  have j2 : (n : Int) ≤ 1000 := by omega
  have jm : ¬ (9223372036854775807 : Int) < (n : Int) := by omega
  clear hcx hX hC
  have Hhm := hideP hm; have Hu0 := hideP u0; have Hhb := hideP hb; have HhCl := hideP hCl; clear hm u0 hb hCl
  go_enter Try.func243, Try.ntmps243
  go_wp2_with fail
  refine (Hhm.out _).mono ?_
  rintro e w1 ⟨rfl, rfl⟩
  have g1 := hideP (show (w.alloc (Obj.cells C 2)).heap[w.heap.size]? = some (.cells C.toList.toArray 2 (0, 0)) by simpa using heap_alloc_new w (Obj.cells C 2))
  have g2 := hideP (cell_below (below_new w (Obj.cells C 2)) Hhb.out Hu0.out)
  have g3 := hideP (show ∀ j v, [Value.int .i64 m][j]? = some v → (w.alloc (Obj.cells C 2)).cell? ((⟨b, off, none⟩ : Addr).add j) = some v from fun j v hj => by
    cases j with
    | zero => simp at hj; subst hj; exact g2.out
    | succ j => simp at hj)
  have g4 := hideP (show 1 = Nat.min 1 n by show 1 = min 1 n; omega)
  have g5 := hideP (show 0 + 1 ≤ C.toList.length by rw [HhCl.out]; omega)
  go_wp2_with (refine wpList_copy_splice rfl (.tmp 31) (.tmp 32) 39 39 rfl 2 Try.underlying39 info_size_i64 (some ⟨w.heap.size, 0, none⟩) (some ⟨b, off, none⟩) n n 1 c rfl rfl w.heap.size 0 C.toList 2 g1.out [.int .i64 m] g4.out (fun _ => ⟨rfl, _, rfl, g3.out⟩) g5.out (fun v hv => by simp at hv; subst hv; rfl) w.heap.size w (below_new w _) (Nat.le_refl _) ?_; intro w2 hg2 hb2)
  have ld := hideP (show lead (splice C.toList 0 [.int .i64 m]) n 1 m from ⟨by rw [length_splice _ _ _ g5.out]; exact HhCl.out, fun i hi => by obtain rfl : i = 0 := (by omega); rfl⟩)
  have lt0 := hideP (show w.heap.size < w2.heap.size from (Array.getElem?_eq_some_iff.1 hg2.out).1)
  clear g1 g2 g3 g4 g5 hmk
  obtain ⟨cur0, hc0⟩ : ∃ l, l = splice C.toList 0 [.int .i64 m] := ⟨_, rfl⟩
  rw [← hc0] at ld hg2
  have HB2 := hideP hb2
  clear hc0 hb2
  go_loopw [8] (fun v8 wr => ∃ (k : Nat) (cur : List Value), 1 ≤ k ∧ k ≤ n ∧ v8 = .int .i64 k ∧ Hid (lead cur n k m ∧ wr.heap[w.heap.size]? = some (.cells cur.toArray 2 (0, 0)) ∧ Below w.heap.size w wr)) (fun v8 _ => n - (intOf v8).toNat)
  case atStart => exact ⟨1, cur0, by omega, h1, rfl, ld.out, hg2.out, HB2.out⟩
  case round =>
    obtain ⟨k, cur, hk1, hk, rfl, hV⟩ := hrel
    clear ld hg2 HB2 lt0
    by_cases hlt : k < n
    · have t' : decide ((k : Int) < n) = true := by simp; omega
      have k0 : (0 : Int) ≤ (k : Int) := by omega
      have k2 : (k : Int) ≤ (n : Int) := by omega
      have k3 : ¬ n = k := by omega
      go_wp2
      refine wp_region_mut (S := fun g => g = w.heap.size) 8 (.q 0 (.q 1 (.q 2 (.q 3 (.q 4 (.q 5 (.q 6 (.l 7 .nil)))))))) (by kernel_rfl) (by kernel_rfl) ?_
      simp only [pickT, nthO_zero, nthO_succ]
      iterate 7 (refine wpM_valK (by rfl) (fun K hK => ?_); apply Exists.intro; refine ⟨fun W hW => ?_, ?_⟩; (focus (go_simp; (try rfl); done)); go_simp; refine hK _ ?_; clear hK K)
      refine wpM_turnK (by rfl) (fun W hW => ?_)
      have hgW : W.heap[w.heap.size]? = some (.cells cur.toArray 2 (0, 0)) := (hW.drew_left.block _ (Array.getElem?_eq_some_iff.1 hV.out.2.1).1).trans hV.out.2.1
      have hl : ((cur.take k).take (n - k)).length = Nat.min k (n - k) := by
        simp only [List.length_take, hV.out.1.1]; show min _ _ = min _ _; omega
      have hr := run_copy_row (P := Try.prog) W 39 39 3 2 w.heap.size k (n - k) (n - k) ⟨w.heap.size, 0, none⟩ k n cur.toArray 2 ((cur.take k).take (n - k)) Try.underlying39 info_size_i64 hgW hl
        (fun j v hj => by
          have hadd : (⟨w.heap.size, 0, none⟩ : Addr).add j = ⟨w.heap.size, j, none⟩ := by unfold Addr.add; split <;> simp_all
          rw [hadd, cell_of_row W _ j _ _ _ hgW]
          rw [List.getElem?_take] at hj
          split at hj
          · rw [List.getElem?_take] at hj
            split at hj
            · simpa using hj
            · cases hj
          · cases hj)
        (by rw [hl]; simp only [List.size_toArray, hV.out.1.1]; show k + min _ _ ≤ n; omega)
        (fun v hv => by
          obtain ⟨i, hi⟩ := List.getElem?_of_mem (List.mem_of_mem_take hv)
          rw [List.getElem?_take] at hi
          split at hi
          · rename_i hik
            rw [hV.out.1.2 i hik] at hi
            cases hi
            rfl
          · cases hi)
      rw [hl] at hr
      have hst := hideP (lead_step cur n k m hV.out.1 hk)
      have hgW2 := hideP (setRow_heap W w.heap.size _ ((cur.toArray.toList.take k ++ (cur.take k).take (n - k)) ++ cur.toArray.toList.drop (k + Nat.min k (n - k))).toArray 2 (0, 0) hgW)
      have hbW := hideP (below_setRow (below_ext hV.out.2.2 hW.drew_left) (Nat.le_refl w.heap.size) ((cur.toArray.toList.take k ++ (cur.take k).take (n - k)) ++ cur.toArray.toList.drop (k + Nat.min k (n - k))).toArray)
      obtain ⟨Z, hZ⟩ : ∃ Z, Z = ((cur.toArray.toList.take k ++ (cur.take k).take (n - k)) ++ cur.toArray.toList.drop (k + Nat.min k (n - k))) := ⟨_, rfl⟩
      have hZs := hideP (show Z = splice cur k ((cur.take k).take (n - k)) by rw [hZ]; unfold splice; rw [hl]; simp)
      rw [← hZ] at hr hgW2 hbW
      obtain ⟨q, hq⟩ : ∃ q, q = Nat.min k (n - k) := ⟨_, rfl⟩
      have hq' := hideP (show 1 ≤ q ∧ k + q ≤ n by rw [hq]; show 1 ≤ min _ _ ∧ _ + min _ _ ≤ _; omega)
      rw [← hq] at hr hst
      clear hq hZ hgW hl
      refine ⟨goInt q, W.setRow w.heap.size Z.toArray, ⟨?_, But.setRow _ _ _ rfl⟩, fun K hK => ?_⟩
      · go_simp
      clear hr
      go_simp
      refine hK _ ?_
      clear hK K
      refine wpM_nil (fun W2 hW2 => ?_)
      simp only [List.drop_succ_cons, List.drop_zero, List.drop_nil]
      have E1 := hideP (show W2.heap[w.heap.size]? = some (.cells Z.toArray 2 (0, 0)) from (hW2.block _ (Array.getElem?_eq_some_iff.1 hgW2.out).1).trans hgW2.out)
      have E2 := hideP (below_ext hbW.out hW2)
      have q1 : (k : Int) + (q : Int) ≤ n := by have := hq'.out; omega
      have q2 : (0 : Int) ≤ (k : Int) + (q : Int) := by omega
      clear hW hW2 hgW2 hbW hV
      go_wp2
      go_roundw
      case rel => exact ⟨k + q, Z, by omega, by omega, by go_num, by rw [hZs.out]; exact hst.out, E1.out, E2.out⟩
      case measure => have := hq'.out; simp [intOf]; omega
    · have t' : decide ((k : Int) < n) = false := by simp; omega
      obtain rfl : k = n := by omega
      have hl := hideP (lead_all cur k m hV.out.1)
      have E1 := hideP hV.out.2.1
      have E2 := hideP hV.out.2.2
      have hc := hideP hV.out.1.1
      clear hV hlt
      go_wp2
      go_ret
      refine ⟨_, _, rfl, E2.out, ?_⟩
      have h2 := hl.out
      unfold Own
      rw [List.length_replicate, ← h2]
      exact ⟨by rw [hc.out]; omega, .inr ⟨w.heap.size, k, cur.toArray, rfl, Nat.le_refl _, E1.out, Nat.le_refl _, by unfold maxLen; omega, by simp [hc.out], by simp [← hc.out]⟩⟩
end Go.Proofs.Ytgcbodpjidoanaa
namespace Go.Proofs.Ytgcbodpjidoanaa
open Go.RowKit
set_option maxRecDepth 100000 in
set_option maxHeartbeats 1000000 in
theorem of_no (P : Option Addr) (p : List Int) (c : Nat) (w : World) (h : p.length < 1 ∨ 8 < p.length) :
    Calls Try.prog 107 #[.slice P p.length c] w fun e w' => e = .returned (.agg #[.slice none 0 0, .slice none 0 0]) ∧ Below w.heap.size w w' := by
  obtain ⟨n, hn⟩ : ∃ n, n = p.length := ⟨_, rfl⟩
  rw [← hn] at h ⊢
  clear hn
  have hx := Two.new w 41 (.slice none 0 0) (.slice none 0 0)
  have f0 := hx.fz 0
  have f1 := hx.fz 1
  have k0 := hx.c0
  have k1 := hx.c1
  have H := hideP hx
  clear hx
  rcases h with h | h
  · have t : decide ((n : Int) < 1) = true := by simp; omega
    go_enter Try.func107, Try.ntmps107
    go_wp2
    exact ret_box rfl rfl H.out rfl ⟨rfl, below_new w _⟩
  · have t : decide ((n : Int) < 1) = false := by simp; omega
    have t' : decide ((8 : Int) < (n : Int)) = true := by simp; omega
    go_enter Try.func107, Try.ntmps107
    go_wp2
    exact ret_box rfl rfl H.out rfl ⟨rfl, below_new w _⟩
set_option maxRecDepth 100000 in
set_option maxHeartbeats 1000000 in
theorem of_in (P : Option Addr) (p : List Int) (c : Nat) (w : World) (hP : Arr w w.heap.size P p.length (i64s p)) (h1 : 1 ≤ p.length) (h8 : p.length ≤ 8) :
    Calls Try.prog 107 #[.slice P p.length c] w fun e w' => ∃ R s R' s', e = .returned (.agg #[.slice R p.length s, .slice R' p.length s']) ∧ Below w.heap.size w w' ∧ Arr w' w'.heap.size R p.length (i64s p) ∧ Arr w' w'.heap.size R' p.length (i64s p) := by
  have t1 := fun W h => clone_any P p c W h (by omega)
  obtain ⟨n, hn⟩ : ∃ n, n = p.length := ⟨_, rfl⟩
  have HN := hideP hn
  rw [← hn] at h1 h8 hP t1 ⊢
  have j1 : decide ((n : Int) < 1) = false := by simp; omega
  have j2 : decide ((8 : Int) < (n : Int)) = false := by simp; omega
  clear hn
  have Ht1 := hideP t1; have HhP := hideP hP; clear t1 hP
  go_enter Try.func107, Try.ntmps107
  go_wp2_with fail
  obtain ⟨w1, hw1⟩ : ∃ w1, w1 = w.alloc (Obj.cells #[.slice none 0 0, .slice none 0 0] 41) := ⟨_, rfl⟩
  have c2 := hideP (show Two w1 w.heap.size 41 (.slice none 0 0) (.slice none 0 0) by rw [hw1]; exact Two.new _ _ _ _)
  have cb := hideP (show Below w.heap.size w w1 by rw [hw1]; exact below_new _ _)
  rw [← hw1]
  clear hw1
  have Ht2 := Ht1
  have lt1 := hideP c2.out.lt
  refine (Ht1.out w1 (HhP.out.after cb.out)).mono ?_
  rintro e w2 ⟨R, s, rfl, hb, o1⟩
  replace c2 := hideP (c2.out.after hb)
  replace cb := hideP (bstep cb.out hb)
  clear hb
  have lt2 := hideP c2.out.lt
  go_wp2_with fail
  refine (Ht2.out w2 (HhP.out.after cb.out)).mono ?_
  rintro e w3 ⟨R', s', rfl, hb, o2⟩
  replace o1 := hideP (o1.ext (Ext.of_below hb))
  replace o2 := hideP o2
  replace c2 := hideP (c2.out.after hb)
  replace cb := hideP (bstep cb.out hb)
  clear hb
  have f0 := c2.out.fz 0
  have f1 := c2.out.fz 1
  have kc20 := c2.out.c0; have kc21 := c2.out.c1
  go_wp2
  refine ret_box rfl rfl (c2.out.set2 _ _) rfl ?_
  replace o1 := own_setCell (own_setCell o1.out (a := ⟨w.heap.size, 0, none⟩) lt1.out (.slice R n s)) (a := ⟨w.heap.size, 1, none⟩) lt1.out (.slice R' n s')
  replace o2 := own_setCell (own_setCell o2.out (a := ⟨w.heap.size, 0, none⟩) lt2.out (.slice R n s)) (a := ⟨w.heap.size, 1, none⟩) lt2.out (.slice R' n s')
  refine ⟨R, s, R', s', rfl, (cb.out.setCell (p := ⟨w.heap.size, 0, none⟩) (Nat.le_refl _) _).setCell (p := ⟨w.heap.size, 1, none⟩) (Nat.le_refl _) _, ?_, ?_⟩
  · have := o1.arr; rwa [← HN.out] at this
  · have := o2.arr; rwa [← HN.out] at this
theorem of_any (P : Option Addr) (p : List Int) (c : Nat) (w : World) (hP : Arr w w.heap.size P p.length (i64s p)) :
    Calls Try.prog 107 #[.slice P p.length c] w fun e w' => ∃ R s R' s' m, e = .returned (.agg #[.slice R m s, .slice R' m s']) ∧ Below w.heap.size w w' ∧ (1 ≤ p.length → p.length ≤ 8 → m = p.length ∧ Arr w' w'.heap.size R m (i64s p) ∧ Arr w' w'.heap.size R' m (i64s p)) := by
  by_cases h : 1 ≤ p.length ∧ p.length ≤ 8
  · refine (of_in P p c w hP h.1 h.2).mono ?_
    rintro e w' ⟨R, s, R', s', he, hb, h1, h2⟩
    exact ⟨R, s, R', s', _, he, hb, fun _ _ => ⟨rfl, h1, h2⟩⟩
  · refine (of_no P p c w (by omega)).mono ?_
    rintro e w' ⟨he, hb⟩
    exact ⟨none, 0, none, 0, 0, he, hb, fun h1 h2 => absurd ⟨h1, h2⟩ h⟩
set_option maxRecDepth 100000 in
set_option maxHeartbeats 1000000 in
theorem whole_no (d : Int) (w : World) (h : d < 1 ∨ 8 < d) :
    Calls Try.prog 212 #[.int .i64 d] w fun e w' => e = .returned (.agg #[.slice none 0 0, .slice none 0 0]) ∧ Below w.heap.size w w' := by
  have hx := Two.new w 41 (.slice none 0 0) (.slice none 0 0)
  have f0 := hx.fz 0
  have f1 := hx.fz 1
  have k0 := hx.c0
  have k1 := hx.c1
  have H := hideP hx
  clear hx
  rcases h with h | h
  · have t : decide (d < 1) = true := by simp; omega
    go_enter Try.func212, Try.ntmps212
    go_wp2
    exact ret_box rfl rfl H.out rfl ⟨rfl, below_new w _⟩
  · have t : decide (d < 1) = false := by simp; omega
    have t' : decide ((8 : Int) < d) = true := by simp; omega
    go_enter Try.func212, Try.ntmps212
    go_wp2
    exact ret_box rfl rfl H.out rfl ⟨rfl, below_new w _⟩
set_option maxRecDepth 100000 in
set_option maxHeartbeats 1000000 in
theorem whole_in (n : Nat) (w : World) (h1 : 1 ≤ n) (h8 : n ≤ 8) :
    Calls Try.prog 212 #[.int .i64 n] w fun e w' => ∃ R s R' s', e = .returned (.agg #[.slice R n s, .slice R' n s']) ∧ Below w.heap.size w w' ∧ Arr w' w'.heap.size R n (i64s (List.replicate n (-9223372036854775808))) ∧ Arr w' w'.heap.size R' n (i64s (List.replicate n 9223372036854775807)) := by
  have t1 := fun W X h => repeat_any X (-9223372036854775808) n 1 W h h1 (by omega)
  have t2 := fun W X h => repeat_any X 9223372036854775807 n 1 W h h1 (by omega)
  have j1 : decide ((n : Int) < 1) = false := by simp; omega
  have j2 : decide ((8 : Int) < (n : Int)) = false := by simp; omega
  have Ht1 := hideP t1; have Ht2 := hideP t2; clear t1 t2
  go_enter Try.func212, Try.ntmps212
  go_wp2_with fail
  obtain ⟨w1, hw1⟩ : ∃ w1, w1 = (w.alloc (Obj.cells #[.slice none 0 0, .slice none 0 0] 41)).alloc (Obj.cells #[.int .i64 (-9223372036854775808)] 2) := ⟨_, rfl⟩
  have c2 := hideP (show Two w1 w.heap.size 41 (.slice none 0 0) (.slice none 0 0) by rw [hw1]; exact (Two.new _ _ _ _).alloc _)
  have x1 := hideP (show Arr w1 w1.heap.size (some ⟨w.heap.size + 1, 0, none⟩) 1 (i64s [-9223372036854775808]) by rw [hw1]; exact Arr.of_i64' (w.alloc (Obj.cells #[.slice none 0 0, .slice none 0 0] 41)) [-9223372036854775808] 2 (w.heap.size + 1) 1 (by simp) rfl)
  have cb := hideP (show Below w.heap.size w w1 by rw [hw1]; exact (below_new _ _).alloc (by simp) _)
  rw [← hw1]
  clear hw1
  have lt1 := hideP c2.out.lt
  refine (Ht1.out w1 _ x1.out).mono ?_
  rintro e w2 ⟨R, s, rfl, hb, o1⟩
  replace c2 := hideP (c2.out.after hb)
  replace cb := hideP (bstep cb.out hb)
  clear hb
  go_wp2_with fail
  have x2 := hideP (Arr.of_i64 w2 [9223372036854775807] 2)
  have hx2 : Obj.cells ([9223372036854775807].map (Value.int .i64)).toArray 2 = Obj.cells #[.int .i64 9223372036854775807] 2 := rfl
  rw [hx2] at x2
  clear hx2
  obtain ⟨w22, hw22⟩ : ∃ v, v = w2.alloc (Obj.cells #[.int .i64 9223372036854775807] 2) := ⟨_, rfl⟩
  have hb : Below w2.heap.size w2 w22 := by rw [hw22]; exact below_new _ _
  rw [← hw22] at x2 ⊢
  clear hw22
  replace o1 := hideP (o1.ext (Ext.of_below hb))
  replace c2 := hideP (c2.out.after hb)
  replace cb := hideP (bstep cb.out hb)
  clear hb
  have lt2 := hideP c2.out.lt
  refine (Ht2.out w22 _ x2.out).mono ?_
  rintro e w3 ⟨R', s', rfl, hb, o2⟩
  replace o1 := hideP (o1.out.ext (Ext.of_below hb))
  replace o2 := hideP o2
  replace c2 := hideP (c2.out.after hb)
  replace cb := hideP (bstep cb.out hb)
  clear hb
  have f0 := c2.out.fz 0
  have f1 := c2.out.fz 1
  have kc20 := c2.out.c0; have kc21 := c2.out.c1
  go_wp2
  refine ret_box rfl rfl (c2.out.set2 _ _) rfl ?_
  replace o1 := own_setCell (own_setCell o1.out (a := ⟨w.heap.size, 0, none⟩) lt1.out (.slice R n s)) (a := ⟨w.heap.size, 1, none⟩) lt1.out (.slice R' n s')
  replace o2 := own_setCell (own_setCell o2.out (a := ⟨w.heap.size, 0, none⟩) lt2.out (.slice R n s)) (a := ⟨w.heap.size, 1, none⟩) lt2.out (.slice R' n s')
  refine ⟨R, s, R', s', rfl, (cb.out.setCell (p := ⟨w.heap.size, 0, none⟩) (Nat.le_refl _) _).setCell (p := ⟨w.heap.size, 1, none⟩) (Nat.le_refl _) _, ?_, ?_⟩
  · have := o1.arr; rwa [List.length_replicate] at this
  · have := o2.arr; rwa [List.length_replicate] at this
end Go.Proofs.Ytgcbodpjidoanaa
