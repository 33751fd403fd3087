/- The page store, in the new way: New, Len, Get, Put, Clash. -/
import Derived.Test.YtbidoddghdbaoaaY24
import Derived.Test.YtbidoddghdbaoaaY33
import Derived.Test.YtbidoddghdbaoaaY42
set_option linter.unusedVariables false
set_option linter.unusedSimpArgs false
namespace Go.Proofs.Ytbidoddghdbaoaa
open Go.RowKit
open Go.Maps (Keyed)
set_option maxRecDepth 100000
set_option maxHeartbeats 4000000
/-- a page's sum -/
def pgD (t : List Nat) : List Nat := dig (sumW (preN 80 [t]))
def b32V (f : Nat → Value) : List Value := [f 0, f 1, f 2, f 3, f 4, f 5, f 6, f 7, f 8, f 9, f 10, f 11, f 12, f 13, f 14, f 15, f 16, f 17, f 18, f 19, f 20, f 21, f 22, f 23, f 24, f 25, f 26, f 27, f 28, f 29, f 30, f 31]
def dgK (s : List Nat) : Value := .agg (b32V fun i => .int .u8 (s.getD i 0 : Nat)).toArray
theorem dgK_eq {s : List Nat} (h : s.length = 32) : dgK s = dg s := by
  unfold dgK dg
  congr 2
  rw [show (b32V fun i => Value.int .u8 (s.getD i 0 : Nat)) = (List.range 32).map fun i => .int .u8 (s.getD i 0 : Nat) from rfl]
  apply List.ext_getElem (by simp [h])
  intro i h1 h2
  simp only [List.getElem_map, List.getElem_range]
  unfold b8
  have h1 : i < s.length := by simpa using h2
  rw [List.getD_eq_getElem?_getD, List.getElem?_eq_getElem h1]; rfl
theorem pgD_len (t : List Nat) : (pgD t).length = 32 := by simp [pgD, dig]
theorem pgD_B (t : List Nat) : Pl.IsB (pgD t) := fun i => by
  unfold pgD dig
  rcases Nat.lt_or_ge i 32 with q | q
  · rw [List.getD_eq_getElem?_getD, List.getElem?_map, List.getElem?_range q]
    exact Nat.mod_lt _ (by decide)
  · rw [List.getD_eq_getElem?_getD, List.getElem?_eq_none (by simp; omega)]; decide
theorem dgK_ok {s : List Nat} (h : s.length = 32) (hB : Pl.IsB s) : okK Try.prog 29 (dgK s) := by rw [dgK_eq h]; exact key_dg s h hB
theorem dgK_inj {s r : List Nat} (h : s.length = 32) (k : r.length = 32) (e : dgK s = dgK r) : s = r := by rw [dgK_eq h, dgK_eq k] at e; exact dg_inj e
/-- what the store holds -/
def pgL (L : List (List Nat)) : List (Value × DV) := L.map fun t => (dgK (pgD t), byteL t)
def stH (o m : Nat) (L : List (List Nat)) (a b : DV) (one : Bool) : OH := [(m, .mp (okK Try.prog 29) (pgL L)), (o, .box 98 [.own m 0, .d a, .d b, exB one])]
theorem cpnew_ok : ACall Try.prog 15 [] [] (.ptr 3 0 0 0) (stH 3 1 [] (byteL []) (byteL []) false) := by
  refine acall_on (mu := [3]) [] [] mixed Try.func15 rfl rfl rfl ?_
  conv => whnf
  repeat' (first
    | (refine And.intro (by omega) ?_; conv => whnf)
    | (refine And.intro rfl ?_; conv => whnf)
    | (refine And.intro (Nat.le_of_ble_eq_true rfl) ?_; conv => whnf)
    | (refine And.intro (fun i hi => ⟨_, rfl⟩) ?_; conv => whnf)
    | (refine And.intro (fun hq => ?_) (fun hq => ?_) <;> (first | (exfalso; simp at hq; done) | (exfalso; simp only [cond_true, cond_false, Bool.not_eq_true', Bool.not_eq_false', decide_eq_true_eq, decide_eq_false_iff_not] at hq; (try dsimp only at hq); omega) | (exfalso; simp at hq; omega) | ((try simp only [cond_true, cond_false, Bool.not_eq_true', Bool.not_eq_false', decide_eq_true_eq, decide_eq_false_iff_not] at hq); (try dsimp only at hq); (conv => whnf))))
    | (refine fun hq => ?_; conv => whnf)
    | (refine And.intro (by first | (show _ * 1 ≤ 140737488355328; omega) | (show _ * 8 ≤ _; omega) | (show _ * 24 ≤ _; omega) | (show _ * 16 ≤ _; omega) | (show _ * 32 ≤ _; omega) | (show _ * 120 ≤ _; omega) | (show _ * 280 ≤ _; omega) | (show _ * 72 ≤ _; omega) | (show _ * 48 ≤ _; omega)) ?_; conv => whnf)
    | (refine And.intro (by dsimp only; omega) ?_; conv => whnf)
    | fail)
  all_goals (repeat' (first | exact trivial | exact rfl | exact fun _ _ => rfl | apply And.intro | (intro i hi; rcases i with _ | _ | i <;> first | rfl | (exfalso; omega) | (simp at hi; done) | (simp at hi; omega)) | exact fun _ _ => by simp))
theorem pgL_mem {L : List (List Nat)} {t : List Nat} (h : t ∈ L) : (dgK (pgD t), byteL t) ∈ pgL L := List.mem_map.2 ⟨t, h, rfl⟩
theorem pgL_no {L : List (List Nat)} {s : List Nat} (hs : s.length = 32) (h : ∀ t ∈ L, pgD t ≠ s) : ∀ x ∈ pgL L, x.1 ≠ dgK s := fun x hx e => by
  obtain ⟨t, ht, rfl⟩ := List.mem_map.1 hx
  exact h t ht (dgK_inj (pgD_len t) hs e)
theorem pgL_app (L : List (List Nat)) (t : List Nat) : pgL L ++ [(dgK (pgD t), byteL t)] = pgL (L ++ [t]) := by simp [pgL]
theorem bsclone (n : Nat) (f : Nat → List DV) (hl : n ≤ 100000000000) : ACall Try.prog 49 [.d (.sl 1 n f)] [] (.d (.sl 1 n f)) [] := by
  rcases n with _ | n
  · refine ACall.none0 (pre := []) (post := []) fun A c => ?_
    refine acall_on (mu := [5]) [] [] mixed Try.func49 rfl rfl rfl ?_
    conv => whnf
    repeat' (first
      | (refine And.intro (by omega) ?_; conv => whnf)
      | (refine And.intro rfl ?_; conv => whnf)
      | (refine And.intro (Nat.le_of_ble_eq_true rfl) ?_; conv => whnf)
      | (refine And.intro (fun i hi => ⟨_, rfl⟩) ?_; conv => whnf)
      | (refine And.intro (fun hq => ?_) (fun hq => ?_) <;> (first | (exfalso; simp at hq; done) | (exfalso; simp at *; omega) | (exfalso; simp_all; done) | (conv => whnf)))
      | (refine And.intro (by first | (show _ * 1 ≤ 140737488355328; omega) | (show _ * 8 ≤ _; omega) | (show _ * 24 ≤ _; omega) | (show _ * 16 ≤ _; omega) | (show _ * 32 ≤ _; omega) | (show _ * 120 ≤ _; omega) | (show _ * 280 ≤ _; omega) | (show _ * 72 ≤ _; omega) | (show _ * 48 ≤ _; omega)) ?_; conv => whnf)
      | (refine And.intro (by simp at *; omega) ?_; conv => whnf)
      | (refine fun hq => ?_; conv => whnf)
      | fail)
    all_goals (repeat' (first | exact trivial | exact rfl | exact fun _ _ => rfl | apply And.intro | (intro i hi; rcases i with _ | _ | i <;> first | rfl | (exfalso; omega) | (simp at hi; done) | (simp at hi; omega)) | exact fun _ _ => by simp))
  · have h0 : 0 < n + 1 := by omega
    refine acall_on (mu := [5]) [] [] mixed Try.func49 rfl rfl rfl ?_
    conv => whnf
    repeat' (first
      | (refine And.intro (by omega) ?_; conv => whnf)
      | (refine And.intro rfl ?_; conv => whnf)
      | (refine And.intro (Nat.le_of_ble_eq_true rfl) ?_; conv => whnf)
      | (refine And.intro (fun i hi => ⟨_, rfl⟩) ?_; conv => whnf)
      | (refine And.intro (fun hq => ?_) (fun hq => ?_) <;> (first | (exfalso; simp at hq; done) | (exfalso; simp at *; omega) | (exfalso; simp_all; done) | (conv => whnf)))
      | (refine And.intro (by first | (show _ * 1 ≤ 140737488355328; omega) | (show _ * 8 ≤ _; omega) | (show _ * 24 ≤ _; omega) | (show _ * 16 ≤ _; omega) | (show _ * 32 ≤ _; omega) | (show _ * 120 ≤ _; omega) | (show _ * 280 ≤ _; omega) | (show _ * 72 ≤ _; omega) | (show _ * 48 ≤ _; omega)) ?_; conv => whnf)
      | (refine And.intro (by simp at *; omega) ?_; conv => whnf)
      | (refine fun hq => ?_; conv => whnf)
      | fail)
    all_goals (repeat' (first | exact trivial | (exact fun k _ => app_ge (Nat.zero_le k)) | (exact Nat.zero_add _) | exact rfl | exact fun _ _ => rfl | apply And.intro | (intro i hi; rcases i with _ | _ | i <;> first | rfl | (exfalso; omega) | (simp at hi; done) | (simp at hi; omega)) | exact fun _ _ => by simp))
abbrev nilX : DV := .v (.slice none 0 0)
theorem cpget_in9 (L : List (List Nat)) (x y : List Nat) (one : Bool) (t : List Nat) (ht : t ∈ L) (hl : t.length ≤ 1000000000) : ACall Try.prog 17 [.ptr 900 0 0 0, agD (digL (pgD t))] (stH 900 901 L (byteL x) (byteL y) one) (.tup [.d (byteL t), exI .i64 0]) (stH 900 901 L (byteL x) (byteL y) one) := by
  refine acall_on (mu := []) [] [] mixed Try.func17 rfl rfl rfl ?_
  conv => whnf
  repeat' (first
    | (refine And.intro (by omega) ?_; conv => whnf)
    | (refine And.intro rfl ?_; conv => whnf)
    | (refine And.intro (Nat.le_of_ble_eq_true rfl) ?_; conv => whnf)
    | (refine And.intro (fun i hi => ⟨_, rfl⟩) ?_; conv => whnf)
    | (refine And.intro (fun hq => ?_) (fun hq => ?_) <;> (first | (exfalso; simp at hq; done) | (exfalso; simp only [cond_true, cond_false, Bool.not_eq_true', Bool.not_eq_false', decide_eq_true_eq, decide_eq_false_iff_not] at hq; (try dsimp only at hq); omega) | (exfalso; simp at hq; omega) | ((try simp only [cond_true, cond_false, Bool.not_eq_true', Bool.not_eq_false', decide_eq_true_eq, decide_eq_false_iff_not] at hq); (try dsimp only at hq); (conv => whnf))))
    | (refine fun hq => ?_; conv => whnf)
    | (refine And.intro (by first | (show _ * 1 ≤ 140737488355328; omega) | (show _ * 8 ≤ _; omega) | (show _ * 24 ≤ _; omega) | (show _ * 16 ≤ _; omega) | (show _ * 32 ≤ _; omega) | (show _ * 120 ≤ _; omega) | (show _ * 280 ≤ _; omega) | (show _ * 72 ≤ _; omega) | (show _ * 48 ≤ _; omega)) ?_; conv => whnf)
    | (refine And.intro (by dsimp only; omega) ?_; conv => whnf)
    | fail)
  refine ⟨.found (byteL t), ?_⟩
  conv => whnf
  refine And.intro (pgL_mem ht) ?_
  conv => whnf
  refine And.intro (dgK_ok (pgD_len t) (pgD_B t)) ?_
  conv => whnf
  refine And.intro keyD ?_
  conv => whnf
  refine And.intro (fun v h => h) ?_
  conv => whnf
  repeat' (first
    | (refine And.intro (by omega) ?_; conv => whnf)
    | (refine And.intro rfl ?_; conv => whnf)
    | (refine And.intro (Nat.le_of_ble_eq_true rfl) ?_; conv => whnf)
    | (refine And.intro (fun i hi => ⟨_, rfl⟩) ?_; conv => whnf)
    | (refine ⟨_, _, _, .gen [] _ _ _ rfl (bsclone t.length (byF t) (by omega)) rfl rfl rfl rfl rfl, ?_⟩; conv => whnf)
    | (refine ⟨_, _, _, .gen [] _ _ _ rfl (ACall.arg ?harg (bsclone t.length (byF t) (by omega))) rfl rfl rfl rfl rfl, ?_⟩; (case harg => (repeat' (first | exact trivial | exact rfl | exact fun _ _ => rfl | apply And.intro | (intro i hi; rcases i with _ | _ | i <;> first | rfl | (exfalso; omega) | (simp at hi; done) | (simp at hi; omega)) | exact fun _ _ => by simp))); (conv => whnf))
    | (refine And.intro (fun hq => ?_) (fun hq => ?_) <;> (first | (exfalso; simp at hq; done) | (exfalso; simp only [cond_true, cond_false, Bool.not_eq_true', Bool.not_eq_false', decide_eq_true_eq, decide_eq_false_iff_not] at hq; (try dsimp only at hq); omega) | (exfalso; simp at hq; omega) | ((try simp only [cond_true, cond_false, Bool.not_eq_true', Bool.not_eq_false', decide_eq_true_eq, decide_eq_false_iff_not] at hq); (try dsimp only at hq); (conv => whnf))))
    | (refine fun hq => ?_; conv => whnf)
    | (refine And.intro (by first | (show _ * 1 ≤ 140737488355328; omega) | (show _ * 8 ≤ _; omega) | (show _ * 24 ≤ _; omega) | (show _ * 16 ≤ _; omega) | (show _ * 32 ≤ _; omega) | (show _ * 120 ≤ _; omega) | (show _ * 280 ≤ _; omega) | (show _ * 72 ≤ _; omega) | (show _ * 48 ≤ _; omega)) ?_; conv => whnf)
    | (refine And.intro (by dsimp only; omega) ?_; conv => whnf)
    | fail)
  all_goals (repeat' (first | exact trivial | exact rfl | exact fun _ _ => rfl | apply And.intro | (intro i hi; rcases i with _ | _ | i <;> first | rfl | (exfalso; omega) | (simp at hi; done) | (simp at hi; omega)) | exact fun _ _ => by simp))
theorem cpget_no9 (L : List (List Nat)) (x y : List Nat) (one : Bool) (s : List Nat) (hs : s.length = 32) (hB : Pl.IsB s) (hn : ∀ t ∈ L, pgD t ≠ s) : ACall Try.prog 17 [.ptr 900 0 0 0, agD (digL s)] (stH 900 901 L (byteL x) (byteL y) one) (.tup [.d (.v (.slice none 0 0)), exI .i64 9]) (stH 900 901 L (byteL x) (byteL y) one) := by
  refine acall_on (mu := []) [] [] mixed Try.func17 rfl rfl rfl ?_
  conv => whnf
  repeat' (first
    | (refine And.intro (by omega) ?_; conv => whnf)
    | (refine And.intro rfl ?_; conv => whnf)
    | (refine And.intro (Nat.le_of_ble_eq_true rfl) ?_; conv => whnf)
    | (refine And.intro (fun i hi => ⟨_, rfl⟩) ?_; conv => whnf)
    | (refine And.intro (fun hq => ?_) (fun hq => ?_) <;> (first | (exfalso; simp at hq; done) | (exfalso; simp only [cond_true, cond_false, Bool.not_eq_true', Bool.not_eq_false', decide_eq_true_eq, decide_eq_false_iff_not] at hq; (try dsimp only at hq); omega) | (exfalso; simp at hq; omega) | ((try simp only [cond_true, cond_false, Bool.not_eq_true', Bool.not_eq_false', decide_eq_true_eq, decide_eq_false_iff_not] at hq); (try dsimp only at hq); (conv => whnf))))
    | (refine fun hq => ?_; conv => whnf)
    | (refine And.intro (by first | (show _ * 1 ≤ 140737488355328; omega) | (show _ * 8 ≤ _; omega) | (show _ * 24 ≤ _; omega) | (show _ * 16 ≤ _; omega) | (show _ * 32 ≤ _; omega) | (show _ * 120 ≤ _; omega) | (show _ * 280 ≤ _; omega) | (show _ * 72 ≤ _; omega) | (show _ * 48 ≤ _; omega)) ?_; conv => whnf)
    | (refine And.intro (by dsimp only; omega) ?_; conv => whnf)
    | fail)
  refine ⟨.absent, ?_⟩
  conv => whnf
  refine And.intro (pgL_no hs hn) ?_
  conv => whnf
  refine And.intro (dgK_ok hs hB) ?_
  conv => whnf
  refine And.intro keyD ?_
  conv => whnf
  refine And.intro (fun v h => h) ?_
  conv => whnf
  repeat' (first
    | (refine And.intro (by omega) ?_; conv => whnf)
    | (refine And.intro rfl ?_; conv => whnf)
    | (refine And.intro (Nat.le_of_ble_eq_true rfl) ?_; conv => whnf)
    | (refine And.intro (fun i hi => ⟨_, rfl⟩) ?_; conv => whnf)
    | (refine And.intro (fun hq => ?_) (fun hq => ?_) <;> (first | (exfalso; simp at hq; done) | (exfalso; simp only [cond_true, cond_false, Bool.not_eq_true', Bool.not_eq_false', decide_eq_true_eq, decide_eq_false_iff_not] at hq; (try dsimp only at hq); omega) | (exfalso; simp at hq; omega) | ((try simp only [cond_true, cond_false, Bool.not_eq_true', Bool.not_eq_false', decide_eq_true_eq, decide_eq_false_iff_not] at hq); (try dsimp only at hq); (conv => whnf))))
    | (refine fun hq => ?_; conv => whnf)
    | (refine And.intro (by first | (show _ * 1 ≤ 140737488355328; omega) | (show _ * 8 ≤ _; omega) | (show _ * 24 ≤ _; omega) | (show _ * 16 ≤ _; omega) | (show _ * 32 ≤ _; omega) | (show _ * 120 ≤ _; omega) | (show _ * 280 ≤ _; omega) | (show _ * 72 ≤ _; omega) | (show _ * 48 ≤ _; omega)) ?_; conv => whnf)
    | (refine And.intro (by dsimp only; omega) ?_; conv => whnf)
    | fail)
  all_goals (repeat' (first | exact trivial | exact rfl | exact fun _ _ => rfl | apply And.intro | (intro i hi; rcases i with _ | _ | i <;> first | rfl | (exfalso; omega) | (simp at hi; done) | (simp at hi; omega)) | exact fun _ _ => by simp))
/-! ### Put -/
theorem acall_arr1 {P : Program} {f : FuncId} (hE : Enters P f) (b S : List Nat) (hS : S.length = 32)
    (h : ∀ A c w, Arr w w.heap.size A b.length (u8s b) → Calls P f #[.slice A b.length c] w fun e w' => e = .returned (.agg (S.map b8).toArray) ∧ Below w.heap.size w w') :
    ACall P f [.d (byteL b)] [] (agD (digL S)) [] := by
  refine ⟨hE, fun A W vl vs G hl hv => ?_⟩
  obtain ⟨v, rfl⟩ : ∃ v, vs = [v] := by
    match vs, hl with
    | [v], _ => exact ⟨v, rfl⟩
  have h0 := hv 0 (by simp)
  replace h0 : RD _ _ (byteL b) v := h0
  generalize hd : byteL b = d at h0
  cases h0 with
  | v x => cases hd
  | p cs b off u hb hu hr => cases hd
  | fn f cs us hl hr => cases hd
  | sl sz n f A0 b0 off c u hA hc hl2 hu hr =>
    cases hd
    refine (h A0 c W ?_).mono ?_
    · intro hn
      obtain ⟨e1, e2⟩ := hA hn
      refine ⟨b0, off, e1, e2.2.1, fun i hi => ?_⟩
      have q1 := (hu i 0 hi (by decide)).1
      have q2 := hr i 0 hi (by decide)
      have q3 : u i 0 = u8s b i := by
        generalize u i 0 = y at q2
        cases q2; rfl
      rw [q3] at q1
      rw [← q1]
      congr 1
      simp
    · rintro e W' ⟨rfl, K⟩
      obtain ⟨g1, g2, g3⟩ := G.grow (W' := W') K.size (fun k hk => K.block k hk) K.os K.tape K.output
      refine ⟨.agg (S.map b8).toArray, ⟨_, W', [], vl⟩, rfl, rfl, rfl, rfl, g1, g2, ⟨S.map b8, rfl, by simp [hS, digL, b32], fun j hj => ?_⟩⟩
      have hj : j < 32 := by simpa [digL, b32] using hj
      have e1 : ((digL S).map AV.d).getD j .any = .d (.v (.int .u8 (S.getD j 0 : Nat))) := by
        rw [show digL S = (List.range 32).map fun i => .v (.int .u8 (S.getD i 0 : Nat)) from rfl, List.map_map, List.getD_eq_getElem?_getD, List.getElem?_map, List.getElem?_range hj]; rfl
      have e2 : (S.map b8).getD j undef = .int .u8 (S.getD j 0 : Nat) := by
        rw [List.getD_eq_getElem?_getD, List.getElem?_map, List.getD_eq_getElem?_getD, List.getElem?_eq_getElem (by omega)]; rfl
      rw [e1, e2]
      exact rv_ex _
theorem cpsum_d (b : List Nat) (hB : Pl.IsB b) (hn : b.length ≤ 100000000) : ACall Try.prog 34 [.d (byteL b)] [] (agD (digL (pgD b))) [] :=
  acall_arr1 (enters_of Try.func34 rfl rfl) b (pgD b) (pgD_len b) fun A c w hA => psum_any A b c w hA hB hn
theorem strB_eq (t : List Nat) : strD t.length (byF t) = ⟨(t.map fun n => UInt8.ofNat n).toArray⟩ := by
  unfold strD strOfNums
  congr 2
  apply List.ext_getElem?
  intro i
  simp only [List.getElem?_map]
  rcases Nat.lt_or_ge i t.length with h | h
  · rw [List.getElem?_range h, List.getElem?_eq_getElem h]
    simp [byF, byteI, List.getD_eq_getElem?_getD, List.getElem?_eq_getElem h]
  · rw [List.getElem?_eq_none (by simpa using h), List.getElem?_eq_none h]; rfl
theorem strB_inj {s t : List Nat} (hs : Pl.IsB s) (ht : Pl.IsB t) (h : strD s.length (byF s) = strD t.length (byF t)) : s = t := by
  rw [strB_eq, strB_eq] at h
  have h2 : s.map (fun n => UInt8.ofNat n) = t.map fun n => UInt8.ofNat n := by
    have := congrArg (fun b : ByteArray => b.data.toList) h
    simpa using this
  have hl : s.length = t.length := by simpa using congrArg List.length h2
  apply List.ext_getElem hl
  intro i h3 h4
  have q := congrArg (fun l => l[i]?) h2
  simp only [List.getElem?_map, List.getElem?_eq_getElem h3, List.getElem?_eq_getElem h4, Option.map_some, Option.some.injEq] at q
  have a1 := hs i
  have a2 := ht i
  rw [List.getD_eq_getElem?_getD, List.getElem?_eq_getElem h3] at a1
  rw [List.getD_eq_getElem?_getD, List.getElem?_eq_getElem h4] at a2
  have q2 := congrArg UInt8.toNat q
  simp only [UInt8.toNat_ofNat'] at q2
  simp only [Option.getD_some] at a1 a2
  omega
theorem bseq_ok (s t : List Nat) (hs : Pl.IsB s) (ht : Pl.IsB t) : ACall Try.prog 50 [.d (byteL s), .d (byteL t)] [] (exB (decide (s = t))) [] := by
  refine acall_of (mu := []) mixed Try.func50 rfl rfl rfl ?_
  have e : decide (s = t) = decide (strD s.length (byF s) = strD t.length (byF t)) := by
    rw [decide_eq_decide]
    exact ⟨fun h => by rw [h], strB_inj hs ht⟩
  rw [e]
  conv => whnf
  repeat' (first
    | (refine And.intro (by omega) ?_; conv => whnf)
    | (refine And.intro rfl ?_; conv => whnf)
    | (refine And.intro (Nat.le_of_ble_eq_true rfl) ?_; conv => whnf)
    | (refine And.intro (fun i hi => ⟨_, rfl⟩) ?_; conv => whnf)
    | (refine And.intro (fun hq => ?_) (fun hq => ?_) <;> (first | (exfalso; simp at hq; done) | (exfalso; simp only [cond_true, cond_false, Bool.not_eq_true', Bool.not_eq_false', decide_eq_true_eq, decide_eq_false_iff_not] at hq; (try dsimp only at hq); omega) | (exfalso; simp at hq; omega) | ((try simp only [cond_true, cond_false, Bool.not_eq_true', Bool.not_eq_false', decide_eq_true_eq, decide_eq_false_iff_not] at hq); (try dsimp only at hq); (conv => whnf))))
    | (refine fun hq => ?_; conv => whnf)
    | (refine And.intro (by first | (show _ * 1 ≤ 140737488355328; omega) | (show _ * 8 ≤ _; omega) | (show _ * 24 ≤ _; omega) | (show _ * 16 ≤ _; omega) | (show _ * 32 ≤ _; omega) | (show _ * 120 ≤ _; omega) | (show _ * 280 ≤ _; omega) | (show _ * 72 ≤ _; omega) | (show _ * 48 ≤ _; omega)) ?_; conv => whnf)
    | (refine And.intro (by dsimp only; omega) ?_; conv => whnf)
    | fail)
  all_goals (repeat' (first | exact trivial | exact rfl | exact fun _ _ => rfl | apply And.intro | (intro i hi; rcases i with _ | _ | i <;> first | rfl | (exfalso; omega) | (simp at hi; done) | (simp at hi; omega)) | exact fun _ _ => by simp))
/-- a page that isn't there -/
theorem cpput_new9 (L : List (List Nat)) (x y : List Nat) (one : Bool) (t : List Nat) (hB : Pl.IsB t) (hl : t.length ≤ 100000000) (hn : ∀ u ∈ L, pgD u ≠ pgD t) : ACall Try.prog 23 [.ptr 900 0 0 0, .d (byteL t)] (stH 900 901 L (byteL x) (byteL y) one) (agD (digL (pgD t))) (stH 900 901 (L ++ [t]) (byteL x) (byteL y) one) := by
  refine acall_on (mu := []) [] [] mixed Try.func23 rfl rfl rfl ?_
  have q := cpsum_d t hB hl
  conv => whnf
  repeat' (first
    | (refine And.intro (by omega) ?_; conv => whnf)
    | (refine And.intro rfl ?_; conv => whnf)
    | (refine And.intro (Nat.le_of_ble_eq_true rfl) ?_; conv => whnf)
    | (refine And.intro (fun i hi => ⟨_, rfl⟩) ?_; conv => whnf)
    | (refine ⟨_, _, _, .flat _ _ rfl (q) rfl, ?_⟩; conv => whnf)
    | (refine ⟨_, _, _, .flat _ _ rfl (ACall.arg ?harg (q)) rfl, ?_⟩; (case harg => (repeat' (first | exact trivial | exact rfl | exact fun _ _ => rfl | apply And.intro | (intro i hi; rcases i with _ | _ | i <;> first | rfl | (exfalso; omega) | (simp at hi; done) | (simp at hi; omega)) | exact fun _ _ => by simp))); (conv => whnf))
    | (refine And.intro (fun hq => ?_) (fun hq => ?_) <;> (first | (exfalso; simp at hq; done) | (exfalso; simp only [cond_true, cond_false, Bool.not_eq_true', Bool.not_eq_false', decide_eq_true_eq, decide_eq_false_iff_not] at hq; (try dsimp only at hq); omega) | (exfalso; simp at hq; omega) | ((try simp only [cond_true, cond_false, Bool.not_eq_true', Bool.not_eq_false', decide_eq_true_eq, decide_eq_false_iff_not] at hq); (try dsimp only at hq); (conv => whnf))))
    | (refine fun hq => ?_; conv => whnf)
    | (refine And.intro (by first | (show _ * 1 ≤ 140737488355328; omega) | (show _ * 8 ≤ _; omega) | (show _ * 24 ≤ _; omega) | (show _ * 16 ≤ _; omega) | (show _ * 32 ≤ _; omega) | (show _ * 120 ≤ _; omega) | (show _ * 280 ≤ _; omega) | (show _ * 72 ≤ _; omega) | (show _ * 48 ≤ _; omega)) ?_; conv => whnf)
    | (refine And.intro (by dsimp only; omega) ?_; conv => whnf)
    | fail)
  refine ⟨.absent, ?_⟩
  conv => whnf
  refine And.intro (pgL_no (pgD_len t) hn) ?_
  conv => whnf
  refine And.intro (dgK_ok (pgD_len t) (pgD_B t)) ?_
  conv => whnf
  refine And.intro keyD ?_
  conv => whnf
  refine And.intro (fun v h => h) ?_
  conv => whnf
  repeat' (first
    | (refine And.intro (by omega) ?_; conv => whnf)
    | (refine And.intro rfl ?_; conv => whnf)
    | (refine And.intro (Nat.le_of_ble_eq_true rfl) ?_; conv => whnf)
    | (refine And.intro (fun i hi => ⟨_, rfl⟩) ?_; conv => whnf)
    | (refine ⟨_, _, _, .gen [] _ _ _ rfl (bsclone t.length (byF t) (by omega)) rfl rfl rfl rfl rfl, ?_⟩; conv => whnf)
    | (refine ⟨_, _, _, .gen [] _ _ _ rfl (ACall.arg ?harg (bsclone t.length (byF t) (by omega))) rfl rfl rfl rfl rfl, ?_⟩; (case harg => (repeat' (first | exact trivial | exact rfl | exact fun _ _ => rfl | apply And.intro | (intro i hi; rcases i with _ | _ | i <;> first | rfl | (exfalso; omega) | (simp at hi; done) | (simp at hi; omega)) | exact fun _ _ => by simp))); (conv => whnf))
    | (refine And.intro (fun hq => ?_) (fun hq => ?_) <;> (first | (exfalso; simp at hq; done) | (exfalso; simp only [cond_true, cond_false, Bool.not_eq_true', Bool.not_eq_false', decide_eq_true_eq, decide_eq_false_iff_not] at hq; (try dsimp only at hq); omega) | (exfalso; simp at hq; omega) | ((try simp only [cond_true, cond_false, Bool.not_eq_true', Bool.not_eq_false', decide_eq_true_eq, decide_eq_false_iff_not] at hq); (try dsimp only at hq); (conv => whnf))))
    | (refine fun hq => ?_; conv => whnf)
    | (refine And.intro (by first | (show _ * 1 ≤ 140737488355328; omega) | (show _ * 8 ≤ _; omega) | (show _ * 24 ≤ _; omega) | (show _ * 16 ≤ _; omega) | (show _ * 32 ≤ _; omega) | (show _ * 120 ≤ _; omega) | (show _ * 280 ≤ _; omega) | (show _ * 72 ≤ _; omega) | (show _ * 48 ≤ _; omega)) ?_; conv => whnf)
    | (refine And.intro (by dsimp only; omega) ?_; conv => whnf)
    | fail)
  refine ⟨.absent, ?_⟩
  conv => whnf
  refine And.intro (pgL_no (pgD_len t) hn) ?_
  conv => whnf
  refine And.intro (dgK_ok (pgD_len t) (pgD_B t)) ?_
  conv => whnf
  refine And.intro keyD ?_
  conv => whnf
  refine And.intro (fun v h => h) ?_
  conv => whnf
  repeat' (first
    | (refine And.intro (by omega) ?_; conv => whnf)
    | (refine And.intro rfl ?_; conv => whnf)
    | (refine And.intro (Nat.le_of_ble_eq_true rfl) ?_; conv => whnf)
    | (refine And.intro (fun i hi => ⟨_, rfl⟩) ?_; conv => whnf)
    | (refine And.intro (fun hq => ?_) (fun hq => ?_) <;> (first | (exfalso; simp at hq; done) | (exfalso; simp only [cond_true, cond_false, Bool.not_eq_true', Bool.not_eq_false', decide_eq_true_eq, decide_eq_false_iff_not] at hq; (try dsimp only at hq); omega) | (exfalso; simp at hq; omega) | ((try simp only [cond_true, cond_false, Bool.not_eq_true', Bool.not_eq_false', decide_eq_true_eq, decide_eq_false_iff_not] at hq); (try dsimp only at hq); (conv => whnf))))
    | (refine fun hq => ?_; conv => whnf)
    | (refine And.intro (by first | (show _ * 1 ≤ 140737488355328; omega) | (show _ * 8 ≤ _; omega) | (show _ * 24 ≤ _; omega) | (show _ * 16 ≤ _; omega) | (show _ * 32 ≤ _; omega) | (show _ * 120 ≤ _; omega) | (show _ * 280 ≤ _; omega) | (show _ * 72 ≤ _; omega) | (show _ * 48 ≤ _; omega)) ?_; conv => whnf)
    | (refine And.intro (by dsimp only; omega) ?_; conv => whnf)
    | fail)
  all_goals (repeat' (first | exact trivial | (exact pgL_app _ _) | exact rfl | exact fun _ _ => rfl | apply And.intro | (intro i hi; rcases i with _ | _ | i <;> first | rfl | (exfalso; omega) | (simp at hi; done) | (simp at hi; omega)) | exact fun _ _ => by simp))
theorem pgL_memD {L : List (List Nat)} {u t : List Nat} (h : u ∈ L) (e : pgD u = pgD t) : (dgK (pgD t), byteL u) ∈ pgL L := by rw [← e]; exact pgL_mem h
theorem cpput_same0 (L : List (List Nat)) (x y t : List Nat) (hB : Pl.IsB t) (hl : t.length ≤ 100000000) (hu : t ∈ L) : ACall Try.prog 23 [.ptr 900 0 0 0, .d (byteL t)] (stH 900 901 L (byteL x) (byteL y) false) (agD (digL (pgD t))) (stH 900 901 L (byteL x) (byteL y) false) := by
  refine acall_on (mu := []) [] [] mixed Try.func23 rfl rfl rfl ?_
  have q := cpsum_d t hB hl
  have q2 := bseq_ok t t hB hB
  rw [decide_eq_true rfl] at q2
  conv => whnf
  repeat' (first
    | (refine And.intro (by omega) ?_; conv => whnf)
    | (refine And.intro rfl ?_; conv => whnf)
    | (refine And.intro (Nat.le_of_ble_eq_true rfl) ?_; conv => whnf)
    | (refine And.intro (fun i hi => ⟨_, rfl⟩) ?_; conv => whnf)
    | (refine ⟨_, _, _, .flat _ _ rfl (q) rfl, ?_⟩; conv => whnf)
    | (refine ⟨_, _, _, .flat _ _ rfl (ACall.arg ?harg (q)) rfl, ?_⟩; (case harg => (repeat' (first | exact trivial | exact rfl | exact fun _ _ => rfl | apply And.intro | (intro i hi; rcases i with _ | _ | i <;> first | rfl | (exfalso; omega) | (simp at hi; done) | (simp at hi; omega)) | exact fun _ _ => by simp))); (conv => whnf))
    | (refine And.intro (fun hq => ?_) (fun hq => ?_) <;> (first | (exfalso; simp at hq; done) | (exfalso; simp only [cond_true, cond_false, Bool.not_eq_true', Bool.not_eq_false', decide_eq_true_eq, decide_eq_false_iff_not] at hq; (try dsimp only at hq); omega) | (exfalso; simp at hq; omega) | ((try simp only [cond_true, cond_false, Bool.not_eq_true', Bool.not_eq_false', decide_eq_true_eq, decide_eq_false_iff_not] at hq); (try dsimp only at hq); (conv => whnf))))
    | (refine fun hq => ?_; conv => whnf)
    | (refine And.intro (by first | (show _ * 1 ≤ 140737488355328; omega) | (show _ * 8 ≤ _; omega) | (show _ * 24 ≤ _; omega) | (show _ * 16 ≤ _; omega) | (show _ * 32 ≤ _; omega) | (show _ * 120 ≤ _; omega) | (show _ * 280 ≤ _; omega) | (show _ * 72 ≤ _; omega) | (show _ * 48 ≤ _; omega)) ?_; conv => whnf)
    | (refine And.intro (by dsimp only; omega) ?_; conv => whnf)
    | fail)
  refine ⟨.found (byteL t), ?_⟩
  conv => whnf
  refine And.intro (pgL_mem hu) ?_
  conv => whnf
  refine And.intro (dgK_ok (pgD_len t) (pgD_B t)) ?_
  conv => whnf
  refine And.intro keyD ?_
  conv => whnf
  refine And.intro (fun v h => h) ?_
  conv => whnf
  repeat' (first
    | (refine And.intro (by omega) ?_; conv => whnf)
    | (refine And.intro rfl ?_; conv => whnf)
    | (refine And.intro (Nat.le_of_ble_eq_true rfl) ?_; conv => whnf)
    | (refine And.intro (fun i hi => ⟨_, rfl⟩) ?_; conv => whnf)
    | (refine ⟨_, _, _, .flat _ _ rfl (q2) rfl, ?_⟩; conv => whnf)
    | (refine ⟨_, _, _, .flat _ _ rfl (ACall.arg ?harg (q2)) rfl, ?_⟩; (case harg => (repeat' (first | exact trivial | exact rfl | exact fun _ _ => rfl | apply And.intro | (intro i hi; rcases i with _ | _ | i <;> first | rfl | (exfalso; omega) | (simp at hi; done) | (simp at hi; omega)) | exact fun _ _ => by simp))); (conv => whnf))
    | (refine And.intro (fun hq => ?_) (fun hq => ?_) <;> (first | (exfalso; simp at hq; done) | (exfalso; simp only [cond_true, cond_false, Bool.not_eq_true', Bool.not_eq_false', decide_eq_true_eq, decide_eq_false_iff_not] at hq; (try dsimp only at hq); omega) | (exfalso; simp at hq; omega) | ((try simp only [cond_true, cond_false, Bool.not_eq_true', Bool.not_eq_false', decide_eq_true_eq, decide_eq_false_iff_not] at hq); (try dsimp only at hq); (conv => whnf))))
    | (refine fun hq => ?_; conv => whnf)
    | (refine And.intro (by first | (show _ * 1 ≤ 140737488355328; omega) | (show _ * 8 ≤ _; omega) | (show _ * 24 ≤ _; omega) | (show _ * 16 ≤ _; omega) | (show _ * 32 ≤ _; omega) | (show _ * 120 ≤ _; omega) | (show _ * 280 ≤ _; omega) | (show _ * 72 ≤ _; omega) | (show _ * 48 ≤ _; omega)) ?_; conv => whnf)
    | (refine And.intro (by dsimp only; omega) ?_; conv => whnf)
    | fail)
  all_goals (repeat' (first | exact trivial | exact rfl | exact fun _ _ => rfl | apply And.intro | (intro i hi; rcases i with _ | _ | i <;> first | rfl | (exfalso; omega) | (simp at hi; done) | (simp at hi; omega)) | exact fun _ _ => by simp))
theorem cpput_same1 (L : List (List Nat)) (x y t u : List Nat) (hB : Pl.IsB t) (hl : t.length ≤ 100000000) (hu : u ∈ L) (he : pgD u = pgD t) : ACall Try.prog 23 [.ptr 900 0 0 0, .d (byteL t)] (stH 900 901 L (byteL x) (byteL y) true) (agD (digL (pgD t))) (stH 900 901 L (byteL x) (byteL y) true) := by
  refine acall_on (mu := []) [] [] mixed Try.func23 rfl rfl rfl ?_
  have q := cpsum_d t hB hl
  conv => whnf
  repeat' (first
    | (refine And.intro (by omega) ?_; conv => whnf)
    | (refine And.intro rfl ?_; conv => whnf)
    | (refine And.intro (Nat.le_of_ble_eq_true rfl) ?_; conv => whnf)
    | (refine And.intro (fun i hi => ⟨_, rfl⟩) ?_; conv => whnf)
    | (refine ⟨_, _, _, .flat _ _ rfl (q) rfl, ?_⟩; conv => whnf)
    | (refine ⟨_, _, _, .flat _ _ rfl (ACall.arg ?harg (q)) rfl, ?_⟩; (case harg => (repeat' (first | exact trivial | exact rfl | exact fun _ _ => rfl | apply And.intro | (intro i hi; rcases i with _ | _ | i <;> first | rfl | (exfalso; omega) | (simp at hi; done) | (simp at hi; omega)) | exact fun _ _ => by simp))); (conv => whnf))
    | (refine And.intro (fun hq => ?_) (fun hq => ?_) <;> (first | (exfalso; simp at hq; done) | (exfalso; simp only [cond_true, cond_false, Bool.not_eq_true', Bool.not_eq_false', decide_eq_true_eq, decide_eq_false_iff_not] at hq; (try dsimp only at hq); omega) | (exfalso; simp at hq; omega) | ((try simp only [cond_true, cond_false, Bool.not_eq_true', Bool.not_eq_false', decide_eq_true_eq, decide_eq_false_iff_not] at hq); (try dsimp only at hq); (conv => whnf))))
    | (refine fun hq => ?_; conv => whnf)
    | (refine And.intro (by first | (show _ * 1 ≤ 140737488355328; omega) | (show _ * 8 ≤ _; omega) | (show _ * 24 ≤ _; omega) | (show _ * 16 ≤ _; omega) | (show _ * 32 ≤ _; omega) | (show _ * 120 ≤ _; omega) | (show _ * 280 ≤ _; omega) | (show _ * 72 ≤ _; omega) | (show _ * 48 ≤ _; omega)) ?_; conv => whnf)
    | (refine And.intro (by dsimp only; omega) ?_; conv => whnf)
    | fail)
  refine ⟨.found (byteL u), ?_⟩
  conv => whnf
  refine And.intro (pgL_memD hu he) ?_
  conv => whnf
  refine And.intro (dgK_ok (pgD_len t) (pgD_B t)) ?_
  conv => whnf
  refine And.intro keyD ?_
  conv => whnf
  refine And.intro (fun v h => h) ?_
  conv => whnf
  repeat' (first
    | (refine And.intro (by omega) ?_; conv => whnf)
    | (refine And.intro rfl ?_; conv => whnf)
    | (refine And.intro (Nat.le_of_ble_eq_true rfl) ?_; conv => whnf)
    | (refine And.intro (fun i hi => ⟨_, rfl⟩) ?_; conv => whnf)
    | (refine And.intro (fun hq => ?_) (fun hq => ?_) <;> (first | (exfalso; simp at hq; done) | (exfalso; simp only [cond_true, cond_false, Bool.not_eq_true', Bool.not_eq_false', decide_eq_true_eq, decide_eq_false_iff_not] at hq; (try dsimp only at hq); omega) | (exfalso; simp at hq; omega) | ((try simp only [cond_true, cond_false, Bool.not_eq_true', Bool.not_eq_false', decide_eq_true_eq, decide_eq_false_iff_not] at hq); (try dsimp only at hq); (conv => whnf))))
    | (refine fun hq => ?_; conv => whnf)
    | (refine And.intro (by first | (show _ * 1 ≤ 140737488355328; omega) | (show _ * 8 ≤ _; omega) | (show _ * 24 ≤ _; omega) | (show _ * 16 ≤ _; omega) | (show _ * 32 ≤ _; omega) | (show _ * 120 ≤ _; omega) | (show _ * 280 ≤ _; omega) | (show _ * 72 ≤ _; omega) | (show _ * 48 ≤ _; omega)) ?_; conv => whnf)
    | (refine And.intro (by dsimp only; omega) ?_; conv => whnf)
    | fail)
  all_goals (repeat' (first | exact trivial | exact rfl | exact fun _ _ => rfl | apply And.intro | (intro i hi; rcases i with _ | _ | i <;> first | rfl | (exfalso; omega) | (simp at hi; done) | (simp at hi; omega)) | exact fun _ _ => by simp))
/-- two unlike pages of one sum -/
theorem cpput_clash (L : List (List Nat)) (x y t u : List Nat) (hB : Pl.IsB t) (hl : t.length ≤ 100000000) (huB : Pl.IsB u) (hu : u ∈ L) (he : pgD u = pgD t) (hne : u ≠ t) : ACall Try.prog 23 [.ptr 900 0 0 0, .d (byteL t)] (stH 900 901 L (byteL x) (byteL y) false) (agD (digL (pgD t))) (stH 900 901 L (byteL u) (byteL t) true) := by
  refine acall_on (mu := []) [] [] mixed Try.func23 rfl rfl rfl ?_
  have q := cpsum_d t hB hl
  have q2 := bseq_ok u t huB hB
  rw [decide_eq_false hne] at q2
  conv => whnf
  repeat' (first
    | (refine And.intro (by omega) ?_; conv => whnf)
    | (refine And.intro rfl ?_; conv => whnf)
    | (refine And.intro (Nat.le_of_ble_eq_true rfl) ?_; conv => whnf)
    | (refine And.intro (fun i hi => ⟨_, rfl⟩) ?_; conv => whnf)
    | (refine ⟨_, _, _, .flat _ _ rfl (q) rfl, ?_⟩; conv => whnf)
    | (refine ⟨_, _, _, .flat _ _ rfl (ACall.arg ?harg (q)) rfl, ?_⟩; (case harg => (repeat' (first | exact trivial | exact rfl | exact fun _ _ => rfl | apply And.intro | (intro i hi; rcases i with _ | _ | i <;> first | rfl | (exfalso; omega) | (simp at hi; done) | (simp at hi; omega)) | exact fun _ _ => by simp))); (conv => whnf))
    | (refine And.intro (fun hq => ?_) (fun hq => ?_) <;> (first | (exfalso; simp at hq; done) | (exfalso; simp only [cond_true, cond_false, Bool.not_eq_true', Bool.not_eq_false', decide_eq_true_eq, decide_eq_false_iff_not] at hq; (try dsimp only at hq); omega) | (exfalso; simp at hq; omega) | ((try simp only [cond_true, cond_false, Bool.not_eq_true', Bool.not_eq_false', decide_eq_true_eq, decide_eq_false_iff_not] at hq); (try dsimp only at hq); (conv => whnf))))
    | (refine fun hq => ?_; conv => whnf)
    | (refine And.intro (by first | (show _ * 1 ≤ 140737488355328; omega) | (show _ * 8 ≤ _; omega) | (show _ * 24 ≤ _; omega) | (show _ * 16 ≤ _; omega) | (show _ * 32 ≤ _; omega) | (show _ * 120 ≤ _; omega) | (show _ * 280 ≤ _; omega) | (show _ * 72 ≤ _; omega) | (show _ * 48 ≤ _; omega)) ?_; conv => whnf)
    | (refine And.intro (by dsimp only; omega) ?_; conv => whnf)
    | fail)
  refine ⟨.found (byteL u), ?_⟩
  conv => whnf
  refine And.intro (pgL_memD hu he) ?_
  conv => whnf
  refine And.intro (dgK_ok (pgD_len t) (pgD_B t)) ?_
  conv => whnf
  refine And.intro keyD ?_
  conv => whnf
  refine And.intro (fun v h => h) ?_
  conv => whnf
  repeat' (first
    | (refine And.intro (by omega) ?_; conv => whnf)
    | (refine And.intro rfl ?_; conv => whnf)
    | (refine And.intro (Nat.le_of_ble_eq_true rfl) ?_; conv => whnf)
    | (refine And.intro (fun i hi => ⟨_, rfl⟩) ?_; conv => whnf)
    | (refine ⟨_, _, _, .flat _ _ rfl (q2) rfl, ?_⟩; conv => whnf)
    | (refine ⟨_, _, _, .gen [] _ _ _ rfl (bsclone t.length (byF t) (by omega)) rfl rfl rfl rfl rfl, ?_⟩; conv => whnf)
    | (refine ⟨_, _, _, .flat _ _ rfl (ACall.arg ?harg (q2)) rfl, ?_⟩; (case harg => (repeat' (first | exact trivial | exact rfl | exact fun _ _ => rfl | apply And.intro | (intro i hi; rcases i with _ | _ | i <;> first | rfl | (exfalso; omega) | (simp at hi; done) | (simp at hi; omega)) | exact fun _ _ => by simp))); (conv => whnf))
    | (refine ⟨_, _, _, .gen [] _ _ _ rfl (ACall.arg ?harg (bsclone t.length (byF t) (by omega))) rfl rfl rfl rfl rfl, ?_⟩; (case harg => (repeat' (first | exact trivial | exact rfl | exact fun _ _ => rfl | apply And.intro | (intro i hi; rcases i with _ | _ | i <;> first | rfl | (exfalso; omega) | (simp at hi; done) | (simp at hi; omega)) | exact fun _ _ => by simp))); (conv => whnf))
    | (refine And.intro (fun hq => ?_) (fun hq => ?_) <;> (first | (exfalso; simp at hq; done) | (exfalso; simp only [cond_true, cond_false, Bool.not_eq_true', Bool.not_eq_false', decide_eq_true_eq, decide_eq_false_iff_not] at hq; (try dsimp only at hq); omega) | (exfalso; simp at hq; omega) | ((try simp only [cond_true, cond_false, Bool.not_eq_true', Bool.not_eq_false', decide_eq_true_eq, decide_eq_false_iff_not] at hq); (try dsimp only at hq); (conv => whnf))))
    | (refine fun hq => ?_; conv => whnf)
    | (refine And.intro (by first | (show _ * 1 ≤ 140737488355328; omega) | (show _ * 8 ≤ _; omega) | (show _ * 24 ≤ _; omega) | (show _ * 16 ≤ _; omega) | (show _ * 32 ≤ _; omega) | (show _ * 120 ≤ _; omega) | (show _ * 280 ≤ _; omega) | (show _ * 72 ≤ _; omega) | (show _ * 48 ≤ _; omega)) ?_; conv => whnf)
    | (refine And.intro (by dsimp only; omega) ?_; conv => whnf)
    | fail)
  all_goals (repeat' (first | exact trivial | exact rfl | exact fun _ _ => rfl | apply And.intro | (intro i hi; rcases i with _ | _ | i <;> first | rfl | (exfalso; omega) | (simp at hi; done) | (simp at hi; omega)) | exact fun _ _ => by simp))
end Go.Proofs.Ytbidoddghdbaoaa
