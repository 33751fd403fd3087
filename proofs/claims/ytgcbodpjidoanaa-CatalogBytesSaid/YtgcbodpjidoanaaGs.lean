/- The reference's Count, Num, Text, Row (indentureref02); kid, Bytes (indentureref20). -/
import Derived.Test.YtgcbodpjidoanaaGr
set_option linter.unusedVariables false
set_option linter.unusedSimpArgs false
namespace Go.Proofs.Ytgcbodpjidoanaa
open Go.RowKit
set_option maxRecDepth 100000
set_option maxHeartbeats 1000000
/-- n bytes, told by f, are l -/
structure Byt (n : Nat) (f : Nat → List DV) (l : List Nat) : Prop where
  len : n = l.length
  get : ∀ k, k < n → f k = byF l k
theorem Byt.of (l : List Nat) : Byt l.length (byF l) l := ⟨rfl, fun _ _ => rfl⟩
theorem Byt.nil (f : Nat → List DV) : Byt 0 f [] := ⟨rfl, fun k hk => by omega⟩
theorem Byt.one (x : Nat) : Byt 1 (chop 1 [.v (.int .u8 (x : Nat))]) [x] := by
  refine ⟨rfl, fun k hk => ?_⟩
  rcases k with _ | k
  · rfl
  · omega
theorem Byt.app {n m : Nat} {f g : Nat → List DV} {l l' : List Nat} (h : Byt n f l) (h' : Byt m g l') : Byt (n + m) (app n f g) (l ++ l') := by
  obtain ⟨rfl, h⟩ := h
  obtain ⟨rfl, h'⟩ := h'
  refine ⟨by simp, fun k hk => ?_⟩
  rw [← app_byF]
  rcases Nat.lt_or_ge k l.length with q | q
  · rw [app_lt q, app_lt q, h k q]
  · rw [app_ge q, app_ge q, h' _ (by omega)]
theorem tmod_nat (n k : Nat) : Int.tmod (n : Int) (k : Int) = ((n % k : Nat) : Int) := (Int.ofNat_tmod n k).symm
theorem tdiv_nat (n k : Nat) : Int.tdiv (n : Int) (k : Int) = ((n / k : Nat) : Int) := (Int.ofNat_tdiv n k).symm
theorem qcount_d (n : Nat) (hn : n ≤ 1000000000) : ACall Try.prog 101 [exI .i64 n] [] (.d (byteL (Pl.be3 n))) [] := by
  have hn1 : n < 9223372036854775807 := by omega
  have v1 : DV.v (.int .u8 (IntKind.u8.wrap (Int.tmod (Int.tdiv (n : Int) 65536) 256))) = .v (.int .u8 (n / 65536 % 256 : Nat)) := by
    rw [show (65536 : Int) = ((65536 : Nat) : Int) from rfl, show (256 : Int) = ((256 : Nat) : Int) from rfl, tdiv_nat, tmod_nat, wrap8, Nat.mod_mod]
  have v2 : DV.v (.int .u8 (IntKind.u8.wrap (Int.tmod (Int.tdiv (n : Int) 256) 256))) = .v (.int .u8 (n / 256 % 256 : Nat)) := by
    rw [show (256 : Int) = ((256 : Nat) : Int) from rfl, tdiv_nat, tmod_nat, wrap8, Nat.mod_mod]
  have v3 : DV.v (.int .u8 (IntKind.u8.wrap (Int.tmod (n : Int) 256))) = .v (.int .u8 (n % 256 : Nat)) := by
    rw [show (256 : Int) = ((256 : Nat) : Int) from rfl, tmod_nat, wrap8, Nat.mod_mod]
  have o1 : -9223372036854775808 ≤ Int.tdiv (n : Int) 65536 ∧ Int.tdiv (n : Int) 65536 ≤ 9223372036854775807 := by
    rw [show (65536 : Int) = ((65536 : Nat) : Int) from rfl, tdiv_nat]; omega
  have o2 : -9223372036854775808 ≤ Int.tdiv (n : Int) 256 ∧ Int.tdiv (n : Int) 256 ≤ 9223372036854775807 := by
    rw [show (256 : Int) = ((256 : Nat) : Int) from rfl, tdiv_nat]; omega
  obtain ⟨o1, o1'⟩ := o1
  obtain ⟨o2, o2'⟩ := o2
  refine acall_on (mu := []) [] [] mixed Try.func101 rfl rfl rfl ?_
  conv => whnf
  repeat' (first
    | (refine And.intro (by omega) ?_; conv => whnf)
    | (refine And.intro rfl ?_; conv => whnf)
    | (refine And.intro (Nat.le_of_ble_eq_true rfl) ?_; conv => whnf)
    | (refine And.intro (fun i hi => ⟨_, rfl⟩) ?_; conv => whnf)
    | (refine And.intro (fun hq => ?_) (fun hq => ?_) <;> (first | (exfalso; simp at hq; done) | (exfalso; simp at *; omega) | (exfalso; simp_all; done) | (conv => whnf)))
    | (refine And.intro (by first | (show _ * 1 ≤ 140737488355328; omega) | (show _ * 8 ≤ 140737488355328; omega) | (show _ * 24 ≤ 140737488355328; omega) | (show _ * 16 ≤ 140737488355328; omega) | (show _ * 32 ≤ 140737488355328; omega) | (show _ * 120 ≤ 140737488355328; omega) | (show _ * 280 ≤ 140737488355328; omega) | (show _ * 72 ≤ 140737488355328; omega) | (show _ * 48 ≤ 140737488355328; omega)) ?_; conv => whnf)
    | (refine And.intro (by simp at *; omega) ?_; conv => whnf)
    | fail)
  all_goals first | exact trivial | exact ⟨rfl, by (repeat' (first | exact trivial | (exact be3_same n _ _ _ v1 v2 v3) | exact rfl | exact fun _ _ => rfl | apply And.intro | (intro i hi; rcases i with _ | _ | i <;> first | rfl | (exfalso; omega) | (simp at hi; done) | (simp at hi; omega)) | exact fun _ _ => by simp)), trivial⟩ | exact ⟨by (repeat' (first | exact trivial | (exact be3_same n _ _ _ v1 v2 v3) | exact rfl | exact fun _ _ => rfl | apply And.intro | (intro i hi; rcases i with _ | _ | i <;> first | rfl | (exfalso; omega) | (simp at hi; done) | (simp at hi; omega)) | exact fun _ _ => by simp)), trivial⟩ | exact ⟨by (repeat' (first | exact trivial | (exact be3_same n _ _ _ v1 v2 v3) | exact rfl | exact fun _ _ => rfl | apply And.intro | (intro i hi; rcases i with _ | _ | i <;> first | rfl | (exfalso; omega) | (simp at hi; done) | (simp at hi; omega)) | exact fun _ _ => by simp)), by (repeat' (first | exact trivial | (exact be3_same n _ _ _ v1 v2 v3) | exact rfl | exact fun _ _ => rfl | apply And.intro | (intro i hi; rcases i with _ | _ | i <;> first | rfl | (exfalso; omega) | (simp at hi; done) | (simp at hi; omega)) | exact fun _ _ => by simp))⟩ | exact ⟨rfl, by (repeat' (first | exact trivial | (exact be3_same n _ _ _ v1 v2 v3) | exact rfl | exact fun _ _ => rfl | apply And.intro | (intro i hi; rcases i with _ | _ | i <;> first | rfl | (exfalso; omega) | (simp at hi; done) | (simp at hi; omega)) | exact fun _ _ => by simp)), by (repeat' (first | exact trivial | (exact be3_same n _ _ _ v1 v2 v3) | exact rfl | exact fun _ _ => rfl | apply And.intro | (intro i hi; rcases i with _ | _ | i <;> first | rfl | (exfalso; omega) | (simp at hi; done) | (simp at hi; omega)) | exact fun _ _ => by simp))⟩
theorem qcount_o (n : Nat) (hn : n ≤ 1000000000) : ACall Try.prog 101 [exI .i64 n] [] (.own 14 0) [(14, .row 5 1 0 false 3 (byF (Pl.be3 n)))] := by
  have hn1 : n < 9223372036854775807 := by omega
  have v1 : DV.v (.int .u8 (IntKind.u8.wrap (Int.tmod (Int.tdiv (n : Int) 65536) 256))) = .v (.int .u8 (n / 65536 % 256 : Nat)) := by
    rw [show (65536 : Int) = ((65536 : Nat) : Int) from rfl, show (256 : Int) = ((256 : Nat) : Int) from rfl, tdiv_nat, tmod_nat, wrap8, Nat.mod_mod]
  have v2 : DV.v (.int .u8 (IntKind.u8.wrap (Int.tmod (Int.tdiv (n : Int) 256) 256))) = .v (.int .u8 (n / 256 % 256 : Nat)) := by
    rw [show (256 : Int) = ((256 : Nat) : Int) from rfl, tdiv_nat, tmod_nat, wrap8, Nat.mod_mod]
  have v3 : DV.v (.int .u8 (IntKind.u8.wrap (Int.tmod (n : Int) 256))) = .v (.int .u8 (n % 256 : Nat)) := by
    rw [show (256 : Int) = ((256 : Nat) : Int) from rfl, tmod_nat, wrap8, Nat.mod_mod]
  have o1 : -9223372036854775808 ≤ Int.tdiv (n : Int) 65536 ∧ Int.tdiv (n : Int) 65536 ≤ 9223372036854775807 := by
    rw [show (65536 : Int) = ((65536 : Nat) : Int) from rfl, tdiv_nat]; omega
  have o2 : -9223372036854775808 ≤ Int.tdiv (n : Int) 256 ∧ Int.tdiv (n : Int) 256 ≤ 9223372036854775807 := by
    rw [show (256 : Int) = ((256 : Nat) : Int) from rfl, tdiv_nat]; omega
  obtain ⟨o1, o1'⟩ := o1
  obtain ⟨o2, o2'⟩ := o2
  refine acall_on (mu := [14]) [] [] mixed Try.func101 rfl rfl rfl ?_
  conv => whnf
  repeat' (first
    | (refine And.intro (by omega) ?_; conv => whnf)
    | (refine And.intro rfl ?_; conv => whnf)
    | (refine And.intro (Nat.le_of_ble_eq_true rfl) ?_; conv => whnf)
    | (refine And.intro (fun i hi => ⟨_, rfl⟩) ?_; conv => whnf)
    | (refine And.intro (fun hq => ?_) (fun hq => ?_) <;> (first | (exfalso; simp at hq; done) | (exfalso; simp at *; omega) | (exfalso; simp_all; done) | (conv => whnf)))
    | (refine And.intro (by first | (show _ * 1 ≤ 140737488355328; omega) | (show _ * 8 ≤ 140737488355328; omega) | (show _ * 24 ≤ 140737488355328; omega) | (show _ * 16 ≤ 140737488355328; omega) | (show _ * 32 ≤ 140737488355328; omega) | (show _ * 120 ≤ 140737488355328; omega) | (show _ * 280 ≤ 140737488355328; omega) | (show _ * 72 ≤ 140737488355328; omega) | (show _ * 48 ≤ 140737488355328; omega)) ?_; conv => whnf)
    | (refine And.intro (by simp at *; omega) ?_; conv => whnf)
    | fail)
  all_goals first | exact trivial | exact ⟨rfl, by (repeat' (first | exact trivial | (exact be3_same n _ _ _ v1 v2 v3) | exact rfl | exact fun _ _ => rfl | apply And.intro | (intro i hi; rcases i with _ | _ | i <;> first | rfl | (exfalso; omega) | (simp at hi; done) | (simp at hi; omega)) | exact fun _ _ => by simp)), trivial⟩ | exact ⟨by (repeat' (first | exact trivial | (exact be3_same n _ _ _ v1 v2 v3) | exact rfl | exact fun _ _ => rfl | apply And.intro | (intro i hi; rcases i with _ | _ | i <;> first | rfl | (exfalso; omega) | (simp at hi; done) | (simp at hi; omega)) | exact fun _ _ => by simp)), trivial⟩ | exact ⟨by (repeat' (first | exact trivial | (exact be3_same n _ _ _ v1 v2 v3) | exact rfl | exact fun _ _ => rfl | apply And.intro | (intro i hi; rcases i with _ | _ | i <;> first | rfl | (exfalso; omega) | (simp at hi; done) | (simp at hi; omega)) | exact fun _ _ => by simp)), by (repeat' (first | exact trivial | (exact be3_same n _ _ _ v1 v2 v3) | exact rfl | exact fun _ _ => rfl | apply And.intro | (intro i hi; rcases i with _ | _ | i <;> first | rfl | (exfalso; omega) | (simp at hi; done) | (simp at hi; omega)) | exact fun _ _ => by simp))⟩ | exact ⟨rfl, by (repeat' (first | exact trivial | (exact be3_same n _ _ _ v1 v2 v3) | exact rfl | exact fun _ _ => rfl | apply And.intro | (intro i hi; rcases i with _ | _ | i <;> first | rfl | (exfalso; omega) | (simp at hi; done) | (simp at hi; omega)) | exact fun _ _ => by simp)), by (repeat' (first | exact trivial | (exact be3_same n _ _ _ v1 v2 v3) | exact rfl | exact fun _ _ => rfl | apply And.intro | (intro i hi; rcases i with _ | _ | i <;> first | rfl | (exfalso; omega) | (simp at hi; done) | (simp at hi; omega)) | exact fun _ _ => by simp))⟩
theorem qtext_d (m : List Nat) (hm : m.length ≤ 1000000000) : ACall Try.prog 117 [.d (byteL m)] [] (.d (byteL (Pl.textB m))) [] := by
  have q := qcount_o m.length hm
  rw [show Pl.textB m = Pl.be3 m.length ++ m from rfl]
  have h3 : (Pl.be3 m.length).length = 3 := rfl
  have hb : Byt 3 (byF (Pl.be3 m.length)) (Pl.be3 m.length) := Byt.of (Pl.be3 m.length)
  refine acall_on (mu := []) [] [] mixed Try.func117 rfl rfl rfl ?_
  conv => whnf
  repeat' (first
    | (refine And.intro (by omega) ?_; conv => whnf)
    | (refine And.intro rfl ?_; conv => whnf)
    | (refine And.intro (Nat.le_of_ble_eq_true rfl) ?_; conv => whnf)
    | (refine And.intro (fun i hi => ⟨_, rfl⟩) ?_; conv => whnf)
    | (refine ⟨_, _, _, .gen [] _ _ _ rfl (q) rfl rfl rfl rfl rfl, ?_⟩; conv => whnf)
    | (refine ⟨_, _, _, .gen [] _ _ _ rfl (ACall.arg ?harg (q)) rfl rfl rfl rfl rfl, ?_⟩; (case harg => (repeat' (first | exact trivial | exact rfl | exact fun _ _ => rfl | apply And.intro | (intro i hi; rcases i with _ | _ | i <;> first | rfl | (exfalso; omega) | (simp at hi; done) | (simp at hi; omega)) | exact fun _ _ => by simp))); (conv => whnf))
    | (refine And.intro (fun hq => ?_) (fun hq => ?_) <;> (first | (exfalso; simp at hq; done) | (exfalso; simp at *; omega) | (exfalso; simp_all; done) | (conv => whnf)))
    | (refine And.intro (by first | (show _ * 1 ≤ 140737488355328; omega) | (show _ * 8 ≤ 140737488355328; omega) | (show _ * 24 ≤ 140737488355328; omega) | (show _ * 16 ≤ 140737488355328; omega) | (show _ * 32 ≤ 140737488355328; omega) | (show _ * 120 ≤ 140737488355328; omega) | (show _ * 280 ≤ 140737488355328; omega) | (show _ * 72 ≤ 140737488355328; omega) | (show _ * 48 ≤ 140737488355328; omega)) ?_; conv => whnf)
    | (refine And.intro (by simp at *; omega) ?_; conv => whnf)
    | fail)
  all_goals first | exact trivial | exact ⟨rfl, by (repeat' (first | exact trivial | (exact (Byt.app hb (Byt.of m)).get) | ((simp; omega)) | exact rfl | exact fun _ _ => rfl | apply And.intro | (intro i hi; rcases i with _ | _ | i <;> first | rfl | (exfalso; omega) | (simp at hi; done) | (simp at hi; omega)) | exact fun _ _ => by simp)), trivial⟩ | exact ⟨by (repeat' (first | exact trivial | (exact (Byt.app hb (Byt.of m)).get) | ((simp; omega)) | exact rfl | exact fun _ _ => rfl | apply And.intro | (intro i hi; rcases i with _ | _ | i <;> first | rfl | (exfalso; omega) | (simp at hi; done) | (simp at hi; omega)) | exact fun _ _ => by simp)), trivial⟩ | exact ⟨by (repeat' (first | exact trivial | (exact (Byt.app hb (Byt.of m)).get) | ((simp; omega)) | exact rfl | exact fun _ _ => rfl | apply And.intro | (intro i hi; rcases i with _ | _ | i <;> first | rfl | (exfalso; omega) | (simp at hi; done) | (simp at hi; omega)) | exact fun _ _ => by simp)), by (repeat' (first | exact trivial | (exact (Byt.app hb (Byt.of m)).get) | ((simp; omega)) | exact rfl | exact fun _ _ => rfl | apply And.intro | (intro i hi; rcases i with _ | _ | i <;> first | rfl | (exfalso; omega) | (simp at hi; done) | (simp at hi; omega)) | exact fun _ _ => by simp))⟩ | exact ⟨rfl, by (repeat' (first | exact trivial | (exact (Byt.app hb (Byt.of m)).get) | ((simp; omega)) | exact rfl | exact fun _ _ => rfl | apply And.intro | (intro i hi; rcases i with _ | _ | i <;> first | rfl | (exfalso; omega) | (simp at hi; done) | (simp at hi; omega)) | exact fun _ _ => by simp)), by (repeat' (first | exact trivial | (exact (Byt.app hb (Byt.of m)).get) | ((simp; omega)) | exact rfl | exact fun _ _ => rfl | apply And.intro | (intro i hi; rcases i with _ | _ | i <;> first | rfl | (exfalso; omega) | (simp at hi; done) | (simp at hi; omega)) | exact fun _ _ => by simp))⟩
def numP (U j : Nat) : List Nat := List.replicate (8 - j) 0 ++ (Pl.be8 U).drop (8 - j)
theorem numP_len (U j : Nat) (hj : j ≤ 8) : (numP U j).length = 8 := by
  have : (Pl.be8 U).length = 8 := rfl
  simp [numP, this]
  try omega
theorem be8_get (U k : Nat) (hk : k < 8) : (Pl.be8 U).getD k 0 = U / 256 ^ (7 - k) % 256 := by
  unfold Pl.be8
  rw [List.getD_eq_getElem?_getD, List.getElem?_map, List.getElem?_range hk]
  simp only [Option.map_some, Option.getD_some]
  have e : 56 - 8 * k = 8 * (7 - k) := by omega
  have : 2 ^ (56 - 8 * k) = 256 ^ (7 - k) := by rw [e, Nat.pow_mul]
  rw [this]
theorem numP_get (U j k : Nat) (hj : j ≤ 8) (hk : k < 8) : (numP U j).getD k 0 = if k < 8 - j then 0 else U / 256 ^ (7 - k) % 256 := by
  have h8 : (Pl.be8 U).length = 8 := rfl
  unfold numP
  rw [List.getD_eq_getElem?_getD]
  split
  · rename_i h
    rw [List.getElem?_append_left (by simpa using h), List.getElem?_replicate]
    simp [h]
  · rename_i h
    rw [List.getElem?_append_right (by simp; omega), List.length_replicate, List.getElem?_drop, show 8 - j + (k - (8 - j)) = k by omega, ← List.getD_eq_getElem?_getD, be8_get U k hk]
theorem numP0 (U : Nat) : ∀ k, k < 8 → exD (Value.int .u8 0).cells.toList = byF (numP U 0) k := fun k hk => by
  show [DV.v (.int .u8 0)] = byF (numP U 0) k
  unfold byF
  rw [numP_get U 0 k (by omega) hk, if_pos (by omega)]
  rfl
theorem numPs (U j : Nat) (hj : j < 8) (v : DV) (hv : v = .v (.int .u8 (U / 256 ^ j % 256 : Nat))) (f : Nat → List DV) (hf : ∀ k, f k = byF (numP U j) k) (z : Int) (hz : z = 7 - (j : Int)) : ∀ k, k < 8 → (if k = z.toNat then spl (f z.toNat) 0 [v] else f k) = byF (numP U (j + 1)) k := fun k hk => by
  subst hz hv
  have e : (7 - (j : Int)).toNat = 7 - j := by omega
  rw [e]
  by_cases hkj : k = 7 - j
  · rw [if_pos hkj, hf]
    subst hkj
    show [DV.v _] = byF _ _
    unfold byF
    rw [numP_get U (j + 1) _ (by omega) hk, if_neg (by omega), show 7 - (7 - j) = j by omega]
  · rw [if_neg hkj, hf]
    unfold byF
    rw [numP_get U (j + 1) k (by omega) hk, numP_get U j k (by omega) hk]
    by_cases hlt : k < 8 - (j + 1)
    · rw [if_pos hlt, if_pos (by omega)]
    · rw [if_neg hlt, if_neg (by omega)]
theorem qnum_d (x : Int) (h1 : -9223372036854775808 ≤ x) (h2 : x ≤ 9223372036854775807) : ACall Try.prog 178 [exI .i64 x] [] (.d (byteL (Pl.num8 x))) [] := by
  rw [show Pl.num8 x = Pl.be8 (x + 9223372036854775808).toNat from rfl]
  have hu : IntKind.u64.wrap (IntKind.u64.wrap x + 9223372036854775808) = ((x + 9223372036854775808).toNat : Nat) := by
    rw [IntKind.wrap_u64, IntKind.wrap_u64]; omega
  have hU : (x + 9223372036854775808).toNat < 18446744073709551616 := by omega
  generalize (x + 9223372036854775808).toNat = U at hu hU ⊢
  refine acall_on (mu := []) [] [] mixed Try.func178 rfl rfl rfl ?_
  conv => whnf
  repeat' (first
    | (refine And.intro (by omega) ?_; conv => whnf)
    | (refine And.intro rfl ?_; conv => whnf)
    | (refine And.intro (Nat.le_of_ble_eq_true rfl) ?_; conv => whnf)
    | (refine And.intro (fun i hi => ⟨_, rfl⟩) ?_; conv => whnf)
    | (refine And.intro (fun hq => ?_) (fun hq => ?_) <;> (first | (exfalso; simp at hq; done) | (exfalso; simp at *; omega) | (exfalso; simp_all; done) | (conv => whnf)))
    | (refine And.intro (by first | (show _ * 1 ≤ 140737488355328; omega) | (show _ * 8 ≤ 140737488355328; omega) | (show _ * 24 ≤ 140737488355328; omega) | (show _ * 16 ≤ 140737488355328; omega) | (show _ * 32 ≤ 140737488355328; omega) | (show _ * 120 ≤ 140737488355328; omega) | (show _ * 280 ≤ 140737488355328; omega) | (show _ * 72 ≤ 140737488355328; omega) | (show _ * 48 ≤ 140737488355328; omega)) ?_; conv => whnf)
    | (refine And.intro (by simp at *; omega) ?_; conv => whnf)
    | fail)
  rw [hu]
  refine ⟨[], ?_⟩
  conv => whnf
  refine ⟨Nat, fun j => j ≤ 8, fun j => 8 - j, fun j => [(3, exI .u64 (U / 256 ^ j : Nat)), (5, exI .i64 (7 - j))], fun j => [(9, .row 5 1 0 false 8 (byF (numP U j)))], ⟨0, by omega, ?_⟩, ?_⟩
  · skip
    refine ⟨[], ?_⟩
    conv => whnf
    refine ⟨rfl, ?_, ?_⟩ <;> (repeat' (first | exact trivial | (exact numP0 U) | (exact congrArg (Value.int .u64) (by simp)) | exact rfl | exact fun _ _ => rfl | apply And.intro | (intro i hi; rcases i with _ | _ | i <;> first | rfl | (exfalso; omega) | (simp at hi; done) | (simp at hi; omega)) | exact fun _ _ => by simp))
  intro j hj
  conv => whnf
  rcases Nat.lt_or_ge j 8 with hlt | hge
  · have ev : IntKind.u8.wrap (Int.tmod ((U / 256 ^ j : Nat) : Int) 256) = ((U / 256 ^ j % 256 : Nat) : Int) := by
      rw [show (256 : Int) = ((256 : Nat) : Int) from rfl, tmod_nat, wrap8, Nat.mod_mod]
    have eq' : IntKind.u64.wrap (Int.tdiv ((U / 256 ^ j : Nat) : Int) 256) = ((U / 256 ^ (j + 1) : Nat) : Int) := by
      have hv : U / 256 ^ j ≤ U := Nat.div_le_self _ _
      rw [show (256 : Int) = ((256 : Nat) : Int) from rfl, tdiv_nat, IntKind.wrap_u64, Nat.pow_succ, ← Nat.div_div_eq_div_mul]
      generalize U / 256 ^ j = V at hv ⊢
      omega
    conv => whnf
    repeat' (first
      | (refine And.intro (by omega) ?_; conv => whnf)
      | (refine And.intro rfl ?_; conv => whnf)
      | (refine And.intro (Nat.le_of_ble_eq_true rfl) ?_; conv => whnf)
      | (refine And.intro (fun i hi => ⟨_, rfl⟩) ?_; conv => whnf)
      | (refine And.intro (fun hq => ?_) (fun hq => ?_) <;> (first | (exfalso; simp at hq; done) | (exfalso; simp at *; omega) | (exfalso; simp_all; done) | (conv => whnf)))
      | (refine And.intro (by first | (show _ * 1 ≤ 140737488355328; omega) | (show _ * 8 ≤ 140737488355328; omega) | (show _ * 24 ≤ 140737488355328; omega) | (show _ * 16 ≤ 140737488355328; omega) | (show _ * 32 ≤ 140737488355328; omega) | (show _ * 120 ≤ 140737488355328; omega) | (show _ * 280 ≤ 140737488355328; omega) | (show _ * 72 ≤ 140737488355328; omega) | (show _ * 48 ≤ 140737488355328; omega)) ?_; conv => whnf)
      | (refine And.intro (by simp at *; omega) ?_; conv => whnf)
      | fail)
    refine ⟨j + 1, by omega, by first | omega | (dsimp only; omega), ?_⟩
    refine ⟨[], ?_⟩
    conv => whnf
    refine ⟨rfl, ?_, ?_⟩ <;> (repeat' (first | exact trivial | (exact numPs U j hlt _ (congrArg (fun z => DV.v (.int .u8 z)) ev) _ (fun _ => rfl) _ rfl) | (exact congrArg (Value.int .u64) eq') | (exact congrArg (Value.int .i64) (by omega)) | exact rfl | exact fun _ _ => rfl | apply And.intro | (intro i hi; rcases i with _ | _ | i <;> first | rfl | (exfalso; omega) | (simp at hi; done) | (simp at hi; omega)) | exact fun _ _ => by simp))
  · obtain rfl : j = 8 := by omega
    have h8 : (Pl.be8 U).length = 8 := rfl
    rw [show numP U 8 = Pl.be8 U by simp [numP]]
    conv => whnf
    repeat' (first
      | (refine And.intro (by omega) ?_; conv => whnf)
      | (refine And.intro rfl ?_; conv => whnf)
      | (refine And.intro (Nat.le_of_ble_eq_true rfl) ?_; conv => whnf)
      | (refine And.intro (fun i hi => ⟨_, rfl⟩) ?_; conv => whnf)
      | (refine And.intro (fun hq => ?_) (fun hq => ?_) <;> (first | (exfalso; simp at hq; done) | (exfalso; simp at *; omega) | (exfalso; simp_all; done) | (conv => whnf)))
      | (refine And.intro (by first | (show _ * 1 ≤ 140737488355328; omega) | (show _ * 8 ≤ 140737488355328; omega) | (show _ * 24 ≤ 140737488355328; omega) | (show _ * 16 ≤ 140737488355328; omega) | (show _ * 32 ≤ 140737488355328; omega) | (show _ * 120 ≤ 140737488355328; omega) | (show _ * 280 ≤ 140737488355328; omega) | (show _ * 72 ≤ 140737488355328; omega) | (show _ * 48 ≤ 140737488355328; omega)) ?_; conv => whnf)
      | (refine And.intro (by simp at *; omega) ?_; conv => whnf)
      | fail)
    all_goals first | exact trivial | exact ⟨rfl, by (repeat' (first | exact trivial | exact rfl | exact fun _ _ => rfl | apply And.intro | (intro i hi; rcases i with _ | _ | i <;> first | rfl | (exfalso; omega) | (simp at hi; done) | (simp at hi; omega)) | exact fun _ _ => by simp)), trivial⟩ | exact ⟨by (repeat' (first | exact trivial | exact rfl | exact fun _ _ => rfl | apply And.intro | (intro i hi; rcases i with _ | _ | i <;> first | rfl | (exfalso; omega) | (simp at hi; done) | (simp at hi; omega)) | exact fun _ _ => by simp)), trivial⟩ | exact ⟨by (repeat' (first | exact trivial | exact rfl | exact fun _ _ => rfl | apply And.intro | (intro i hi; rcases i with _ | _ | i <;> first | rfl | (exfalso; omega) | (simp at hi; done) | (simp at hi; omega)) | exact fun _ _ => by simp)), by (repeat' (first | exact trivial | exact rfl | exact fun _ _ => rfl | apply And.intro | (intro i hi; rcases i with _ | _ | i <;> first | rfl | (exfalso; omega) | (simp at hi; done) | (simp at hi; omega)) | exact fun _ _ => by simp))⟩ | exact ⟨rfl, by (repeat' (first | exact trivial | exact rfl | exact fun _ _ => rfl | apply And.intro | (intro i hi; rcases i with _ | _ | i <;> first | rfl | (exfalso; omega) | (simp at hi; done) | (simp at hi; omega)) | exact fun _ _ => by simp)), by (repeat' (first | exact trivial | exact rfl | exact fun _ _ => rfl | apply And.intro | (intro i hi; rcases i with _ | _ | i <;> first | rfl | (exfalso; omega) | (simp at hi; done) | (simp at hi; omega)) | exact fun _ _ => by simp))⟩
theorem Byt.eqv {n m : Nat} {f : Nat → List DV} {l : List Nat} (h : Byt n f l) (e : m = n) : Byt m f l := by subst e; exact h
theorem qrow_d (r : List Int) (hr : r.length ≤ 255) (hI : Pl.IsI r) : ACall Try.prog 100 [.d (i64L r)] [] (.d (byteL (Pl.rowB r))) [] := by
  have hb : IntKind.u8.wrap (r.length : Int) = ((r.length : Nat) : Int) := by rw [wrap8]; omega
  refine acall_on (mu := [8]) [] [] mixed Try.func100 rfl rfl rfl ?_
  conv => whnf
  repeat' (first
    | (refine And.intro (by omega) ?_; conv => whnf)
    | (refine And.intro rfl ?_; conv => whnf)
    | (refine And.intro (Nat.le_of_ble_eq_true rfl) ?_; conv => whnf)
    | (refine And.intro (fun i hi => ⟨_, rfl⟩) ?_; conv => whnf)
    | (refine And.intro (fun hq => ?_) (fun hq => ?_) <;> (first | (exfalso; simp at hq; done) | (exfalso; simp at *; omega) | (exfalso; simp_all; done) | (conv => whnf)))
    | (refine And.intro (by first | (show _ * 1 ≤ 140737488355328; omega) | (show _ * 8 ≤ 140737488355328; omega) | (show _ * 24 ≤ 140737488355328; omega) | (show _ * 16 ≤ 140737488355328; omega) | (show _ * 32 ≤ 140737488355328; omega) | (show _ * 120 ≤ 140737488355328; omega) | (show _ * 280 ≤ 140737488355328; omega) | (show _ * 72 ≤ 140737488355328; omega) | (show _ * 48 ≤ 140737488355328; omega)) ?_; conv => whnf)
    | (refine And.intro (by simp at *; omega) ?_; conv => whnf)
    | fail)
  rw [hb]
  refine ⟨[.drop 8], ?_⟩
  conv => whnf
  refine ⟨Nat, fun j => j ≤ r.length, fun j => r.length - j, fun j => [(3, .own 8 0), (4, exI .i64 j)], fun j => [(8, .row 5 1 0 false ([r.length] ++ ((r.take j).map Pl.num8).flatten).length (byF ([r.length] ++ ((r.take j).map Pl.num8).flatten)))], ⟨0, by omega, ?_⟩, ?_⟩
  · skip
    refine ⟨[], ?_⟩
    conv => whnf
    refine ⟨rfl, ?_, ?_⟩ <;> (repeat' (first | exact trivial | (exact (Byt.one r.length).get) | ((simp; done)) | exact rfl | exact fun _ _ => rfl | apply And.intro | (intro i hi; rcases i with _ | _ | i <;> first | rfl | (exfalso; omega) | (simp at hi; done) | (simp at hi; omega)) | exact fun _ _ => by simp))
  intro j hj
  conv => whnf
  have hlj := rowB_take_len r j
  rcases Nat.lt_or_ge j r.length with hlt | hge
  · have q := qnum_d (r.getD j 0) (hI j).1 (hI j).2
    have hs := rowB_take r j hlt
    generalize [r.length] ++ ((r.take j).map Pl.num8).flatten = m at hlj hs ⊢
    have h8 := Pl.num8_len (r.getD j 0)
    conv => whnf
    repeat' (first
      | (refine And.intro (by omega) ?_; conv => whnf)
      | (refine And.intro rfl ?_; conv => whnf)
      | (refine And.intro (Nat.le_of_ble_eq_true rfl) ?_; conv => whnf)
      | (refine And.intro (fun i hi => ⟨_, rfl⟩) ?_; conv => whnf)
      | (refine ⟨_, _, _, .gen [] _ _ _ rfl (q) rfl rfl rfl rfl rfl, ?_⟩; conv => whnf)
      | (refine ⟨_, _, _, .gen [] _ _ _ rfl (ACall.arg ?harg (q)) rfl rfl rfl rfl rfl, ?_⟩; (case harg => (repeat' (first | exact trivial | exact rfl | exact fun _ _ => rfl | apply And.intro | (intro i hi; rcases i with _ | _ | i <;> first | rfl | (exfalso; omega) | (simp at hi; done) | (simp at hi; omega)) | exact fun _ _ => by simp))); (conv => whnf))
      | (refine And.intro (fun hq => ?_) (fun hq => ?_) <;> (first | (exfalso; simp at hq; done) | (exfalso; simp at *; omega) | (exfalso; simp_all; done) | (conv => whnf)))
      | (refine And.intro (by first | (show _ * 1 ≤ 140737488355328; omega) | (show _ * 8 ≤ 140737488355328; omega) | (show _ * 24 ≤ 140737488355328; omega) | (show _ * 16 ≤ 140737488355328; omega) | (show _ * 32 ≤ 140737488355328; omega) | (show _ * 120 ≤ 140737488355328; omega) | (show _ * 280 ≤ 140737488355328; omega) | (show _ * 72 ≤ 140737488355328; omega) | (show _ * 48 ≤ 140737488355328; omega)) ?_; conv => whnf)
      | (refine And.intro (by simp at *; omega) ?_; conv => whnf)
      | fail)
    refine ⟨j + 1, by omega, by first | omega | (dsimp only; omega), ?_⟩
    have hB : Byt (m.length + (Pl.num8 (r.getD j 0)).length) (app m.length (byF m) (byF (Pl.num8 (r.getD j 0)))) ([r.length] ++ ((r.take (j + 1)).map Pl.num8).flatten) := by rw [← hs]; exact Byt.app (Byt.of m) (Byt.of _)
    refine ⟨[.regen 8 0], ?_⟩
    conv => whnf
    refine ⟨rfl, ?_, ?_⟩ <;> (repeat' (first | exact trivial | (exact hB.get) | (exact hB.len) | exact rfl | exact fun _ _ => rfl | apply And.intro | (intro i hi; rcases i with _ | _ | i <;> first | rfl | (exfalso; omega) | (simp at hi; done) | (simp at hi; omega)) | exact fun _ _ => by simp))
  · obtain rfl : j = r.length := by omega
    rw [show Pl.rowB r = [r.length] ++ ((r.take r.length).map Pl.num8).flatten by rw [List.take_length]; rfl]
    conv => whnf
    repeat' (first
      | (refine And.intro (by omega) ?_; conv => whnf)
      | (refine And.intro rfl ?_; conv => whnf)
      | (refine And.intro (Nat.le_of_ble_eq_true rfl) ?_; conv => whnf)
      | (refine And.intro (fun i hi => ⟨_, rfl⟩) ?_; conv => whnf)
      | (refine And.intro (fun hq => ?_) (fun hq => ?_) <;> (first | (exfalso; simp at hq; done) | (exfalso; simp at *; omega) | (exfalso; simp_all; done) | (conv => whnf)))
      | (refine And.intro (by first | (show _ * 1 ≤ 140737488355328; omega) | (show _ * 8 ≤ 140737488355328; omega) | (show _ * 24 ≤ 140737488355328; omega) | (show _ * 16 ≤ 140737488355328; omega) | (show _ * 32 ≤ 140737488355328; omega) | (show _ * 120 ≤ 140737488355328; omega) | (show _ * 280 ≤ 140737488355328; omega) | (show _ * 72 ≤ 140737488355328; omega) | (show _ * 48 ≤ 140737488355328; omega)) ?_; conv => whnf)
      | (refine And.intro (by simp at *; omega) ?_; conv => whnf)
      | fail)
    all_goals first | exact trivial | exact ⟨rfl, by (repeat' (first | exact trivial | exact rfl | exact fun _ _ => rfl | apply And.intro | (intro i hi; rcases i with _ | _ | i <;> first | rfl | (exfalso; omega) | (simp at hi; done) | (simp at hi; omega)) | exact fun _ _ => by simp)), trivial⟩ | exact ⟨by (repeat' (first | exact trivial | exact rfl | exact fun _ _ => rfl | apply And.intro | (intro i hi; rcases i with _ | _ | i <;> first | rfl | (exfalso; omega) | (simp at hi; done) | (simp at hi; omega)) | exact fun _ _ => by simp)), trivial⟩ | exact ⟨by (repeat' (first | exact trivial | exact rfl | exact fun _ _ => rfl | apply And.intro | (intro i hi; rcases i with _ | _ | i <;> first | rfl | (exfalso; omega) | (simp at hi; done) | (simp at hi; omega)) | exact fun _ _ => by simp)), by (repeat' (first | exact trivial | exact rfl | exact fun _ _ => rfl | apply And.intro | (intro i hi; rcases i with _ | _ | i <;> first | rfl | (exfalso; omega) | (simp at hi; done) | (simp at hi; omega)) | exact fun _ _ => by simp))⟩ | exact ⟨rfl, by (repeat' (first | exact trivial | exact rfl | exact fun _ _ => rfl | apply And.intro | (intro i hi; rcases i with _ | _ | i <;> first | rfl | (exfalso; omega) | (simp at hi; done) | (simp at hi; omega)) | exact fun _ _ => by simp)), by (repeat' (first | exact trivial | exact rfl | exact fun _ _ => rfl | apply And.intro | (intro i hi; rcases i with _ | _ | i <;> first | rfl | (exfalso; omega) | (simp at hi; done) | (simp at hi; omega)) | exact fun _ _ => by simp))⟩
theorem Byt.dig {f : Nat → List DV} (s : List Nat) (hs : s.length = 32) (h : ∀ k, k < 32 → f k = byF s k) : Byt 32 f s := ⟨hs.symm, h⟩
theorem chop1_app (a b : List DV) (k : Nat) (h : k < a.length) : chop 1 (a ++ b) k = chop 1 a k := by
  unfold chop
  rw [Nat.mul_one, List.drop_append_of_le_length (by omega), List.take_append_of_le_length (by simp; omega)]
theorem dig_chopK (x : KidD) : ∀ k, k < 32 → chop 1 (kidL x) (0 + k) = byF x.sum k := fun k hk => by
  rw [← dig_chop x.sum k hk]
  exact chop1_app (digL x.sum) _ _ (by rw [Nat.zero_add]; exact hk)
theorem qkid_d (k : KidD) (hk : Pl.KidW k 255) : ACall Try.prog 118 [agD (kidL k)] [] (.d (byteL (Pl.kidB k))) [] := by
  obtain ⟨h1, h2, h3, h4, h5, h6⟩ := hk
  have e1 : ((k.live.toNat : Nat) : Int) = k.live := by omega
  have e2 : ((k.size.toNat : Nat) : Int) = k.size := by omega
  have q1 := qcount_d k.live.toNat (by omega)
  have q2 := qcount_d k.size.toNat (by omega)
  rw [e1] at q1
  rw [e2] at q2
  have q3 := qrow_d k.lo h4.1 h4.2
  have q4 := qrow_d k.hi h5.1 h5.2
  have q5 := qrow_d k.key h6.1 h6.2
  have hb : ∀ r : List Int, (Pl.rowB r).length = 1 + 8 * r.length := fun r => by unfold Pl.rowB; rw [List.length_append, Pl.rows_len]; rfl
  have b1 := hb k.lo
  have b2 := hb k.hi
  have b3 := hb k.key
  have b4 : (Pl.be3 k.live.toNat).length = 3 := rfl
  have b5 : (Pl.be3 k.size.toNat).length = 3 := rfl
  have d1 : Byt 32 (fun i => chop 1 (kidL k) (0 + i)) k.sum := Byt.dig k.sum h1 (dig_chopK k)
  rw [show Pl.kidB k = (((((([] : List Nat) ++ k.sum) ++ Pl.be3 k.live.toNat) ++ Pl.be3 k.size.toNat) ++ Pl.rowB k.lo) ++ Pl.rowB k.hi) ++ Pl.rowB k.key by simp [Pl.kidB]]
  refine acall_on (mu := [4]) [] [] mixed Try.func118 rfl rfl rfl ?_
  conv => whnf
  repeat' (first
    | (refine And.intro (by omega) ?_; conv => whnf)
    | (refine And.intro rfl ?_; conv => whnf)
    | (refine And.intro (Nat.le_of_ble_eq_true rfl) ?_; conv => whnf)
    | (refine And.intro (fun i hi => ⟨_, rfl⟩) ?_; conv => whnf)
    | (refine ⟨_, _, _, .gen [] _ _ _ rfl (q1) rfl rfl rfl rfl rfl, ?_⟩; conv => whnf)
    | (refine ⟨_, _, _, .gen [] _ _ _ rfl (q2) rfl rfl rfl rfl rfl, ?_⟩; conv => whnf)
    | (refine ⟨_, _, _, .gen [] _ _ _ rfl (q3) rfl rfl rfl rfl rfl, ?_⟩; conv => whnf)
    | (refine ⟨_, _, _, .gen [] _ _ _ rfl (q4) rfl rfl rfl rfl rfl, ?_⟩; conv => whnf)
    | (refine ⟨_, _, _, .gen [] _ _ _ rfl (q5) rfl rfl rfl rfl rfl, ?_⟩; conv => whnf)
    | (refine ⟨_, _, _, .gen [] _ _ _ rfl (ACall.arg ?harg (q1)) rfl rfl rfl rfl rfl, ?_⟩; (case harg => (repeat' (first | exact trivial | exact rfl | exact fun _ _ => rfl | apply And.intro | (intro i hi; rcases i with _ | _ | i <;> first | rfl | (exfalso; omega) | (simp at hi; done) | (simp at hi; omega)) | exact fun _ _ => by simp))); (conv => whnf))
    | (refine ⟨_, _, _, .gen [] _ _ _ rfl (ACall.arg ?harg (q2)) rfl rfl rfl rfl rfl, ?_⟩; (case harg => (repeat' (first | exact trivial | exact rfl | exact fun _ _ => rfl | apply And.intro | (intro i hi; rcases i with _ | _ | i <;> first | rfl | (exfalso; omega) | (simp at hi; done) | (simp at hi; omega)) | exact fun _ _ => by simp))); (conv => whnf))
    | (refine ⟨_, _, _, .gen [] _ _ _ rfl (ACall.arg ?harg (q3)) rfl rfl rfl rfl rfl, ?_⟩; (case harg => (repeat' (first | exact trivial | exact rfl | exact fun _ _ => rfl | apply And.intro | (intro i hi; rcases i with _ | _ | i <;> first | rfl | (exfalso; omega) | (simp at hi; done) | (simp at hi; omega)) | exact fun _ _ => by simp))); (conv => whnf))
    | (refine ⟨_, _, _, .gen [] _ _ _ rfl (ACall.arg ?harg (q4)) rfl rfl rfl rfl rfl, ?_⟩; (case harg => (repeat' (first | exact trivial | exact rfl | exact fun _ _ => rfl | apply And.intro | (intro i hi; rcases i with _ | _ | i <;> first | rfl | (exfalso; omega) | (simp at hi; done) | (simp at hi; omega)) | exact fun _ _ => by simp))); (conv => whnf))
    | (refine ⟨_, _, _, .gen [] _ _ _ rfl (ACall.arg ?harg (q5)) rfl rfl rfl rfl rfl, ?_⟩; (case harg => (repeat' (first | exact trivial | exact rfl | exact fun _ _ => rfl | apply And.intro | (intro i hi; rcases i with _ | _ | i <;> first | rfl | (exfalso; omega) | (simp at hi; done) | (simp at hi; omega)) | exact fun _ _ => by simp))); (conv => whnf))
    | (refine And.intro (fun hq => ?_) (fun hq => ?_) <;> (first | (exfalso; simp at hq; done) | (exfalso; simp at *; omega) | (exfalso; simp_all; done) | (conv => whnf)))
    | (refine And.intro (by first | (show _ * 1 ≤ 140737488355328; omega) | (show _ * 8 ≤ 140737488355328; omega) | (show _ * 24 ≤ 140737488355328; omega) | (show _ * 16 ≤ 140737488355328; omega) | (show _ * 32 ≤ 140737488355328; omega) | (show _ * 120 ≤ 140737488355328; omega) | (show _ * 280 ≤ 140737488355328; omega) | (show _ * 72 ≤ 140737488355328; omega) | (show _ * 48 ≤ 140737488355328; omega)) ?_; conv => whnf)
    | (refine And.intro (by simp at *; omega) ?_; conv => whnf)
    | fail)
  all_goals first | exact trivial | exact ⟨rfl, by (repeat' (first | exact trivial | ((exact fun k hk => Byt.get (by (repeat' (first | exact Byt.of _ | exact Byt.nil _ | exact Byt.one _ | assumption | exact d1 | apply Byt.app))) k hk)) | ((simp [h1]; omega)) | exact rfl | exact fun _ _ => rfl | apply And.intro | (intro i hi; rcases i with _ | _ | i <;> first | rfl | (exfalso; omega) | (simp at hi; done) | (simp at hi; omega)) | exact fun _ _ => by simp)), trivial⟩ | exact ⟨by (repeat' (first | exact trivial | ((exact fun k hk => Byt.get (by (repeat' (first | exact Byt.of _ | exact Byt.nil _ | exact Byt.one _ | assumption | exact d1 | apply Byt.app))) k hk)) | ((simp [h1]; omega)) | exact rfl | exact fun _ _ => rfl | apply And.intro | (intro i hi; rcases i with _ | _ | i <;> first | rfl | (exfalso; omega) | (simp at hi; done) | (simp at hi; omega)) | exact fun _ _ => by simp)), trivial⟩ | exact ⟨by (repeat' (first | exact trivial | ((exact fun k hk => Byt.get (by (repeat' (first | exact Byt.of _ | exact Byt.nil _ | exact Byt.one _ | assumption | exact d1 | apply Byt.app))) k hk)) | ((simp [h1]; omega)) | exact rfl | exact fun _ _ => rfl | apply And.intro | (intro i hi; rcases i with _ | _ | i <;> first | rfl | (exfalso; omega) | (simp at hi; done) | (simp at hi; omega)) | exact fun _ _ => by simp)), by (repeat' (first | exact trivial | ((exact fun k hk => Byt.get (by (repeat' (first | exact Byt.of _ | exact Byt.nil _ | exact Byt.one _ | assumption | exact d1 | apply Byt.app))) k hk)) | ((simp [h1]; omega)) | exact rfl | exact fun _ _ => rfl | apply And.intro | (intro i hi; rcases i with _ | _ | i <;> first | rfl | (exfalso; omega) | (simp at hi; done) | (simp at hi; omega)) | exact fun _ _ => by simp))⟩ | exact ⟨rfl, by (repeat' (first | exact trivial | ((exact fun k hk => Byt.get (by (repeat' (first | exact Byt.of _ | exact Byt.nil _ | exact Byt.one _ | assumption | exact d1 | apply Byt.app))) k hk)) | ((simp [h1]; omega)) | exact rfl | exact fun _ _ => rfl | apply And.intro | (intro i hi; rcases i with _ | _ | i <;> first | rfl | (exfalso; omega) | (simp at hi; done) | (simp at hi; omega)) | exact fun _ _ => by simp)), by (repeat' (first | exact trivial | ((exact fun k hk => Byt.get (by (repeat' (first | exact Byt.of _ | exact Byt.nil _ | exact Byt.one _ | assumption | exact d1 | apply Byt.app))) k hk)) | ((simp [h1]; omega)) | exact rfl | exact fun _ _ => rfl | apply And.intro | (intro i hi; rcases i with _ | _ | i <;> first | rfl | (exfalso; omega) | (simp at hi; done) | (simp at hi; omega)) | exact fun _ _ => by simp))⟩
theorem nb_str (s : ByteArray) : Byt s.size (strF s) (Pl.nb s) := ⟨(Pl.nb_len s).symm, fun k _ => str_byF s k⟩
theorem Byt.cast {n : Nat} {f : Nat → List DV} {l l' : List Nat} (h : Byt n f l) (e : l = l') : Byt n f l' := by subst e; exact h
theorem qbytes_d (l : List TableD) (hl : l.length ≤ 100) (hw : ∀ i, i < l.length → TabW (l.getD i default)) : ACall Try.prog 45 [.d (tablesL l)] [] (.d (byteL (catB l))) [] := by
  have h8 : IntKind.u8.wrap (l.length : Int) = ((l.length : Nat) : Int) := by rw [wrap8]; omega
  refine acall_on (mu := [9]) [] [] mixed Try.func45 rfl rfl rfl ?_
  conv => whnf
  repeat' (first
    | (refine And.intro (by omega) ?_; conv => whnf)
    | (refine And.intro rfl ?_; conv => whnf)
    | (refine And.intro (Nat.le_of_ble_eq_true rfl) ?_; conv => whnf)
    | (refine And.intro (fun i hi => ⟨_, rfl⟩) ?_; conv => whnf)
    | (refine And.intro (fun hq => ?_) (fun hq => ?_) <;> (first | (exfalso; simp at hq; done) | (exfalso; simp at *; omega) | (exfalso; simp_all; done) | (conv => whnf)))
    | (refine And.intro (by first | (show _ * 1 ≤ 140737488355328; omega) | (show _ * 8 ≤ 140737488355328; omega) | (show _ * 24 ≤ 140737488355328; omega) | (show _ * 16 ≤ 140737488355328; omega) | (show _ * 32 ≤ 140737488355328; omega) | (show _ * 120 ≤ 140737488355328; omega) | (show _ * 280 ≤ 140737488355328; omega) | (show _ * 72 ≤ 140737488355328; omega) | (show _ * 48 ≤ 140737488355328; omega)) ?_; conv => whnf)
    | (refine And.intro (by simp at *; omega) ?_; conv => whnf)
    | fail)
  rw [h8]
  refine ⟨[.drop 9], ?_⟩
  conv => whnf
  refine ⟨Nat, fun i => i ≤ l.length, fun i => l.length - i, fun i => [(3, .own 9 0), (4, exI .i64 i)], fun i => [(9, .row 5 1 0 false (tabsB l i).length (byF (tabsB l i)))], ⟨0, by omega, ?_⟩, ?_⟩
  · skip
    refine ⟨[], ?_⟩
    conv => whnf
    refine ⟨rfl, ?_, ?_⟩ <;> (repeat' (first | exact trivial | (exact (Byt.one l.length).get) | ((simp [tabsB]; done)) | exact rfl | exact fun _ _ => rfl | apply And.intro | (intro i hi; rcases i with _ | _ | i <;> first | rfl | (exfalso; omega) | (simp at hi; done) | (simp at hi; omega)) | exact fun _ _ => by simp))
  intro i hi
  conv => whnf
  have hbl := tabsB_len l hw i hi
  rcases Nat.lt_or_ge i l.length with hlt | hge
  · have hW := hw i hlt
    have hsucc := tabsB_succ l i hlt
    generalize tabsB l i = m at hbl hsucc ⊢
    have hcb := colsB_len (l.getD i default).cols hW.col
    have hbc : IntKind.u8.wrap ((l.getD i default).cols.length : Int) = (((l.getD i default).cols.length : Nat) : Int) := by rw [wrap8]; have := hW.cols; omega
    have hc7 := hW.cols
    have hn16 := hW.name
    have hnl : (Pl.nb (l.getD i default).name).length = (l.getD i default).name.size := Pl.nb_len _
    have q1 := qtext_d (Pl.nb (l.getD i default).name) (by omega)
    have htl := textB_len (Pl.nb (l.getD i default).name)
    conv => whnf
    repeat' (first
      | (refine And.intro (by omega) ?_; conv => whnf)
      | (refine And.intro rfl ?_; conv => whnf)
      | (refine And.intro (Nat.le_of_ble_eq_true rfl) ?_; conv => whnf)
      | (refine And.intro (fun i hi => ⟨_, rfl⟩) ?_; conv => whnf)
      | (refine ⟨_, _, _, .gen [] _ _ _ rfl (q1) rfl rfl rfl rfl rfl, ?_⟩; conv => whnf)
      | (refine ⟨_, _, _, .gen [] _ _ _ rfl (ACall.arg ?harg (q1)) rfl rfl rfl rfl rfl, ?_⟩; (case harg => (repeat' (first | exact trivial | (exact hnl.symm) | (exact fun k _ => str_byF _ k) | exact rfl | exact fun _ _ => rfl | apply And.intro | (intro i hi; rcases i with _ | _ | i <;> first | rfl | (exfalso; omega) | (simp at hi; done) | (simp at hi; omega)) | exact fun _ _ => by simp))); (conv => whnf))
      | (refine And.intro (fun hq => ?_) (fun hq => ?_) <;> (first | (exfalso; simp at hq; done) | (exfalso; simp at *; omega) | (exfalso; simp_all; done) | (conv => whnf)))
      | (refine And.intro (by first | (show _ * 1 ≤ 140737488355328; omega) | (show _ * 8 ≤ 140737488355328; omega) | (show _ * 24 ≤ 140737488355328; omega) | (show _ * 16 ≤ 140737488355328; omega) | (show _ * 32 ≤ 140737488355328; omega) | (show _ * 120 ≤ 140737488355328; omega) | (show _ * 280 ≤ 140737488355328; omega) | (show _ * 72 ≤ 140737488355328; omega) | (show _ * 48 ≤ 140737488355328; omega)) ?_; conv => whnf)
      | (refine And.intro (by simp at *; omega) ?_; conv => whnf)
      | fail)
    rw [show IntKind.u8.wrap ((l.getD (i : Int).toNat default).cols.length : Int) = (((l.getD i default).cols.length : Nat) : Int) from hbc]
    have hm2 : (m ++ Pl.textB (Pl.nb (l.getD i default).name) ++ [(l.getD i default).cols.length]).length ≤ m.length + 30 := by simp only [List.length_append, textB_len, Pl.nb_len, List.length_cons, List.length_nil]; omega
    have hsucc2 : m ++ Pl.textB (Pl.nb (l.getD i default).name) ++ [(l.getD i default).cols.length] ++ colsB (l.getD i default).cols (l.getD i default).cols.length ++ Pl.kidB (l.getD i default).kd ++ Pl.kidB (l.getD i default).zb = tabsB l (i + 1) := by
      rw [← hsucc]
      simp [tabB, colsB]
    have hB0 := (Byt.app (Byt.app (Byt.of m) (Byt.of (Pl.textB (Pl.nb (l.getD i default).name)))) (Byt.one (l.getD i default).cols.length)).cast (l' := m ++ Pl.textB (Pl.nb (l.getD i default).name) ++ [(l.getD i default).cols.length] ++ colsB (l.getD i default).cols 0) (by simp [colsB])
    generalize m ++ Pl.textB (Pl.nb (l.getD i default).name) ++ [(l.getD i default).cols.length] = m2 at hm2 hsucc2 hB0
    refine ⟨[.drop 34, .regen 9 0], ?_⟩
    conv => whnf
    refine ⟨Nat, fun j => j ≤ (l.getD i default).cols.length, fun j => (l.getD i default).cols.length - j, fun j => [(3, .own 9 0), (5, exI .i64 j)], fun j => [(9, .row 5 1 0 false (m2 ++ colsB (l.getD i default).cols j).length (byF (m2 ++ colsB (l.getD i default).cols j)))], ⟨0, by omega, ?_⟩, ?_⟩
    · skip
      refine ⟨[], ?_⟩
      conv => whnf
      refine ⟨rfl, ?_, ?_⟩ <;> (repeat' (first | exact trivial | (exact hB0.get) | (exact hB0.len) | exact rfl | exact fun _ _ => rfl | apply And.intro | (intro i hi; rcases i with _ | _ | i <;> first | rfl | (exfalso; omega) | (simp at hi; done) | (simp at hi; omega)) | exact fun _ _ => by simp))
    intro j hj
    conv => whnf
    have hcj := hcb j
    have hz : j ≤ 8 := by omega
    rcases Nat.lt_or_ge j (l.getD i default).cols.length with hjl | hjl
    · have hc16 := hW.col j
      have hcl : (Pl.nb ((l.getD i default).cols.getD j default)).length = ((l.getD i default).cols.getD j default).size := Pl.nb_len _
      have q3 := qtext_d (Pl.nb ((l.getD i default).cols.getD j default)) (by omega)
      have htl3 := textB_len (Pl.nb ((l.getD i default).cols.getD j default))
      have hmm : (m2 ++ colsB (l.getD i default).cols j).length ≤ m.length + 200 := by rw [List.length_append]; omega
      have hB1 := (Byt.app (Byt.of (m2 ++ colsB (l.getD i default).cols j)) (Byt.of (Pl.textB (Pl.nb ((l.getD i default).cols.getD j default))))).cast (l' := m2 ++ colsB (l.getD i default).cols (j + 1)) (by rw [List.append_assoc, colsB_succ _ j hjl])
      generalize m2 ++ colsB (l.getD i default).cols j = m3 at hmm hB1 ⊢
      conv => whnf
      repeat' (first
        | (refine And.intro (by omega) ?_; conv => whnf)
        | (refine And.intro rfl ?_; conv => whnf)
        | (refine And.intro (Nat.le_of_ble_eq_true rfl) ?_; conv => whnf)
        | (refine And.intro (fun i hi => ⟨_, rfl⟩) ?_; conv => whnf)
        | (refine ⟨_, _, _, .gen [] _ _ _ rfl (q3) rfl rfl rfl rfl rfl, ?_⟩; conv => whnf)
        | (refine ⟨_, _, _, .gen [] _ _ _ rfl (ACall.arg ?harg (q3)) rfl rfl rfl rfl rfl, ?_⟩; (case harg => (repeat' (first | exact trivial | (exact hcl.symm) | (exact fun k _ => str_byF _ k) | exact rfl | exact fun _ _ => rfl | apply And.intro | (intro i hi; rcases i with _ | _ | i <;> first | rfl | (exfalso; omega) | (simp at hi; done) | (simp at hi; omega)) | exact fun _ _ => by simp))); (conv => whnf))
        | (refine And.intro (fun hq => ?_) (fun hq => ?_) <;> (first | (exfalso; simp at hq; done) | (exfalso; simp at *; omega) | (exfalso; simp_all; done) | (conv => whnf)))
        | (refine And.intro (by first | (show _ * 1 ≤ 140737488355328; omega) | (show _ * 8 ≤ 140737488355328; omega) | (show _ * 24 ≤ 140737488355328; omega) | (show _ * 16 ≤ 140737488355328; omega) | (show _ * 32 ≤ 140737488355328; omega) | (show _ * 120 ≤ 140737488355328; omega) | (show _ * 280 ≤ 140737488355328; omega) | (show _ * 72 ≤ 140737488355328; omega) | (show _ * 48 ≤ 140737488355328; omega)) ?_; conv => whnf)
        | (refine And.intro (by simp at *; omega) ?_; conv => whnf)
        | fail)
      refine ⟨j + 1, by omega, by first | omega | (dsimp only; omega), ?_⟩
      refine ⟨[.regen 9 0], ?_⟩
      conv => whnf
      refine ⟨rfl, ?_, ?_⟩ <;> (repeat' (first | exact trivial | (exact hB1.get) | (exact hB1.len) | exact rfl | exact fun _ _ => rfl | apply And.intro | (intro i hi; rcases i with _ | _ | i <;> first | rfl | (exfalso; omega) | (simp at hi; done) | (simp at hi; omega)) | exact fun _ _ => by simp))
    · obtain rfl : j = (l.getD i default).cols.length := by omega
      have q4 := qkid_d (l.getD i default).kd hW.kd
      have q5 := qkid_d (l.getD i default).zb hW.zb
      have hk4 := kidB_len _ hW.kd
      have hk5 := kidB_len _ hW.zb
      have hmm : (m2 ++ colsB (l.getD i default).cols (l.getD i default).cols.length).length ≤ m.length + 200 := by rw [List.length_append]; omega
      have hB1 := (Byt.app (Byt.app (Byt.of (m2 ++ colsB (l.getD i default).cols (l.getD i default).cols.length)) (Byt.of (Pl.kidB (l.getD i default).kd))) (Byt.of (Pl.kidB (l.getD i default).zb))).cast hsucc2
      generalize m2 ++ colsB (l.getD i default).cols (l.getD i default).cols.length = m3 at hmm hB1 ⊢
      conv => whnf
      repeat' (first
        | (refine And.intro (by omega) ?_; conv => whnf)
        | (refine And.intro rfl ?_; conv => whnf)
        | (refine And.intro (Nat.le_of_ble_eq_true rfl) ?_; conv => whnf)
        | (refine And.intro (fun i hi => ⟨_, rfl⟩) ?_; conv => whnf)
        | (refine ⟨_, _, _, .gen [] _ _ _ rfl (q4) rfl rfl rfl rfl rfl, ?_⟩; conv => whnf)
        | (refine ⟨_, _, _, .gen [] _ _ _ rfl (q5) rfl rfl rfl rfl rfl, ?_⟩; conv => whnf)
        | (refine ⟨_, _, _, .gen [] _ _ _ rfl (ACall.arg ?harg (q4)) rfl rfl rfl rfl rfl, ?_⟩; (case harg => (repeat' (first | exact trivial | exact rfl | exact fun _ _ => rfl | apply And.intro | (intro i hi; rcases i with _ | _ | i <;> first | rfl | (exfalso; omega) | (simp at hi; done) | (simp at hi; omega)) | exact fun _ _ => by simp))); (conv => whnf))
        | (refine ⟨_, _, _, .gen [] _ _ _ rfl (ACall.arg ?harg (q5)) rfl rfl rfl rfl rfl, ?_⟩; (case harg => (repeat' (first | exact trivial | exact rfl | exact fun _ _ => rfl | apply And.intro | (intro i hi; rcases i with _ | _ | i <;> first | rfl | (exfalso; omega) | (simp at hi; done) | (simp at hi; omega)) | exact fun _ _ => by simp))); (conv => whnf))
        | (refine And.intro (fun hq => ?_) (fun hq => ?_) <;> (first | (exfalso; simp at hq; done) | (exfalso; simp at *; omega) | (exfalso; simp_all; done) | (conv => whnf)))
        | (refine And.intro (by first | (show _ * 1 ≤ 140737488355328; omega) | (show _ * 8 ≤ 140737488355328; omega) | (show _ * 24 ≤ 140737488355328; omega) | (show _ * 16 ≤ 140737488355328; omega) | (show _ * 32 ≤ 140737488355328; omega) | (show _ * 120 ≤ 140737488355328; omega) | (show _ * 280 ≤ 140737488355328; omega) | (show _ * 72 ≤ 140737488355328; omega) | (show _ * 48 ≤ 140737488355328; omega)) ?_; conv => whnf)
        | (refine And.intro (by simp at *; omega) ?_; conv => whnf)
        | fail)
      refine ⟨i + 1, by omega, by first | omega | (dsimp only; omega), ?_⟩
      refine ⟨[.regen 9 0], ?_⟩
      conv => whnf
      refine ⟨rfl, ?_, ?_⟩ <;> (repeat' (first | exact trivial | (exact hB1.get) | (exact hB1.len) | exact rfl | exact fun _ _ => rfl | apply And.intro | (intro i hi; rcases i with _ | _ | i <;> first | rfl | (exfalso; omega) | (simp at hi; done) | (simp at hi; omega)) | exact fun _ _ => by simp))
  · obtain rfl : i = l.length := by omega
    rw [show catB l = tabsB l l.length by unfold catB tabsB; rw [List.take_length]]
    conv => whnf
    repeat' (first
      | (refine And.intro (by omega) ?_; conv => whnf)
      | (refine And.intro rfl ?_; conv => whnf)
      | (refine And.intro (Nat.le_of_ble_eq_true rfl) ?_; conv => whnf)
      | (refine And.intro (fun i hi => ⟨_, rfl⟩) ?_; conv => whnf)
      | (refine And.intro (fun hq => ?_) (fun hq => ?_) <;> (first | (exfalso; simp at hq; done) | (exfalso; simp at *; omega) | (exfalso; simp_all; done) | (conv => whnf)))
      | (refine And.intro (by first | (show _ * 1 ≤ 140737488355328; omega) | (show _ * 8 ≤ 140737488355328; omega) | (show _ * 24 ≤ 140737488355328; omega) | (show _ * 16 ≤ 140737488355328; omega) | (show _ * 32 ≤ 140737488355328; omega) | (show _ * 120 ≤ 140737488355328; omega) | (show _ * 280 ≤ 140737488355328; omega) | (show _ * 72 ≤ 140737488355328; omega) | (show _ * 48 ≤ 140737488355328; omega)) ?_; conv => whnf)
      | (refine And.intro (by simp at *; omega) ?_; conv => whnf)
      | fail)
    all_goals first | exact trivial | exact ⟨rfl, by (repeat' (first | exact trivial | exact rfl | exact fun _ _ => rfl | apply And.intro | (intro i hi; rcases i with _ | _ | i <;> first | rfl | (exfalso; omega) | (simp at hi; done) | (simp at hi; omega)) | exact fun _ _ => by simp)), trivial⟩ | exact ⟨by (repeat' (first | exact trivial | exact rfl | exact fun _ _ => rfl | apply And.intro | (intro i hi; rcases i with _ | _ | i <;> first | rfl | (exfalso; omega) | (simp at hi; done) | (simp at hi; omega)) | exact fun _ _ => by simp)), trivial⟩ | exact ⟨by (repeat' (first | exact trivial | exact rfl | exact fun _ _ => rfl | apply And.intro | (intro i hi; rcases i with _ | _ | i <;> first | rfl | (exfalso; omega) | (simp at hi; done) | (simp at hi; omega)) | exact fun _ _ => by simp)), by (repeat' (first | exact trivial | exact rfl | exact fun _ _ => rfl | apply And.intro | (intro i hi; rcases i with _ | _ | i <;> first | rfl | (exfalso; omega) | (simp at hi; done) | (simp at hi; omega)) | exact fun _ _ => by simp))⟩ | exact ⟨rfl, by (repeat' (first | exact trivial | exact rfl | exact fun _ _ => rfl | apply And.intro | (intro i hi; rcases i with _ | _ | i <;> first | rfl | (exfalso; omega) | (simp at hi; done) | (simp at hi; omega)) | exact fun _ _ => by simp)), by (repeat' (first | exact trivial | exact rfl | exact fun _ _ => rfl | apply And.intro | (intro i hi; rcases i with _ | _ | i <;> first | rfl | (exfalso; omega) | (simp at hi; done) | (simp at hi; omega)) | exact fun _ _ => by simp))⟩
theorem qbytes_o (l : List TableD) (hl : l.length ≤ 100) (hw : ∀ i, i < l.length → TabW (l.getD i default)) : ACall Try.prog 45 [.d (tablesL l)] [] (.own 9 0) [(9, .row 5 1 0 false (catB l).length (byF (catB l)))] := by
  have h8 : IntKind.u8.wrap (l.length : Int) = ((l.length : Nat) : Int) := by rw [wrap8]; omega
  refine acall_on (mu := [9]) [] [] mixed Try.func45 rfl rfl rfl ?_
  conv => whnf
  repeat' (first
    | (refine And.intro (by omega) ?_; conv => whnf)
    | (refine And.intro rfl ?_; conv => whnf)
    | (refine And.intro (Nat.le_of_ble_eq_true rfl) ?_; conv => whnf)
    | (refine And.intro (fun i hi => ⟨_, rfl⟩) ?_; conv => whnf)
    | (refine And.intro (fun hq => ?_) (fun hq => ?_) <;> (first | (exfalso; simp at hq; done) | (exfalso; simp at *; omega) | (exfalso; simp_all; done) | (conv => whnf)))
    | (refine And.intro (by first | (show _ * 1 ≤ 140737488355328; omega) | (show _ * 8 ≤ 140737488355328; omega) | (show _ * 24 ≤ 140737488355328; omega) | (show _ * 16 ≤ 140737488355328; omega) | (show _ * 32 ≤ 140737488355328; omega) | (show _ * 120 ≤ 140737488355328; omega) | (show _ * 280 ≤ 140737488355328; omega) | (show _ * 72 ≤ 140737488355328; omega) | (show _ * 48 ≤ 140737488355328; omega)) ?_; conv => whnf)
    | (refine And.intro (by simp at *; omega) ?_; conv => whnf)
    | fail)
  rw [h8]
  refine ⟨[.drop 9], ?_⟩
  conv => whnf
  refine ⟨Nat, fun i => i ≤ l.length, fun i => l.length - i, fun i => [(3, .own 9 0), (4, exI .i64 i)], fun i => [(9, .row 5 1 0 false (tabsB l i).length (byF (tabsB l i)))], ⟨0, by omega, ?_⟩, ?_⟩
  · skip
    refine ⟨[], ?_⟩
    conv => whnf
    refine ⟨rfl, ?_, ?_⟩ <;> (repeat' (first | exact trivial | (exact (Byt.one l.length).get) | ((simp [tabsB]; done)) | exact rfl | exact fun _ _ => rfl | apply And.intro | (intro i hi; rcases i with _ | _ | i <;> first | rfl | (exfalso; omega) | (simp at hi; done) | (simp at hi; omega)) | exact fun _ _ => by simp))
  intro i hi
  conv => whnf
  have hbl := tabsB_len l hw i hi
  rcases Nat.lt_or_ge i l.length with hlt | hge
  · have hW := hw i hlt
    have hsucc := tabsB_succ l i hlt
    generalize tabsB l i = m at hbl hsucc ⊢
    have hcb := colsB_len (l.getD i default).cols hW.col
    have hbc : IntKind.u8.wrap ((l.getD i default).cols.length : Int) = (((l.getD i default).cols.length : Nat) : Int) := by rw [wrap8]; have := hW.cols; omega
    have hc7 := hW.cols
    have hn16 := hW.name
    have hnl : (Pl.nb (l.getD i default).name).length = (l.getD i default).name.size := Pl.nb_len _
    have q1 := qtext_d (Pl.nb (l.getD i default).name) (by omega)
    have htl := textB_len (Pl.nb (l.getD i default).name)
    conv => whnf
    repeat' (first
      | (refine And.intro (by omega) ?_; conv => whnf)
      | (refine And.intro rfl ?_; conv => whnf)
      | (refine And.intro (Nat.le_of_ble_eq_true rfl) ?_; conv => whnf)
      | (refine And.intro (fun i hi => ⟨_, rfl⟩) ?_; conv => whnf)
      | (refine ⟨_, _, _, .gen [] _ _ _ rfl (q1) rfl rfl rfl rfl rfl, ?_⟩; conv => whnf)
      | (refine ⟨_, _, _, .gen [] _ _ _ rfl (ACall.arg ?harg (q1)) rfl rfl rfl rfl rfl, ?_⟩; (case harg => (repeat' (first | exact trivial | (exact hnl.symm) | (exact fun k _ => str_byF _ k) | exact rfl | exact fun _ _ => rfl | apply And.intro | (intro i hi; rcases i with _ | _ | i <;> first | rfl | (exfalso; omega) | (simp at hi; done) | (simp at hi; omega)) | exact fun _ _ => by simp))); (conv => whnf))
      | (refine And.intro (fun hq => ?_) (fun hq => ?_) <;> (first | (exfalso; simp at hq; done) | (exfalso; simp at *; omega) | (exfalso; simp_all; done) | (conv => whnf)))
      | (refine And.intro (by first | (show _ * 1 ≤ 140737488355328; omega) | (show _ * 8 ≤ 140737488355328; omega) | (show _ * 24 ≤ 140737488355328; omega) | (show _ * 16 ≤ 140737488355328; omega) | (show _ * 32 ≤ 140737488355328; omega) | (show _ * 120 ≤ 140737488355328; omega) | (show _ * 280 ≤ 140737488355328; omega) | (show _ * 72 ≤ 140737488355328; omega) | (show _ * 48 ≤ 140737488355328; omega)) ?_; conv => whnf)
      | (refine And.intro (by simp at *; omega) ?_; conv => whnf)
      | fail)
    rw [show IntKind.u8.wrap ((l.getD (i : Int).toNat default).cols.length : Int) = (((l.getD i default).cols.length : Nat) : Int) from hbc]
    have hm2 : (m ++ Pl.textB (Pl.nb (l.getD i default).name) ++ [(l.getD i default).cols.length]).length ≤ m.length + 30 := by simp only [List.length_append, textB_len, Pl.nb_len, List.length_cons, List.length_nil]; omega
    have hsucc2 : m ++ Pl.textB (Pl.nb (l.getD i default).name) ++ [(l.getD i default).cols.length] ++ colsB (l.getD i default).cols (l.getD i default).cols.length ++ Pl.kidB (l.getD i default).kd ++ Pl.kidB (l.getD i default).zb = tabsB l (i + 1) := by
      rw [← hsucc]
      simp [tabB, colsB]
    have hB0 := (Byt.app (Byt.app (Byt.of m) (Byt.of (Pl.textB (Pl.nb (l.getD i default).name)))) (Byt.one (l.getD i default).cols.length)).cast (l' := m ++ Pl.textB (Pl.nb (l.getD i default).name) ++ [(l.getD i default).cols.length] ++ colsB (l.getD i default).cols 0) (by simp [colsB])
    generalize m ++ Pl.textB (Pl.nb (l.getD i default).name) ++ [(l.getD i default).cols.length] = m2 at hm2 hsucc2 hB0
    refine ⟨[.drop 34, .regen 9 0], ?_⟩
    conv => whnf
    refine ⟨Nat, fun j => j ≤ (l.getD i default).cols.length, fun j => (l.getD i default).cols.length - j, fun j => [(3, .own 9 0), (5, exI .i64 j)], fun j => [(9, .row 5 1 0 false (m2 ++ colsB (l.getD i default).cols j).length (byF (m2 ++ colsB (l.getD i default).cols j)))], ⟨0, by omega, ?_⟩, ?_⟩
    · skip
      refine ⟨[], ?_⟩
      conv => whnf
      refine ⟨rfl, ?_, ?_⟩ <;> (repeat' (first | exact trivial | (exact hB0.get) | (exact hB0.len) | exact rfl | exact fun _ _ => rfl | apply And.intro | (intro i hi; rcases i with _ | _ | i <;> first | rfl | (exfalso; omega) | (simp at hi; done) | (simp at hi; omega)) | exact fun _ _ => by simp))
    intro j hj
    conv => whnf
    have hcj := hcb j
    have hz : j ≤ 8 := by omega
    rcases Nat.lt_or_ge j (l.getD i default).cols.length with hjl | hjl
    · have hc16 := hW.col j
      have hcl : (Pl.nb ((l.getD i default).cols.getD j default)).length = ((l.getD i default).cols.getD j default).size := Pl.nb_len _
      have q3 := qtext_d (Pl.nb ((l.getD i default).cols.getD j default)) (by omega)
      have htl3 := textB_len (Pl.nb ((l.getD i default).cols.getD j default))
      have hmm : (m2 ++ colsB (l.getD i default).cols j).length ≤ m.length + 200 := by rw [List.length_append]; omega
      have hB1 := (Byt.app (Byt.of (m2 ++ colsB (l.getD i default).cols j)) (Byt.of (Pl.textB (Pl.nb ((l.getD i default).cols.getD j default))))).cast (l' := m2 ++ colsB (l.getD i default).cols (j + 1)) (by rw [List.append_assoc, colsB_succ _ j hjl])
      generalize m2 ++ colsB (l.getD i default).cols j = m3 at hmm hB1 ⊢
      conv => whnf
      repeat' (first
        | (refine And.intro (by omega) ?_; conv => whnf)
        | (refine And.intro rfl ?_; conv => whnf)
        | (refine And.intro (Nat.le_of_ble_eq_true rfl) ?_; conv => whnf)
        | (refine And.intro (fun i hi => ⟨_, rfl⟩) ?_; conv => whnf)
        | (refine ⟨_, _, _, .gen [] _ _ _ rfl (q3) rfl rfl rfl rfl rfl, ?_⟩; conv => whnf)
        | (refine ⟨_, _, _, .gen [] _ _ _ rfl (ACall.arg ?harg (q3)) rfl rfl rfl rfl rfl, ?_⟩; (case harg => (repeat' (first | exact trivial | (exact hcl.symm) | (exact fun k _ => str_byF _ k) | exact rfl | exact fun _ _ => rfl | apply And.intro | (intro i hi; rcases i with _ | _ | i <;> first | rfl | (exfalso; omega) | (simp at hi; done) | (simp at hi; omega)) | exact fun _ _ => by simp))); (conv => whnf))
        | (refine And.intro (fun hq => ?_) (fun hq => ?_) <;> (first | (exfalso; simp at hq; done) | (exfalso; simp at *; omega) | (exfalso; simp_all; done) | (conv => whnf)))
        | (refine And.intro (by first | (show _ * 1 ≤ 140737488355328; omega) | (show _ * 8 ≤ 140737488355328; omega) | (show _ * 24 ≤ 140737488355328; omega) | (show _ * 16 ≤ 140737488355328; omega) | (show _ * 32 ≤ 140737488355328; omega) | (show _ * 120 ≤ 140737488355328; omega) | (show _ * 280 ≤ 140737488355328; omega) | (show _ * 72 ≤ 140737488355328; omega) | (show _ * 48 ≤ 140737488355328; omega)) ?_; conv => whnf)
        | (refine And.intro (by simp at *; omega) ?_; conv => whnf)
        | fail)
      refine ⟨j + 1, by omega, by first | omega | (dsimp only; omega), ?_⟩
      refine ⟨[.regen 9 0], ?_⟩
      conv => whnf
      refine ⟨rfl, ?_, ?_⟩ <;> (repeat' (first | exact trivial | (exact hB1.get) | (exact hB1.len) | exact rfl | exact fun _ _ => rfl | apply And.intro | (intro i hi; rcases i with _ | _ | i <;> first | rfl | (exfalso; omega) | (simp at hi; done) | (simp at hi; omega)) | exact fun _ _ => by simp))
    · obtain rfl : j = (l.getD i default).cols.length := by omega
      have q4 := qkid_d (l.getD i default).kd hW.kd
      have q5 := qkid_d (l.getD i default).zb hW.zb
      have hk4 := kidB_len _ hW.kd
      have hk5 := kidB_len _ hW.zb
      have hmm : (m2 ++ colsB (l.getD i default).cols (l.getD i default).cols.length).length ≤ m.length + 200 := by rw [List.length_append]; omega
      have hB1 := (Byt.app (Byt.app (Byt.of (m2 ++ colsB (l.getD i default).cols (l.getD i default).cols.length)) (Byt.of (Pl.kidB (l.getD i default).kd))) (Byt.of (Pl.kidB (l.getD i default).zb))).cast hsucc2
      generalize m2 ++ colsB (l.getD i default).cols (l.getD i default).cols.length = m3 at hmm hB1 ⊢
      conv => whnf
      repeat' (first
        | (refine And.intro (by omega) ?_; conv => whnf)
        | (refine And.intro rfl ?_; conv => whnf)
        | (refine And.intro (Nat.le_of_ble_eq_true rfl) ?_; conv => whnf)
        | (refine And.intro (fun i hi => ⟨_, rfl⟩) ?_; conv => whnf)
        | (refine ⟨_, _, _, .gen [] _ _ _ rfl (q4) rfl rfl rfl rfl rfl, ?_⟩; conv => whnf)
        | (refine ⟨_, _, _, .gen [] _ _ _ rfl (q5) rfl rfl rfl rfl rfl, ?_⟩; conv => whnf)
        | (refine ⟨_, _, _, .gen [] _ _ _ rfl (ACall.arg ?harg (q4)) rfl rfl rfl rfl rfl, ?_⟩; (case harg => (repeat' (first | exact trivial | exact rfl | exact fun _ _ => rfl | apply And.intro | (intro i hi; rcases i with _ | _ | i <;> first | rfl | (exfalso; omega) | (simp at hi; done) | (simp at hi; omega)) | exact fun _ _ => by simp))); (conv => whnf))
        | (refine ⟨_, _, _, .gen [] _ _ _ rfl (ACall.arg ?harg (q5)) rfl rfl rfl rfl rfl, ?_⟩; (case harg => (repeat' (first | exact trivial | exact rfl | exact fun _ _ => rfl | apply And.intro | (intro i hi; rcases i with _ | _ | i <;> first | rfl | (exfalso; omega) | (simp at hi; done) | (simp at hi; omega)) | exact fun _ _ => by simp))); (conv => whnf))
        | (refine And.intro (fun hq => ?_) (fun hq => ?_) <;> (first | (exfalso; simp at hq; done) | (exfalso; simp at *; omega) | (exfalso; simp_all; done) | (conv => whnf)))
        | (refine And.intro (by first | (show _ * 1 ≤ 140737488355328; omega) | (show _ * 8 ≤ 140737488355328; omega) | (show _ * 24 ≤ 140737488355328; omega) | (show _ * 16 ≤ 140737488355328; omega) | (show _ * 32 ≤ 140737488355328; omega) | (show _ * 120 ≤ 140737488355328; omega) | (show _ * 280 ≤ 140737488355328; omega) | (show _ * 72 ≤ 140737488355328; omega) | (show _ * 48 ≤ 140737488355328; omega)) ?_; conv => whnf)
        | (refine And.intro (by simp at *; omega) ?_; conv => whnf)
        | fail)
      refine ⟨i + 1, by omega, by first | omega | (dsimp only; omega), ?_⟩
      refine ⟨[.regen 9 0], ?_⟩
      conv => whnf
      refine ⟨rfl, ?_, ?_⟩ <;> (repeat' (first | exact trivial | (exact hB1.get) | (exact hB1.len) | exact rfl | exact fun _ _ => rfl | apply And.intro | (intro i hi; rcases i with _ | _ | i <;> first | rfl | (exfalso; omega) | (simp at hi; done) | (simp at hi; omega)) | exact fun _ _ => by simp))
  · obtain rfl : i = l.length := by omega
    rw [show catB l = tabsB l l.length by unfold catB tabsB; rw [List.take_length]]
    conv => whnf
    repeat' (first
      | (refine And.intro (by omega) ?_; conv => whnf)
      | (refine And.intro rfl ?_; conv => whnf)
      | (refine And.intro (Nat.le_of_ble_eq_true rfl) ?_; conv => whnf)
      | (refine And.intro (fun i hi => ⟨_, rfl⟩) ?_; conv => whnf)
      | (refine And.intro (fun hq => ?_) (fun hq => ?_) <;> (first | (exfalso; simp at hq; done) | (exfalso; simp at *; omega) | (exfalso; simp_all; done) | (conv => whnf)))
      | (refine And.intro (by first | (show _ * 1 ≤ 140737488355328; omega) | (show _ * 8 ≤ 140737488355328; omega) | (show _ * 24 ≤ 140737488355328; omega) | (show _ * 16 ≤ 140737488355328; omega) | (show _ * 32 ≤ 140737488355328; omega) | (show _ * 120 ≤ 140737488355328; omega) | (show _ * 280 ≤ 140737488355328; omega) | (show _ * 72 ≤ 140737488355328; omega) | (show _ * 48 ≤ 140737488355328; omega)) ?_; conv => whnf)
      | (refine And.intro (by simp at *; omega) ?_; conv => whnf)
      | fail)
    all_goals first | exact trivial | exact ⟨rfl, by (repeat' (first | exact trivial | exact rfl | exact fun _ _ => rfl | apply And.intro | (intro i hi; rcases i with _ | _ | i <;> first | rfl | (exfalso; omega) | (simp at hi; done) | (simp at hi; omega)) | exact fun _ _ => by simp)), trivial⟩ | exact ⟨by (repeat' (first | exact trivial | exact rfl | exact fun _ _ => rfl | apply And.intro | (intro i hi; rcases i with _ | _ | i <;> first | rfl | (exfalso; omega) | (simp at hi; done) | (simp at hi; omega)) | exact fun _ _ => by simp)), trivial⟩ | exact ⟨by (repeat' (first | exact trivial | exact rfl | exact fun _ _ => rfl | apply And.intro | (intro i hi; rcases i with _ | _ | i <;> first | rfl | (exfalso; omega) | (simp at hi; done) | (simp at hi; omega)) | exact fun _ _ => by simp)), by (repeat' (first | exact trivial | exact rfl | exact fun _ _ => rfl | apply And.intro | (intro i hi; rcases i with _ | _ | i <;> first | rfl | (exfalso; omega) | (simp at hi; done) | (simp at hi; omega)) | exact fun _ _ => by simp))⟩ | exact ⟨rfl, by (repeat' (first | exact trivial | exact rfl | exact fun _ _ => rfl | apply And.intro | (intro i hi; rcases i with _ | _ | i <;> first | rfl | (exfalso; omega) | (simp at hi; done) | (simp at hi; omega)) | exact fun _ _ => by simp)), by (repeat' (first | exact trivial | exact rfl | exact fun _ _ => rfl | apply And.intro | (intro i hi; rcases i with _ | _ | i <;> first | rfl | (exfalso; omega) | (simp at hi; done) | (simp at hi; omega)) | exact fun _ _ => by simp))⟩
end Go.Proofs.Ytgcbodpjidoanaa
