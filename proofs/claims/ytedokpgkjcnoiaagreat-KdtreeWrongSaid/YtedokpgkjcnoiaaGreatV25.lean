/- node.Encode, in the new way. slices.Equal of bytes. -/
import Derived.Test.YtedokpgkjcnoiaaGreatV21
import Derived.Test.YtedokpgkjcnoiaaGreatV22
import Derived.Test.YtedokpgkjcnoiaaGreatV24
set_option linter.unusedVariables false
set_option linter.unusedSimpArgs false
namespace Go.Proofs.YtedokpgkjcnoiaaGreat
open Go.RowKit
set_option maxRecDepth 100000
set_option maxHeartbeats 2000000
structure NodeW (n : NodeD) : Prop where
 kind : n.kind ≤ 255
 rows : n.rows.length ≤ 4
 kids : n.kids.length ≤ 4
 row : ∀ i, i < n.rows.length → (n.rows.getD i default).row.length ≤ 255 ∧ Pl.IsI (n.rows.getD i default).row
 kid : ∀ i, i < n.kids.length → Pl.KidW (n.kids.getD i default) 255
def nodB (n : NodeD) (i j : Nat) : List Nat := [n.kind] ++ [n.rows.length] ++ ((n.rows.take i).map Pl.entB).flatten ++ (if j = 0 then [] else [n.kids.length] ++ ((n.kids.take (j - 1)).map Pl.kidB).flatten)
theorem nodB_row (n : NodeD) (i : Nat) (h : i < n.rows.length) : nodB n i 0 ++ [if (n.rows.getD i default).live then 1 else 0] ++ Pl.rowB (n.rows.getD i default).row = nodB n (i + 1) 0 := by
 unfold nodB
 rw [Pl.flat_take_succ Pl.entB n.rows i h]
 simp [Pl.entB]
theorem nodB_kid (n : NodeD) (i j : Nat) (h : j < n.kids.length) : nodB n i (j + 1) ++ (n.kids.getD j default).sum ++ Pl.be3 (n.kids.getD j default).live.toNat ++ Pl.be3 (n.kids.getD j default).size.toNat ++ Pl.rowB (n.kids.getD j default).lo ++ Pl.rowB (n.kids.getD j default).hi ++ Pl.rowB (n.kids.getD j default).key = nodB n i (j + 2) := by
 unfold nodB
 rw [if_neg (by omega), if_neg (by omega), show j + 2 - 1 = (j + 1 - 1) + 1 by omega, show j + 1 - 1 = j by omega, Pl.flat_take_succ Pl.kidB n.kids j h]
 simp [Pl.kidB]
theorem nodB_end (n : NodeD) : nodB n n.rows.length (n.kids.length + 1) = Pl.nodeB n := by
 unfold nodB Pl.nodeB
 rw [if_neg (by omega), show n.kids.length + 1 - 1 = n.kids.length by omega, List.take_length, List.take_length]
 simp
theorem nodB_mid (n : NodeD) : nodB n n.rows.length 0 ++ [n.kids.length] = nodB n n.rows.length 1 := by
 simp [nodB]
theorem rowB_leng (r : List Int) : (Pl.rowB r).length = 1 + 8 * r.length := by unfold Pl.rowB; rw [List.length_append, Pl.rows_len]; rfl
theorem kidW_len {k : KidD} (h : Pl.KidW k 255) : (Pl.kidB k).length ≤ 7000 := by
 obtain ⟨h1, h2, h3, h4, h5, h6⟩ := h
 simp only [Pl.kidB, List.length_append, rowB_leng, Pl.be3, List.length_cons, List.length_nil]
 omega
theorem nodB_len (n : NodeD) (h : NodeW n) : ∀ i j, i ≤ n.rows.length → j ≤ n.kids.length + 1 → (nodB n i j).length ≤ 3 + 3000 * i + 7000 * j := by
 intro i
 induction i with
 | zero =>
  intro j
  induction j with
  | zero => intro _ _; simp [nodB]
  | succ j ih =>
   intro h1 h2
   rcases j with _ | j
   ·simp [nodB]
   ·have q := ih h1 (by omega)
    have e : _ = (nodB n 0 (j + 1 + 1)).length := congrArg List.length (nodB_kid n 0 j (by omega))
    have hk := kidW_len (h.kid j (by omega))
    simp only [Pl.kidB, List.length_append] at e hk
    omega
 | succ i ih0 =>
  intro j h1 h2
  have q := ih0 j (by omega) h2
  have hr := h.row i (by omega)
  have e : (nodB n (i + 1) j).length = (nodB n i j).length + (Pl.entB (n.rows.getD i default)).length := by
   unfold nodB
   rw [Pl.flat_take_succ Pl.entB n.rows i (by omega)]
   simp only [List.length_append]
   omega
  have e2 : (Pl.entB (n.rows.getD i default)).length = 2 + 8 * (n.rows.getD i default).row.length := by
   unfold Pl.entB
   rw [List.length_append, rowB_leng]
   simp only [List.length_cons, List.length_nil]
   omega
  omega
theorem nencode_no (n : NodeD) (d : Int) (h : NodeS n) (hr : nodeR n d = false) : ACall Tryz.prog 77 [agD (nodeL n), exI .i64 d] [] (.tup [.d (.v (.slice none 0 0)), exI .i64 1]) [] := by
 have hR := nright_ok n d h
 rw [hr] at hR
 refine acall_on (mu := [16]) [] [] mixed Tryz.func77 rfl rfl rfl ?_
 conv => whnf
 repeat' ((first
 | refine ob ?_
 | refine ⟨_, _, _, .flat _ _ rfl (hR) rfl, ?_⟩
 | ((refine ⟨_, _, _, .flat _ _ rfl (.arg ?harg (hR)) rfl, ?_⟩); case harg => (repeat' (first | exact sm | apply And.intro))) | (refine And.intro (fun hq => ?_) (fun hq => ?_) <;> first | exact cl1 | ((try simp only [bl] at hq); (try dsimp only at hq); first | exact cl2 | skip))
 | refine fun hq => ?_ | refine ob2 ?_ | fail) <;> conv => whnf)
 all_goals (repeat' (first | exact sm | apply And.intro))
theorem nencode_ok (n : NodeD) (d : Int) (h : NodeS n) (hr : nodeR n d = true) (hw : NodeW n) : ACall Tryz.prog 77 [agD (nodeL n), exI .i64 d] [] (.tup [.d (byteL (Pl.nodeB n)), exI .i64 0]) [] := by
 have hR := nright_ok n d h
 rw [hr] at hR
 have h1 := hw.rows
 have h2 := hw.kids
 have q0 := wbyte 16 901 0 (by decide) [] n.kind 0 (by simp)
 have q1 := wbyte 16 901 1 (by decide) ([] ++ [n.kind]) n.rows.length 0 (by simp)
 have hb : IntKind.u8.wrap (n.rows.length : Int) = ((n.rows.length : Nat) : Int) := by rw [wrap8]; omega
 have hk : IntKind.u8.wrap (n.kids.length : Int) = ((n.kids.length : Nat) : Int) := by rw [wrap8]; omega
 rw [show ([] : List Nat) ++ [n.kind] ++ [n.rows.length] = nodB n 0 0 by simp [nodB]] at q1
 refine acall_on (mu := [16]) [(4, [.virtC 16 0 901 5 1, .tell 901 (byF [])])] [] mixed Tryz.func77 rfl rfl rfl ?_
 conv => whnf
 repeat' ((first
 | refine ob ?_
 | refine ⟨_, _, _, .flat _ _ rfl (hR) rfl, ?_⟩
 | refine ⟨_, _, _, .gen [16,901] _ _ _ rfl (q0) rfl rfl rfl rfl rfl, ?_⟩
 | refine ⟨_, _, _, .gen [16,901] _ _ _ rfl (q1) rfl rfl rfl rfl rfl, ?_⟩
 | ((refine ⟨_, _, _, .flat _ _ rfl (.arg ?harg (hR)) rfl, ?_⟩); case harg => (repeat' (first | exact trivial | (exact congrArg (Value.int .u8) hb) | exact sm | apply And.intro)))
 | ((refine ⟨_, _, _, .gen [16,901] _ _ _ rfl (.arg ?harg (q0)) rfl rfl rfl rfl rfl, ?_⟩); case harg => (repeat' (first | exact trivial | (exact congrArg (Value.int .u8) hb) | exact sm | apply And.intro)))
 | ((refine ⟨_, _, _, .gen [16,901] _ _ _ rfl (.arg ?harg (q1)) rfl rfl rfl rfl rfl, ?_⟩); case harg => (repeat' (first | exact trivial | (exact congrArg (Value.int .u8) hb) | exact sm | apply And.intro))) | (refine And.intro (fun hq => ?_) (fun hq => ?_) <;> first | exact cl1 | exact cl3 | skip)
 | refine ob2 ?_ | refine ob4 ?_ | refine fun hq => ?_ | fail) <;> conv => whnf)
 refine ⟨[], ?_⟩
 conv => whnf
 refine ⟨Nat, fun i => i ≤ n.rows.length, fun i => n.rows.length - i, fun i => [(30, exI .i64 i)], fun i => wrH 16 901 2 (nodB n i 0) 0, ⟨0, by omega, ?_⟩, ?_⟩
 ·skip
  refine ⟨[], ?_⟩
  conv => whnf
  refine ⟨rfl, ?_, ?_⟩ <;> (repeat' (first | exact sm | apply And.intro))
 intro i hi
 conv => whnf
 have hm := nodB_len n hw i 0 hi (by omega)
 rcases Nat.lt_or_ge i n.rows.length with hlt | hge
 ·have hW := hw.row i hlt
  have r1 := wtruth 16 901 2 (by decide) (nodB n i 0) (n.rows.getD i default).live 0 (by omega)
  have r2 := wrow 16 901 3 (by decide) (nodB n i 0 ++ [if (n.rows.getD i default).live then 1 else 0]) (n.rows.getD i default).row 0 hW.1 hW.2 (by rw [List.length_append]; simp only [List.length_cons, List.length_nil]; omega)
  rw [nodB_row n i hlt] at r2
  conv => whnf
  repeat' ((first
  | refine ob ?_
  | refine ⟨_, _, _, .gen [16,901] _ _ _ rfl (r1) rfl rfl rfl rfl rfl, ?_⟩
  | refine ⟨_, _, _, .gen [16,901] _ _ _ rfl (r2) rfl rfl rfl rfl rfl, ?_⟩
  | ((refine ⟨_, _, _, .gen [16,901] _ _ _ rfl (.arg ?harg (r1)) rfl rfl rfl rfl rfl, ?_⟩); case harg => (repeat' (first | exact sm | apply And.intro)))
  | ((refine ⟨_, _, _, .gen [16,901] _ _ _ rfl (.arg ?harg (r2)) rfl rfl rfl rfl rfl, ?_⟩); case harg => (repeat' (first | exact sm | apply And.intro))) | (refine And.intro (fun hq => ?_) (fun hq => ?_) <;> first | exact cl1 | exact cl3 | skip)
  | refine ob2 ?_ | refine ob4 ?_ | refine fun hq => ?_ | fail) <;> conv => whnf)
  refine ⟨i + 1, by omega, by dsimp only; omega, ?_⟩
  refine ⟨[.regen 901 2], ?_⟩
  conv => whnf
  refine ⟨rfl, ?_, ?_⟩ <;> (repeat' (first | exact sm | apply And.intro))
 ·obtain rfl : i = n.rows.length := by omega
  have r3 := wbyte 16 901 2 (by decide) (nodB n n.rows.length 0) n.kids.length 0 (by omega)
  rw [nodB_mid] at r3
  conv => whnf
  repeat' ((first
  | refine ob ?_
  | refine ⟨_, _, _, .gen [16,901] _ _ _ rfl (r3) rfl rfl rfl rfl rfl, ?_⟩
  | ((refine ⟨_, _, _, .gen [16,901] _ _ _ rfl (.arg ?harg (r3)) rfl rfl rfl rfl rfl, ?_⟩); case harg => (repeat' (first | exact trivial | (exact congrArg (Value.int .u8) hk) | exact sm | apply And.intro))) | (refine And.intro (fun hq => ?_) (fun hq => ?_) <;> first | exact cl1 | exact cl3 | skip)
  | refine ob2 ?_ | refine ob4 ?_ | refine fun hq => ?_ | fail) <;> conv => whnf)
  refine ⟨[], ?_⟩
  conv => whnf
  refine ⟨Nat, fun j => j ≤ n.kids.length, fun j => n.kids.length - j, fun j => [(52, exI .i64 j)], fun j => wrH 16 901 3 (nodB n n.rows.length (j + 1)) 0, ⟨0, by omega, ?_⟩, ?_⟩
  ·skip
   refine ⟨[], ?_⟩
   conv => whnf
   refine ⟨rfl, ?_, ?_⟩ <;> (repeat' (first | exact sm | apply And.intro))
  intro j hj
  conv => whnf
  have hm2 := nodB_len n hw n.rows.length (j + 1) (by omega) (by omega)
  rcases Nat.lt_or_ge j n.kids.length with hjl | hjg
  ·obtain ⟨w1, w2, w3, w4, w5, w6⟩ := hw.kid j hjl
   have e1 : (((n.kids.getD j default).live.toNat : Nat) : Int) = (n.kids.getD j default).live := by omega
   have e2 : (((n.kids.getD j default).size.toNat : Nat) : Int) = (n.kids.getD j default).size := by omega
   have hb1 : ∀ x, (Pl.be3 x).length = 3 := fun x => rfl
   have hkid := nodB_kid n n.rows.length j hjl
   generalize nodB n n.rows.length (j + 1) = m at hm2 hkid ⊢
   have k1 := wdig 16 901 3 (by decide) m (n.kids.getD j default).sum 0 w1 (by omega)
   have k2 := wcount 16 901 4 (by decide) (m ++ (n.kids.getD j default).sum) (n.kids.getD j default).live.toNat 0 (by omega) (by simp only [List.length_append]; omega)
   have k3 := wcount 16 901 5 (by decide) (m ++ (n.kids.getD j default).sum ++ Pl.be3 (n.kids.getD j default).live.toNat) (n.kids.getD j default).size.toNat 0 (by omega) (by simp only [List.length_append, hb1]; omega)
   have k4 := wrow 16 901 6 (by decide) (m ++ (n.kids.getD j default).sum ++ Pl.be3 (n.kids.getD j default).live.toNat ++ Pl.be3 (n.kids.getD j default).size.toNat) (n.kids.getD j default).lo 0 w4.1 w4.2 (by simp only [List.length_append, hb1]; omega)
   have k5 := wrow 16 901 7 (by decide) (m ++ (n.kids.getD j default).sum ++ Pl.be3 (n.kids.getD j default).live.toNat ++ Pl.be3 (n.kids.getD j default).size.toNat ++ Pl.rowB (n.kids.getD j default).lo) (n.kids.getD j default).hi 0 w5.1 w5.2 (by simp only [List.length_append, hb1, rowB_leng]; omega)
   have k6 := wrow 16 901 8 (by decide) (m ++ (n.kids.getD j default).sum ++ Pl.be3 (n.kids.getD j default).live.toNat ++ Pl.be3 (n.kids.getD j default).size.toNat ++ Pl.rowB (n.kids.getD j default).lo ++ Pl.rowB (n.kids.getD j default).hi) (n.kids.getD j default).key 0 w6.1 w6.2 (by simp only [List.length_append, hb1, rowB_leng]; omega)
   rw [e1] at k2
   rw [e2] at k3
   rw [hkid] at k6
   conv => whnf
   repeat' ((first
   | refine ob ?_
   | refine ⟨_, _, _, .gen [16,901] _ _ _ rfl (k1) rfl rfl rfl rfl rfl, ?_⟩
   | refine ⟨_, _, _, .gen [16,901] _ _ _ rfl (k2) rfl rfl rfl rfl rfl, ?_⟩
   | refine ⟨_, _, _, .gen [16,901] _ _ _ rfl (k3) rfl rfl rfl rfl rfl, ?_⟩
   | refine ⟨_, _, _, .gen [16,901] _ _ _ rfl (k4) rfl rfl rfl rfl rfl, ?_⟩
   | refine ⟨_, _, _, .gen [16,901] _ _ _ rfl (k5) rfl rfl rfl rfl rfl, ?_⟩
   | refine ⟨_, _, _, .gen [16,901] _ _ _ rfl (k6) rfl rfl rfl rfl rfl, ?_⟩
   | ((refine ⟨_, _, _, .gen [16,901] _ _ _ rfl (.arg ?harg (k1)) rfl rfl rfl rfl rfl, ?_⟩); case harg => (repeat' (first | exact sm | apply And.intro)))
   | ((refine ⟨_, _, _, .gen [16,901] _ _ _ rfl (.arg ?harg (k2)) rfl rfl rfl rfl rfl, ?_⟩); case harg => (repeat' (first | exact sm | apply And.intro)))
   | ((refine ⟨_, _, _, .gen [16,901] _ _ _ rfl (.arg ?harg (k3)) rfl rfl rfl rfl rfl, ?_⟩); case harg => (repeat' (first | exact sm | apply And.intro)))
   | ((refine ⟨_, _, _, .gen [16,901] _ _ _ rfl (.arg ?harg (k4)) rfl rfl rfl rfl rfl, ?_⟩); case harg => (repeat' (first | exact sm | apply And.intro)))
   | ((refine ⟨_, _, _, .gen [16,901] _ _ _ rfl (.arg ?harg (k5)) rfl rfl rfl rfl rfl, ?_⟩); case harg => (repeat' (first | exact sm | apply And.intro)))
   | ((refine ⟨_, _, _, .gen [16,901] _ _ _ rfl (.arg ?harg (k6)) rfl rfl rfl rfl rfl, ?_⟩); case harg => (repeat' (first | exact sm | apply And.intro))) | (refine And.intro (fun hq => ?_) (fun hq => ?_) <;> first | exact cl1 | exact cl3 | skip)
   | refine ob2 ?_ | refine ob4 ?_ | refine fun hq => ?_ | fail) <;> conv => whnf)
   refine ⟨j + 1, by omega, by dsimp only; omega, ?_⟩
   refine ⟨[.regen 901 3], ?_⟩
   conv => whnf
   refine ⟨rfl, ?_, ?_⟩ <;> (repeat' (first | exact sm | apply And.intro))
  ·obtain rfl : j = n.kids.length := by omega
   rw [nodB_end] at hm2 ⊢
   have h0 : 0 < (Pl.nodeB n).length := by simp [Pl.nodeB]
   have k7 := wbytes 16 901 3 (by decide) (Pl.nodeB n) h0 (by omega)
   have k8 := werr 16 901 3 (by decide) (Pl.nodeB n) 0
   conv => whnf
   repeat' ((first
   | refine ob ?_
   | refine ⟨_, _, _, .gen [16,901] _ _ _ rfl (k7) rfl rfl rfl rfl rfl, ?_⟩
   | refine ⟨_, _, _, .gen [16,901] _ _ _ rfl (k8) rfl rfl rfl rfl rfl, ?_⟩
   | ((refine ⟨_, _, _, .gen [16,901] _ _ _ rfl (.arg ?harg (k7)) rfl rfl rfl rfl rfl, ?_⟩); case harg => (repeat' (first | exact sm | apply And.intro)))
   | ((refine ⟨_, _, _, .gen [16,901] _ _ _ rfl (.arg ?harg (k8)) rfl rfl rfl rfl rfl, ?_⟩); case harg => (repeat' (first | exact sm | apply And.intro))) | (refine And.intro (fun hq => ?_) (fun hq => ?_) <;> first | exact cl1 | exact cl3 | skip)
   | refine ob2 ?_ | refine ob4 ?_ | refine fun hq => ?_ | fail) <;> conv => whnf)
   all_goals (repeat' (first | exact sm | apply And.intro))
end Go.Proofs.YtedokpgkjcnoiaaGreat
namespace Go.Proofs.YtedokpgkjcnoiaaGreat
open Go.RowKit
set_option maxRecDepth 100000
set_option maxHeartbeats 1000000
theorem bequal_any (l m : List Nat) (h : l.length ≤ 1000000000000) : ACall Tryz.prog 78 [.d (byteL l), .d (byteL m)] [] (exB (decide (l = m))) [] := by
 refine acall_of (mu := []) mixed Tryz.func78 rfl rfl rfl ?_
 conv => whnf
 refine ⟨fun a => ?_, fun b => ?_⟩
 ·have hne : l ≠ m := fun e => by subst e; simp at a
  rw [decide_eq_false hne]
  conv => whnf
  all_goals (repeat' (first | exact sm | apply And.intro))
 ·have hl : l.length = m.length := by simp at b; omega
  conv => whnf
  refine ⟨[], ?_⟩
  conv => whnf
  refine ⟨Nat, fun k => k ≤ l.length ∧ ∀ i, i < k → l.getD i 0 = m.getD i 0, fun k => l.length - k, fun k => [(4, exB false), (13, exI .i64 k)], fun _ => [], ⟨0, ⟨by omega, fun i hi => by omega⟩, ?_⟩, ?_⟩
  ·skip
   refine ⟨[], ?_⟩
   conv => whnf
   refine ⟨rfl, ?_, ?_⟩ <;> (repeat' (first | exact sm | apply And.intro))
  intro k ⟨hk, hn⟩
  conv => whnf
  repeat
   first
    | refine And.intro (by omega) ?_
    | refine And.intro rfl ?_
   conv => whnf
  refine ⟨fun hlt => ?_, fun hge => ?_⟩
  ·have hlt : k < l.length := by simpa using hlt
   conv => whnf
   repeat
    first
     | refine And.intro (by omega) ?_
     | refine And.intro rfl ?_
    conv => whnf
   refine ⟨fun he => ?_, fun he => ?_⟩
   ·have hne : l ≠ m := fun e => by subst e; simp at he
    rw [decide_eq_false hne]
    conv => whnf
    all_goals (repeat' (first | exact sm | apply And.intro))
   ·skip
    conv => whnf
    repeat
     first
      | refine And.intro (by omega) ?_
      | refine And.intro rfl ?_
     conv => whnf
    refine ⟨k + 1, ⟨by omega, fun i hi => ?_⟩, by dsimp only; omega, ?_⟩
    ·rcases Nat.lt_or_ge i k with q | q
     ·exact hn i q
     ·obtain rfl : i = k := by omega
      simp at he
      have := Int.ofNat.inj (show ((l.getD i 0 : Nat) : Int) = (m.getD i 0 : Nat) by simpa using he)
      exact this
    ·skip
     refine ⟨[], ?_⟩
     conv => whnf
     refine ⟨rfl, ?_, ?_⟩ <;> (repeat' (first | exact sm | apply And.intro))
  ·have hge : ¬ k < l.length := by simpa using hge
   rw [decide_eq_true (list_eq hl fun i hi => hn i (by omega))]
   conv => whnf
   all_goals (repeat' (first | exact sm | apply And.intro))
end Go.Proofs.YtedokpgkjcnoiaaGreat
