/- node.Encode, in the new way. slices.Equal of bytes. node.kid, node.Decode, in the new way. -/
import Derived.Test.YtedokpgkjcnoiaaGreatQ22
import Derived.Test.YtedokpgkjcnoiaaGreatQ24
import Derived.Test.YtedokpgkjcnoiaaGreatQ26
set_option linter.unusedVariables false
set_option linter.unusedSimpArgs false
namespace Go.Proofs.YtedokpgkjcnoiaaGreat
open Go.RowKit
set_option maxRecDepth 100000
set_option maxHeartbeats 2000000
structure NodeW (n : NodeD) : Prop where
 kind : n.kind ≤ 255
 rows : n.rows.length ≤ 4
 kids : n.kids.length ≤ 4
 row : ∀ i, i < n.rows.length → (n.rows.getD i default).row.length ≤ 255 ∧ Pl.IsI (n.rows.getD i default).row
 kid : ∀ i, i < n.kids.length → Pl.KidW (n.kids.getD i default) 255
def nodB (n : NodeD) (i j : Nat) : List Nat := [n.kind] ++ [n.rows.length] ++ ((n.rows.take i).map Pl.entB).flatten ++ (if j = 0 then [] else [n.kids.length] ++ ((n.kids.take (j - 1)).map Pl.kidB).flatten)
theorem nodB_row (n : NodeD) (i : Nat) (h : i < n.rows.length) : nodB n i 0 ++ [if (n.rows.getD i default).live then 1 else 0] ++ Pl.rowB (n.rows.getD i default).row = nodB n (i + 1) 0 := by
 unfold nodB
 rw [Pl.flat_take_succ Pl.entB n.rows i h]
 simp [Pl.entB]
theorem nodB_kid (n : NodeD) (i j : Nat) (h : j < n.kids.length) : nodB n i (j + 1) ++ (n.kids.getD j default).sum ++ Pl.be3 (n.kids.getD j default).live.toNat ++ Pl.be3 (n.kids.getD j default).size.toNat ++ Pl.rowB (n.kids.getD j default).lo ++ Pl.rowB (n.kids.getD j default).hi ++ Pl.rowB (n.kids.getD j default).key = nodB n i (j + 2) := by
 unfold nodB
 rw [if_neg (by omega), if_neg (by omega), show j + 2 - 1 = (j + 1 - 1) + 1 by omega, show j + 1 - 1 = j by omega, Pl.flat_take_succ Pl.kidB n.kids j h]
 simp [Pl.kidB]
theorem nodB_end (n : NodeD) : nodB n n.rows.length (n.kids.length + 1) = Pl.nodeB n := by
 unfold nodB Pl.nodeB
 rw [if_neg (by omega), show n.kids.length + 1 - 1 = n.kids.length by omega, List.take_length, List.take_length]
 simp
theorem nodB_mid (n : NodeD) : nodB n n.rows.length 0 ++ [n.kids.length] = nodB n n.rows.length 1 := by
 simp [nodB]
theorem rowB_leng (r : List Int) : (Pl.rowB r).length = 1 + 8 * r.length := by unfold Pl.rowB; rw [List.length_append, Pl.rows_len]; rfl
theorem kidW_len {k : KidD} (h : Pl.KidW k 255) : (Pl.kidB k).length ≤ 7000 := by
 obtain ⟨h1, h2, h3, h4, h5, h6⟩ := h
 simp only [Pl.kidB, List.length_append, rowB_leng, Pl.be3, List.length_cons, List.length_nil]
 omega
theorem nodB_len (n : NodeD) (h : NodeW n) : ∀ i j, i ≤ n.rows.length → j ≤ n.kids.length + 1 → (nodB n i j).length ≤ 3 + 3000 * i + 7000 * j := by
 intro i
 induction i with
 | zero =>
  intro j
  induction j with
  | zero => intro _ _; simp [nodB]
  | succ j ih =>
   intro h1 h2
   rcases j with _ | j
   ·simp [nodB]
   ·have q := ih h1 (by omega)
    have e : _ = (nodB n 0 (j + 1 + 1)).length := congrArg List.length (nodB_kid n 0 j (by omega))
    have hk := kidW_len (h.kid j (by omega))
    simp only [Pl.kidB, List.length_append] at e hk
    omega
 | succ i ih0 =>
  intro j h1 h2
  have q := ih0 j (by omega) h2
  have hr := h.row i (by omega)
  have e : (nodB n (i + 1) j).length = (nodB n i j).length + (Pl.entB (n.rows.getD i default)).length := by
   unfold nodB
   rw [Pl.flat_take_succ Pl.entB n.rows i (by omega)]
   simp only [List.length_append]
   omega
  have e2 : (Pl.entB (n.rows.getD i default)).length = 2 + 8 * (n.rows.getD i default).row.length := by
   unfold Pl.entB
   rw [List.length_append, rowB_leng]
   simp only [List.length_cons, List.length_nil]
   omega
  omega
theorem nencode_no (n : NodeD) (d : Int) (h : NodeS n) (hr : nodeR n d = false) : ACall Tryz.prog 77 [agD (nodeL n), exI .i64 d] [] (.tup [.d (.v (.slice none 0 0)), exI .i64 1]) [] := by
 have hR := nright_ok n d h
 rw [hr] at hR
 refine acall_on (mu := [16]) [] [] mixed Tryz.func77 rfl rfl rfl ?_
 conv => whnf
 repeat' ((first
 | refine ob ?_
 | refine ⟨_, _, _, .flat _ _ rfl (hR) rfl, ?_⟩
 | ((refine ⟨_, _, _, .flat _ _ rfl (.arg ?harg (hR)) rfl, ?_⟩); case harg => (repeat' (first | exact sm | apply And.intro))) | (refine And.intro (fun hq => ?_) (fun hq => ?_) <;> first | exact cl1 | ((try simp only [bl] at hq); (try dsimp only at hq); first | exact cl2 | skip))
 | refine fun hq => ?_ | refine ob2 ?_ | fail) <;> conv => whnf)
 all_goals (repeat' (first | exact sm | apply And.intro))
theorem nencode_ok (n : NodeD) (d : Int) (h : NodeS n) (hr : nodeR n d = true) (hw : NodeW n) : ACall Tryz.prog 77 [agD (nodeL n), exI .i64 d] [] (.tup [.d (byteL (Pl.nodeB n)), exI .i64 0]) [] := by
 have hR := nright_ok n d h
 rw [hr] at hR
 have h1 := hw.rows
 have h2 := hw.kids
 have q0 := wbyte 16 901 0 (by decide) [] n.kind 0 (by simp)
 have q1 := wbyte 16 901 1 (by decide) ([] ++ [n.kind]) n.rows.length 0 (by simp)
 have hb : IntKind.u8.wrap (n.rows.length : Int) = ((n.rows.length : Nat) : Int) := by rw [wrap8]; omega
 have hk : IntKind.u8.wrap (n.kids.length : Int) = ((n.kids.length : Nat) : Int) := by rw [wrap8]; omega
 rw [show ([] : List Nat) ++ [n.kind] ++ [n.rows.length] = nodB n 0 0 by simp [nodB]] at q1
 refine acall_on (mu := [16]) [(4, [.virtC 16 0 901 5 1, .tell 901 (byF [])])] [] mixed Tryz.func77 rfl rfl rfl ?_
 conv => whnf
 repeat' ((first
 | refine ob ?_
 | refine ⟨_, _, _, .flat _ _ rfl (hR) rfl, ?_⟩
 | refine ⟨_, _, _, .gen [16,901] _ _ _ rfl (q0) rfl rfl rfl rfl rfl, ?_⟩
 | refine ⟨_, _, _, .gen [16,901] _ _ _ rfl (q1) rfl rfl rfl rfl rfl, ?_⟩
 | ((refine ⟨_, _, _, .flat _ _ rfl (.arg ?harg (hR)) rfl, ?_⟩); case harg => (repeat' (first | exact trivial | (exact congrArg (Value.int .u8) hb) | exact sm | apply And.intro)))
 | ((refine ⟨_, _, _, .gen [16,901] _ _ _ rfl (.arg ?harg (q0)) rfl rfl rfl rfl rfl, ?_⟩); case harg => (repeat' (first | exact trivial | (exact congrArg (Value.int .u8) hb) | exact sm | apply And.intro)))
 | ((refine ⟨_, _, _, .gen [16,901] _ _ _ rfl (.arg ?harg (q1)) rfl rfl rfl rfl rfl, ?_⟩); case harg => (repeat' (first | exact trivial | (exact congrArg (Value.int .u8) hb) | exact sm | apply And.intro))) | (refine And.intro (fun hq => ?_) (fun hq => ?_) <;> first | exact cl1 | exact cl3 | skip)
 | refine ob2 ?_ | refine ob4 ?_ | refine fun hq => ?_ | fail) <;> conv => whnf)
 refine ⟨[], ?_⟩
 conv => whnf
 refine ⟨Nat, fun i => i ≤ n.rows.length, fun i => n.rows.length - i, fun i => [(30, exI .i64 i)], fun i => wrH 16 901 2 (nodB n i 0) 0, ⟨0, by omega, ?_⟩, ?_⟩
 ·skip
  refine ⟨[], ?_⟩
  conv => whnf
  refine ⟨rfl, ?_, ?_⟩ <;> (repeat' (first | exact sm | apply And.intro))
 intro i hi
 conv => whnf
 have hm := nodB_len n hw i 0 hi (by omega)
 rcases Nat.lt_or_ge i n.rows.length with hlt | hge
 ·have hW := hw.row i hlt
  have r1 := wtruth 16 901 2 (by decide) (nodB n i 0) (n.rows.getD i default).live 0 (by omega)
  have r2 := wrow 16 901 3 (by decide) (nodB n i 0 ++ [if (n.rows.getD i default).live then 1 else 0]) (n.rows.getD i default).row 0 hW.1 hW.2 (by rw [List.length_append]; simp only [List.length_cons, List.length_nil]; omega)
  rw [nodB_row n i hlt] at r2
  conv => whnf
  repeat' ((first
  | refine ob ?_
  | refine ⟨_, _, _, .gen [16,901] _ _ _ rfl (r1) rfl rfl rfl rfl rfl, ?_⟩
  | refine ⟨_, _, _, .gen [16,901] _ _ _ rfl (r2) rfl rfl rfl rfl rfl, ?_⟩
  | ((refine ⟨_, _, _, .gen [16,901] _ _ _ rfl (.arg ?harg (r1)) rfl rfl rfl rfl rfl, ?_⟩); case harg => (repeat' (first | exact sm | apply And.intro)))
  | ((refine ⟨_, _, _, .gen [16,901] _ _ _ rfl (.arg ?harg (r2)) rfl rfl rfl rfl rfl, ?_⟩); case harg => (repeat' (first | exact sm | apply And.intro))) | (refine And.intro (fun hq => ?_) (fun hq => ?_) <;> first | exact cl1 | exact cl3 | skip)
  | refine ob2 ?_ | refine ob4 ?_ | refine fun hq => ?_ | fail) <;> conv => whnf)
  refine ⟨i + 1, by omega, by dsimp only; omega, ?_⟩
  refine ⟨[.regen 901 2], ?_⟩
  conv => whnf
  refine ⟨rfl, ?_, ?_⟩ <;> (repeat' (first | exact sm | apply And.intro))
 ·obtain rfl : i = n.rows.length := by omega
  have r3 := wbyte 16 901 2 (by decide) (nodB n n.rows.length 0) n.kids.length 0 (by omega)
  rw [nodB_mid] at r3
  conv => whnf
  repeat' ((first
  | refine ob ?_
  | refine ⟨_, _, _, .gen [16,901] _ _ _ rfl (r3) rfl rfl rfl rfl rfl, ?_⟩
  | ((refine ⟨_, _, _, .gen [16,901] _ _ _ rfl (.arg ?harg (r3)) rfl rfl rfl rfl rfl, ?_⟩); case harg => (repeat' (first | exact trivial | (exact congrArg (Value.int .u8) hk) | exact sm | apply And.intro))) | (refine And.intro (fun hq => ?_) (fun hq => ?_) <;> first | exact cl1 | exact cl3 | skip)
  | refine ob2 ?_ | refine ob4 ?_ | refine fun hq => ?_ | fail) <;> conv => whnf)
  refine ⟨[], ?_⟩
  conv => whnf
  refine ⟨Nat, fun j => j ≤ n.kids.length, fun j => n.kids.length - j, fun j => [(52, exI .i64 j)], fun j => wrH 16 901 3 (nodB n n.rows.length (j + 1)) 0, ⟨0, by omega, ?_⟩, ?_⟩
  ·skip
   refine ⟨[], ?_⟩
   conv => whnf
   refine ⟨rfl, ?_, ?_⟩ <;> (repeat' (first | exact sm | apply And.intro))
  intro j hj
  conv => whnf
  have hm2 := nodB_len n hw n.rows.length (j + 1) (by omega) (by omega)
  rcases Nat.lt_or_ge j n.kids.length with hjl | hjg
  ·obtain ⟨w1, w2, w3, w4, w5, w6⟩ := hw.kid j hjl
   have e1 : (((n.kids.getD j default).live.toNat : Nat) : Int) = (n.kids.getD j default).live := by omega
   have e2 : (((n.kids.getD j default).size.toNat : Nat) : Int) = (n.kids.getD j default).size := by omega
   have hb1 : ∀ x, (Pl.be3 x).length = 3 := fun x => rfl
   have hkid := nodB_kid n n.rows.length j hjl
   generalize nodB n n.rows.length (j + 1) = m at hm2 hkid ⊢
   have k1 := wdig 16 901 3 (by decide) m (n.kids.getD j default).sum 0 w1 (by omega)
   have k2 := wcount 16 901 4 (by decide) (m ++ (n.kids.getD j default).sum) (n.kids.getD j default).live.toNat 0 (by omega) (by simp only [List.length_append]; omega)
   have k3 := wcount 16 901 5 (by decide) (m ++ (n.kids.getD j default).sum ++ Pl.be3 (n.kids.getD j default).live.toNat) (n.kids.getD j default).size.toNat 0 (by omega) (by simp only [List.length_append, hb1]; omega)
   have k4 := wrow 16 901 6 (by decide) (m ++ (n.kids.getD j default).sum ++ Pl.be3 (n.kids.getD j default).live.toNat ++ Pl.be3 (n.kids.getD j default).size.toNat) (n.kids.getD j default).lo 0 w4.1 w4.2 (by simp only [List.length_append, hb1]; omega)
   have k5 := wrow 16 901 7 (by decide) (m ++ (n.kids.getD j default).sum ++ Pl.be3 (n.kids.getD j default).live.toNat ++ Pl.be3 (n.kids.getD j default).size.toNat ++ Pl.rowB (n.kids.getD j default).lo) (n.kids.getD j default).hi 0 w5.1 w5.2 (by simp only [List.length_append, hb1, rowB_leng]; omega)
   have k6 := wrow 16 901 8 (by decide) (m ++ (n.kids.getD j default).sum ++ Pl.be3 (n.kids.getD j default).live.toNat ++ Pl.be3 (n.kids.getD j default).size.toNat ++ Pl.rowB (n.kids.getD j default).lo ++ Pl.rowB (n.kids.getD j default).hi) (n.kids.getD j default).key 0 w6.1 w6.2 (by simp only [List.length_append, hb1, rowB_leng]; omega)
   rw [e1] at k2
   rw [e2] at k3
   rw [hkid] at k6
   conv => whnf
   repeat' ((first
   | refine ob ?_
   | refine ⟨_, _, _, .gen [16,901] _ _ _ rfl (k1) rfl rfl rfl rfl rfl, ?_⟩
   | refine ⟨_, _, _, .gen [16,901] _ _ _ rfl (k2) rfl rfl rfl rfl rfl, ?_⟩
   | refine ⟨_, _, _, .gen [16,901] _ _ _ rfl (k3) rfl rfl rfl rfl rfl, ?_⟩
   | refine ⟨_, _, _, .gen [16,901] _ _ _ rfl (k4) rfl rfl rfl rfl rfl, ?_⟩
   | refine ⟨_, _, _, .gen [16,901] _ _ _ rfl (k5) rfl rfl rfl rfl rfl, ?_⟩
   | refine ⟨_, _, _, .gen [16,901] _ _ _ rfl (k6) rfl rfl rfl rfl rfl, ?_⟩
   | ((refine ⟨_, _, _, .gen [16,901] _ _ _ rfl (.arg ?harg (k1)) rfl rfl rfl rfl rfl, ?_⟩); case harg => (repeat' (first | exact sm | apply And.intro)))
   | ((refine ⟨_, _, _, .gen [16,901] _ _ _ rfl (.arg ?harg (k2)) rfl rfl rfl rfl rfl, ?_⟩); case harg => (repeat' (first | exact sm | apply And.intro)))
   | ((refine ⟨_, _, _, .gen [16,901] _ _ _ rfl (.arg ?harg (k3)) rfl rfl rfl rfl rfl, ?_⟩); case harg => (repeat' (first | exact sm | apply And.intro)))
   | ((refine ⟨_, _, _, .gen [16,901] _ _ _ rfl (.arg ?harg (k4)) rfl rfl rfl rfl rfl, ?_⟩); case harg => (repeat' (first | exact sm | apply And.intro)))
   | ((refine ⟨_, _, _, .gen [16,901] _ _ _ rfl (.arg ?harg (k5)) rfl rfl rfl rfl rfl, ?_⟩); case harg => (repeat' (first | exact sm | apply And.intro)))
   | ((refine ⟨_, _, _, .gen [16,901] _ _ _ rfl (.arg ?harg (k6)) rfl rfl rfl rfl rfl, ?_⟩); case harg => (repeat' (first | exact sm | apply And.intro))) | (refine And.intro (fun hq => ?_) (fun hq => ?_) <;> first | exact cl1 | exact cl3 | skip)
   | refine ob2 ?_ | refine ob4 ?_ | refine fun hq => ?_ | fail) <;> conv => whnf)
   refine ⟨j + 1, by omega, by dsimp only; omega, ?_⟩
   refine ⟨[.regen 901 3], ?_⟩
   conv => whnf
   refine ⟨rfl, ?_, ?_⟩ <;> (repeat' (first | exact sm | apply And.intro))
  ·obtain rfl : j = n.kids.length := by omega
   rw [nodB_end] at hm2 ⊢
   have h0 : 0 < (Pl.nodeB n).length := by simp [Pl.nodeB]
   have k7 := wbytes 16 901 3 (by decide) (Pl.nodeB n) h0 (by omega)
   have k8 := werr 16 901 3 (by decide) (Pl.nodeB n) 0
   conv => whnf
   repeat' ((first
   | refine ob ?_
   | refine ⟨_, _, _, .gen [16,901] _ _ _ rfl (k7) rfl rfl rfl rfl rfl, ?_⟩
   | refine ⟨_, _, _, .gen [16,901] _ _ _ rfl (k8) rfl rfl rfl rfl rfl, ?_⟩
   | ((refine ⟨_, _, _, .gen [16,901] _ _ _ rfl (.arg ?harg (k7)) rfl rfl rfl rfl rfl, ?_⟩); case harg => (repeat' (first | exact sm | apply And.intro)))
   | ((refine ⟨_, _, _, .gen [16,901] _ _ _ rfl (.arg ?harg (k8)) rfl rfl rfl rfl rfl, ?_⟩); case harg => (repeat' (first | exact sm | apply And.intro))) | (refine And.intro (fun hq => ?_) (fun hq => ?_) <;> first | exact cl1 | exact cl3 | skip)
   | refine ob2 ?_ | refine ob4 ?_ | refine fun hq => ?_ | fail) <;> conv => whnf)
   all_goals (repeat' (first | exact sm | apply And.intro))
end Go.Proofs.YtedokpgkjcnoiaaGreat
namespace Go.Proofs.YtedokpgkjcnoiaaGreat
open Go.RowKit
set_option maxRecDepth 100000
set_option maxHeartbeats 1000000
theorem bequal_any (l m : List Nat) (h : l.length ≤ 1000000000000) : ACall Tryz.prog 78 [.d (byteL l), .d (byteL m)] [] (exB (decide (l = m))) [] := by
 refine acall_of (mu := []) mixed Tryz.func78 rfl rfl rfl ?_
 conv => whnf
 refine ⟨fun a => ?_, fun b => ?_⟩
 ·have hne : l ≠ m := fun e => by subst e; simp at a
  rw [decide_eq_false hne]
  conv => whnf
  all_goals (repeat' (first | exact sm | apply And.intro))
 ·have hl : l.length = m.length := by simp at b; omega
  conv => whnf
  refine ⟨[], ?_⟩
  conv => whnf
  refine ⟨Nat, fun k => k ≤ l.length ∧ ∀ i, i < k → l.getD i 0 = m.getD i 0, fun k => l.length - k, fun k => [(4, exB false), (13, exI .i64 k)], fun _ => [], ⟨0, ⟨by omega, fun i hi => by omega⟩, ?_⟩, ?_⟩
  ·skip
   refine ⟨[], ?_⟩
   conv => whnf
   refine ⟨rfl, ?_, ?_⟩ <;> (repeat' (first | exact sm | apply And.intro))
  intro k ⟨hk, hn⟩
  conv => whnf
  repeat
   first
    | refine And.intro (by omega) ?_
    | refine And.intro rfl ?_
   conv => whnf
  refine ⟨fun hlt => ?_, fun hge => ?_⟩
  ·have hlt : k < l.length := by simpa using hlt
   conv => whnf
   repeat
    first
     | refine And.intro (by omega) ?_
     | refine And.intro rfl ?_
    conv => whnf
   refine ⟨fun he => ?_, fun he => ?_⟩
   ·have hne : l ≠ m := fun e => by subst e; simp at he
    rw [decide_eq_false hne]
    conv => whnf
    all_goals (repeat' (first | exact sm | apply And.intro))
   ·skip
    conv => whnf
    repeat
     first
      | refine And.intro (by omega) ?_
      | refine And.intro rfl ?_
     conv => whnf
    refine ⟨k + 1, ⟨by omega, fun i hi => ?_⟩, by dsimp only; omega, ?_⟩
    ·rcases Nat.lt_or_ge i k with q | q
     ·exact hn i q
     ·obtain rfl : i = k := by omega
      simp at he
      have := Int.ofNat.inj (show ((l.getD i 0 : Nat) : Int) = (m.getD i 0 : Nat) by simpa using he)
      exact this
    ·skip
     refine ⟨[], ?_⟩
     conv => whnf
     refine ⟨rfl, ?_, ?_⟩ <;> (repeat' (first | exact sm | apply And.intro))
  ·have hge : ¬ k < l.length := by simpa using hge
   rw [decide_eq_true (list_eq hl fun i hi => hn i (by omega))]
   conv => whnf
   all_goals (repeat' (first | exact sm | apply And.intro))
end Go.Proofs.YtedokpgkjcnoiaaGreat
namespace Go.Proofs.YtedokpgkjcnoiaaGreat
open Go.RowKit
set_option maxRecDepth 100000
set_option maxHeartbeats 1000000
theorem nkid9 (d : Int) (l : List Nat) (e : Int) (hB : Pl.IsB l) : ACall Tryz.prog 74 [.ptr 900 0 0 0, exI .i64 d] (rdH 900 l e) (agD (kidL (Pl.rKid d l e).1)) (rdH 900 (Pl.rKid d l e).2.1 (Pl.rKid d l e).2.2) := by
 have q1 := rdig 900 l e
 have b1 : Pl.IsB (Pl.rTake 32 l e).2.1 := (Pl.take_suf 32 l e).isB hB
 unfold Pl.rKid
 simp only []
 generalize Pl.rDig l e = s at q1 ⊢
 generalize (Pl.rTake 32 l e).2 = s1 at q1 b1 ⊢
 obtain ⟨l1, e1⟩ := s1
 simp only [] at q1 b1 ⊢
 have q2 := rcount 900 1048576 l1 e1 b1
 have b2 : Pl.IsB (Pl.rCount 1048576 l1 e1).2.1 := (Pl.count_suf 1048576 l1 e1).isB b1
 generalize Pl.rCount 1048576 l1 e1 = c1 at q2 b2 ⊢
 obtain ⟨n1, l2, e2⟩ := c1
 simp only [] at q2 b2 ⊢
 have q3 := rcount 900 1048576 l2 e2 b2
 have b3 : Pl.IsB (Pl.rCount 1048576 l2 e2).2.1 := (Pl.count_suf 1048576 l2 e2).isB b2
 generalize Pl.rCount 1048576 l2 e2 = c2 at q3 b3 ⊢
 obtain ⟨n2, l3, e3⟩ := c2
 simp only [] at q3 b3 ⊢
 have q4 := rrow 900 d l3 e3 b3
 have b4 : Pl.IsB (Pl.rRowI d l3 e3).2.1 := (Pl.rowI_suf d l3 e3).isB b3
 generalize Pl.rRowI d l3 e3 = c3 at q4 b4 ⊢
 obtain ⟨r1, l4, e4⟩ := c3
 simp only [] at q4 b4 ⊢
 have q5 := rrow 900 d l4 e4 b4
 have b5 : Pl.IsB (Pl.rRowI d l4 e4).2.1 := (Pl.rowI_suf d l4 e4).isB b4
 generalize Pl.rRowI d l4 e4 = c4 at q5 b5 ⊢
 obtain ⟨r2, l5, e5⟩ := c4
 simp only [] at q5 b5 ⊢
 have q6 := rrow 900 d l5 e5 b5
 generalize Pl.rRowI d l5 e5 = c5 at q6 ⊢
 obtain ⟨r3, l6, e6⟩ := c5
 simp only [] at q6 ⊢
 refine acall_on (mu := []) [] [] mixed Tryz.func74 rfl rfl rfl ?_
 conv => whnf
 repeat' ((first
 | refine ob ?_
 | refine ⟨_, _, _, .gen [900] _ _ _ rfl (q1) rfl rfl rfl rfl rfl, ?_⟩
 | refine ⟨_, _, _, .gen [900] _ _ _ rfl (q2) rfl rfl rfl rfl rfl, ?_⟩
 | refine ⟨_, _, _, .gen [900] _ _ _ rfl (q3) rfl rfl rfl rfl rfl, ?_⟩
 | refine ⟨_, _, _, .gen [900] _ _ _ rfl (q4) rfl rfl rfl rfl rfl, ?_⟩
 | refine ⟨_, _, _, .gen [900] _ _ _ rfl (q5) rfl rfl rfl rfl rfl, ?_⟩
 | refine ⟨_, _, _, .gen [900] _ _ _ rfl (q6) rfl rfl rfl rfl rfl, ?_⟩
 | ((refine ⟨_, _, _, .gen [900] _ _ _ rfl (.arg ?harg (q1)) rfl rfl rfl rfl rfl, ?_⟩); case harg => (repeat' (first | exact sm | apply And.intro)))
 | ((refine ⟨_, _, _, .gen [900] _ _ _ rfl (.arg ?harg (q2)) rfl rfl rfl rfl rfl, ?_⟩); case harg => (repeat' (first | exact sm | apply And.intro)))
 | ((refine ⟨_, _, _, .gen [900] _ _ _ rfl (.arg ?harg (q3)) rfl rfl rfl rfl rfl, ?_⟩); case harg => (repeat' (first | exact sm | apply And.intro)))
 | ((refine ⟨_, _, _, .gen [900] _ _ _ rfl (.arg ?harg (q4)) rfl rfl rfl rfl rfl, ?_⟩); case harg => (repeat' (first | exact sm | apply And.intro)))
 | ((refine ⟨_, _, _, .gen [900] _ _ _ rfl (.arg ?harg (q5)) rfl rfl rfl rfl rfl, ?_⟩); case harg => (repeat' (first | exact sm | apply And.intro)))
 | ((refine ⟨_, _, _, .gen [900] _ _ _ rfl (.arg ?harg (q6)) rfl rfl rfl rfl rfl, ?_⟩); case harg => (repeat' (first | exact sm | apply And.intro))) | (refine And.intro (fun hq => ?_) (fun hq => ?_) <;> first | exact cl1 | exact cl3 | skip)
 | refine ob2 ?_ | refine ob4 ?_ | refine fun hq => ?_ | fail) <;> conv => whnf)
 all_goals (repeat' (first | exact sm | apply And.intro))
theorem nkid (d : Int) (o : Nat) (l : List Nat) (e : Int) (hB : Pl.IsB l) : ACall Tryz.prog 74 [.ptr o 0 0 0, exI .i64 d] (rdH o l e) (agD (kidL (Pl.rKid d l e).1)) (rdH o (Pl.rKid d l e).2.1 (Pl.rKid d l e).2.2) := by
    obtain ⟨σ, τ, hστ, e1⟩ := names1 900 o
    have q := (nkid9 d l e hB).ren (σ := σ) (τ := τ) (δ := fun _ => 0) hστ (by intros; rfl)
    simp only [mapC, mapA_agD] at q
    simpa [mapC, mapA, mapA1, rnA, rnH, rnO, rdH, e1] using q
def entF (l : List EntD) (i : Nat) : List DV := entL (l.getD i default)
def kidF (l : List KidD) (i : Nat) : List DV := kidL (l.getD i default)
theorem chop_ent (t : EntD) : chop 2 (entL t) 0 = entL t := by
 have h : (entL t).length = 2 := rfl
 unfold chop
 rw [Nat.zero_mul, List.drop_zero, List.take_of_length_le (Nat.le_of_eq h)]
theorem app_ent (r : List EntD) (t : EntD) : ∀ k, k < r.length + 1 → app r.length (entF r) (chop 2 (entL t)) k = entF (r ++ [t]) k := fun k hk => by
 rcases Nat.lt_or_ge k r.length with h | h
 ·rw [app_lt h]; simp [entF, List.getD_eq_getElem?_getD, List.getElem?_append_left h]
 ·obtain rfl : k = r.length := by omega
  rw [app_ge h, Nat.sub_self, chop_ent]; simp [entF, List.getD_eq_getElem?_getD]
theorem chop_kid (t : KidD) : chop 37 (kidL t) 0 = kidL t := by
 have h : (kidL t).length = 37 := rfl
 unfold chop
 rw [Nat.zero_mul, List.drop_zero, List.take_of_length_le (Nat.le_of_eq h)]
theorem app_kid (r : List KidD) (t : KidD) : ∀ k, k < r.length + 1 → app r.length (kidF r) (chop 37 (kidL t)) k = kidF (r ++ [t]) k := fun k hk => by
 rcases Nat.lt_or_ge k r.length with h | h
 ·rw [app_lt h]; simp [kidF, List.getD_eq_getElem?_getD, List.getElem?_append_left h]
 ·obtain rfl : k = r.length := by omega
  rw [app_ge h, Nat.sub_self, chop_kid]; simp [kidF, List.getD_eq_getElem?_getD]
theorem rEnts_leng (d : Int) (l : List Nat) (e : Int) : ∀ k, (Pl.rEnts d k l e).1.length = k
 | 0 => rfl
 | k + 1 => by simp [Pl.rEnts, rEnts_leng d l e k]
theorem rKids_leng (d : Int) (l : List Nat) (e : Int) : ∀ k, (Pl.rKids d k l e).1.length = k
 | 0 => rfl
 | k + 1 => by simp [Pl.rKids, rKids_leng d l e k]
theorem rKidD_w (d : Int) (l : List Nat) (e : Int) (hB : Pl.IsB l) : Pl.KidW (Pl.rKid d l e).1 255 := by
 have hs := Pl.rDig_len l e
 have b1 := (Pl.take_suf 32 l e).isB hB
 unfold Pl.rKid
 simp only []
 generalize (Pl.rTake 32 l e).2 = s1 at b1 ⊢
 have c1 := (Pl.rCount_le 1048576 s1.1 s1.2).1
 have b2 := (Pl.count_suf 1048576 s1.1 s1.2).isB b1
 generalize Pl.rCount 1048576 s1.1 s1.2 = s2 at b2 c1 ⊢
 have c2 := (Pl.rCount_le 1048576 s2.2.1 s2.2.2).1
 have b3 := (Pl.count_suf 1048576 s2.2.1 s2.2.2).isB b2
 generalize Pl.rCount 1048576 s2.2.1 s2.2.2 = s3 at b3 c2 ⊢
 have r1 := Pl.rowI_isI (m := d) (e := s3.2.2) b3
 have b4 := (Pl.rowI_suf d s3.2.1 s3.2.2).isB b3
 generalize Pl.rRowI d s3.2.1 s3.2.2 = s4 at b4 r1 ⊢
 have r2 := Pl.rowI_isI (m := d) (e := s4.2.2) b4
 have b5 := (Pl.rowI_suf d s4.2.1 s4.2.2).isB b4
 generalize Pl.rRowI d s4.2.1 s4.2.2 = s5 at b5 r2 ⊢
 have r3 := Pl.rowI_isI (m := d) (e := s5.2.2) b5
 generalize Pl.rRowI d s5.2.1 s5.2.2 = s6 at r3 ⊢
 exact ⟨hs, ⟨by dsimp only; omega, by dsimp only; omega⟩, ⟨by dsimp only; omega, by dsimp only; omega⟩, ⟨r1.2, r1.1⟩, ⟨r2.2, r2.1⟩, ⟨r3.2, r3.1⟩⟩
theorem rKids_w (d : Int) (l : List Nat) (e : Int) (hB : Pl.IsB l) : ∀ k, ∀ x ∈ (Pl.rKids d k l e).1, Pl.KidW x 255
 | 0 => by simp [Pl.rKids]
 | k + 1 => by
  rw [Pl.rKids]
  dsimp only
  intro x hx
  rcases List.mem_append.1 hx with hx | hx
  ·exact rKids_w d l e hB k x hx
  ·rw [List.mem_singleton.1 hx]; exact rKidD_w d _ _ ((Pl.kids_suf d l e k).isB hB)
theorem nodeR_few {n : NodeD} {d : Int} (h : nodeR n d = true) : n.rows.length ≤ 4 ∧ n.kids.length ≤ 4 := by
 unfold nodeR nodeK at h
 simp only [Bool.and_eq_true, decide_eq_true_eq] at h
 obtain ⟨_, _, _, _, h⟩ := h
 split at h
 ·simp only [Bool.and_eq_true, decide_eq_true_eq] at h; omega
 ·split at h
  ·simp only [Bool.and_eq_true, decide_eq_true_eq] at h; omega
  ·split at h
   ·simp only [Bool.and_eq_true, decide_eq_true_eq] at h; omega
   ·cases h
/-- a node whose bytes these are -/
def decN (d : Int) (b : List Nat) : Option NodeD := if Pl.rEnd (Pl.rNode d b).2.1 (Pl.rNode d b).2.2 = 0 ∧ nodeR (Pl.rNode d b).1 d = true ∧ Pl.nodeB (Pl.rNode d b).1 = b then some (Pl.rNode d b).1 else none
def resN : Option NodeD → AV
 | some n => .tup [agD (nodeL n), exI .i64 0]
 | none => .tup [agD [.v (.int .u8 0), .v (.slice none 0 0), .v (.slice none 0 0)], exI .i64 21]
theorem ndecode_any (d : Int) (b : List Nat) (hB : Pl.IsB b) (hb : b.length ≤ 1000000) : ACall Tryz.prog 57 [.d (byteL b), exI .i64 d] [] (resN (decN d b)) [] := by
 have q0 := rnew 900 b (by omega)
 have q1 := rbyte 900 b 0
 have b1 := (Pl.take_suf 1 b 0).isB hB
 have hx := Pl.rByte_lt b 0 hB
 unfold decN Pl.rNode
 simp only []
 generalize Pl.rByte b 0 = x at q1 hx ⊢
 generalize (Pl.rTake 1 b 0).2 = s1 at q1 b1 ⊢
 obtain ⟨l1, e1⟩ := s1
 simp only [] at q1 b1 ⊢
 have q2 := rbyte 900 l1 e1
 have b2 := (Pl.take_suf 1 l1 e1).isB b1
 have hy := Pl.rByte_lt l1 e1 b1
 generalize Pl.rByte l1 e1 = y at q2 hy ⊢
 generalize (Pl.rTake 1 l1 e1).2 = s2 at q2 b2 ⊢
 obtain ⟨l2, e2⟩ := s2
 simp only [] at q2 b2 ⊢
 refine acall_on (mu := []) [(12, [.lay 50, .lay 51])] [] mixed Tryz.func57 rfl rfl rfl ?_
 conv => whnf
 repeat' ((first
 | refine ob ?_
 | refine ⟨_, _, _, .gen [] _ _ _ rfl (q0) rfl rfl rfl rfl rfl, ?_⟩
 | refine ⟨_, _, _, .gen [900] _ _ _ rfl (q1) rfl rfl rfl rfl rfl, ?_⟩
 | refine ⟨_, _, _, .gen [900] _ _ _ rfl (q2) rfl rfl rfl rfl rfl, ?_⟩
 | ((refine ⟨_, _, _, .gen [] _ _ _ rfl (.arg ?harg (q0)) rfl rfl rfl rfl rfl, ?_⟩); case harg => (repeat' (first | exact sm | apply And.intro)))
 | ((refine ⟨_, _, _, .gen [900] _ _ _ rfl (.arg ?harg (q1)) rfl rfl rfl rfl rfl, ?_⟩); case harg => (repeat' (first | exact sm | apply And.intro)))
 | ((refine ⟨_, _, _, .gen [900] _ _ _ rfl (.arg ?harg (q2)) rfl rfl rfl rfl rfl, ?_⟩); case harg => (repeat' (first | exact sm | apply And.intro))) | (refine And.intro (fun hq => ?_) (fun hq => ?_) <;> first | exact cl1 | exact cl3 | skip)
 | refine ob2 ?_ | refine ob4 ?_ | refine fun hq => ?_ | fail) <;> conv => whnf)
 refine ⟨[.virtC 7 1 50 77 2, .tell 50 (entF [])], ?_⟩
 conv => whnf
 refine ⟨Nat, fun i => i ≤ y, fun i => y - i, fun i => [(19, exI .i64 i)], fun i => (50, .row 77 2 0 false (Pl.rEnts d i l2 e2).1.length (entF (Pl.rEnts d i l2 e2).1)) :: (7, .box 73 [.d (.v (.int .u8 (x : Nat))), .own 50 0, .d (.v (.slice none 0 0))]) :: rdH 900 (Pl.rEnts d i l2 e2).2.1 (Pl.rEnts d i l2 e2).2.2, ⟨0, by omega, ?_⟩, ?_⟩
 ·skip
  refine ⟨[], ?_⟩
  conv => whnf
  refine ⟨rfl, ?_, ?_⟩ <;> (repeat' (first | exact sm | apply And.intro))
 intro i hi
 conv => whnf
 rcases Nat.lt_or_ge i y with hlt | hge
 ·have b3 := (Pl.ents_suf d l2 e2 i).isB b2
  have q3 := rtruth 900 (Pl.rEnts d i l2 e2).2.1 (Pl.rEnts d i l2 e2).2.2
  have b4 : Pl.IsB (Pl.rTruth (Pl.rEnts d i l2 e2).2.1 (Pl.rEnts d i l2 e2).2.2).2.1 := (Pl.take_suf 1 _ _).isB b3
  have q4 := rrow 900 d (Pl.rTruth (Pl.rEnts d i l2 e2).2.1 (Pl.rEnts d i l2 e2).2.2).2.1 (Pl.rTruth (Pl.rEnts d i l2 e2).2.1 (Pl.rEnts d i l2 e2).2.2).2.2 b4
  have hs : Pl.rEnts d (i + 1) l2 e2 = ((Pl.rEnts d i l2 e2).1 ++ [⟨(Pl.rRowI d (Pl.rTruth (Pl.rEnts d i l2 e2).2.1 (Pl.rEnts d i l2 e2).2.2).2.1 (Pl.rTruth (Pl.rEnts d i l2 e2).2.1 (Pl.rEnts d i l2 e2).2.2).2.2).1, (Pl.rTruth (Pl.rEnts d i l2 e2).2.1 (Pl.rEnts d i l2 e2).2.2).1⟩], (Pl.rRowI d (Pl.rTruth (Pl.rEnts d i l2 e2).2.1 (Pl.rEnts d i l2 e2).2.2).2.1 (Pl.rTruth (Pl.rEnts d i l2 e2).2.1 (Pl.rEnts d i l2 e2).2.2).2.2).2) := rfl
  have hlen := rEnts_leng d l2 e2 i
  generalize Pl.rEnts d i l2 e2 = S at q3 q4 hs hlen ⊢
  obtain ⟨r, m1, y1⟩ := S
  simp only [] at q3 q4 hs hlen ⊢
  generalize Pl.rTruth m1 y1 = U at q3 q4 hs
  obtain ⟨tv, m2, y2⟩ := U
  simp only [] at q3 q4 hs
  generalize Pl.rRowI d m2 y2 = V at q4 hs
  obtain ⟨rw3, m3, y3⟩ := V
  simp only [] at q4 hs
  conv => whnf
  repeat' ((first
  | refine ob ?_
  | refine ⟨_, _, _, .gen [900] _ _ _ rfl (q3) rfl rfl rfl rfl rfl, ?_⟩
  | refine ⟨_, _, _, .gen [900] _ _ _ rfl (q4) rfl rfl rfl rfl rfl, ?_⟩
  | ((refine ⟨_, _, _, .gen [900] _ _ _ rfl (.arg ?harg (q3)) rfl rfl rfl rfl rfl, ?_⟩); case harg => (repeat' (first | exact sm | apply And.intro)))
  | ((refine ⟨_, _, _, .gen [900] _ _ _ rfl (.arg ?harg (q4)) rfl rfl rfl rfl rfl, ?_⟩); case harg => (repeat' (first | exact sm | apply And.intro))) | (refine And.intro (fun hq => ?_) (fun hq => ?_) <;> first | exact cl1 | exact cl3 | skip)
  | refine ob2 ?_ | refine ob4 ?_ | refine fun hq => ?_ | fail) <;> conv => whnf)
  refine ⟨i + 1, by omega, by omega, ?_⟩
  rw [hs]
  refine ⟨[.regen 50 0], ?_⟩
  conv => whnf
  refine ⟨rfl, ?_, ?_⟩ <;> (repeat' (first | exact trivial | (exact app_ent r ⟨rw3, tv⟩) | ((simp; done)) | exact sm | apply And.intro))
 ·obtain rfl : i = y := by omega
  have hE := rEnts_leng d l2 e2 i
  have b3 := (Pl.ents_suf d l2 e2 i).isB b2
  have hEw := (Pl.rEnts_ok d (e := e2) b2 i).2
  generalize Pl.rEnts d i l2 e2 = S at hE hEw b3 ⊢
  obtain ⟨E, l3, e3⟩ := S
  simp only [] at hE hEw b3 ⊢
  have q3 := rbyte 900 l3 e3
  have b4 := (Pl.take_suf 1 l3 e3).isB b3
  have hz := Pl.rByte_lt l3 e3 b3
  generalize Pl.rByte l3 e3 = z at q3 hz ⊢
  generalize (Pl.rTake 1 l3 e3).2 = s4 at q3 b4 ⊢
  obtain ⟨l4, e4⟩ := s4
  simp only [] at q3 b4 ⊢
  conv => whnf
  repeat' ((first
  | refine ob ?_
  | refine ⟨_, _, _, .gen [900] _ _ _ rfl (q3) rfl rfl rfl rfl rfl, ?_⟩
  | ((refine ⟨_, _, _, .gen [900] _ _ _ rfl (.arg ?harg (q3)) rfl rfl rfl rfl rfl, ?_⟩); case harg => (repeat' (first | exact sm | apply And.intro))) | (refine And.intro (fun hq => ?_) (fun hq => ?_) <;> first | exact cl1 | exact cl3 | skip)
  | refine ob2 ?_ | refine ob4 ?_ | refine fun hq => ?_ | fail) <;> conv => whnf)
  refine ⟨[.virtC 7 2 51 36 37, .tell 51 (kidF [])], ?_⟩
  conv => whnf
  refine ⟨Nat, fun j => j ≤ z, fun j => z - j, fun j => [(37, exI .i64 j)], fun j => (51, .row 36 37 0 false (Pl.rKids d j l4 e4).1.length (kidF (Pl.rKids d j l4 e4).1)) :: (7, .box 73 [.d (.v (.int .u8 (x : Nat))), .own 50 0, .own 51 0]) :: rdH 900 (Pl.rKids d j l4 e4).2.1 (Pl.rKids d j l4 e4).2.2, ⟨0, by omega, ?_⟩, ?_⟩
  ·skip
   refine ⟨[], ?_⟩
   conv => whnf
   refine ⟨rfl, ?_, ?_⟩ <;> (repeat' (first | exact sm | apply And.intro))
  intro j hj
  conv => whnf
  rcases Nat.lt_or_ge j z with hlj | hgj
  ·have b5 := (Pl.kids_suf d l4 e4 j).isB b4
   have q4 := nkid d 900 (Pl.rKids d j l4 e4).2.1 (Pl.rKids d j l4 e4).2.2 b5
   have hs : Pl.rKids d (j + 1) l4 e4 = ((Pl.rKids d j l4 e4).1 ++ [(Pl.rKid d (Pl.rKids d j l4 e4).2.1 (Pl.rKids d j l4 e4).2.2).1], (Pl.rKid d (Pl.rKids d j l4 e4).2.1 (Pl.rKids d j l4 e4).2.2).2) := rfl
   have hlen := rKids_leng d l4 e4 j
   generalize Pl.rKids d j l4 e4 = S at q4 hs hlen ⊢
   obtain ⟨r, m1, y1⟩ := S
   simp only [] at q4 hs hlen ⊢
   generalize Pl.rKid d m1 y1 = U at q4 hs
   obtain ⟨tk, m2, y2⟩ := U
   simp only [] at q4 hs
   conv => whnf
   repeat' ((first
   | refine ob ?_
   | refine ⟨_, _, _, .gen [900] _ _ _ rfl (q4) rfl rfl rfl rfl rfl, ?_⟩
   | ((refine ⟨_, _, _, .gen [900] _ _ _ rfl (.arg ?harg (q4)) rfl rfl rfl rfl rfl, ?_⟩); case harg => (repeat' (first | exact sm | apply And.intro))) | (refine And.intro (fun hq => ?_) (fun hq => ?_) <;> first | exact cl1 | exact cl3 | skip)
   | refine ob2 ?_ | refine ob4 ?_ | refine fun hq => ?_ | fail) <;> conv => whnf)
   refine ⟨j + 1, by omega, by omega, ?_⟩
   rw [hs]
   refine ⟨[.regen 51 0], ?_⟩
   conv => whnf
   refine ⟨rfl, ?_, ?_⟩ <;> (repeat' (first | exact trivial | (exact app_kid r tk) | ((simp; done)) | exact sm | apply And.intro))
  ·obtain rfl : j = z := by omega
   have hK := rKids_leng d l4 e4 j
   have hKw := rKids_w d l4 e4 b4 j
   generalize Pl.rKids d j l4 e4 = S at hK hKw ⊢
   obtain ⟨K, l5, e5⟩ := S
   simp only [] at hK hKw ⊢
   have hNS : NodeS ⟨x, E, K⟩ := ⟨by dsimp only; omega, by dsimp only; omega, fun i hi => Nat.le_trans (hEw _ (Pl.getD_mem' hi)).2 (by decide), fun i hi => by
    have q := hKw _ (Pl.getD_mem' hi)
    exact ⟨Nat.le_trans q.lo.1 (by decide), Nat.le_trans q.hi.1 (by decide), Nat.le_trans q.key.1 (by decide)⟩⟩
   have q5 := nright_ok ⟨x, E, K⟩ d hNS
   have q6 := rend 900 l5 e5
   generalize Pl.rEnd l5 e5 = z at q6 ⊢
   by_cases hz0 : z = 0
   ·subst hz0
    cases hr : nodeR ⟨x, E, K⟩ d with
    | true =>
     rw [hr] at q5
     have hf := nodeR_few hr
     have hNW : NodeW ⟨x, E, K⟩ := ⟨by dsimp only; omega, hf.1, hf.2, fun i hi => ⟨(hEw _ (Pl.getD_mem' hi)).2, (hEw _ (Pl.getD_mem' hi)).1⟩, fun i hi => hKw _ (Pl.getD_mem' hi)⟩
     have q7 := nencode_ok ⟨x, E, K⟩ d hNS hr hNW
     have q8 := bequal_any (Pl.nodeB ⟨x, E, K⟩) b (by
      have := nodB_len _ hNW E.length (K.length + 1) (Nat.le_refl _) (Nat.le_refl _)
      have e9 := nodB_end ⟨x, E, K⟩
      dsimp only at e9 hf
      rw [e9] at this
      omega)
     by_cases hc : Pl.nodeB ⟨x, E, K⟩ = b
     ·rw [if_pos ⟨rfl, rfl, hc⟩]
      rw [decide_eq_true hc] at q8
      conv => whnf
      repeat' ((first
      | refine ob ?_
      | refine ⟨_, _, _, .gen [900] _ _ _ rfl (q6) rfl rfl rfl rfl rfl, ?_⟩
      | refine ⟨_, _, _, .gen [] _ _ _ rfl (q5) rfl rfl rfl rfl rfl, ?_⟩
      | refine ⟨_, _, _, .gen [] _ _ _ rfl (q7) rfl rfl rfl rfl rfl, ?_⟩
      | refine ⟨_, _, _, .flat _ _ rfl (q8) rfl, ?_⟩
      | ((refine ⟨_, _, _, .gen [900] _ _ _ rfl (.arg ?harg (q6)) rfl rfl rfl rfl rfl, ?_⟩); case harg => (repeat' (first | exact sm | apply And.intro)))
      | ((refine ⟨_, _, _, .gen [] _ _ _ rfl (.arg ?harg (q5)) rfl rfl rfl rfl rfl, ?_⟩); case harg => (repeat' (first | exact sm | apply And.intro)))
      | ((refine ⟨_, _, _, .gen [] _ _ _ rfl (.arg ?harg (q7)) rfl rfl rfl rfl rfl, ?_⟩); case harg => (repeat' (first | exact sm | apply And.intro)))
      | ((refine ⟨_, _, _, .flat _ _ rfl (.arg ?harg (q8)) rfl, ?_⟩); case harg => (repeat' (first | exact sm | apply And.intro))) | (refine And.intro (fun hq => ?_) (fun hq => ?_) <;> first | exact cl1 | exact cl3 | skip)
      | refine ob2 ?_ | refine ob4 ?_ | refine fun hq => ?_ | fail) <;> conv => whnf)
      all_goals (repeat' (first | exact sm | apply And.intro))
     ·rw [if_neg (fun h => hc h.2.2)]
      rw [decide_eq_false hc] at q8
      conv => whnf
      repeat' ((first
      | refine ob ?_
      | refine ⟨_, _, _, .gen [900] _ _ _ rfl (q6) rfl rfl rfl rfl rfl, ?_⟩
      | refine ⟨_, _, _, .gen [] _ _ _ rfl (q5) rfl rfl rfl rfl rfl, ?_⟩
      | refine ⟨_, _, _, .gen [] _ _ _ rfl (q7) rfl rfl rfl rfl rfl, ?_⟩
      | refine ⟨_, _, _, .flat _ _ rfl (q8) rfl, ?_⟩
      | ((refine ⟨_, _, _, .gen [900] _ _ _ rfl (.arg ?harg (q6)) rfl rfl rfl rfl rfl, ?_⟩); case harg => (repeat' (first | exact sm | apply And.intro)))
      | ((refine ⟨_, _, _, .gen [] _ _ _ rfl (.arg ?harg (q5)) rfl rfl rfl rfl rfl, ?_⟩); case harg => (repeat' (first | exact sm | apply And.intro)))
      | ((refine ⟨_, _, _, .gen [] _ _ _ rfl (.arg ?harg (q7)) rfl rfl rfl rfl rfl, ?_⟩); case harg => (repeat' (first | exact sm | apply And.intro)))
      | ((refine ⟨_, _, _, .flat _ _ rfl (.arg ?harg (q8)) rfl, ?_⟩); case harg => (repeat' (first | exact sm | apply And.intro))) | (refine And.intro (fun hq => ?_) (fun hq => ?_) <;> first | exact cl1 | exact cl3 | skip)
      | refine ob2 ?_ | refine ob4 ?_ | refine fun hq => ?_ | fail) <;> conv => whnf)
      all_goals (repeat' (first | exact sm | apply And.intro))
    | false =>
     rw [hr] at q5
     rw [if_neg (fun h => by cases h.2.1)]
     conv => whnf
     repeat' ((first
     | refine ob ?_
     | refine ⟨_, _, _, .gen [900] _ _ _ rfl (q6) rfl rfl rfl rfl rfl, ?_⟩
     | refine ⟨_, _, _, .gen [] _ _ _ rfl (q5) rfl rfl rfl rfl rfl, ?_⟩
     | ((refine ⟨_, _, _, .gen [900] _ _ _ rfl (.arg ?harg (q6)) rfl rfl rfl rfl rfl, ?_⟩); case harg => (repeat' (first | exact sm | apply And.intro)))
     | ((refine ⟨_, _, _, .gen [] _ _ _ rfl (.arg ?harg (q5)) rfl rfl rfl rfl rfl, ?_⟩); case harg => (repeat' (first | exact sm | apply And.intro))) | (refine And.intro (fun hq => ?_) (fun hq => ?_) <;> first | exact cl1 | exact cl3 | skip)
     | refine ob2 ?_ | refine ob4 ?_ | refine fun hq => ?_ | fail) <;> conv => whnf)
     all_goals (repeat' (first | exact sm | apply And.intro))
   ·rw [if_neg (fun h => hz0 h.1)]
    have hd : decide (z = 0) = false := decide_eq_false hz0
    conv => whnf
    repeat' ((first
    | refine ob ?_
    | refine ⟨_, _, _, .gen [900] _ _ _ rfl (q6) rfl rfl rfl rfl rfl, ?_⟩
    | ((refine ⟨_, _, _, .gen [900] _ _ _ rfl (.arg ?harg (q6)) rfl rfl rfl rfl rfl, ?_⟩); case harg => (repeat' (first | exact sm | apply And.intro))) | (refine And.intro (fun hq => ?_) (fun hq => ?_) <;> first | exact cl1 | exact cl3 | skip)
    | refine ob2 ?_ | refine ob4 ?_ | refine fun hq => ?_ | fail) <;> conv => whnf)
    all_goals (repeat' (first | exact sm | apply And.intro))
end Go.Proofs.YtedokpgkjcnoiaaGreat
