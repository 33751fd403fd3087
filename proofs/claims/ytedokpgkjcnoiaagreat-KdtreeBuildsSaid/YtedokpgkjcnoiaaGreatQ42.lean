/- Nodes whose kids are a row of one's own: node.Encode, node.Say. -/
import Derived.Test.YtedokpgkjcnoiaaGreatQ38
set_option linter.unusedVariables false
set_option linter.unusedSimpArgs false
namespace Go.Proofs.YtedokpgkjcnoiaaGreat
open Go.RowKit
set_option maxRecDepth 100000
set_option maxHeartbeats 2000000
def kidsO (K : Nat) (l : List KidD) : OH := [(K, .row 36 37 0 false l.length (kidF l))]
def nodeO (K : Nat) (n : NodeD) : AV := .agg [.d (.v (.int .u8 (n.kind : Nat))), .d (entsL n.rows), .own K 0]
theorem nencodeO_ok (n : NodeD) (d : Int) (h : NodeS n) (hr : nodeR n d = true) (hw : NodeW n) : ACall Tryz.prog 77 [nodeO 903 n, exI .i64 d] (kidsO 903 n.kids) (.tup [.d (byteL (Pl.nodeB n)), exI .i64 0]) (kidsO 903 n.kids) := by
 have hR := nright_ok n d h
 rw [hr] at hR
 have h1 := hw.rows
 have h2 := hw.kids
 have q0 := wbyte 16 901 0 (by decide) [] n.kind 0 (by simp)
 have q1 := wbyte 16 901 1 (by decide) ([] ++ [n.kind]) n.rows.length 0 (by simp)
 have hb : IntKind.u8.wrap (n.rows.length : Int) = ((n.rows.length : Nat) : Int) := by rw [wrap8]; omega
 have hk : IntKind.u8.wrap (n.kids.length : Int) = ((n.kids.length : Nat) : Int) := by rw [wrap8]; omega
 rw [show ([] : List Nat) ++ [n.kind] ++ [n.rows.length] = nodB n 0 0 by simp [nodB]] at q1
 refine acall_on (mu := [2,16]) [(4, [.virtC 16 0 901 5 1, .tell 901 (byF [])])] [] mixed Tryz.func77 rfl rfl rfl ?_
 conv => whnf
 repeat' ((first
 | refine ob ?_
 | refine ⟨_, _, _, .flat _ _ rfl (hR) rfl, ?_⟩
 | refine ⟨_, _, _, .gen [16,901] _ _ _ rfl (q0) rfl rfl rfl rfl rfl, ?_⟩
 | refine ⟨_, _, _, .gen [16,901] _ _ _ rfl (q1) rfl rfl rfl rfl rfl, ?_⟩
 | ((refine ⟨_, _, _, .flat _ _ rfl (.arg ?harg (hR)) rfl, ?_⟩); case harg => (repeat' (first | exact trivial | (exact congrArg (Value.int .u8) hb) | exact sm | apply And.intro)))
 | ((refine ⟨_, _, _, .gen [16,901] _ _ _ rfl (.arg ?harg (q0)) rfl rfl rfl rfl rfl, ?_⟩); case harg => (repeat' (first | exact trivial | (exact congrArg (Value.int .u8) hb) | exact sm | apply And.intro)))
 | ((refine ⟨_, _, _, .gen [16,901] _ _ _ rfl (.arg ?harg (q1)) rfl rfl rfl rfl rfl, ?_⟩); case harg => (repeat' (first | exact trivial | (exact congrArg (Value.int .u8) hb) | exact sm | apply And.intro))) | (refine And.intro (fun hq => ?_) (fun hq => ?_) <;> first | exact cl1 | exact cl3 | skip)
 | refine ob2 ?_ | refine ob4 ?_ | refine fun hq => ?_ | fail) <;> conv => whnf)
 refine ⟨[], ?_⟩
 conv => whnf
 refine ⟨Nat, fun i => i ≤ n.rows.length, fun i => n.rows.length - i, fun i => [(30, exI .i64 i)], fun i => wrH 16 901 2 (nodB n i 0) 0, ⟨0, by omega, ?_⟩, ?_⟩
 ·skip
  refine ⟨[], ?_⟩
  conv => whnf
  refine ⟨rfl, ?_, ?_⟩ <;> (repeat' (first | exact sm | apply And.intro))
 intro i hi
 conv => whnf
 have hm := nodB_len n hw i 0 hi (by omega)
 rcases Nat.lt_or_ge i n.rows.length with hlt | hge
 ·have hW := hw.row i hlt
  have r1 := wtruth 16 901 2 (by decide) (nodB n i 0) (n.rows.getD i default).live 0 (by omega)
  have r2 := wrow 16 901 3 (by decide) (nodB n i 0 ++ [if (n.rows.getD i default).live then 1 else 0]) (n.rows.getD i default).row 0 hW.1 hW.2 (by rw [List.length_append]; simp only [List.length_cons, List.length_nil]; omega)
  rw [nodB_row n i hlt] at r2
  conv => whnf
  repeat' ((first
  | refine ob ?_
  | refine ⟨_, _, _, .gen [16,901] _ _ _ rfl (r1) rfl rfl rfl rfl rfl, ?_⟩
  | refine ⟨_, _, _, .gen [16,901] _ _ _ rfl (r2) rfl rfl rfl rfl rfl, ?_⟩
  | ((refine ⟨_, _, _, .gen [16,901] _ _ _ rfl (.arg ?harg (r1)) rfl rfl rfl rfl rfl, ?_⟩); case harg => (repeat' (first | exact sm | apply And.intro)))
  | ((refine ⟨_, _, _, .gen [16,901] _ _ _ rfl (.arg ?harg (r2)) rfl rfl rfl rfl rfl, ?_⟩); case harg => (repeat' (first | exact sm | apply And.intro))) | (refine And.intro (fun hq => ?_) (fun hq => ?_) <;> first | exact cl1 | exact cl3 | skip)
  | refine ob2 ?_ | refine ob4 ?_ | refine fun hq => ?_ | fail) <;> conv => whnf)
  refine ⟨i + 1, by omega, by dsimp only; omega, ?_⟩
  refine ⟨[.regen 901 2], ?_⟩
  conv => whnf
  refine ⟨rfl, ?_, ?_⟩ <;> (repeat' (first | exact sm | apply And.intro))
 ·obtain rfl : i = n.rows.length := by omega
  have r3 := wbyte 16 901 2 (by decide) (nodB n n.rows.length 0) n.kids.length 0 (by omega)
  rw [nodB_mid] at r3
  conv => whnf
  repeat' ((first
  | refine ob ?_
  | refine ⟨_, _, _, .gen [16,901] _ _ _ rfl (r3) rfl rfl rfl rfl rfl, ?_⟩
  | ((refine ⟨_, _, _, .gen [16,901] _ _ _ rfl (.arg ?harg (r3)) rfl rfl rfl rfl rfl, ?_⟩); case harg => (repeat' (first | exact trivial | (exact congrArg (Value.int .u8) hk) | exact sm | apply And.intro))) | (refine And.intro (fun hq => ?_) (fun hq => ?_) <;> first | exact cl1 | exact cl3 | skip)
  | refine ob2 ?_ | refine ob4 ?_ | refine fun hq => ?_ | fail) <;> conv => whnf)
  refine ⟨[], ?_⟩
  conv => whnf
  refine ⟨Nat, fun j => j ≤ n.kids.length, fun j => n.kids.length - j, fun j => [(52, exI .i64 j)], fun j => wrH 16 901 3 (nodB n n.rows.length (j + 1)) 0, ⟨0, by omega, ?_⟩, ?_⟩
  ·skip
   refine ⟨[], ?_⟩
   conv => whnf
   refine ⟨rfl, ?_, ?_⟩ <;> (repeat' (first | exact sm | apply And.intro))
  intro j hj
  conv => whnf
  have hm2 := nodB_len n hw n.rows.length (j + 1) (by omega) (by omega)
  rcases Nat.lt_or_ge j n.kids.length with hjl | hjg
  ·obtain ⟨w1, w2, w3, w4, w5, w6⟩ := hw.kid j hjl
   have e1 : (((n.kids.getD j default).live.toNat : Nat) : Int) = (n.kids.getD j default).live := by omega
   have e2 : (((n.kids.getD j default).size.toNat : Nat) : Int) = (n.kids.getD j default).size := by omega
   have hb1 : ∀ x, (Pl.be3 x).length = 3 := fun x => rfl
   have hkid := nodB_kid n n.rows.length j hjl
   generalize nodB n n.rows.length (j + 1) = m at hm2 hkid ⊢
   have k1 := wdig 16 901 3 (by decide) m (n.kids.getD j default).sum 0 w1 (by omega)
   have k2 := wcount 16 901 4 (by decide) (m ++ (n.kids.getD j default).sum) (n.kids.getD j default).live.toNat 0 (by omega) (by simp only [List.length_append]; omega)
   have k3 := wcount 16 901 5 (by decide) (m ++ (n.kids.getD j default).sum ++ Pl.be3 (n.kids.getD j default).live.toNat) (n.kids.getD j default).size.toNat 0 (by omega) (by simp only [List.length_append, hb1]; omega)
   have k4 := wrow 16 901 6 (by decide) (m ++ (n.kids.getD j default).sum ++ Pl.be3 (n.kids.getD j default).live.toNat ++ Pl.be3 (n.kids.getD j default).size.toNat) (n.kids.getD j default).lo 0 w4.1 w4.2 (by simp only [List.length_append, hb1]; omega)
   have k5 := wrow 16 901 7 (by decide) (m ++ (n.kids.getD j default).sum ++ Pl.be3 (n.kids.getD j default).live.toNat ++ Pl.be3 (n.kids.getD j default).size.toNat ++ Pl.rowB (n.kids.getD j default).lo) (n.kids.getD j default).hi 0 w5.1 w5.2 (by simp only [List.length_append, hb1, rowB_leng]; omega)
   have k6 := wrow 16 901 8 (by decide) (m ++ (n.kids.getD j default).sum ++ Pl.be3 (n.kids.getD j default).live.toNat ++ Pl.be3 (n.kids.getD j default).size.toNat ++ Pl.rowB (n.kids.getD j default).lo ++ Pl.rowB (n.kids.getD j default).hi) (n.kids.getD j default).key 0 w6.1 w6.2 (by simp only [List.length_append, hb1, rowB_leng]; omega)
   rw [e1] at k2
   rw [e2] at k3
   rw [hkid] at k6
   conv => whnf
   repeat' ((first
   | refine ob ?_
   | refine ⟨_, _, _, .gen [16,901] _ _ _ rfl (k1) rfl rfl rfl rfl rfl, ?_⟩
   | refine ⟨_, _, _, .gen [16,901] _ _ _ rfl (k2) rfl rfl rfl rfl rfl, ?_⟩
   | refine ⟨_, _, _, .gen [16,901] _ _ _ rfl (k3) rfl rfl rfl rfl rfl, ?_⟩
   | refine ⟨_, _, _, .gen [16,901] _ _ _ rfl (k4) rfl rfl rfl rfl rfl, ?_⟩
   | refine ⟨_, _, _, .gen [16,901] _ _ _ rfl (k5) rfl rfl rfl rfl rfl, ?_⟩
   | refine ⟨_, _, _, .gen [16,901] _ _ _ rfl (k6) rfl rfl rfl rfl rfl, ?_⟩
   | ((refine ⟨_, _, _, .gen [16,901] _ _ _ rfl (.arg ?harg (k1)) rfl rfl rfl rfl rfl, ?_⟩); case harg => (repeat' (first | exact sm | apply And.intro)))
   | ((refine ⟨_, _, _, .gen [16,901] _ _ _ rfl (.arg ?harg (k2)) rfl rfl rfl rfl rfl, ?_⟩); case harg => (repeat' (first | exact sm | apply And.intro)))
   | ((refine ⟨_, _, _, .gen [16,901] _ _ _ rfl (.arg ?harg (k3)) rfl rfl rfl rfl rfl, ?_⟩); case harg => (repeat' (first | exact sm | apply And.intro)))
   | ((refine ⟨_, _, _, .gen [16,901] _ _ _ rfl (.arg ?harg (k4)) rfl rfl rfl rfl rfl, ?_⟩); case harg => (repeat' (first | exact sm | apply And.intro)))
   | ((refine ⟨_, _, _, .gen [16,901] _ _ _ rfl (.arg ?harg (k5)) rfl rfl rfl rfl rfl, ?_⟩); case harg => (repeat' (first | exact sm | apply And.intro)))
   | ((refine ⟨_, _, _, .gen [16,901] _ _ _ rfl (.arg ?harg (k6)) rfl rfl rfl rfl rfl, ?_⟩); case harg => (repeat' (first | exact sm | apply And.intro))) | (refine And.intro (fun hq => ?_) (fun hq => ?_) <;> first | exact cl1 | exact cl3 | skip)
   | refine ob2 ?_ | refine ob4 ?_ | refine fun hq => ?_ | fail) <;> conv => whnf)
   refine ⟨j + 1, by omega, by dsimp only; omega, ?_⟩
   refine ⟨[.regen 901 3], ?_⟩
   conv => whnf
   refine ⟨rfl, ?_, ?_⟩ <;> (repeat' (first | exact sm | apply And.intro))
  ·obtain rfl : j = n.kids.length := by omega
   rw [nodB_end] at hm2 ⊢
   have h0 : 0 < (Pl.nodeB n).length := by simp [Pl.nodeB]
   have k7 := wbytes 16 901 3 (by decide) (Pl.nodeB n) h0 (by omega)
   have k8 := werr 16 901 3 (by decide) (Pl.nodeB n) 0
   conv => whnf
   repeat' ((first
   | refine ob ?_
   | refine ⟨_, _, _, .gen [16,901] _ _ _ rfl (k7) rfl rfl rfl rfl rfl, ?_⟩
   | refine ⟨_, _, _, .gen [16,901] _ _ _ rfl (k8) rfl rfl rfl rfl rfl, ?_⟩
   | ((refine ⟨_, _, _, .gen [16,901] _ _ _ rfl (.arg ?harg (k7)) rfl rfl rfl rfl rfl, ?_⟩); case harg => (repeat' (first | exact sm | apply And.intro)))
   | ((refine ⟨_, _, _, .gen [16,901] _ _ _ rfl (.arg ?harg (k8)) rfl rfl rfl rfl rfl, ?_⟩); case harg => (repeat' (first | exact sm | apply And.intro))) | (refine And.intro (fun hq => ?_) (fun hq => ?_) <;> first | exact cl1 | exact cl3 | skip)
   | refine ob2 ?_ | refine ob4 ?_ | refine fun hq => ?_ | fail) <;> conv => whnf)
   all_goals (repeat' (first | exact sm | apply And.intro))
theorem nsayO_ok (n : NodeD) (d : Int) (h : Pl.NodeOk n) (hr : Pl.nodeR n d = true) : ACall Tryz.prog 58 [nodeO 903 n, exI .i64 d] (kidsO 903 n.kids) (if (Pl.sayN n).size ≤ 1048576 then .tup [agD (kidL (Pl.sayN n)), exI .i64 0] else .tup [agD (kidL Pl.kidZ), exI .i64 1]) (kidsO 903 n.kids) := by
 obtain ⟨D, rfl, hrt⟩ := Pl.nodeR_rt hr
 have q := nencodeO_ok n D (nodeS_of h) (by rw [nodeR_eq h]; exact hr) (nodeW_of h hrt)
 have q2 := cpsum_d (Pl.nodeB n) (Pl.nodeB_isB hrt h) (by have := Pl.nodeB_len hrt h; omega)
 rw [pgD_eq] at q2
 have hr4 := hrt.rows
 have hk4 := hrt.kids
 have hd := hrt.dd
 obtain ⟨lo, hlo⟩ : ∃ f : Nat → List Int, ∀ k, f k = (Pl.sayR n k).lo := ⟨_, fun _ => rfl⟩
 obtain ⟨hi, hhi⟩ : ∃ f : Nat → List Int, ∀ k, f k = (Pl.sayR n k).hi := ⟨_, fun _ => rfl⟩
 obtain ⟨lv, hlv⟩ : ∃ f : Nat → Int, ∀ k, f k = (Pl.sayR n k).live := ⟨_, fun _ => rfl⟩
 have z1 : lo 0 = [] := hlo 0
 have z2 : hi 0 = [] := hhi 0
 have z3 : lv 0 = 0 := hlv 0
 obtain ⟨Lo, hLo⟩ : ∃ f : Nat → List Int, ∀ k, f k = (Pl.sayA n k).lo := ⟨_, fun _ => rfl⟩
 obtain ⟨Hi, hHi⟩ : ∃ f : Nat → List Int, ∀ k, f k = (Pl.sayA n k).hi := ⟨_, fun _ => rfl⟩
 obtain ⟨Lv, hLv⟩ : ∃ f : Nat → Int, ∀ k, f k = (Pl.sayA n k).live := ⟨_, fun _ => rfl⟩
 obtain ⟨Sz, hSz⟩ : ∃ f : Nat → Int, ∀ k, f k = (Pl.sayA n k).size := ⟨_, fun _ => rfl⟩
 have y1 : Lo 0 = lo n.rows.length := by rw [hLo, hlo]; rfl
 have y2 : Hi 0 = hi n.rows.length := by rw [hHi, hhi]; rfl
 have y3 : Lv 0 = lv n.rows.length := by rw [hLv, hlv]; rfl
 have y4 : Sz 0 = n.rows.length := by rw [hSz]; exact (Kd.sayR_le n n.rows.length (Nat.le_refl _)).2.2
 refine acall_on (mu := [2]) [] [] mixed Tryz.func58 rfl rfl rfl ?_
 conv => whnf
 repeat' ((first
 | refine ob ?_
 | refine ⟨_, _, _, .gen [903] _ _ _ rfl (q) rfl rfl rfl rfl rfl, ?_⟩
 | refine ⟨_, _, _, .gen [] _ _ _ rfl (q2) rfl rfl rfl rfl rfl, ?_⟩
 | ((refine ⟨_, _, _, .gen [903] _ _ _ rfl (.arg ?harg (q)) rfl rfl rfl rfl rfl, ?_⟩); case harg => (repeat' (first | exact sm | apply And.intro)))
 | ((refine ⟨_, _, _, .gen [] _ _ _ rfl (.arg ?harg (q2)) rfl rfl rfl rfl rfl, ?_⟩); case harg => (repeat' (first | exact sm | apply And.intro))) | (refine And.intro (fun hq => ?_) (fun hq => ?_) <;> first | exact cl1 | ((try simp only [bl] at hq); (try dsimp only at hq); first | exact cl2 | skip))
 | refine fun hq => ?_ | refine ob2 ?_ | fail) <;> conv => whnf)
 refine ⟨[], ?_⟩
 conv => whnf
 refine ⟨Nat, fun i => i ≤ n.rows.length, fun i => n.rows.length - i, fun i => [(32, exI .i64 i)], fun i => [(8, .box 36 ((kidL ⟨Pl.sum9 (Pl.nodeB n), lo i, hi i, lv i, n.rows.length, []⟩).map .d))], ⟨0, by omega, ?_⟩, ?_⟩
 ·skip
  refine ⟨[], ?_⟩
  conv => whnf
  refine ⟨rfl, ?_, ?_⟩ <;> (repeat' (first | exact trivial | ((try intro k_ hk_); rw [z1]; first | done | rfl) | ((try intro k_ hk_); rw [z2]; first | done | rfl) | ((try intro k_ hk_); rw [z3]; first | done | rfl) | exact sm | apply And.intro))
 intro i hi0
 conv => whnf
 rcases Nat.lt_or_ge i n.rows.length with hlt | hge
 ·have hs := Pl.sayR_one n i hlt
  have hI := Pl.sayR_i hrt h i hi0
  have hle := Kd.sayR_le n i hi0
  have hrow := hrt.row i hlt
  have hrI := (h.row i hlt).1
  have c1 := of_ok (n.rows.getD i default).row (by omega) (by omega)
  have c2 := hull_ok ⟨lo i, hi i⟩ ⟨(n.rows.getD i default).row, (n.rows.getD i default).row⟩ D (by rw [hlo, hhi]; exact hI.b) (.inl (Pl.row_right hd.1 hd.2 hrow))
  rw [← hlv] at hle
  have m1 : lo (i + 1) = (if (n.rows.getD i default).live = true then (hullD ⟨lo i, hi i⟩ ⟨(n.rows.getD i default).row, (n.rows.getD i default).row⟩).lo else lo i) := by
   rw [hlo, hs, hlo, hhi]; unfold Pl.sayE; split <;> rfl
  have m2 : hi (i + 1) = (if (n.rows.getD i default).live = true then (hullD ⟨lo i, hi i⟩ ⟨(n.rows.getD i default).row, (n.rows.getD i default).row⟩).hi else hi i) := by
   rw [hhi, hs, hlo, hhi]; unfold Pl.sayE; split <;> rfl
  have m3 : lv (i + 1) = (if (n.rows.getD i default).live = true then lv i + 1 else lv i) := by
   rw [hlv, hs, hlv]; unfold Pl.sayE; split <;> rfl
  clear hs hI
  conv => whnf
  repeat' ((first
  | refine ob ?_
  | refine ⟨_, _, _, .gen [] _ _ _ rfl (c1) rfl rfl rfl rfl rfl, ?_⟩
  | refine ⟨_, _, _, .gen [] _ _ _ rfl (c2) rfl rfl rfl rfl rfl, ?_⟩
  | ((refine ⟨_, _, _, .gen [] _ _ _ rfl (.arg ?harg (c1)) rfl rfl rfl rfl rfl, ?_⟩); case harg => (repeat' (first | exact sm | apply And.intro)))
  | ((refine ⟨_, _, _, .gen [] _ _ _ rfl (.arg ?harg (c2)) rfl rfl rfl rfl rfl, ?_⟩); case harg => (repeat' (first | exact sm | apply And.intro))) | (refine And.intro (fun hq => ?_) (fun hq => ?_) <;> first | exact cl1 | ((try simp only [bl] at hq); (try dsimp only at hq); first | exact cl2 | skip))
  | refine fun hq => ?_ | refine ob2 ?_ | fail) <;> conv => whnf)
  ·have hv : (n.rows.getD i default).live = true := hq
   rw [if_pos hv] at m1 m2 m3
   refine ⟨i + 1, by omega, by dsimp only; omega, ?_⟩
   refine ⟨[], ?_⟩
   conv => whnf
   refine ⟨rfl, ?_, ?_⟩ <;> (repeat' (first | exact trivial | ((try intro k_ hk_); rw [m1]; first | done | rfl) | ((try intro k_ hk_); rw [m2]; first | done | rfl) | ((try intro k_ hk_); rw [m3]; first | done | rfl) | exact sm | apply And.intro))
  ·have hv : ¬ (n.rows.getD i default).live = true := by rw [show (n.rows.getD i default).live = false from hq]; decide
   rw [if_neg hv] at m1 m2 m3
   refine ⟨i + 1, by omega, by dsimp only; omega, ?_⟩
   refine ⟨[], ?_⟩
   conv => whnf
   refine ⟨rfl, ?_, ?_⟩ <;> (repeat' (first | exact trivial | ((try intro k_ hk_); rw [m1]; first | done | rfl) | ((try intro k_ hk_); rw [m2]; first | done | rfl) | ((try intro k_ hk_); rw [m3]; first | done | rfl) | exact sm | apply And.intro))
 ·obtain rfl : i = n.rows.length := by omega
  conv => whnf
  repeat' ((first
  | refine ob ?_
  | (refine And.intro (fun hq => ?_) (fun hq => ?_) <;> first | exact cl1 | ((try simp only [bl] at hq); (try dsimp only at hq); first | exact cl2 | skip))
  | refine fun hq => ?_ | refine ob2 ?_ | fail) <;> conv => whnf)
  refine ⟨[], ?_⟩
  conv => whnf
  refine ⟨Nat, fun j => j ≤ n.kids.length, fun j => n.kids.length - j, fun j => [(53, exI .i64 j)], fun j => [(8, .box 36 ((kidL ⟨Pl.sum9 (Pl.nodeB n), Lo j, Hi j, Lv j, Sz j, []⟩).map .d))], ⟨0, by omega, ?_⟩, ?_⟩
  ·skip
   refine ⟨[], ?_⟩
   conv => whnf
   refine ⟨rfl, ?_, ?_⟩ <;> (repeat' (first | exact trivial | ((try intro k_ hk_); rw [y1]; first | done | rfl) | ((try intro k_ hk_); rw [y2]; first | done | rfl) | ((try intro k_ hk_); rw [y3]; first | done | rfl) | ((try intro k_ hk_); rw [y4]; first | done | rfl) | exact sm | apply And.intro))
  intro j hj
  conv => whnf
  rcases Nat.lt_or_ge j n.kids.length with hjt | hjg
  ·have hs := Pl.sayA_one n j hjt
   have hI := Pl.sayA_i hrt h j hj
   have hkr := hrt.kid j hjt
   have hkb := Pl.kidR_box hkr
   have c2 := hull_ok ⟨Lo j, Hi j⟩ (n.kids.getD j default).bx D (by rw [hLo, hHi]; exact hI.b) hkb.1
   have hl := hI.l
   have hz := hI.z
   rw [← hLv] at hl
   rw [← hSz] at hz
   have hk1 : 0 ≤ (n.kids.getD ((j : Int)).toNat default).live ∧ (n.kids.getD ((j : Int)).toNat default).live ≤ 1048576 := hkb.2.2.1
   have hk2 : 0 ≤ (n.kids.getD ((j : Int)).toNat default).size ∧ (n.kids.getD ((j : Int)).toNat default).size ≤ 1048576 := hkb.2.2.2
   have m1 : Lo (j + 1) = (hullD ⟨Lo j, Hi j⟩ (n.kids.getD j default).bx).lo := by rw [hLo, hs, hLo, hHi]; rfl
   have m2 : Hi (j + 1) = (hullD ⟨Lo j, Hi j⟩ (n.kids.getD j default).bx).hi := by rw [hHi, hs, hLo, hHi]; rfl
   have m3 : Lv (j + 1) = Lv j + (n.kids.getD j default).live := by rw [hLv, hs, hLv]; rfl
   have m4 : Sz (j + 1) = Sz j + (n.kids.getD j default).size := by rw [hSz, hs, hSz]; rfl
   clear hs hI hkb hkr
   conv => whnf
   repeat' ((first
   | refine ob ?_
   | refine ⟨_, _, _, .gen [] _ _ _ rfl (c2) rfl rfl rfl rfl rfl, ?_⟩
   | ((refine ⟨_, _, _, .gen [] _ _ _ rfl (.arg ?harg (c2)) rfl rfl rfl rfl rfl, ?_⟩); case harg => (repeat' (first | exact sm | apply And.intro))) | (refine And.intro (fun hq => ?_) (fun hq => ?_) <;> first | exact cl1 | ((try simp only [bl] at hq); (try dsimp only at hq); first | exact cl2 | skip))
   | refine fun hq => ?_ | refine ob2 ?_ | fail) <;> conv => whnf)
   refine ⟨j + 1, by omega, by dsimp only; omega, ?_⟩
   refine ⟨[], ?_⟩
   conv => whnf
   refine ⟨rfl, ?_, ?_⟩ <;> (repeat' (first | exact trivial | ((try intro k_ hk_); rw [m1]; first | done | rfl) | ((try intro k_ hk_); rw [m2]; first | done | rfl) | ((try intro k_ hk_); rw [m3]; first | done | rfl) | ((try intro k_ hk_); rw [m4]; first | done | rfl) | exact sm | apply And.intro))
  ·obtain rfl : j = n.kids.length := by omega
   have hI := Pl.sayA_i hrt h n.kids.length (Nat.le_refl _)
   have e : Pl.sayN n = ⟨Pl.sum9 (Pl.nodeB n), Lo n.kids.length, Hi n.kids.length, Lv n.kids.length, Sz n.kids.length, Pl.keyN n⟩ := by rw [hLo, hHi, hLv, hSz]; rfl
   rw [e]
   dsimp only
   have kinds := hrt.kind
   have leaf := hrt.leaf
   have inner := hrt.inner
   by_cases hc : Sz n.kids.length ≤ 1048576
   ·rw [if_pos hc]
    have ck := iclone_ok (n.rows.getD 0 default).row.length (i64F (n.rows.getD 0 default).row) (by
     rcases Nat.eq_zero_or_pos n.rows.length with q | q
     ·rw [List.eq_nil_of_length_eq_zero q]; decide
     ·have := hrt.row 0 q; omega)
    have ck2 := iclone_ok (n.kids.getD 0 default).key.length (i64F (n.kids.getD 0 default).key) (by
     rcases Nat.eq_zero_or_pos n.kids.length with q | q
     ·rw [List.eq_nil_of_length_eq_zero q]; decide
     ·have := hrt.key 0 q; omega)
    unfold Pl.keyN
    rcases kinds with hk | hk | hk
    ·rw [if_neg (by omega), if_neg (by omega)]
     conv => whnf
     repeat' ((first
     | refine ob ?_
     | (refine And.intro (fun hq => ?_) (fun hq => ?_) <;> first | exact cl1 | ((try simp only [bl] at hq); (try dsimp only at hq); first | exact cl2 | skip))
     | refine fun hq => ?_ | refine ob2 ?_ | fail) <;> conv => whnf)
     all_goals (repeat' (first | exact sm | apply And.intro))
    ·rw [if_pos hk]
     have h0 := leaf hk
     conv => whnf
     repeat' ((first
     | refine ob ?_
     | refine ⟨_, _, _, .gen [] _ _ _ rfl (ck) rfl rfl rfl rfl rfl, ?_⟩
     | ((refine ⟨_, _, _, .gen [] _ _ _ rfl (.arg ?harg (ck)) rfl rfl rfl rfl rfl, ?_⟩); case harg => (repeat' (first | exact sm | apply And.intro))) | (refine And.intro (fun hq => ?_) (fun hq => ?_) <;> first | exact cl1 | ((try simp only [bl] at hq); (try dsimp only at hq); first | exact cl2 | skip))
     | refine fun hq => ?_ | refine ob2 ?_ | fail) <;> conv => whnf)
     all_goals (repeat' (first | exact sm | apply And.intro))
    ·rw [if_neg (by omega), if_pos hk]
     have h0 := inner hk
     conv => whnf
     repeat' ((first
     | refine ob ?_
     | refine ⟨_, _, _, .gen [] _ _ _ rfl (ck2) rfl rfl rfl rfl rfl, ?_⟩
     | ((refine ⟨_, _, _, .gen [] _ _ _ rfl (.arg ?harg (ck2)) rfl rfl rfl rfl rfl, ?_⟩); case harg => (repeat' (first | exact sm | apply And.intro))) | (refine And.intro (fun hq => ?_) (fun hq => ?_) <;> first | exact cl1 | ((try simp only [bl] at hq); (try dsimp only at hq); first | exact cl2 | skip))
     | refine fun hq => ?_ | refine ob2 ?_ | fail) <;> conv => whnf)
     all_goals (repeat' (first | exact sm | apply And.intro))
   ·rw [if_neg hc]
    conv => whnf
    repeat' ((first
    | refine ob ?_
    | (refine And.intro (fun hq => ?_) (fun hq => ?_) <;> first | exact cl1 | ((try simp only [bl] at hq); (try dsimp only at hq); first | exact cl2 | skip))
    | refine fun hq => ?_ | refine ob2 ?_ | fail) <;> conv => whnf)
    all_goals (repeat' (first | exact sm | apply And.intro))
end Go.Proofs.YtedokpgkjcnoiaaGreat
