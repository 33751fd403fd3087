/- The digest, told twice: both are one. The page store, told at once: New, Len, Get, Put, Clash. node.Say, node.Put, node.Get, in the new way. -/
import Derived.Test.YtedokpgkjcnoiaaGreatQ19
import Derived.Test.YtedokpgkjcnoiaaGreatQ23
import Derived.Test.YtedokpgkjcnoiaaGreatQ27
import Derived.Test.YtedokpgkjcnoiaaGreatQ37
set_option linter.unusedVariables false
set_option linter.unusedSimpArgs false
namespace Go.Proofs.YtedokpgkjcnoiaaGreat
theorem pe_s0 : s0 = Pl.s0 := rfl
theorem pe_s1 : s1 = Pl.s1 := rfl
theorem pe_wrd (b : List Nat) (i : Nat) : wrd b i = Pl.wrd b i := by
 induction i using Nat.strongRecOn with
 | _ i ih =>
  rw [wrd, Pl.wrd]
  split
  ·rfl
  ·rw [ih _ (by omega), ih _ (by omega), ih _ (by omega), ih _ (by omega), pe_s0, pe_s1]
theorem pe_rnd (v : List UInt32) (k w : UInt32) : rnd v k w = Pl.rnd v k w := rfl
theorem pe_kk : kk = Pl.kk := rfl
theorem pe_rnds (h : List UInt32) (b : List Nat) : ∀ n, rnds h b n = Pl.rnds h b n
 | 0 => rfl
 | n + 1 => by rw [rnds, Pl.rnds, pe_rnds h b n, pe_rnd, pe_kk, pe_wrd]
theorem pe_turn (h : List UInt32) (b : List Nat) : turnS h b = Pl.turnS h b := by unfold turnS Pl.turnS; rw [pe_rnds]
theorem pe_comp (h : List UInt32) (l : List Nat) : ∀ n, compN h l n = Pl.compN h l n
 | 0 => rfl
 | n + 1 => by rw [compN, Pl.compN, pe_comp h l n, pe_turn]; rfl
theorem pe_be8 (n : Nat) : be8 n = Pl.be8 n := rfl
theorem pe_padl (b : List Nat) : padl b = Pl.padl b := rfl
theorem pe_sum (b : List Nat) : sumW b = Pl.sumW b := by unfold sumW Pl.sumW; rw [pe_comp, pe_padl]; rfl
theorem pe_pre (tag : Nat) (ts : List (List Nat)) : ∀ n, prePart tag ts n = Pl.prePart tag ts n
 | 0 => rfl
 | n + 1 => by rw [prePart, Pl.prePart, pe_pre tag ts n, pe_be8]
theorem pgD_eq (t : List Nat) : pgD t = Pl.sum9 t := by
 unfold pgD Pl.sum9 preN Pl.preN
 rw [pe_pre, pe_sum]; rfl
end Go.Proofs.YtedokpgkjcnoiaaGreat
namespace Go.Proofs.YtedokpgkjcnoiaaGreat
open Go.RowKit
set_option maxRecDepth 100000
set_option maxHeartbeats 4000000
def Sto.a (s : Sto) : List Nat := match s.c with | none => [] | some p => p.1
def Sto.b (s : Sto) : List Nat := match s.c with | none => [] | some p => p.2
def stoH (o m : Nat) (s : Sto) : OH := stH o m s.L (byteL s.a) (byteL s.b) s.c.isSome
theorem cppnew : ACall Tryz.prog 11 [] [] (.ptr 900 0 0 0) (stoH 900 901 Sto.new) := by
 obtain ⟨σ, τ, hστ, e1, e2⟩ := names2 (a1 := 3) (a2 := 1) (b1 := 900) (b2 := 901) (by decide) (by decide)
 have q := cpnew_ok.ren (σ := σ) (τ := τ) (δ := fun _ => 0) hστ (by intros; rfl)
 simpa [mapC, mapA, mapA1, rnA, rnH, rnO, stH, stoH, Sto.new, Sto.a, Sto.b, e1, e2, exB] using q
theorem cpplen (s : Sto) : ACall Tryz.prog 14 [.ptr 900 0 0 0] (stoH 900 901 s) (exI .i64 s.L.length) (stoH 900 901 s) := cplen9 s.L s.a s.b s.c.isSome
def getA : Option (List Nat) → AV
 | some t => .tup [.d (byteL t), exI .i64 0]
 | none => .tup [.d nilX, exI .i64 9]
theorem cppget (s : Sto) (hs : StoOk s) (d : List Nat) (hd : d.length = 32) (hB : Pl.IsB d) : ACall Tryz.prog 56 [.ptr 900 0 0 0, agD (digL d)] (stoH 900 901 s) (getA (s.get d)) (stoH 900 901 s) := by
 cases h : s.get d with
 | some t =>
  obtain ⟨h1, rfl⟩ := Sto.get_some h
  rw [← pgD_eq]
  have := (hs.b t h1).2
  exact cpget_in9 s.L s.a s.b s.c.isSome t h1 (by omega)
 | none =>
  have hn := Sto.get_none h
  simp only [← pgD_eq] at hn
  exact cpget_no9 s.L s.a s.b s.c.isSome d hd hB hn
theorem cppput (s : Sto) (hs : StoOk s) (t : List Nat) (hB : Pl.IsB t) (hl : t.length ≤ 1000000) : ACall Tryz.prog 133 [.ptr 900 0 0 0, .d (byteL t)] (stoH 900 901 s) (agD (digL (Pl.sum9 t))) (stoH 900 901 (s.put t)) := by
 unfold Sto.put
 cases h : s.get (Pl.sum9 t) with
 | none =>
  have hn := Sto.get_none h
  simp only [← pgD_eq] at hn
  rw [← pgD_eq]
  exact cpput_new9 s.L s.a s.b s.c.isSome t hB (by omega) hn
 | some u =>
  obtain ⟨h1, h2⟩ := Sto.get_some h
  rw [← pgD_eq, ← pgD_eq] at h2
  rw [← pgD_eq]
  obtain ⟨L, c⟩ := s
  cases c with
  | some p =>
   dsimp only
   rw [if_pos (.inl rfl)]
   exact cpput_same1 L p.1 p.2 t u hB (by omega) h1 h2
  | none =>
   dsimp only
   by_cases e : u = t
   ·subst e
    rw [if_pos (.inr rfl)]
    exact cpput_same0 L [] [] u hB (by omega) h1
   ·rw [if_neg (by rintro (q | q); cases q; exact e q)]
    exact cpput_clash L [] [] t u hB (by omega) (hs.b u h1).1 h1 h2 e
theorem cppclash (s : Sto) (hs : StoOk s) : ACall Tryz.prog 15 [.ptr 900 0 0 0] (stoH 900 901 s) (.tup [.d (byteL s.a), .d (byteL s.b), exB s.c.isSome]) (stoH 900 901 s) := by
 have h1 : s.a.length ≤ 1000000 := by
  unfold Sto.a; split
  ·decide
  ·exact (hs.c _ ‹_›).1
 have h2 : s.b.length ≤ 1000000 := by
  unfold Sto.b; split
  ·decide
  ·exact (hs.c _ ‹_›).2
 refine acall_on (mu := []) [] [] mixed Tryz.func15 rfl rfl rfl ?_
 conv => whnf
 repeat' ((first
 | refine ob ?_
 | refine ⟨_, _, _, .gen [] _ _ _ rfl (bsclone s.a.length (byF s.a) (by omega)) rfl rfl rfl rfl rfl, ?_⟩
 | refine ⟨_, _, _, .gen [] _ _ _ rfl (bsclone s.b.length (byF s.b) (by omega)) rfl rfl rfl rfl rfl, ?_⟩
 | ((refine ⟨_, _, _, .gen [] _ _ _ rfl (.arg ?harg (bsclone s.a.length (byF s.a) (by omega))) rfl rfl rfl rfl rfl, ?_⟩); case harg => (repeat' (first | exact sm | apply And.intro)))
 | ((refine ⟨_, _, _, .gen [] _ _ _ rfl (.arg ?harg (bsclone s.b.length (byF s.b) (by omega))) rfl rfl rfl rfl rfl, ?_⟩); case harg => (repeat' (first | exact sm | apply And.intro))) | (refine And.intro (fun hq => ?_) (fun hq => ?_) <;> first | exact cl1 | ((try simp only [bl] at hq); (try dsimp only at hq); first | exact cl2 | skip))
 | refine fun hq => ?_ | refine ob2 ?_ | fail) <;> conv => whnf)
 all_goals (repeat' (first | exact sm | apply And.intro))
end Go.Proofs.YtedokpgkjcnoiaaGreat
namespace Go.Proofs.YtedokpgkjcnoiaaGreat
open Go.RowKit
set_option maxRecDepth 100000
set_option maxHeartbeats 4000000
theorem dgq_eq {a b : List Nat} (ha : a.length = 32) (hb : b.length = 32) : dgq a b = decide (a = b) := by
 rw [Bool.eq_iff_iff]
 unfold dgq
 simp only [List.all_eq_true, List.mem_range, decide_eq_true_eq]
 constructor
 ·intro h
  apply List.ext_getElem (by omega)
  intro i h1 h2
  have := h i (by omega)
  rw [List.getD_eq_getElem?_getD, List.getD_eq_getElem?_getD, List.getElem?_eq_getElem h1, List.getElem?_eq_getElem h2] at this
  simp only [Option.getD_some] at this
  omega
 ·rintro rfl i _; rfl
theorem kidS_eq {a b : KidD} (ha : a.sum.length = 32) (hb : b.sum.length = 32) : kidS a b = decide (a = b) := by
 rw [Bool.eq_iff_iff]
 unfold kidS
 rw [dgq_eq ha hb]
 simp only [Bool.and_eq_true, decide_eq_true_eq]
 constructor
 ·rintro ⟨h1, h2, h3, h4, h5, h6⟩
  obtain ⟨a1, a2, a3, a4, a5, a6⟩ := a
  obtain ⟨b1, b2, b3, b4, b5, b6⟩ := b
  dsimp only at h1 h2 h3 h4 h5 h6
  subst h1 h2 h3 h4 h5 h6; rfl
 ·rintro rfl; exact ⟨rfl, rfl, rfl, rfl, rfl, rfl⟩
theorem dgq0 (a : List Nat) : dgq a [] = dgq a (List.replicate 32 0) := by
 unfold dgq
 congr 1
 funext i
 congr 1
 have : (List.replicate 32 0).getD i 0 = 0 := by
  rw [List.getD_eq_getElem?_getD, List.getElem?_replicate]; split <;> rfl
 rw [this]; rfl
theorem kidS_zero {a : KidD} (ha : a.sum.length = 32) : kidS a kid0 = decide (a = Pl.kidZ) := by
 rw [← kidS_eq ha (by rfl)]
 unfold kidS
 rw [show kid0.sum = [] from rfl, dgq0]; rfl
theorem kidR_eq {k : KidD} (h : k.sum.length = 32) (d : Int) : kidR k d = Pl.kidR k d := by
 unfold kidR Pl.kidR
 rw [kidS_zero h, show k.bx = ⟨k.lo, k.hi⟩ from rfl, boxR_eq]
theorem all_congr {α : Type} [Inhabited α] {l : List α} {p q : α → Bool} (h : ∀ i, i < l.length → p (l.getD i default) = q (l.getD i default)) : l.all p = l.all q := by
 rw [Bool.eq_iff_iff, List.all_eq_true, List.all_eq_true]
 constructor
 ·intro hp x hx; obtain ⟨i, hi, rfl⟩ := Pl.mem_getDN hx; rw [← h i hi]; exact hp _ hx
 ·intro hp x hx; obtain ⟨i, hi, rfl⟩ := Pl.mem_getDN hx; rw [h i hi]; exact hp _ hx
theorem nodeR_eq {n : NodeD} (h : Pl.NodeOk n) (d : Int) : nodeR n d = Pl.nodeR n d := by
 unfold nodeR Pl.nodeR
 rw [all_congr (l := n.kids) (q := fun k => Pl.kidR k d) (fun i hi => kidR_eq (h.kid i hi).s d)]
 congr 4
 unfold nodeK Pl.kindR
 split
 ·rfl
 ·split
  ·rfl
  ·rw [all_congr (l := n.kids) (p := fun k => decide ((k.key.length : Int) = d) && !kidS k kid0) (q := fun k => decide ((k.key.length : Int) = d) && !decide (k = Pl.kidZ)) (fun i hi => by rw [kidS_zero (h.kid i hi).s])]
   by_cases e : n.kind = 3
   ·rw [if_pos e, decide_eq_true e]; rfl
   ·rw [if_neg e, decide_eq_false e]; rfl
theorem nodeS_of {n : NodeD} (h : Pl.NodeOk n) : NodeS n := ⟨h.rows, h.kids, fun i hi => (h.row i hi).2, fun i hi => ⟨(h.kid i hi).lo, (h.kid i hi).hi, (h.kid i hi).key⟩⟩
theorem nodeW_of {n : NodeD} {d : Nat} (h : Pl.NodeOk n) (r : Pl.NodeRt n d) : NodeW n := by
 refine ⟨by have := h.kind; omega, r.rows, r.kids, fun i hi => ⟨by have := r.row i hi; have := r.dd; omega, (h.row i hi).1⟩, fun i hi => ?_⟩
 have hb := Pl.kidR_box (r.kid i hi)
 have hl := Pl.kid_len8 r i hi
 have hk := r.key i hi
 have ho := h.kid i hi
 exact ⟨ho.s, hb.2.2.1, hb.2.2.2, ⟨by omega, ho.lI⟩, ⟨by omega, ho.hI⟩, ⟨by omega, ho.kI⟩⟩
theorem nsay_no (n : NodeD) (d : Int) (h : Pl.NodeOk n) (hr : Pl.nodeR n d = false) : ACall Tryz.prog 58 [agD (nodeL n), exI .i64 d] [] (.tup [agD (kidL Pl.kidZ), exI .i64 1]) [] := by
 have q := nencode_no n d (nodeS_of h) (by rw [nodeR_eq h]; exact hr)
 refine acall_on (mu := []) [] [] mixed Tryz.func58 rfl rfl rfl ?_
 conv => whnf
 repeat' ((first
 | refine ob ?_
 | refine ⟨_, _, _, .gen [] _ _ _ rfl (q) rfl rfl rfl rfl rfl, ?_⟩
 | ((refine ⟨_, _, _, .gen [] _ _ _ rfl (.arg ?harg (q)) rfl rfl rfl rfl rfl, ?_⟩); case harg => (repeat' (first | exact sm | apply And.intro))) | (refine And.intro (fun hq => ?_) (fun hq => ?_) <;> first | exact cl1 | ((try simp only [bl] at hq); (try dsimp only at hq); first | exact cl2 | skip))
 | refine fun hq => ?_ | refine ob2 ?_ | fail) <;> conv => whnf)
 all_goals (repeat' (first | exact sm | apply And.intro))
theorem nsay_ok (n : NodeD) (d : Int) (h : Pl.NodeOk n) (hr : Pl.nodeR n d = true) : ACall Tryz.prog 58 [agD (nodeL n), exI .i64 d] [] (if (Pl.sayN n).size ≤ 1048576 then .tup [agD (kidL (Pl.sayN n)), exI .i64 0] else .tup [agD (kidL Pl.kidZ), exI .i64 1]) [] := by
 obtain ⟨D, rfl, hrt⟩ := Pl.nodeR_rt hr
 have q := nencode_ok n D (nodeS_of h) (by rw [nodeR_eq h]; exact hr) (nodeW_of h hrt)
 have q2 := cpsum_d (Pl.nodeB n) (Pl.nodeB_isB hrt h) (by have := Pl.nodeB_len hrt h; omega)
 rw [pgD_eq] at q2
 have hr4 := hrt.rows
 have hk4 := hrt.kids
 have hd := hrt.dd
 obtain ⟨lo, hlo⟩ : ∃ f : Nat → List Int, ∀ k, f k = (Pl.sayR n k).lo := ⟨_, fun _ => rfl⟩
 obtain ⟨hi, hhi⟩ : ∃ f : Nat → List Int, ∀ k, f k = (Pl.sayR n k).hi := ⟨_, fun _ => rfl⟩
 obtain ⟨lv, hlv⟩ : ∃ f : Nat → Int, ∀ k, f k = (Pl.sayR n k).live := ⟨_, fun _ => rfl⟩
 have z1 : lo 0 = [] := hlo 0
 have z2 : hi 0 = [] := hhi 0
 have z3 : lv 0 = 0 := hlv 0
 obtain ⟨Lo, hLo⟩ : ∃ f : Nat → List Int, ∀ k, f k = (Pl.sayA n k).lo := ⟨_, fun _ => rfl⟩
 obtain ⟨Hi, hHi⟩ : ∃ f : Nat → List Int, ∀ k, f k = (Pl.sayA n k).hi := ⟨_, fun _ => rfl⟩
 obtain ⟨Lv, hLv⟩ : ∃ f : Nat → Int, ∀ k, f k = (Pl.sayA n k).live := ⟨_, fun _ => rfl⟩
 obtain ⟨Sz, hSz⟩ : ∃ f : Nat → Int, ∀ k, f k = (Pl.sayA n k).size := ⟨_, fun _ => rfl⟩
 have y1 : Lo 0 = lo n.rows.length := by rw [hLo, hlo]; rfl
 have y2 : Hi 0 = hi n.rows.length := by rw [hHi, hhi]; rfl
 have y3 : Lv 0 = lv n.rows.length := by rw [hLv, hlv]; rfl
 have y4 : Sz 0 = n.rows.length := by rw [hSz]; exact (Kd.sayR_le n n.rows.length (Nat.le_refl _)).2.2
 refine acall_on (mu := []) [] [] mixed Tryz.func58 rfl rfl rfl ?_
 conv => whnf
 repeat' ((first
 | refine ob ?_
 | refine ⟨_, _, _, .gen [] _ _ _ rfl (q) rfl rfl rfl rfl rfl, ?_⟩
 | refine ⟨_, _, _, .gen [] _ _ _ rfl (q2) rfl rfl rfl rfl rfl, ?_⟩
 | ((refine ⟨_, _, _, .gen [] _ _ _ rfl (.arg ?harg (q)) rfl rfl rfl rfl rfl, ?_⟩); case harg => (repeat' (first | exact sm | apply And.intro)))
 | ((refine ⟨_, _, _, .gen [] _ _ _ rfl (.arg ?harg (q2)) rfl rfl rfl rfl rfl, ?_⟩); case harg => (repeat' (first | exact sm | apply And.intro))) | (refine And.intro (fun hq => ?_) (fun hq => ?_) <;> first | exact cl1 | ((try simp only [bl] at hq); (try dsimp only at hq); first | exact cl2 | skip))
 | refine fun hq => ?_ | refine ob2 ?_ | fail) <;> conv => whnf)
 refine ⟨[], ?_⟩
 conv => whnf
 refine ⟨Nat, fun i => i ≤ n.rows.length, fun i => n.rows.length - i, fun i => [(32, exI .i64 i)], fun i => [(8, .box 36 ((kidL ⟨Pl.sum9 (Pl.nodeB n), lo i, hi i, lv i, n.rows.length, []⟩).map .d))], ⟨0, by omega, ?_⟩, ?_⟩
 ·skip
  refine ⟨[], ?_⟩
  conv => whnf
  refine ⟨rfl, ?_, ?_⟩ <;> (repeat' (first | exact trivial | ((try intro k_ hk_); rw [z1]; first | done | rfl) | ((try intro k_ hk_); rw [z2]; first | done | rfl) | ((try intro k_ hk_); rw [z3]; first | done | rfl) | exact sm | apply And.intro))
 intro i hi0
 conv => whnf
 rcases Nat.lt_or_ge i n.rows.length with hlt | hge
 ·have hs := Pl.sayR_one n i hlt
  have hI := Pl.sayR_i hrt h i hi0
  have hle := Kd.sayR_le n i hi0
  have hrow := hrt.row i hlt
  have hrI := (h.row i hlt).1
  have c1 := of_ok (n.rows.getD i default).row (by omega) (by omega)
  have c2 := hull_ok ⟨lo i, hi i⟩ ⟨(n.rows.getD i default).row, (n.rows.getD i default).row⟩ D (by rw [hlo, hhi]; exact hI.b) (.inl (Pl.row_right hd.1 hd.2 hrow))
  rw [← hlv] at hle
  have m1 : lo (i + 1) = (if (n.rows.getD i default).live = true then (hullD ⟨lo i, hi i⟩ ⟨(n.rows.getD i default).row, (n.rows.getD i default).row⟩).lo else lo i) := by
   rw [hlo, hs, hlo, hhi]; unfold Pl.sayE; split <;> rfl
  have m2 : hi (i + 1) = (if (n.rows.getD i default).live = true then (hullD ⟨lo i, hi i⟩ ⟨(n.rows.getD i default).row, (n.rows.getD i default).row⟩).hi else hi i) := by
   rw [hhi, hs, hlo, hhi]; unfold Pl.sayE; split <;> rfl
  have m3 : lv (i + 1) = (if (n.rows.getD i default).live = true then lv i + 1 else lv i) := by
   rw [hlv, hs, hlv]; unfold Pl.sayE; split <;> rfl
  clear hs hI
  conv => whnf
  repeat' ((first
  | refine ob ?_
  | refine ⟨_, _, _, .gen [] _ _ _ rfl (c1) rfl rfl rfl rfl rfl, ?_⟩
  | refine ⟨_, _, _, .gen [] _ _ _ rfl (c2) rfl rfl rfl rfl rfl, ?_⟩
  | ((refine ⟨_, _, _, .gen [] _ _ _ rfl (.arg ?harg (c1)) rfl rfl rfl rfl rfl, ?_⟩); case harg => (repeat' (first | exact sm | apply And.intro)))
  | ((refine ⟨_, _, _, .gen [] _ _ _ rfl (.arg ?harg (c2)) rfl rfl rfl rfl rfl, ?_⟩); case harg => (repeat' (first | exact sm | apply And.intro))) | (refine And.intro (fun hq => ?_) (fun hq => ?_) <;> first | exact cl1 | ((try simp only [bl] at hq); (try dsimp only at hq); first | exact cl2 | skip))
  | refine fun hq => ?_ | refine ob2 ?_ | fail) <;> conv => whnf)
  ·have hv : (n.rows.getD i default).live = true := hq
   rw [if_pos hv] at m1 m2 m3
   refine ⟨i + 1, by omega, by dsimp only; omega, ?_⟩
   refine ⟨[], ?_⟩
   conv => whnf
   refine ⟨rfl, ?_, ?_⟩ <;> (repeat' (first | exact trivial | ((try intro k_ hk_); rw [m1]; first | done | rfl) | ((try intro k_ hk_); rw [m2]; first | done | rfl) | ((try intro k_ hk_); rw [m3]; first | done | rfl) | exact sm | apply And.intro))
  ·have hv : ¬ (n.rows.getD i default).live = true := by rw [show (n.rows.getD i default).live = false from hq]; decide
   rw [if_neg hv] at m1 m2 m3
   refine ⟨i + 1, by omega, by dsimp only; omega, ?_⟩
   refine ⟨[], ?_⟩
   conv => whnf
   refine ⟨rfl, ?_, ?_⟩ <;> (repeat' (first | exact trivial | ((try intro k_ hk_); rw [m1]; first | done | rfl) | ((try intro k_ hk_); rw [m2]; first | done | rfl) | ((try intro k_ hk_); rw [m3]; first | done | rfl) | exact sm | apply And.intro))
 ·obtain rfl : i = n.rows.length := by omega
  conv => whnf
  repeat' ((first
  | refine ob ?_
  | (refine And.intro (fun hq => ?_) (fun hq => ?_) <;> first | exact cl1 | ((try simp only [bl] at hq); (try dsimp only at hq); first | exact cl2 | skip))
  | refine fun hq => ?_ | refine ob2 ?_ | fail) <;> conv => whnf)
  refine ⟨[], ?_⟩
  conv => whnf
  refine ⟨Nat, fun j => j ≤ n.kids.length, fun j => n.kids.length - j, fun j => [(53, exI .i64 j)], fun j => [(8, .box 36 ((kidL ⟨Pl.sum9 (Pl.nodeB n), Lo j, Hi j, Lv j, Sz j, []⟩).map .d))], ⟨0, by omega, ?_⟩, ?_⟩
  ·skip
   refine ⟨[], ?_⟩
   conv => whnf
   refine ⟨rfl, ?_, ?_⟩ <;> (repeat' (first | exact trivial | ((try intro k_ hk_); rw [y1]; first | done | rfl) | ((try intro k_ hk_); rw [y2]; first | done | rfl) | ((try intro k_ hk_); rw [y3]; first | done | rfl) | ((try intro k_ hk_); rw [y4]; first | done | rfl) | exact sm | apply And.intro))
  intro j hj
  conv => whnf
  rcases Nat.lt_or_ge j n.kids.length with hjt | hjg
  ·have hs := Pl.sayA_one n j hjt
   have hI := Pl.sayA_i hrt h j hj
   have hkr := hrt.kid j hjt
   have hkb := Pl.kidR_box hkr
   have c2 := hull_ok ⟨Lo j, Hi j⟩ (n.kids.getD j default).bx D (by rw [hLo, hHi]; exact hI.b) hkb.1
   have hl := hI.l
   have hz := hI.z
   rw [← hLv] at hl
   rw [← hSz] at hz
   have hk1 : 0 ≤ (n.kids.getD ((j : Int)).toNat default).live ∧ (n.kids.getD ((j : Int)).toNat default).live ≤ 1048576 := hkb.2.2.1
   have hk2 : 0 ≤ (n.kids.getD ((j : Int)).toNat default).size ∧ (n.kids.getD ((j : Int)).toNat default).size ≤ 1048576 := hkb.2.2.2
   have m1 : Lo (j + 1) = (hullD ⟨Lo j, Hi j⟩ (n.kids.getD j default).bx).lo := by rw [hLo, hs, hLo, hHi]; rfl
   have m2 : Hi (j + 1) = (hullD ⟨Lo j, Hi j⟩ (n.kids.getD j default).bx).hi := by rw [hHi, hs, hLo, hHi]; rfl
   have m3 : Lv (j + 1) = Lv j + (n.kids.getD j default).live := by rw [hLv, hs, hLv]; rfl
   have m4 : Sz (j + 1) = Sz j + (n.kids.getD j default).size := by rw [hSz, hs, hSz]; rfl
   clear hs hI hkb hkr
   conv => whnf
   repeat' ((first
   | refine ob ?_
   | refine ⟨_, _, _, .gen [] _ _ _ rfl (c2) rfl rfl rfl rfl rfl, ?_⟩
   | ((refine ⟨_, _, _, .gen [] _ _ _ rfl (.arg ?harg (c2)) rfl rfl rfl rfl rfl, ?_⟩); case harg => (repeat' (first | exact sm | apply And.intro))) | (refine And.intro (fun hq => ?_) (fun hq => ?_) <;> first | exact cl1 | ((try simp only [bl] at hq); (try dsimp only at hq); first | exact cl2 | skip))
   | refine fun hq => ?_ | refine ob2 ?_ | fail) <;> conv => whnf)
   refine ⟨j + 1, by omega, by dsimp only; omega, ?_⟩
   refine ⟨[], ?_⟩
   conv => whnf
   refine ⟨rfl, ?_, ?_⟩ <;> (repeat' (first | exact trivial | ((try intro k_ hk_); rw [m1]; first | done | rfl) | ((try intro k_ hk_); rw [m2]; first | done | rfl) | ((try intro k_ hk_); rw [m3]; first | done | rfl) | ((try intro k_ hk_); rw [m4]; first | done | rfl) | exact sm | apply And.intro))
  ·obtain rfl : j = n.kids.length := by omega
   have hI := Pl.sayA_i hrt h n.kids.length (Nat.le_refl _)
   have e : Pl.sayN n = ⟨Pl.sum9 (Pl.nodeB n), Lo n.kids.length, Hi n.kids.length, Lv n.kids.length, Sz n.kids.length, Pl.keyN n⟩ := by rw [hLo, hHi, hLv, hSz]; rfl
   rw [e]
   dsimp only
   have kinds := hrt.kind
   have leaf := hrt.leaf
   have inner := hrt.inner
   by_cases hc : Sz n.kids.length ≤ 1048576
   ·rw [if_pos hc]
    have ck := iclone_ok (n.rows.getD 0 default).row.length (i64F (n.rows.getD 0 default).row) (by
     rcases Nat.eq_zero_or_pos n.rows.length with q | q
     ·rw [List.eq_nil_of_length_eq_zero q]; decide
     ·have := hrt.row 0 q; omega)
    have ck2 := iclone_ok (n.kids.getD 0 default).key.length (i64F (n.kids.getD 0 default).key) (by
     rcases Nat.eq_zero_or_pos n.kids.length with q | q
     ·rw [List.eq_nil_of_length_eq_zero q]; decide
     ·have := hrt.key 0 q; omega)
    unfold Pl.keyN
    rcases kinds with hk | hk | hk
    ·rw [if_neg (by omega), if_neg (by omega)]
     conv => whnf
     repeat' ((first
     | refine ob ?_
     | (refine And.intro (fun hq => ?_) (fun hq => ?_) <;> first | exact cl1 | ((try simp only [bl] at hq); (try dsimp only at hq); first | exact cl2 | skip))
     | refine fun hq => ?_ | refine ob2 ?_ | fail) <;> conv => whnf)
     all_goals (repeat' (first | exact sm | apply And.intro))
    ·rw [if_pos hk]
     have h0 := leaf hk
     conv => whnf
     repeat' ((first
     | refine ob ?_
     | refine ⟨_, _, _, .gen [] _ _ _ rfl (ck) rfl rfl rfl rfl rfl, ?_⟩
     | ((refine ⟨_, _, _, .gen [] _ _ _ rfl (.arg ?harg (ck)) rfl rfl rfl rfl rfl, ?_⟩); case harg => (repeat' (first | exact sm | apply And.intro))) | (refine And.intro (fun hq => ?_) (fun hq => ?_) <;> first | exact cl1 | ((try simp only [bl] at hq); (try dsimp only at hq); first | exact cl2 | skip))
     | refine fun hq => ?_ | refine ob2 ?_ | fail) <;> conv => whnf)
     all_goals (repeat' (first | exact sm | apply And.intro))
    ·rw [if_neg (by omega), if_pos hk]
     have h0 := inner hk
     conv => whnf
     repeat' ((first
     | refine ob ?_
     | refine ⟨_, _, _, .gen [] _ _ _ rfl (ck2) rfl rfl rfl rfl rfl, ?_⟩
     | ((refine ⟨_, _, _, .gen [] _ _ _ rfl (.arg ?harg (ck2)) rfl rfl rfl rfl rfl, ?_⟩); case harg => (repeat' (first | exact sm | apply And.intro))) | (refine And.intro (fun hq => ?_) (fun hq => ?_) <;> first | exact cl1 | ((try simp only [bl] at hq); (try dsimp only at hq); first | exact cl2 | skip))
     | refine fun hq => ?_ | refine ob2 ?_ | fail) <;> conv => whnf)
     all_goals (repeat' (first | exact sm | apply And.intro))
   ·rw [if_neg hc]
    conv => whnf
    repeat' ((first
    | refine ob ?_
    | (refine And.intro (fun hq => ?_) (fun hq => ?_) <;> first | exact cl1 | ((try simp only [bl] at hq); (try dsimp only at hq); first | exact cl2 | skip))
    | refine fun hq => ?_ | refine ob2 ?_ | fail) <;> conv => whnf)
    all_goals (repeat' (first | exact sm | apply And.intro))
end Go.Proofs.YtedokpgkjcnoiaaGreat
