/- node.kid, node.Decode, in the new way. -/
import Derived.Test.YtedokpgkjcnoiaaGreatV25
set_option linter.unusedVariables false
set_option linter.unusedSimpArgs false
namespace Go.Proofs.YtedokpgkjcnoiaaGreat
open Go.RowKit
set_option maxRecDepth 100000
set_option maxHeartbeats 1000000
theorem nkid9 (d : Int) (l : List Nat) (e : Int) (hB : Pl.IsB l) : ACall Tryz.prog 74 [.ptr 900 0 0 0, exI .i64 d] (rdH 900 l e) (agD (kidL (Pl.rKid d l e).1)) (rdH 900 (Pl.rKid d l e).2.1 (Pl.rKid d l e).2.2) := by
 have q1 := rdig 900 l e
 have b1 : Pl.IsB (Pl.rTake 32 l e).2.1 := (Pl.take_suf 32 l e).isB hB
 unfold Pl.rKid
 simp only []
 generalize Pl.rDig l e = s at q1 ⊢
 generalize (Pl.rTake 32 l e).2 = s1 at q1 b1 ⊢
 obtain ⟨l1, e1⟩ := s1
 simp only [] at q1 b1 ⊢
 have q2 := rcount 900 1048576 l1 e1 b1
 have b2 : Pl.IsB (Pl.rCount 1048576 l1 e1).2.1 := (Pl.count_suf 1048576 l1 e1).isB b1
 generalize Pl.rCount 1048576 l1 e1 = c1 at q2 b2 ⊢
 obtain ⟨n1, l2, e2⟩ := c1
 simp only [] at q2 b2 ⊢
 have q3 := rcount 900 1048576 l2 e2 b2
 have b3 : Pl.IsB (Pl.rCount 1048576 l2 e2).2.1 := (Pl.count_suf 1048576 l2 e2).isB b2
 generalize Pl.rCount 1048576 l2 e2 = c2 at q3 b3 ⊢
 obtain ⟨n2, l3, e3⟩ := c2
 simp only [] at q3 b3 ⊢
 have q4 := rrow 900 d l3 e3 b3
 have b4 : Pl.IsB (Pl.rRowI d l3 e3).2.1 := (Pl.rowI_suf d l3 e3).isB b3
 generalize Pl.rRowI d l3 e3 = c3 at q4 b4 ⊢
 obtain ⟨r1, l4, e4⟩ := c3
 simp only [] at q4 b4 ⊢
 have q5 := rrow 900 d l4 e4 b4
 have b5 : Pl.IsB (Pl.rRowI d l4 e4).2.1 := (Pl.rowI_suf d l4 e4).isB b4
 generalize Pl.rRowI d l4 e4 = c4 at q5 b5 ⊢
 obtain ⟨r2, l5, e5⟩ := c4
 simp only [] at q5 b5 ⊢
 have q6 := rrow 900 d l5 e5 b5
 generalize Pl.rRowI d l5 e5 = c5 at q6 ⊢
 obtain ⟨r3, l6, e6⟩ := c5
 simp only [] at q6 ⊢
 refine acall_on (mu := []) [] [] mixed Tryz.func74 rfl rfl rfl ?_
 conv => whnf
 repeat' ((first
 | refine ob ?_
 | refine ⟨_, _, _, .gen [900] _ _ _ rfl (q1) rfl rfl rfl rfl rfl, ?_⟩
 | refine ⟨_, _, _, .gen [900] _ _ _ rfl (q2) rfl rfl rfl rfl rfl, ?_⟩
 | refine ⟨_, _, _, .gen [900] _ _ _ rfl (q3) rfl rfl rfl rfl rfl, ?_⟩
 | refine ⟨_, _, _, .gen [900] _ _ _ rfl (q4) rfl rfl rfl rfl rfl, ?_⟩
 | refine ⟨_, _, _, .gen [900] _ _ _ rfl (q5) rfl rfl rfl rfl rfl, ?_⟩
 | refine ⟨_, _, _, .gen [900] _ _ _ rfl (q6) rfl rfl rfl rfl rfl, ?_⟩
 | ((refine ⟨_, _, _, .gen [900] _ _ _ rfl (.arg ?harg (q1)) rfl rfl rfl rfl rfl, ?_⟩); case harg => (repeat' (first | exact sm | apply And.intro)))
 | ((refine ⟨_, _, _, .gen [900] _ _ _ rfl (.arg ?harg (q2)) rfl rfl rfl rfl rfl, ?_⟩); case harg => (repeat' (first | exact sm | apply And.intro)))
 | ((refine ⟨_, _, _, .gen [900] _ _ _ rfl (.arg ?harg (q3)) rfl rfl rfl rfl rfl, ?_⟩); case harg => (repeat' (first | exact sm | apply And.intro)))
 | ((refine ⟨_, _, _, .gen [900] _ _ _ rfl (.arg ?harg (q4)) rfl rfl rfl rfl rfl, ?_⟩); case harg => (repeat' (first | exact sm | apply And.intro)))
 | ((refine ⟨_, _, _, .gen [900] _ _ _ rfl (.arg ?harg (q5)) rfl rfl rfl rfl rfl, ?_⟩); case harg => (repeat' (first | exact sm | apply And.intro)))
 | ((refine ⟨_, _, _, .gen [900] _ _ _ rfl (.arg ?harg (q6)) rfl rfl rfl rfl rfl, ?_⟩); case harg => (repeat' (first | exact sm | apply And.intro))) | (refine And.intro (fun hq => ?_) (fun hq => ?_) <;> first | exact cl1 | exact cl3 | skip)
 | refine ob2 ?_ | refine ob4 ?_ | refine fun hq => ?_ | fail) <;> conv => whnf)
 all_goals (repeat' (first | exact sm | apply And.intro))
theorem nkid (d : Int) (o : Nat) (l : List Nat) (e : Int) (hB : Pl.IsB l) : ACall Tryz.prog 74 [.ptr o 0 0 0, exI .i64 d] (rdH o l e) (agD (kidL (Pl.rKid d l e).1)) (rdH o (Pl.rKid d l e).2.1 (Pl.rKid d l e).2.2) := by
    obtain ⟨σ, τ, hστ, e1⟩ := names1 900 o
    have q := (nkid9 d l e hB).ren (σ := σ) (τ := τ) (δ := fun _ => 0) hστ (by intros; rfl)
    simp only [mapC, mapA_agD] at q
    simpa [mapC, mapA, mapA1, rnA, rnH, rnO, rdH, e1] using q
def entF (l : List EntD) (i : Nat) : List DV := entL (l.getD i default)
def kidF (l : List KidD) (i : Nat) : List DV := kidL (l.getD i default)
theorem chop_ent (t : EntD) : chop 2 (entL t) 0 = entL t := by
 have h : (entL t).length = 2 := rfl
 unfold chop
 rw [Nat.zero_mul, List.drop_zero, List.take_of_length_le (Nat.le_of_eq h)]
theorem app_ent (r : List EntD) (t : EntD) : ∀ k, k < r.length + 1 → app r.length (entF r) (chop 2 (entL t)) k = entF (r ++ [t]) k := fun k hk => by
 rcases Nat.lt_or_ge k r.length with h | h
 ·rw [app_lt h]; simp [entF, List.getD_eq_getElem?_getD, List.getElem?_append_left h]
 ·obtain rfl : k = r.length := by omega
  rw [app_ge h, Nat.sub_self, chop_ent]; simp [entF, List.getD_eq_getElem?_getD]
theorem chop_kid (t : KidD) : chop 37 (kidL t) 0 = kidL t := by
 have h : (kidL t).length = 37 := rfl
 unfold chop
 rw [Nat.zero_mul, List.drop_zero, List.take_of_length_le (Nat.le_of_eq h)]
theorem app_kid (r : List KidD) (t : KidD) : ∀ k, k < r.length + 1 → app r.length (kidF r) (chop 37 (kidL t)) k = kidF (r ++ [t]) k := fun k hk => by
 rcases Nat.lt_or_ge k r.length with h | h
 ·rw [app_lt h]; simp [kidF, List.getD_eq_getElem?_getD, List.getElem?_append_left h]
 ·obtain rfl : k = r.length := by omega
  rw [app_ge h, Nat.sub_self, chop_kid]; simp [kidF, List.getD_eq_getElem?_getD]
theorem rEnts_leng (d : Int) (l : List Nat) (e : Int) : ∀ k, (Pl.rEnts d k l e).1.length = k
 | 0 => rfl
 | k + 1 => by simp [Pl.rEnts, rEnts_leng d l e k]
theorem rKids_leng (d : Int) (l : List Nat) (e : Int) : ∀ k, (Pl.rKids d k l e).1.length = k
 | 0 => rfl
 | k + 1 => by simp [Pl.rKids, rKids_leng d l e k]
theorem rKidD_w (d : Int) (l : List Nat) (e : Int) (hB : Pl.IsB l) : Pl.KidW (Pl.rKid d l e).1 255 := by
 have hs := Pl.rDig_len l e
 have b1 := (Pl.take_suf 32 l e).isB hB
 unfold Pl.rKid
 simp only []
 generalize (Pl.rTake 32 l e).2 = s1 at b1 ⊢
 have c1 := (Pl.rCount_le 1048576 s1.1 s1.2).1
 have b2 := (Pl.count_suf 1048576 s1.1 s1.2).isB b1
 generalize Pl.rCount 1048576 s1.1 s1.2 = s2 at b2 c1 ⊢
 have c2 := (Pl.rCount_le 1048576 s2.2.1 s2.2.2).1
 have b3 := (Pl.count_suf 1048576 s2.2.1 s2.2.2).isB b2
 generalize Pl.rCount 1048576 s2.2.1 s2.2.2 = s3 at b3 c2 ⊢
 have r1 := Pl.rowI_isI (m := d) (e := s3.2.2) b3
 have b4 := (Pl.rowI_suf d s3.2.1 s3.2.2).isB b3
 generalize Pl.rRowI d s3.2.1 s3.2.2 = s4 at b4 r1 ⊢
 have r2 := Pl.rowI_isI (m := d) (e := s4.2.2) b4
 have b5 := (Pl.rowI_suf d s4.2.1 s4.2.2).isB b4
 generalize Pl.rRowI d s4.2.1 s4.2.2 = s5 at b5 r2 ⊢
 have r3 := Pl.rowI_isI (m := d) (e := s5.2.2) b5
 generalize Pl.rRowI d s5.2.1 s5.2.2 = s6 at r3 ⊢
 exact ⟨hs, ⟨by dsimp only; omega, by dsimp only; omega⟩, ⟨by dsimp only; omega, by dsimp only; omega⟩, ⟨r1.2, r1.1⟩, ⟨r2.2, r2.1⟩, ⟨r3.2, r3.1⟩⟩
theorem rKids_w (d : Int) (l : List Nat) (e : Int) (hB : Pl.IsB l) : ∀ k, ∀ x ∈ (Pl.rKids d k l e).1, Pl.KidW x 255
 | 0 => by simp [Pl.rKids]
 | k + 1 => by
  rw [Pl.rKids]
  dsimp only
  intro x hx
  rcases List.mem_append.1 hx with hx | hx
  ·exact rKids_w d l e hB k x hx
  ·rw [List.mem_singleton.1 hx]; exact rKidD_w d _ _ ((Pl.kids_suf d l e k).isB hB)
theorem nodeR_few {n : NodeD} {d : Int} (h : nodeR n d = true) : n.rows.length ≤ 4 ∧ n.kids.length ≤ 4 := by
 unfold nodeR nodeK at h
 simp only [Bool.and_eq_true, decide_eq_true_eq] at h
 obtain ⟨_, _, _, _, h⟩ := h
 split at h
 ·simp only [Bool.and_eq_true, decide_eq_true_eq] at h; omega
 ·split at h
  ·simp only [Bool.and_eq_true, decide_eq_true_eq] at h; omega
  ·split at h
   ·simp only [Bool.and_eq_true, decide_eq_true_eq] at h; omega
   ·cases h
/-- a node whose bytes these are -/
def decN (d : Int) (b : List Nat) : Option NodeD := if Pl.rEnd (Pl.rNode d b).2.1 (Pl.rNode d b).2.2 = 0 ∧ nodeR (Pl.rNode d b).1 d = true ∧ Pl.nodeB (Pl.rNode d b).1 = b then some (Pl.rNode d b).1 else none
def resN : Option NodeD → AV
 | some n => .tup [agD (nodeL n), exI .i64 0]
 | none => .tup [agD [.v (.int .u8 0), .v (.slice none 0 0), .v (.slice none 0 0)], exI .i64 21]
theorem ndecode_any (d : Int) (b : List Nat) (hB : Pl.IsB b) (hb : b.length ≤ 1000000) : ACall Tryz.prog 57 [.d (byteL b), exI .i64 d] [] (resN (decN d b)) [] := by
 have q0 := rnew 900 b (by omega)
 have q1 := rbyte 900 b 0
 have b1 := (Pl.take_suf 1 b 0).isB hB
 have hx := Pl.rByte_lt b 0 hB
 unfold decN Pl.rNode
 simp only []
 generalize Pl.rByte b 0 = x at q1 hx ⊢
 generalize (Pl.rTake 1 b 0).2 = s1 at q1 b1 ⊢
 obtain ⟨l1, e1⟩ := s1
 simp only [] at q1 b1 ⊢
 have q2 := rbyte 900 l1 e1
 have b2 := (Pl.take_suf 1 l1 e1).isB b1
 have hy := Pl.rByte_lt l1 e1 b1
 generalize Pl.rByte l1 e1 = y at q2 hy ⊢
 generalize (Pl.rTake 1 l1 e1).2 = s2 at q2 b2 ⊢
 obtain ⟨l2, e2⟩ := s2
 simp only [] at q2 b2 ⊢
 refine acall_on (mu := []) [(12, [.lay 50, .lay 51])] [] mixed Tryz.func57 rfl rfl rfl ?_
 conv => whnf
 repeat' ((first
 | refine ob ?_
 | refine ⟨_, _, _, .gen [] _ _ _ rfl (q0) rfl rfl rfl rfl rfl, ?_⟩
 | refine ⟨_, _, _, .gen [900] _ _ _ rfl (q1) rfl rfl rfl rfl rfl, ?_⟩
 | refine ⟨_, _, _, .gen [900] _ _ _ rfl (q2) rfl rfl rfl rfl rfl, ?_⟩
 | ((refine ⟨_, _, _, .gen [] _ _ _ rfl (.arg ?harg (q0)) rfl rfl rfl rfl rfl, ?_⟩); case harg => (repeat' (first | exact sm | apply And.intro)))
 | ((refine ⟨_, _, _, .gen [900] _ _ _ rfl (.arg ?harg (q1)) rfl rfl rfl rfl rfl, ?_⟩); case harg => (repeat' (first | exact sm | apply And.intro)))
 | ((refine ⟨_, _, _, .gen [900] _ _ _ rfl (.arg ?harg (q2)) rfl rfl rfl rfl rfl, ?_⟩); case harg => (repeat' (first | exact sm | apply And.intro))) | (refine And.intro (fun hq => ?_) (fun hq => ?_) <;> first | exact cl1 | exact cl3 | skip)
 | refine ob2 ?_ | refine ob4 ?_ | refine fun hq => ?_ | fail) <;> conv => whnf)
 refine ⟨[.virtC 7 1 50 77 2, .tell 50 (entF [])], ?_⟩
 conv => whnf
 refine ⟨Nat, fun i => i ≤ y, fun i => y - i, fun i => [(19, exI .i64 i)], fun i => (50, .row 77 2 0 false (Pl.rEnts d i l2 e2).1.length (entF (Pl.rEnts d i l2 e2).1)) :: (7, .box 73 [.d (.v (.int .u8 (x : Nat))), .own 50 0, .d (.v (.slice none 0 0))]) :: rdH 900 (Pl.rEnts d i l2 e2).2.1 (Pl.rEnts d i l2 e2).2.2, ⟨0, by omega, ?_⟩, ?_⟩
 ·skip
  refine ⟨[], ?_⟩
  conv => whnf
  refine ⟨rfl, ?_, ?_⟩ <;> (repeat' (first | exact sm | apply And.intro))
 intro i hi
 conv => whnf
 rcases Nat.lt_or_ge i y with hlt | hge
 ·have b3 := (Pl.ents_suf d l2 e2 i).isB b2
  have q3 := rtruth 900 (Pl.rEnts d i l2 e2).2.1 (Pl.rEnts d i l2 e2).2.2
  have b4 : Pl.IsB (Pl.rTruth (Pl.rEnts d i l2 e2).2.1 (Pl.rEnts d i l2 e2).2.2).2.1 := (Pl.take_suf 1 _ _).isB b3
  have q4 := rrow 900 d (Pl.rTruth (Pl.rEnts d i l2 e2).2.1 (Pl.rEnts d i l2 e2).2.2).2.1 (Pl.rTruth (Pl.rEnts d i l2 e2).2.1 (Pl.rEnts d i l2 e2).2.2).2.2 b4
  have hs : Pl.rEnts d (i + 1) l2 e2 = ((Pl.rEnts d i l2 e2).1 ++ [⟨(Pl.rRowI d (Pl.rTruth (Pl.rEnts d i l2 e2).2.1 (Pl.rEnts d i l2 e2).2.2).2.1 (Pl.rTruth (Pl.rEnts d i l2 e2).2.1 (Pl.rEnts d i l2 e2).2.2).2.2).1, (Pl.rTruth (Pl.rEnts d i l2 e2).2.1 (Pl.rEnts d i l2 e2).2.2).1⟩], (Pl.rRowI d (Pl.rTruth (Pl.rEnts d i l2 e2).2.1 (Pl.rEnts d i l2 e2).2.2).2.1 (Pl.rTruth (Pl.rEnts d i l2 e2).2.1 (Pl.rEnts d i l2 e2).2.2).2.2).2) := rfl
  have hlen := rEnts_leng d l2 e2 i
  generalize Pl.rEnts d i l2 e2 = S at q3 q4 hs hlen ⊢
  obtain ⟨r, m1, y1⟩ := S
  simp only [] at q3 q4 hs hlen ⊢
  generalize Pl.rTruth m1 y1 = U at q3 q4 hs
  obtain ⟨tv, m2, y2⟩ := U
  simp only [] at q3 q4 hs
  generalize Pl.rRowI d m2 y2 = V at q4 hs
  obtain ⟨rw3, m3, y3⟩ := V
  simp only [] at q4 hs
  conv => whnf
  repeat' ((first
  | refine ob ?_
  | refine ⟨_, _, _, .gen [900] _ _ _ rfl (q3) rfl rfl rfl rfl rfl, ?_⟩
  | refine ⟨_, _, _, .gen [900] _ _ _ rfl (q4) rfl rfl rfl rfl rfl, ?_⟩
  | ((refine ⟨_, _, _, .gen [900] _ _ _ rfl (.arg ?harg (q3)) rfl rfl rfl rfl rfl, ?_⟩); case harg => (repeat' (first | exact sm | apply And.intro)))
  | ((refine ⟨_, _, _, .gen [900] _ _ _ rfl (.arg ?harg (q4)) rfl rfl rfl rfl rfl, ?_⟩); case harg => (repeat' (first | exact sm | apply And.intro))) | (refine And.intro (fun hq => ?_) (fun hq => ?_) <;> first | exact cl1 | exact cl3 | skip)
  | refine ob2 ?_ | refine ob4 ?_ | refine fun hq => ?_ | fail) <;> conv => whnf)
  refine ⟨i + 1, by omega, by omega, ?_⟩
  rw [hs]
  refine ⟨[.regen 50 0], ?_⟩
  conv => whnf
  refine ⟨rfl, ?_, ?_⟩ <;> (repeat' (first | exact trivial | (exact app_ent r ⟨rw3, tv⟩) | ((simp; done)) | exact sm | apply And.intro))
 ·obtain rfl : i = y := by omega
  have hE := rEnts_leng d l2 e2 i
  have b3 := (Pl.ents_suf d l2 e2 i).isB b2
  have hEw := (Pl.rEnts_ok d (e := e2) b2 i).2
  generalize Pl.rEnts d i l2 e2 = S at hE hEw b3 ⊢
  obtain ⟨E, l3, e3⟩ := S
  simp only [] at hE hEw b3 ⊢
  have q3 := rbyte 900 l3 e3
  have b4 := (Pl.take_suf 1 l3 e3).isB b3
  have hz := Pl.rByte_lt l3 e3 b3
  generalize Pl.rByte l3 e3 = z at q3 hz ⊢
  generalize (Pl.rTake 1 l3 e3).2 = s4 at q3 b4 ⊢
  obtain ⟨l4, e4⟩ := s4
  simp only [] at q3 b4 ⊢
  conv => whnf
  repeat' ((first
  | refine ob ?_
  | refine ⟨_, _, _, .gen [900] _ _ _ rfl (q3) rfl rfl rfl rfl rfl, ?_⟩
  | ((refine ⟨_, _, _, .gen [900] _ _ _ rfl (.arg ?harg (q3)) rfl rfl rfl rfl rfl, ?_⟩); case harg => (repeat' (first | exact sm | apply And.intro))) | (refine And.intro (fun hq => ?_) (fun hq => ?_) <;> first | exact cl1 | exact cl3 | skip)
  | refine ob2 ?_ | refine ob4 ?_ | refine fun hq => ?_ | fail) <;> conv => whnf)
  refine ⟨[.virtC 7 2 51 36 37, .tell 51 (kidF [])], ?_⟩
  conv => whnf
  refine ⟨Nat, fun j => j ≤ z, fun j => z - j, fun j => [(37, exI .i64 j)], fun j => (51, .row 36 37 0 false (Pl.rKids d j l4 e4).1.length (kidF (Pl.rKids d j l4 e4).1)) :: (7, .box 73 [.d (.v (.int .u8 (x : Nat))), .own 50 0, .own 51 0]) :: rdH 900 (Pl.rKids d j l4 e4).2.1 (Pl.rKids d j l4 e4).2.2, ⟨0, by omega, ?_⟩, ?_⟩
  ·skip
   refine ⟨[], ?_⟩
   conv => whnf
   refine ⟨rfl, ?_, ?_⟩ <;> (repeat' (first | exact sm | apply And.intro))
  intro j hj
  conv => whnf
  rcases Nat.lt_or_ge j z with hlj | hgj
  ·have b5 := (Pl.kids_suf d l4 e4 j).isB b4
   have q4 := nkid d 900 (Pl.rKids d j l4 e4).2.1 (Pl.rKids d j l4 e4).2.2 b5
   have hs : Pl.rKids d (j + 1) l4 e4 = ((Pl.rKids d j l4 e4).1 ++ [(Pl.rKid d (Pl.rKids d j l4 e4).2.1 (Pl.rKids d j l4 e4).2.2).1], (Pl.rKid d (Pl.rKids d j l4 e4).2.1 (Pl.rKids d j l4 e4).2.2).2) := rfl
   have hlen := rKids_leng d l4 e4 j
   generalize Pl.rKids d j l4 e4 = S at q4 hs hlen ⊢
   obtain ⟨r, m1, y1⟩ := S
   simp only [] at q4 hs hlen ⊢
   generalize Pl.rKid d m1 y1 = U at q4 hs
   obtain ⟨tk, m2, y2⟩ := U
   simp only [] at q4 hs
   conv => whnf
   repeat' ((first
   | refine ob ?_
   | refine ⟨_, _, _, .gen [900] _ _ _ rfl (q4) rfl rfl rfl rfl rfl, ?_⟩
   | ((refine ⟨_, _, _, .gen [900] _ _ _ rfl (.arg ?harg (q4)) rfl rfl rfl rfl rfl, ?_⟩); case harg => (repeat' (first | exact sm | apply And.intro))) | (refine And.intro (fun hq => ?_) (fun hq => ?_) <;> first | exact cl1 | exact cl3 | skip)
   | refine ob2 ?_ | refine ob4 ?_ | refine fun hq => ?_ | fail) <;> conv => whnf)
   refine ⟨j + 1, by omega, by omega, ?_⟩
   rw [hs]
   refine ⟨[.regen 51 0], ?_⟩
   conv => whnf
   refine ⟨rfl, ?_, ?_⟩ <;> (repeat' (first | exact trivial | (exact app_kid r tk) | ((simp; done)) | exact sm | apply And.intro))
  ·obtain rfl : j = z := by omega
   have hK := rKids_leng d l4 e4 j
   have hKw := rKids_w d l4 e4 b4 j
   generalize Pl.rKids d j l4 e4 = S at hK hKw ⊢
   obtain ⟨K, l5, e5⟩ := S
   simp only [] at hK hKw ⊢
   have hNS : NodeS ⟨x, E, K⟩ := ⟨by dsimp only; omega, by dsimp only; omega, fun i hi => Nat.le_trans (hEw _ (Pl.getD_mem' hi)).2 (by decide), fun i hi => by
    have q := hKw _ (Pl.getD_mem' hi)
    exact ⟨Nat.le_trans q.lo.1 (by decide), Nat.le_trans q.hi.1 (by decide), Nat.le_trans q.key.1 (by decide)⟩⟩
   have q5 := nright_ok ⟨x, E, K⟩ d hNS
   have q6 := rend 900 l5 e5
   generalize Pl.rEnd l5 e5 = z at q6 ⊢
   by_cases hz0 : z = 0
   ·subst hz0
    cases hr : nodeR ⟨x, E, K⟩ d with
    | true =>
     rw [hr] at q5
     have hf := nodeR_few hr
     have hNW : NodeW ⟨x, E, K⟩ := ⟨by dsimp only; omega, hf.1, hf.2, fun i hi => ⟨(hEw _ (Pl.getD_mem' hi)).2, (hEw _ (Pl.getD_mem' hi)).1⟩, fun i hi => hKw _ (Pl.getD_mem' hi)⟩
     have q7 := nencode_ok ⟨x, E, K⟩ d hNS hr hNW
     have q8 := bequal_any (Pl.nodeB ⟨x, E, K⟩) b (by
      have := nodB_len _ hNW E.length (K.length + 1) (Nat.le_refl _) (Nat.le_refl _)
      have e9 := nodB_end ⟨x, E, K⟩
      dsimp only at e9 hf
      rw [e9] at this
      omega)
     by_cases hc : Pl.nodeB ⟨x, E, K⟩ = b
     ·rw [if_pos ⟨rfl, rfl, hc⟩]
      rw [decide_eq_true hc] at q8
      conv => whnf
      repeat' ((first
      | refine ob ?_
      | refine ⟨_, _, _, .gen [900] _ _ _ rfl (q6) rfl rfl rfl rfl rfl, ?_⟩
      | refine ⟨_, _, _, .gen [] _ _ _ rfl (q5) rfl rfl rfl rfl rfl, ?_⟩
      | refine ⟨_, _, _, .gen [] _ _ _ rfl (q7) rfl rfl rfl rfl rfl, ?_⟩
      | refine ⟨_, _, _, .flat _ _ rfl (q8) rfl, ?_⟩
      | ((refine ⟨_, _, _, .gen [900] _ _ _ rfl (.arg ?harg (q6)) rfl rfl rfl rfl rfl, ?_⟩); case harg => (repeat' (first | exact sm | apply And.intro)))
      | ((refine ⟨_, _, _, .gen [] _ _ _ rfl (.arg ?harg (q5)) rfl rfl rfl rfl rfl, ?_⟩); case harg => (repeat' (first | exact sm | apply And.intro)))
      | ((refine ⟨_, _, _, .gen [] _ _ _ rfl (.arg ?harg (q7)) rfl rfl rfl rfl rfl, ?_⟩); case harg => (repeat' (first | exact sm | apply And.intro)))
      | ((refine ⟨_, _, _, .flat _ _ rfl (.arg ?harg (q8)) rfl, ?_⟩); case harg => (repeat' (first | exact sm | apply And.intro))) | (refine And.intro (fun hq => ?_) (fun hq => ?_) <;> first | exact cl1 | exact cl3 | skip)
      | refine ob2 ?_ | refine ob4 ?_ | refine fun hq => ?_ | fail) <;> conv => whnf)
      all_goals (repeat' (first | exact sm | apply And.intro))
     ·rw [if_neg (fun h => hc h.2.2)]
      rw [decide_eq_false hc] at q8
      conv => whnf
      repeat' ((first
      | refine ob ?_
      | refine ⟨_, _, _, .gen [900] _ _ _ rfl (q6) rfl rfl rfl rfl rfl, ?_⟩
      | refine ⟨_, _, _, .gen [] _ _ _ rfl (q5) rfl rfl rfl rfl rfl, ?_⟩
      | refine ⟨_, _, _, .gen [] _ _ _ rfl (q7) rfl rfl rfl rfl rfl, ?_⟩
      | refine ⟨_, _, _, .flat _ _ rfl (q8) rfl, ?_⟩
      | ((refine ⟨_, _, _, .gen [900] _ _ _ rfl (.arg ?harg (q6)) rfl rfl rfl rfl rfl, ?_⟩); case harg => (repeat' (first | exact sm | apply And.intro)))
      | ((refine ⟨_, _, _, .gen [] _ _ _ rfl (.arg ?harg (q5)) rfl rfl rfl rfl rfl, ?_⟩); case harg => (repeat' (first | exact sm | apply And.intro)))
      | ((refine ⟨_, _, _, .gen [] _ _ _ rfl (.arg ?harg (q7)) rfl rfl rfl rfl rfl, ?_⟩); case harg => (repeat' (first | exact sm | apply And.intro)))
      | ((refine ⟨_, _, _, .flat _ _ rfl (.arg ?harg (q8)) rfl, ?_⟩); case harg => (repeat' (first | exact sm | apply And.intro))) | (refine And.intro (fun hq => ?_) (fun hq => ?_) <;> first | exact cl1 | exact cl3 | skip)
      | refine ob2 ?_ | refine ob4 ?_ | refine fun hq => ?_ | fail) <;> conv => whnf)
      all_goals (repeat' (first | exact sm | apply And.intro))
    | false =>
     rw [hr] at q5
     rw [if_neg (fun h => by cases h.2.1)]
     conv => whnf
     repeat' ((first
     | refine ob ?_
     | refine ⟨_, _, _, .gen [900] _ _ _ rfl (q6) rfl rfl rfl rfl rfl, ?_⟩
     | refine ⟨_, _, _, .gen [] _ _ _ rfl (q5) rfl rfl rfl rfl rfl, ?_⟩
     | ((refine ⟨_, _, _, .gen [900] _ _ _ rfl (.arg ?harg (q6)) rfl rfl rfl rfl rfl, ?_⟩); case harg => (repeat' (first | exact sm | apply And.intro)))
     | ((refine ⟨_, _, _, .gen [] _ _ _ rfl (.arg ?harg (q5)) rfl rfl rfl rfl rfl, ?_⟩); case harg => (repeat' (first | exact sm | apply And.intro))) | (refine And.intro (fun hq => ?_) (fun hq => ?_) <;> first | exact cl1 | exact cl3 | skip)
     | refine ob2 ?_ | refine ob4 ?_ | refine fun hq => ?_ | fail) <;> conv => whnf)
     all_goals (repeat' (first | exact sm | apply And.intro))
   ·rw [if_neg (fun h => hz0 h.1)]
    have hd : decide (z = 0) = false := decide_eq_false hz0
    conv => whnf
    repeat' ((first
    | refine ob ?_
    | refine ⟨_, _, _, .gen [900] _ _ _ rfl (q6) rfl rfl rfl rfl rfl, ?_⟩
    | ((refine ⟨_, _, _, .gen [900] _ _ _ rfl (.arg ?harg (q6)) rfl rfl rfl rfl rfl, ?_⟩); case harg => (repeat' (first | exact sm | apply And.intro))) | (refine And.intro (fun hq => ?_) (fun hq => ?_) <;> first | exact cl1 | exact cl3 | skip)
    | refine ob2 ?_ | refine ob4 ?_ | refine fun hq => ?_ | fail) <;> conv => whnf)
    all_goals (repeat' (first | exact sm | apply And.intro))
end Go.Proofs.YtedokpgkjcnoiaaGreat
