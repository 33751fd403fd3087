/- catalog.Decode. -/
import Derived.Test.YtgcbodpjidoanaaGq
set_option linter.unusedVariables false
set_option linter.unusedSimpArgs false
namespace Go.Proofs.Ytgcbodpjidoanaa
open Go.RowKit
set_option maxRecDepth 100000
set_option maxHeartbeats 1000000
theorem bequal_any (l m : List Nat) (h : l.length ≤ 1000000000000) : ACall Try.prog 93 [.d (byteL l), .d (byteL m)] [] (exB (decide (l = m))) [] := by
  refine acall_of (mu := []) mixed Try.func93 rfl rfl rfl ?_
  conv => whnf
  refine ⟨fun a => ?_, fun b => ?_⟩
  · have hne : l ≠ m := fun e => by subst e; simp at a
    rw [decide_eq_false hne]
    conv => whnf
    all_goals first | exact trivial | exact ⟨rfl, by (repeat' (first | exact trivial | exact rfl | exact fun _ _ => rfl | apply And.intro | (intro i hi; rcases i with _ | _ | i <;> first | rfl | (exfalso; omega) | (simp at hi; done) | (simp at hi; omega)) | exact fun _ _ => by simp)), trivial⟩ | exact ⟨by (repeat' (first | exact trivial | exact rfl | exact fun _ _ => rfl | apply And.intro | (intro i hi; rcases i with _ | _ | i <;> first | rfl | (exfalso; omega) | (simp at hi; done) | (simp at hi; omega)) | exact fun _ _ => by simp)), trivial⟩ | exact ⟨by (repeat' (first | exact trivial | exact rfl | exact fun _ _ => rfl | apply And.intro | (intro i hi; rcases i with _ | _ | i <;> first | rfl | (exfalso; omega) | (simp at hi; done) | (simp at hi; omega)) | exact fun _ _ => by simp)), by (repeat' (first | exact trivial | exact rfl | exact fun _ _ => rfl | apply And.intro | (intro i hi; rcases i with _ | _ | i <;> first | rfl | (exfalso; omega) | (simp at hi; done) | (simp at hi; omega)) | exact fun _ _ => by simp))⟩ | exact ⟨rfl, by (repeat' (first | exact trivial | exact rfl | exact fun _ _ => rfl | apply And.intro | (intro i hi; rcases i with _ | _ | i <;> first | rfl | (exfalso; omega) | (simp at hi; done) | (simp at hi; omega)) | exact fun _ _ => by simp)), by (repeat' (first | exact trivial | exact rfl | exact fun _ _ => rfl | apply And.intro | (intro i hi; rcases i with _ | _ | i <;> first | rfl | (exfalso; omega) | (simp at hi; done) | (simp at hi; omega)) | exact fun _ _ => by simp))⟩
  · have hl : l.length = m.length := by simp at b; omega
    conv => whnf
    refine ⟨[], ?_⟩
    conv => whnf
    refine ⟨Nat, fun k => k ≤ l.length ∧ ∀ i, i < k → l.getD i 0 = m.getD i 0, fun k => l.length - k, fun k => [(4, exB false), (13, exI .i64 k)], fun _ => [], ⟨0, ⟨by omega, fun i hi => by omega⟩, ?_⟩, ?_⟩
    · skip
      refine ⟨[], ?_⟩
      conv => whnf
      refine ⟨rfl, ?_, ?_⟩ <;> (repeat' (first | exact trivial | exact rfl | exact fun _ _ => rfl | apply And.intro | (intro i hi; rcases i with _ | _ | i <;> first | rfl | (exfalso; omega) | (simp at hi; done) | (simp at hi; omega)) | exact fun _ _ => by simp))
    intro k ⟨hk, hn⟩
    conv => whnf
    repeat
      first
        | refine And.intro (by omega) ?_
        | refine And.intro rfl ?_
      conv => whnf
    refine ⟨fun hlt => ?_, fun hge => ?_⟩
    · have hlt : k < l.length := by simpa using hlt
      conv => whnf
      repeat
        first
          | refine And.intro (by omega) ?_
          | refine And.intro rfl ?_
        conv => whnf
      refine ⟨fun he => ?_, fun he => ?_⟩
      · have hne : l ≠ m := fun e => by subst e; simp at he
        rw [decide_eq_false hne]
        conv => whnf
        all_goals first | exact trivial | exact ⟨rfl, by (repeat' (first | exact trivial | exact rfl | exact fun _ _ => rfl | apply And.intro | (intro i hi; rcases i with _ | _ | i <;> first | rfl | (exfalso; omega) | (simp at hi; done) | (simp at hi; omega)) | exact fun _ _ => by simp)), trivial⟩ | exact ⟨by (repeat' (first | exact trivial | exact rfl | exact fun _ _ => rfl | apply And.intro | (intro i hi; rcases i with _ | _ | i <;> first | rfl | (exfalso; omega) | (simp at hi; done) | (simp at hi; omega)) | exact fun _ _ => by simp)), trivial⟩ | exact ⟨by (repeat' (first | exact trivial | exact rfl | exact fun _ _ => rfl | apply And.intro | (intro i hi; rcases i with _ | _ | i <;> first | rfl | (exfalso; omega) | (simp at hi; done) | (simp at hi; omega)) | exact fun _ _ => by simp)), by (repeat' (first | exact trivial | exact rfl | exact fun _ _ => rfl | apply And.intro | (intro i hi; rcases i with _ | _ | i <;> first | rfl | (exfalso; omega) | (simp at hi; done) | (simp at hi; omega)) | exact fun _ _ => by simp))⟩ | exact ⟨rfl, by (repeat' (first | exact trivial | exact rfl | exact fun _ _ => rfl | apply And.intro | (intro i hi; rcases i with _ | _ | i <;> first | rfl | (exfalso; omega) | (simp at hi; done) | (simp at hi; omega)) | exact fun _ _ => by simp)), by (repeat' (first | exact trivial | exact rfl | exact fun _ _ => rfl | apply And.intro | (intro i hi; rcases i with _ | _ | i <;> first | rfl | (exfalso; omega) | (simp at hi; done) | (simp at hi; omega)) | exact fun _ _ => by simp))⟩
      · skip
        conv => whnf
        repeat
          first
            | refine And.intro (by omega) ?_
            | refine And.intro rfl ?_
          conv => whnf
        refine ⟨k + 1, ⟨by omega, fun i hi => ?_⟩, by dsimp only; omega, ?_⟩
        · rcases Nat.lt_or_ge i k with q | q
          · exact hn i q
          · obtain rfl : i = k := by omega
            simp at he
            have := Int.ofNat.inj (show ((l.getD i 0 : Nat) : Int) = (m.getD i 0 : Nat) by simpa using he)
            exact this
        · skip
          refine ⟨[], ?_⟩
          conv => whnf
          refine ⟨rfl, ?_, ?_⟩ <;> (repeat' (first | exact trivial | exact rfl | exact fun _ _ => rfl | apply And.intro | (intro i hi; rcases i with _ | _ | i <;> first | rfl | (exfalso; omega) | (simp at hi; done) | (simp at hi; omega)) | exact fun _ _ => by simp))
    · have hge : ¬ k < l.length := by simpa using hge
      rw [decide_eq_true (list_eq hl fun i hi => hn i (by omega))]
      conv => whnf
      all_goals first | exact trivial | exact ⟨rfl, by (repeat' (first | exact trivial | exact rfl | exact fun _ _ => rfl | apply And.intro | (intro i hi; rcases i with _ | _ | i <;> first | rfl | (exfalso; omega) | (simp at hi; done) | (simp at hi; omega)) | exact fun _ _ => by simp)), trivial⟩ | exact ⟨by (repeat' (first | exact trivial | exact rfl | exact fun _ _ => rfl | apply And.intro | (intro i hi; rcases i with _ | _ | i <;> first | rfl | (exfalso; omega) | (simp at hi; done) | (simp at hi; omega)) | exact fun _ _ => by simp)), trivial⟩ | exact ⟨by (repeat' (first | exact trivial | exact rfl | exact fun _ _ => rfl | apply And.intro | (intro i hi; rcases i with _ | _ | i <;> first | rfl | (exfalso; omega) | (simp at hi; done) | (simp at hi; omega)) | exact fun _ _ => by simp)), by (repeat' (first | exact trivial | exact rfl | exact fun _ _ => rfl | apply And.intro | (intro i hi; rcases i with _ | _ | i <;> first | rfl | (exfalso; omega) | (simp at hi; done) | (simp at hi; omega)) | exact fun _ _ => by simp))⟩ | exact ⟨rfl, by (repeat' (first | exact trivial | exact rfl | exact fun _ _ => rfl | apply And.intro | (intro i hi; rcases i with _ | _ | i <;> first | rfl | (exfalso; omega) | (simp at hi; done) | (simp at hi; omega)) | exact fun _ _ => by simp)), by (repeat' (first | exact trivial | exact rfl | exact fun _ _ => rfl | apply And.intro | (intro i hi; rcases i with _ | _ | i <;> first | rfl | (exfalso; omega) | (simp at hi; done) | (simp at hi; omega)) | exact fun _ _ => by simp))⟩
def rTabs : Nat → List Nat → Int → List TableD × List Nat × Int
  | 0, l, e => ([], l, e)
  | k + 1, l, e => ((rTabs k l e).1 ++ [(rTab (rTabs k l e).2.1 (rTabs k l e).2.2).1], (rTab (rTabs k l e).2.1 (rTabs k l e).2.2).2)
theorem tab_suf (l : List Nat) (e : Int) : Pl.Suf (rTab l e).2.1 l := by
  have h1 := text_suf 16 l e
  unfold rTab
  simp only []
  generalize Pl.rText 16 l e = s at h1 ⊢
  have h2 := (Pl.take_suf 1 s.2.1 s.2.2).trans h1
  generalize min (Pl.rByte s.2.1 s.2.2) 8 = n
  generalize (Pl.rTake 1 s.2.1 s.2.2).2 = s1 at h2 ⊢
  have h3 := (cols_suf s1.1 s1.2 n).trans h2
  generalize rCols n s1.1 s1.2 = c at h3 ⊢
  have h4 := (Pl.kid_suf 8 c.2.1 c.2.2).trans h3
  generalize Pl.rKid 8 c.2.1 c.2.2 = a at h4 ⊢
  exact (Pl.kid_suf 8 a.2.1 a.2.2).trans h4
theorem tabs_suf (l : List Nat) (e : Int) : ∀ k, Pl.Suf (rTabs k l e).2.1 l
  | 0 => Pl.Suf.refl l
  | k + 1 => (tab_suf _ _).trans (tabs_suf l e k)
theorem rTabs_len (l : List Nat) (e : Int) : ∀ k, (rTabs k l e).1.length = k
  | 0 => rfl
  | k + 1 => by simp [rTabs, rTabs_len l e k]
def tF (l : List TableD) (i : Nat) : List DV := tableL (l.getD i default)
theorem chop_one (t : TableD) : chop 76 (tableL t) 0 = tableL t := by
  have h : (tableL t).length = 76 := rfl
  unfold chop
  rw [Nat.zero_mul, List.drop_zero, List.take_of_length_le (Nat.le_of_eq h)]
theorem app_tF1 (r : List TableD) (t : TableD) : ∀ k, k < r.length + 1 → app r.length (tF r) (chop 76 (tableL t)) k = tF (r ++ [t]) k := fun k hk => by
  rcases Nat.lt_or_ge k r.length with h | h
  · rw [app_lt h]; simp [tF, List.getD_eq_getElem?_getD, List.getElem?_append_left h]
  · obtain rfl : k = r.length := by omega
    rw [app_ge h, Nat.sub_self, chop_one]; simp [tF, List.getD_eq_getElem?_getD]
/-- the catalog whose bytes these are -/
def decS (b : List Nat) : List TableD × List Nat × Int := rTabs (min (Pl.rByte b 0) 9) (Pl.rTake 1 b 0).2.1 (Pl.rTake 1 b 0).2.2
def decC (b : List Nat) : Option (List TableD) := if Pl.rEnd (decS b).2.1 (decS b).2.2 = 0 ∧ tabsR (decS b).1 = true ∧ catB (decS b).1 = b then some (decS b).1 else none
def resC : Option (List TableD) → AV
  | some l => .tup [.d (tablesL l), exI .i64 0]
  | none => .tup [.d (.v (.slice none 0 0)), exI .i64 21]
theorem rText_len (k : Nat) (l : List Nat) (e : Int) : (Pl.rText k l e).1.length ≤ k := by
  unfold Pl.rText
  have h := (Pl.rCount_le k l e).2
  generalize Pl.rCount k l e = c at h ⊢
  unfold Pl.rTake
  split
  · simp
  · split
    · simp
    · simp; omega
theorem bsL_size (t : List Nat) : (bsL t).size = t.length := by rw [bsL_eq]; simp [ByteArray.size]
theorem rCols_col (l : List Nat) (e : Int) : ∀ k i, ((rCols k l e).1.getD i default).size ≤ 16
  | 0, i => by simp [rCols]; decide
  | k + 1, i => by
    have ih := rCols_col l e k
    rw [rCols]
    simp only []
    rw [List.getD_eq_getElem?_getD]
    rcases Nat.lt_or_ge i (rCols k l e).1.length with h | h
    · rw [List.getElem?_append_left h, ← List.getD_eq_getElem?_getD]; exact ih i
    · rw [List.getElem?_append_right h]
      rcases hz : i - (rCols k l e).1.length with _ | z
      · simp; rw [bsL_size]; exact rText_len 16 _ _
      · simp; decide
theorem rKid_w (l : List Nat) (e : Int) (hB : Pl.IsB l) : Pl.KidW (Pl.rKid 8 l e).1 255 := by
  have hs := Pl.rDig_len l e
  have b1 := (Pl.take_suf 32 l e).isB hB
  unfold Pl.rKid
  simp only []
  generalize (Pl.rTake 32 l e).2 = s1 at b1 ⊢
  have c1 := (Pl.rCount_le 1048576 s1.1 s1.2).1
  have b2 := (Pl.count_suf 1048576 s1.1 s1.2).isB b1
  generalize Pl.rCount 1048576 s1.1 s1.2 = s2 at b2 c1 ⊢
  have c2 := (Pl.rCount_le 1048576 s2.2.1 s2.2.2).1
  have b3 := (Pl.count_suf 1048576 s2.2.1 s2.2.2).isB b2
  generalize Pl.rCount 1048576 s2.2.1 s2.2.2 = s3 at b3 c2 ⊢
  have r1 := Pl.rowI_isI (m := 8) (e := s3.2.2) b3
  have b4 := (Pl.rowI_suf 8 s3.2.1 s3.2.2).isB b3
  generalize Pl.rRowI 8 s3.2.1 s3.2.2 = s4 at b4 r1 ⊢
  have r2 := Pl.rowI_isI (m := 8) (e := s4.2.2) b4
  have b5 := (Pl.rowI_suf 8 s4.2.1 s4.2.2).isB b4
  generalize Pl.rRowI 8 s4.2.1 s4.2.2 = s5 at b5 r2 ⊢
  have r3 := Pl.rowI_isI (m := 8) (e := s5.2.2) b5
  generalize Pl.rRowI 8 s5.2.1 s5.2.2 = s6 at r3 ⊢
  exact ⟨hs, ⟨by dsimp only; omega, by dsimp only; omega⟩, ⟨by dsimp only; omega, by dsimp only; omega⟩, ⟨r1.2, r1.1⟩, ⟨r2.2, r2.1⟩, ⟨r3.2, r3.1⟩⟩
theorem rTab_w (l : List Nat) (e : Int) (hB : Pl.IsB l) : TabW (rTab l e).1 := by
  have h1 := rText_len 16 l e
  have b1 := (text_suf 16 l e).isB hB
  unfold rTab
  simp only []
  generalize Pl.rText 16 l e = s at h1 b1 ⊢
  have b2 := (Pl.take_suf 1 s.2.1 s.2.2).isB b1
  have hn : min (Pl.rByte s.2.1 s.2.2) 8 ≤ 8 := Nat.min_le_right _ _
  generalize min (Pl.rByte s.2.1 s.2.2) 8 = n at hn ⊢
  generalize (Pl.rTake 1 s.2.1 s.2.2).2 = s1 at b2 ⊢
  have h3 := rCols_len s1.1 s1.2 n
  have h4 := rCols_col s1.1 s1.2 n
  have b3 := (cols_suf s1.1 s1.2 n).isB b2
  generalize rCols n s1.1 s1.2 = c at h3 h4 b3 ⊢
  have k1 := rKid_w c.2.1 c.2.2 b3
  have b4 := (Pl.kid_suf 8 c.2.1 c.2.2).isB b3
  generalize Pl.rKid 8 c.2.1 c.2.2 = a at k1 b4 ⊢
  exact ⟨by dsimp only; rw [bsL_size]; exact h1, by dsimp only; omega, h4, k1, rKid_w a.2.1 a.2.2 b4⟩
theorem rTabs_w (l : List Nat) (e : Int) (hB : Pl.IsB l) : ∀ k i, i < k → TabW ((rTabs k l e).1.getD i default)
  | 0, i, h => by omega
  | k + 1, i, h => by
    have hl := rTabs_len l e k
    rw [rTabs]
    simp only []
    rw [List.getD_eq_getElem?_getD]
    rcases Nat.lt_or_ge i (rTabs k l e).1.length with q | q
    · rw [List.getElem?_append_left q, ← List.getD_eq_getElem?_getD]; exact rTabs_w l e hB k i (by omega)
    · rw [List.getElem?_append_right q, show i - (rTabs k l e).1.length = 0 by omega]
      exact rTab_w _ _ ((tabs_suf l e k).isB hB)
theorem TabW.small {t : TableD} (h : TabW t) : t.small :=
  ⟨Nat.le_trans h.name (by decide), Nat.le_trans h.cols (by decide), fun i => Nat.le_trans (h.col i) (by decide), ⟨Nat.le_trans h.kd.lo.1 (by decide), Nat.le_trans h.kd.hi.1 (by decide), Nat.le_trans h.kd.key.1 (by decide)⟩, ⟨Nat.le_trans h.zb.lo.1 (by decide), Nat.le_trans h.zb.hi.1 (by decide), Nat.le_trans h.zb.key.1 (by decide)⟩⟩
theorem tabs_small {l : List TableD} (h : ∀ i, i < l.length → TabW (l.getD i default)) : ∀ i, (l.getD i default).small := fun i => by
  rcases Nat.lt_or_ge i l.length with q | q
  · exact (h i q).small
  · rw [List.getD_eq_getElem?_getD, List.getElem?_eq_none q]; exact small_def
theorem cdecode_any (b : List Nat) (hB : Pl.IsB b) (hb : b.length ≤ 1000000) : ACall Try.prog 46 [.d (byteL b)] [] (resC (decC b)) [] := by
  have q0 := rnew 900 b (by omega)
  have q1 := rbyte 900 b 0
  have b1 := (Pl.take_suf 1 b 0).isB hB
  have hx := Pl.rByte_lt b 0 hB
  unfold decC decS
  generalize Pl.rByte b 0 = x at q1 hx ⊢
  generalize (Pl.rTake 1 b 0).2 = s1 at q1 b1 ⊢
  obtain ⟨l1, e1⟩ := s1
  simp only [] at q1 b1 ⊢
  obtain ⟨n, hn⟩ : ∃ n, n = min x 9 := ⟨_, rfl⟩
  rw [← hn]
  have hmin : (if (9 : Int) < (x : Int) then (9 : Int) else (x : Int)) = (n : Int) := by split <;> omega
  refine acall_on (mu := []) [(7, [.lay 50])] [] mixed Try.func46 rfl rfl rfl ?_
  conv => whnf
  repeat' (first
    | (refine And.intro (by omega) ?_; conv => whnf)
    | (refine And.intro rfl ?_; conv => whnf)
    | (refine And.intro (Nat.le_of_ble_eq_true rfl) ?_; conv => whnf)
    | (refine And.intro (fun i hi => ⟨_, rfl⟩) ?_; conv => whnf)
    | (refine ⟨_, _, _, .gen [] _ _ _ rfl (q0) rfl rfl rfl rfl rfl, ?_⟩; conv => whnf)
    | (refine ⟨_, _, _, .gen [900] _ _ _ rfl (q1) rfl rfl rfl rfl rfl, ?_⟩; conv => whnf)
    | (refine ⟨_, _, _, .gen [] _ _ _ rfl (ACall.arg ?harg (q0)) rfl rfl rfl rfl rfl, ?_⟩; (case harg => (repeat' (first | exact trivial | exact rfl | exact fun _ _ => rfl | apply And.intro | (intro i hi; rcases i with _ | _ | i <;> first | rfl | (exfalso; omega) | (simp at hi; done) | (simp at hi; omega)) | exact fun _ _ => by simp))); (conv => whnf))
    | (refine ⟨_, _, _, .gen [900] _ _ _ rfl (ACall.arg ?harg (q1)) rfl rfl rfl rfl rfl, ?_⟩; (case harg => (repeat' (first | exact trivial | exact rfl | exact fun _ _ => rfl | apply And.intro | (intro i hi; rcases i with _ | _ | i <;> first | rfl | (exfalso; omega) | (simp at hi; done) | (simp at hi; omega)) | exact fun _ _ => by simp))); (conv => whnf))
    | (refine And.intro (fun hq => ?_) (fun hq => ?_) <;> (first | (exfalso; simp at hq; done) | (exfalso; simp at *; omega) | (exfalso; simp_all; done) | (conv => whnf)))
    | (refine And.intro (by first | (show _ * 1 ≤ 140737488355328; omega) | (show _ * 8 ≤ 140737488355328; omega) | (show _ * 24 ≤ 140737488355328; omega) | (show _ * 16 ≤ 140737488355328; omega) | (show _ * 32 ≤ 140737488355328; omega) | (show _ * 120 ≤ 140737488355328; omega) | (show _ * 280 ≤ 140737488355328; omega) | (show _ * 72 ≤ 140737488355328; omega) | (show _ * 48 ≤ 140737488355328; omega)) ?_; conv => whnf)
    | (refine And.intro (by simp at *; omega) ?_; conv => whnf)
    | fail)
  rw [hmin]
  refine ⟨[.virt 5 50 60 76, .tell 50 (tF [])], ?_⟩
  conv => whnf
  refine ⟨Nat, fun j => j ≤ n, fun j => n - j, fun j => [(5, .own 50 0), (14, exI .i64 j)], fun j => (50, .row 60 76 0 false (rTabs j l1 e1).1.length (tF (rTabs j l1 e1).1)) :: rdH 900 (rTabs j l1 e1).2.1 (rTabs j l1 e1).2.2, ⟨0, by omega, ?_⟩, ?_⟩
  · skip
    refine ⟨[], ?_⟩
    conv => whnf
    refine ⟨rfl, ?_, ?_⟩ <;> (repeat' (first | exact trivial | exact rfl | exact fun _ _ => rfl | apply And.intro | (intro i hi; rcases i with _ | _ | i <;> first | rfl | (exfalso; omega) | (simp at hi; done) | (simp at hi; omega)) | exact fun _ _ => by simp))
  intro j hj
  conv => whnf
  rcases Nat.lt_or_ge j n with hlt | hge
  · have q := creadtab 900 (rTabs j l1 e1).2.1 (rTabs j l1 e1).2.2 ((tabs_suf l1 e1 j).isB b1)
    have hs : rTabs (j + 1) l1 e1 = ((rTabs j l1 e1).1 ++ [(rTab (rTabs j l1 e1).2.1 (rTabs j l1 e1).2.2).1], (rTab (rTabs j l1 e1).2.1 (rTabs j l1 e1).2.2).2) := rfl
    have hlen := rTabs_len l1 e1 j
    generalize rTabs j l1 e1 = S at q hs hlen ⊢
    obtain ⟨r, m1, y1⟩ := S
    simp only [] at q hs hlen ⊢
    generalize rTab m1 y1 = U at q hs
    obtain ⟨t2, m2, y2⟩ := U
    simp only [] at q hs
    conv => whnf
    repeat' (first
      | (refine And.intro (by omega) ?_; conv => whnf)
      | (refine And.intro rfl ?_; conv => whnf)
      | (refine And.intro (Nat.le_of_ble_eq_true rfl) ?_; conv => whnf)
      | (refine And.intro (fun i hi => ⟨_, rfl⟩) ?_; conv => whnf)
      | (refine ⟨_, _, _, .gen [900] _ _ _ rfl (q) rfl rfl rfl rfl rfl, ?_⟩; conv => whnf)
      | (refine ⟨_, _, _, .gen [900] _ _ _ rfl (ACall.arg ?harg (q)) rfl rfl rfl rfl rfl, ?_⟩; (case harg => (repeat' (first | exact trivial | exact rfl | exact fun _ _ => rfl | apply And.intro | (intro i hi; rcases i with _ | _ | i <;> first | rfl | (exfalso; omega) | (simp at hi; done) | (simp at hi; omega)) | exact fun _ _ => by simp))); (conv => whnf))
      | (refine And.intro (fun hq => ?_) (fun hq => ?_) <;> (first | (exfalso; simp at hq; done) | (exfalso; simp at *; omega) | (exfalso; simp_all; done) | (conv => whnf)))
      | (refine And.intro (by first | (show _ * 1 ≤ 140737488355328; omega) | (show _ * 8 ≤ 140737488355328; omega) | (show _ * 24 ≤ 140737488355328; omega) | (show _ * 16 ≤ 140737488355328; omega) | (show _ * 32 ≤ 140737488355328; omega) | (show _ * 120 ≤ 140737488355328; omega) | (show _ * 280 ≤ 140737488355328; omega) | (show _ * 72 ≤ 140737488355328; omega) | (show _ * 48 ≤ 140737488355328; omega)) ?_; conv => whnf)
      | (refine And.intro (by simp at *; omega) ?_; conv => whnf)
      | fail)
    refine ⟨j + 1, by omega, by omega, ?_⟩
    rw [hs]
    refine ⟨[.regen 50 0], ?_⟩
    conv => whnf
    refine ⟨rfl, ?_, ?_⟩ <;> (repeat' (first | exact trivial | (exact app_tF1 _ _) | ((simp; done)) | exact rfl | exact fun _ _ => rfl | apply And.intro | (intro i hi; rcases i with _ | _ | i <;> first | rfl | (exfalso; omega) | (simp at hi; done) | (simp at hi; omega)) | exact fun _ _ => by simp))
  · obtain rfl : j = n := by omega
    have hw := rTabs_w l1 e1 b1 j
    have hlen := rTabs_len l1 e1 j
    generalize rTabs j l1 e1 = S at hw hlen ⊢
    obtain ⟨r, m1, y1⟩ := S
    simp only [] at hw hlen ⊢
    have hw : ∀ i, i < r.length → TabW (r.getD i default) := fun i hi => hw i (by omega)
    have hsm := tabs_small hw
    have q3 := rend 900 m1 y1
    generalize Pl.rEnd m1 y1 = z at q3 ⊢
    by_cases hz : z = 0
    · subst hz
      cases hr : tabsR r with
      | true =>
        have q4 := cencode_ok r hr (by omega) hsm hw
        have q5 := bequal_any (catB r) b (by
          have := tabsB_len r hw r.length (Nat.le_refl _)
          rw [show catB r = tabsB r r.length by unfold catB tabsB; rw [List.take_length]]
          omega)
        by_cases hc : catB r = b
        · rw [if_pos ⟨rfl, rfl, hc⟩]
          rw [decide_eq_true hc] at q5
          conv => whnf
          repeat' (first
            | (refine And.intro (by omega) ?_; conv => whnf)
            | (refine And.intro rfl ?_; conv => whnf)
            | (refine And.intro (Nat.le_of_ble_eq_true rfl) ?_; conv => whnf)
            | (refine And.intro (fun i hi => ⟨_, rfl⟩) ?_; conv => whnf)
            | (refine ⟨_, _, _, .gen [900] _ _ _ rfl (q3) rfl rfl rfl rfl rfl, ?_⟩; conv => whnf)
            | (refine ⟨_, _, _, .gen [] _ _ _ rfl (q4) rfl rfl rfl rfl rfl, ?_⟩; conv => whnf)
            | (refine ⟨_, _, _, .flat _ _ rfl (q5) rfl, ?_⟩; conv => whnf)
            | (refine ⟨_, _, _, .gen [900] _ _ _ rfl (ACall.arg ?harg (q3)) rfl rfl rfl rfl rfl, ?_⟩; (case harg => (repeat' (first | exact trivial | exact rfl | exact fun _ _ => rfl | apply And.intro | (intro i hi; rcases i with _ | _ | i <;> first | rfl | (exfalso; omega) | (simp at hi; done) | (simp at hi; omega)) | exact fun _ _ => by simp))); (conv => whnf))
            | (refine ⟨_, _, _, .gen [] _ _ _ rfl (ACall.arg ?harg (q4)) rfl rfl rfl rfl rfl, ?_⟩; (case harg => (repeat' (first | exact trivial | exact rfl | exact fun _ _ => rfl | apply And.intro | (intro i hi; rcases i with _ | _ | i <;> first | rfl | (exfalso; omega) | (simp at hi; done) | (simp at hi; omega)) | exact fun _ _ => by simp))); (conv => whnf))
            | (refine ⟨_, _, _, .flat _ _ rfl (ACall.arg ?harg (q5)) rfl, ?_⟩; (case harg => (repeat' (first | exact trivial | exact rfl | exact fun _ _ => rfl | apply And.intro | (intro i hi; rcases i with _ | _ | i <;> first | rfl | (exfalso; omega) | (simp at hi; done) | (simp at hi; omega)) | exact fun _ _ => by simp))); (conv => whnf))
            | (refine And.intro (fun hq => ?_) (fun hq => ?_) <;> (first | (exfalso; simp at hq; done) | (exfalso; simp at *; omega) | (exfalso; simp_all; done) | (conv => whnf)))
            | (refine And.intro (by first | (show _ * 1 ≤ 140737488355328; omega) | (show _ * 8 ≤ 140737488355328; omega) | (show _ * 24 ≤ 140737488355328; omega) | (show _ * 16 ≤ 140737488355328; omega) | (show _ * 32 ≤ 140737488355328; omega) | (show _ * 120 ≤ 140737488355328; omega) | (show _ * 280 ≤ 140737488355328; omega) | (show _ * 72 ≤ 140737488355328; omega) | (show _ * 48 ≤ 140737488355328; omega)) ?_; conv => whnf)
            | (refine And.intro (by simp at *; omega) ?_; conv => whnf)
            | fail)
          all_goals first | exact trivial | exact ⟨rfl, by (repeat' (first | exact trivial | exact rfl | exact fun _ _ => rfl | apply And.intro | (intro i hi; rcases i with _ | _ | i <;> first | rfl | (exfalso; omega) | (simp at hi; done) | (simp at hi; omega)) | exact fun _ _ => by simp)), trivial⟩ | exact ⟨by (repeat' (first | exact trivial | exact rfl | exact fun _ _ => rfl | apply And.intro | (intro i hi; rcases i with _ | _ | i <;> first | rfl | (exfalso; omega) | (simp at hi; done) | (simp at hi; omega)) | exact fun _ _ => by simp)), trivial⟩ | exact ⟨by (repeat' (first | exact trivial | exact rfl | exact fun _ _ => rfl | apply And.intro | (intro i hi; rcases i with _ | _ | i <;> first | rfl | (exfalso; omega) | (simp at hi; done) | (simp at hi; omega)) | exact fun _ _ => by simp)), by (repeat' (first | exact trivial | exact rfl | exact fun _ _ => rfl | apply And.intro | (intro i hi; rcases i with _ | _ | i <;> first | rfl | (exfalso; omega) | (simp at hi; done) | (simp at hi; omega)) | exact fun _ _ => by simp))⟩ | exact ⟨rfl, by (repeat' (first | exact trivial | exact rfl | exact fun _ _ => rfl | apply And.intro | (intro i hi; rcases i with _ | _ | i <;> first | rfl | (exfalso; omega) | (simp at hi; done) | (simp at hi; omega)) | exact fun _ _ => by simp)), by (repeat' (first | exact trivial | exact rfl | exact fun _ _ => rfl | apply And.intro | (intro i hi; rcases i with _ | _ | i <;> first | rfl | (exfalso; omega) | (simp at hi; done) | (simp at hi; omega)) | exact fun _ _ => by simp))⟩
        · rw [if_neg (fun h => hc h.2.2)]
          rw [decide_eq_false hc] at q5
          conv => whnf
          repeat' (first
            | (refine And.intro (by omega) ?_; conv => whnf)
            | (refine And.intro rfl ?_; conv => whnf)
            | (refine And.intro (Nat.le_of_ble_eq_true rfl) ?_; conv => whnf)
            | (refine And.intro (fun i hi => ⟨_, rfl⟩) ?_; conv => whnf)
            | (refine ⟨_, _, _, .gen [900] _ _ _ rfl (q3) rfl rfl rfl rfl rfl, ?_⟩; conv => whnf)
            | (refine ⟨_, _, _, .gen [] _ _ _ rfl (q4) rfl rfl rfl rfl rfl, ?_⟩; conv => whnf)
            | (refine ⟨_, _, _, .flat _ _ rfl (q5) rfl, ?_⟩; conv => whnf)
            | (refine ⟨_, _, _, .gen [900] _ _ _ rfl (ACall.arg ?harg (q3)) rfl rfl rfl rfl rfl, ?_⟩; (case harg => (repeat' (first | exact trivial | exact rfl | exact fun _ _ => rfl | apply And.intro | (intro i hi; rcases i with _ | _ | i <;> first | rfl | (exfalso; omega) | (simp at hi; done) | (simp at hi; omega)) | exact fun _ _ => by simp))); (conv => whnf))
            | (refine ⟨_, _, _, .gen [] _ _ _ rfl (ACall.arg ?harg (q4)) rfl rfl rfl rfl rfl, ?_⟩; (case harg => (repeat' (first | exact trivial | exact rfl | exact fun _ _ => rfl | apply And.intro | (intro i hi; rcases i with _ | _ | i <;> first | rfl | (exfalso; omega) | (simp at hi; done) | (simp at hi; omega)) | exact fun _ _ => by simp))); (conv => whnf))
            | (refine ⟨_, _, _, .flat _ _ rfl (ACall.arg ?harg (q5)) rfl, ?_⟩; (case harg => (repeat' (first | exact trivial | exact rfl | exact fun _ _ => rfl | apply And.intro | (intro i hi; rcases i with _ | _ | i <;> first | rfl | (exfalso; omega) | (simp at hi; done) | (simp at hi; omega)) | exact fun _ _ => by simp))); (conv => whnf))
            | (refine And.intro (fun hq => ?_) (fun hq => ?_) <;> (first | (exfalso; simp at hq; done) | (exfalso; simp at *; omega) | (exfalso; simp_all; done) | (conv => whnf)))
            | (refine And.intro (by first | (show _ * 1 ≤ 140737488355328; omega) | (show _ * 8 ≤ 140737488355328; omega) | (show _ * 24 ≤ 140737488355328; omega) | (show _ * 16 ≤ 140737488355328; omega) | (show _ * 32 ≤ 140737488355328; omega) | (show _ * 120 ≤ 140737488355328; omega) | (show _ * 280 ≤ 140737488355328; omega) | (show _ * 72 ≤ 140737488355328; omega) | (show _ * 48 ≤ 140737488355328; omega)) ?_; conv => whnf)
            | (refine And.intro (by simp at *; omega) ?_; conv => whnf)
            | fail)
          all_goals first | exact trivial | exact ⟨rfl, by (repeat' (first | exact trivial | exact rfl | exact fun _ _ => rfl | apply And.intro | (intro i hi; rcases i with _ | _ | i <;> first | rfl | (exfalso; omega) | (simp at hi; done) | (simp at hi; omega)) | exact fun _ _ => by simp)), trivial⟩ | exact ⟨by (repeat' (first | exact trivial | exact rfl | exact fun _ _ => rfl | apply And.intro | (intro i hi; rcases i with _ | _ | i <;> first | rfl | (exfalso; omega) | (simp at hi; done) | (simp at hi; omega)) | exact fun _ _ => by simp)), trivial⟩ | exact ⟨by (repeat' (first | exact trivial | exact rfl | exact fun _ _ => rfl | apply And.intro | (intro i hi; rcases i with _ | _ | i <;> first | rfl | (exfalso; omega) | (simp at hi; done) | (simp at hi; omega)) | exact fun _ _ => by simp)), by (repeat' (first | exact trivial | exact rfl | exact fun _ _ => rfl | apply And.intro | (intro i hi; rcases i with _ | _ | i <;> first | rfl | (exfalso; omega) | (simp at hi; done) | (simp at hi; omega)) | exact fun _ _ => by simp))⟩ | exact ⟨rfl, by (repeat' (first | exact trivial | exact rfl | exact fun _ _ => rfl | apply And.intro | (intro i hi; rcases i with _ | _ | i <;> first | rfl | (exfalso; omega) | (simp at hi; done) | (simp at hi; omega)) | exact fun _ _ => by simp)), by (repeat' (first | exact trivial | exact rfl | exact fun _ _ => rfl | apply And.intro | (intro i hi; rcases i with _ | _ | i <;> first | rfl | (exfalso; omega) | (simp at hi; done) | (simp at hi; omega)) | exact fun _ _ => by simp))⟩
      | false =>
        rw [if_neg (fun h => by cases h.2.1)]
        have q4 := cencode_no r hr (by omega) hsm
        conv => whnf
        repeat' (first
          | (refine And.intro (by omega) ?_; conv => whnf)
          | (refine And.intro rfl ?_; conv => whnf)
          | (refine And.intro (Nat.le_of_ble_eq_true rfl) ?_; conv => whnf)
          | (refine And.intro (fun i hi => ⟨_, rfl⟩) ?_; conv => whnf)
          | (refine ⟨_, _, _, .gen [900] _ _ _ rfl (q3) rfl rfl rfl rfl rfl, ?_⟩; conv => whnf)
          | (refine ⟨_, _, _, .gen [] _ _ _ rfl (q4) rfl rfl rfl rfl rfl, ?_⟩; conv => whnf)
          | (refine ⟨_, _, _, .gen [900] _ _ _ rfl (ACall.arg ?harg (q3)) rfl rfl rfl rfl rfl, ?_⟩; (case harg => (repeat' (first | exact trivial | exact rfl | exact fun _ _ => rfl | apply And.intro | (intro i hi; rcases i with _ | _ | i <;> first | rfl | (exfalso; omega) | (simp at hi; done) | (simp at hi; omega)) | exact fun _ _ => by simp))); (conv => whnf))
          | (refine ⟨_, _, _, .gen [] _ _ _ rfl (ACall.arg ?harg (q4)) rfl rfl rfl rfl rfl, ?_⟩; (case harg => (repeat' (first | exact trivial | exact rfl | exact fun _ _ => rfl | apply And.intro | (intro i hi; rcases i with _ | _ | i <;> first | rfl | (exfalso; omega) | (simp at hi; done) | (simp at hi; omega)) | exact fun _ _ => by simp))); (conv => whnf))
          | (refine And.intro (fun hq => ?_) (fun hq => ?_) <;> (first | (exfalso; simp at hq; done) | (exfalso; simp at *; omega) | (exfalso; simp_all; done) | (conv => whnf)))
          | (refine And.intro (by first | (show _ * 1 ≤ 140737488355328; omega) | (show _ * 8 ≤ 140737488355328; omega) | (show _ * 24 ≤ 140737488355328; omega) | (show _ * 16 ≤ 140737488355328; omega) | (show _ * 32 ≤ 140737488355328; omega) | (show _ * 120 ≤ 140737488355328; omega) | (show _ * 280 ≤ 140737488355328; omega) | (show _ * 72 ≤ 140737488355328; omega) | (show _ * 48 ≤ 140737488355328; omega)) ?_; conv => whnf)
          | (refine And.intro (by simp at *; omega) ?_; conv => whnf)
          | fail)
        all_goals first | exact trivial | exact ⟨rfl, by (repeat' (first | exact trivial | exact rfl | exact fun _ _ => rfl | apply And.intro | (intro i hi; rcases i with _ | _ | i <;> first | rfl | (exfalso; omega) | (simp at hi; done) | (simp at hi; omega)) | exact fun _ _ => by simp)), trivial⟩ | exact ⟨by (repeat' (first | exact trivial | exact rfl | exact fun _ _ => rfl | apply And.intro | (intro i hi; rcases i with _ | _ | i <;> first | rfl | (exfalso; omega) | (simp at hi; done) | (simp at hi; omega)) | exact fun _ _ => by simp)), trivial⟩ | exact ⟨by (repeat' (first | exact trivial | exact rfl | exact fun _ _ => rfl | apply And.intro | (intro i hi; rcases i with _ | _ | i <;> first | rfl | (exfalso; omega) | (simp at hi; done) | (simp at hi; omega)) | exact fun _ _ => by simp)), by (repeat' (first | exact trivial | exact rfl | exact fun _ _ => rfl | apply And.intro | (intro i hi; rcases i with _ | _ | i <;> first | rfl | (exfalso; omega) | (simp at hi; done) | (simp at hi; omega)) | exact fun _ _ => by simp))⟩ | exact ⟨rfl, by (repeat' (first | exact trivial | exact rfl | exact fun _ _ => rfl | apply And.intro | (intro i hi; rcases i with _ | _ | i <;> first | rfl | (exfalso; omega) | (simp at hi; done) | (simp at hi; omega)) | exact fun _ _ => by simp)), by (repeat' (first | exact trivial | exact rfl | exact fun _ _ => rfl | apply And.intro | (intro i hi; rcases i with _ | _ | i <;> first | rfl | (exfalso; omega) | (simp at hi; done) | (simp at hi; omega)) | exact fun _ _ => by simp))⟩
    · rw [if_neg (fun h => hz h.1)]
      have hd : decide (z = 0) = false := decide_eq_false hz
      conv => whnf
      repeat' (first
        | (refine And.intro (by omega) ?_; conv => whnf)
        | (refine And.intro rfl ?_; conv => whnf)
        | (refine And.intro (Nat.le_of_ble_eq_true rfl) ?_; conv => whnf)
        | (refine And.intro (fun i hi => ⟨_, rfl⟩) ?_; conv => whnf)
        | (refine ⟨_, _, _, .gen [900] _ _ _ rfl (q3) rfl rfl rfl rfl rfl, ?_⟩; conv => whnf)
        | (refine ⟨_, _, _, .gen [900] _ _ _ rfl (ACall.arg ?harg (q3)) rfl rfl rfl rfl rfl, ?_⟩; (case harg => (repeat' (first | exact trivial | exact rfl | exact fun _ _ => rfl | apply And.intro | (intro i hi; rcases i with _ | _ | i <;> first | rfl | (exfalso; omega) | (simp at hi; done) | (simp at hi; omega)) | exact fun _ _ => by simp))); (conv => whnf))
        | (refine And.intro (fun hq => ?_) (fun hq => ?_) <;> (first | (exfalso; simp at hq; done) | (exfalso; simp at *; omega) | (exfalso; simp_all; done) | (conv => whnf)))
        | (refine And.intro (by first | (show _ * 1 ≤ 140737488355328; omega) | (show _ * 8 ≤ 140737488355328; omega) | (show _ * 24 ≤ 140737488355328; omega) | (show _ * 16 ≤ 140737488355328; omega) | (show _ * 32 ≤ 140737488355328; omega) | (show _ * 120 ≤ 140737488355328; omega) | (show _ * 280 ≤ 140737488355328; omega) | (show _ * 72 ≤ 140737488355328; omega) | (show _ * 48 ≤ 140737488355328; omega)) ?_; conv => whnf)
        | (refine And.intro (by simp at *; omega) ?_; conv => whnf)
        | fail)
      all_goals first | exact trivial | exact ⟨rfl, by (repeat' (first | exact trivial | exact rfl | exact fun _ _ => rfl | apply And.intro | (intro i hi; rcases i with _ | _ | i <;> first | rfl | (exfalso; omega) | (simp at hi; done) | (simp at hi; omega)) | exact fun _ _ => by simp)), trivial⟩ | exact ⟨by (repeat' (first | exact trivial | exact rfl | exact fun _ _ => rfl | apply And.intro | (intro i hi; rcases i with _ | _ | i <;> first | rfl | (exfalso; omega) | (simp at hi; done) | (simp at hi; omega)) | exact fun _ _ => by simp)), trivial⟩ | exact ⟨by (repeat' (first | exact trivial | exact rfl | exact fun _ _ => rfl | apply And.intro | (intro i hi; rcases i with _ | _ | i <;> first | rfl | (exfalso; omega) | (simp at hi; done) | (simp at hi; omega)) | exact fun _ _ => by simp)), by (repeat' (first | exact trivial | exact rfl | exact fun _ _ => rfl | apply And.intro | (intro i hi; rcases i with _ | _ | i <;> first | rfl | (exfalso; omega) | (simp at hi; done) | (simp at hi; omega)) | exact fun _ _ => by simp))⟩ | exact ⟨rfl, by (repeat' (first | exact trivial | exact rfl | exact fun _ _ => rfl | apply And.intro | (intro i hi; rcases i with _ | _ | i <;> first | rfl | (exfalso; omega) | (simp at hi; done) | (simp at hi; omega)) | exact fun _ _ => by simp)), by (repeat' (first | exact trivial | exact rfl | exact fun _ _ => rfl | apply And.intro | (intro i hi; rcases i with _ | _ | i <;> first | rfl | (exfalso; omega) | (simp at hi; done) | (simp at hi; omega)) | exact fun _ _ => by simp))⟩
end Go.Proofs.Ytgcbodpjidoanaa
