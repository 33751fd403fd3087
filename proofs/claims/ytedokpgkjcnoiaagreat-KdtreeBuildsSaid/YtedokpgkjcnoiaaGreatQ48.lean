/- The reference's Right, Hull of boxes, the digest of a page, Say of a fork, in the new way. -/
import Derived.Test.YtedokpgkjcnoiaaGreatQ38
import Derived.Test.YtedokpgkjcnoiaaGreatQ47
set_option linter.unusedVariables false
set_option linter.unusedSimpArgs false
namespace Go.Proofs.YtedokpgkjcnoiaaGreat
open Go.RowKit
set_option maxRecDepth 100000
set_option maxHeartbeats 4000000
theorem r9sum_d (b : List Nat) (hB : Pl.IsB b) (hn : b.length ≤ 100000000) : ACall Tryz.prog 67 [.d (byteL b)] [] (agD (digL (pgD b))) [] :=
 acall_arr1 (enters_of Tryz.func67 rfl rfl) b (pgD b) (pgD_len b) fun A c w hA => r9sum_any A b c w hA hB hn
theorem xright_yes (b : BoxD) (d : Nat) (h : Pl.rightB b.lo b.hi d = true) : ACall Tryz.prog 102 [agD (boxL b), exI .i64 d] [] (exB true) [] := by
 have hl := Pl.rightB_len h
 have hle := Pl.right_le h
 refine acall_on (mu := []) [] [] mixed Tryz.func102 rfl rfl rfl ?_
 conv => whnf
 repeat' ((first
 | refine ob ?_
 | (refine And.intro (fun hq => ?_) (fun hq => ?_) <;> first | exact cl1 | ((try simp only [bl] at hq); (try dsimp only at hq); first | exact cl2 | skip))
 | refine fun hq => ?_ | refine ob3 ?_ | fail) <;> conv => whnf)
 refine ⟨[], ?_⟩
 conv => whnf
 refine ⟨Nat, fun i => i ≤ d, fun i => d - i, fun i => [(4, exB false), (5, exI .i64 i)], fun _ => [], ⟨0, by omega, ?_⟩, ?_⟩
 ·skip
  refine ⟨[], ?_⟩
  conv => whnf
  refine ⟨rfl, ?_, ?_⟩ <;> (repeat' (first | exact sm | apply And.intro))
 intro i hi
 conv => whnf
 rcases Nat.lt_or_ge i d with hlt | hge
 ·have q : b.lo.getD ((i : Int)).toNat 0 ≤ b.hi.getD ((i : Int)).toNat 0 := hle i hlt
  conv => whnf
  repeat' ((first
  | refine ob ?_
  | (refine And.intro (fun hq => ?_) (fun hq => ?_) <;> first | exact cl1 | ((try simp only [bl] at hq); (try dsimp only at hq); first | exact cl2 | skip))
  | refine fun hq => ?_ | refine ob3 ?_ | fail) <;> conv => whnf)
  refine ⟨i + 1, by omega, by dsimp only; omega, ?_⟩
  refine ⟨[], ?_⟩
  conv => whnf
  refine ⟨rfl, ?_, ?_⟩ <;> (repeat' (first | exact sm | apply And.intro))
 ·obtain rfl : i = d := by omega
  conv => whnf
  repeat' ((first
  | refine ob ?_
  | (refine And.intro (fun hq => ?_) (fun hq => ?_) <;> first | exact cl1 | ((try simp only [bl] at hq); (try dsimp only at hq); first | exact cl2 | skip))
  | refine fun hq => ?_ | refine ob3 ?_ | fail) <;> conv => whnf)
  all_goals (repeat' (first | exact sm | apply And.intro))
theorem xright_nil : ACall Tryz.prog 102 [agD (boxL ⟨[], []⟩), exI .i64 0] [] (exB false) [] := by
 refine acall_on (mu := []) [] [] mixed Tryz.func102 rfl rfl rfl ?_
 conv => whnf
 repeat' ((first
 | refine ob ?_
 | (refine And.intro (fun hq => ?_) (fun hq => ?_) <;> first | exact cl1 | ((try simp only [bl] at hq); (try dsimp only at hq); first | exact cl2 | skip))
 | refine fun hq => ?_ | refine ob3 ?_ | fail) <;> conv => whnf)
 all_goals (repeat' (first | exact sm | apply And.intro))
theorem app_i64x (l : List Int) (x : Int) : ∀ i, i < l.length + 1 → app l.length (i64F l) (chop 1 [.v (.int .i64 x)]) i = i64F (l ++ [x]) i := fun i hi => by
 rcases Nat.lt_or_ge i l.length with q | q
 ·rw [app_lt q]; unfold i64F; rw [List.getD_eq_getElem?_getD, List.getD_eq_getElem?_getD, List.getElem?_append_left q]
 ·obtain rfl : i = l.length := by omega
  rw [app_ge (Nat.le_refl _), Nat.sub_self]; unfold i64F; simp [chop]
theorem rhull_ok (a b : BoxD) (d : Nat) (ha : Pl.boxOk (a.lo, a.hi) d) (hb : Pl.boxOk (b.lo, b.hi) d) : ACall Tryz.prog 69 [agD (boxL a), agD (boxL b)] [] (agD (boxL (hullD a b))) [] := by
 obtain ⟨a1, a2⟩ := a
 obtain ⟨b1, b2⟩ := b
 have la := Pl.boxOk_len ha
 have lb := Pl.boxOk_len hb
 dsimp only at la lb
 have q0 := xright_nil
 have hz : ∀ {lo hi : List Int}, Pl.rightB lo hi (d : Int) = true → Pl.rightB lo hi (lo.length : Int) = true ∧ lo.length = d ∧ hi.length = d ∧ 0 < d := fun {lo hi} h => by
  have := Pl.rightB_len h
  have e : lo.length = d := by omega
  exact ⟨by rw [e]; exact h, e, by omega, by omega⟩
 rcases ha with ha | ha
 ·obtain ⟨r1, r2, r3, r4⟩ := hz ha
  dsimp only at r1 r2 r3
  have q1 := xright_yes ⟨a1, a2⟩ a1.length r1
  rcases hb with hb | hb
  ·obtain ⟨s1, s2, s3, s4⟩ := hz hb
   dsimp only at s1 s2 s3
   have q2 := xright_yes ⟨b1, b2⟩ b1.length s1
   have e : hullD ⟨a1, a2⟩ ⟨b1, b2⟩ = ⟨Pl.hullLo a1 b1, Pl.hullHi a2 b2⟩ := by
    unfold hullD Pl.hullB
    dsimp only
    rw [if_neg (fun q => by rw [q] at r2; simp at r2; omega), if_neg (fun q => by rw [q] at s2; simp at s2; omega)]
   rw [e]
   obtain ⟨sl, hsl⟩ : ∃ sl : Nat → List Int, ∀ k, sl k = (Pl.hullLo a1 b1).take k := ⟨_, fun _ => rfl⟩
   obtain ⟨sh, hsh⟩ : ∃ sl : Nat → List Int, ∀ k, sl k = (Pl.hullHi a2 b2).take k := ⟨_, fun _ => rfl⟩
   have l1 : ∀ k, k ≤ d → (sl k).length = k := fun k hk => by rw [hsl, List.length_take, Pl.hullLo_len]; omega
   have l2 : ∀ k, k ≤ d → (sh k).length = k := fun k hk => by rw [hsh, List.length_take, Pl.hullHi_len]; omega
   have n1 : ∀ k, k < d → ∀ x, x = Pl.mn (a1.getD k 0) (b1.getD k 0) → ∀ i, i < (sl k).length + 1 → app (sl k).length (i64F (sl k)) (chop 1 [DV.v (.int .i64 x)]) i = i64F (sl (k + 1)) i := fun k hk x hx => by
    have e : sl (k + 1) = sl k ++ [x] := by
     rw [hsl, hsl, List.take_add_one, hx]; congr 1; unfold Pl.hullLo; rw [List.getElem?_map, List.getElem?_range (by omega)]; rfl
    rw [e]; exact app_i64x _ _
   have n2 : ∀ k, k < d → ∀ x, x = Pl.mx (a2.getD k 0) (b2.getD k 0) → ∀ i, i < (sh k).length + 1 → app (sh k).length (i64F (sh k)) (chop 1 [DV.v (.int .i64 x)]) i = i64F (sh (k + 1)) i := fun k hk x hx => by
    have e : sh (k + 1) = sh k ++ [x] := by
     rw [hsh, hsh, List.take_add_one, hx]; congr 1; unfold Pl.hullHi; rw [List.getElem?_map, List.getElem?_range (by omega)]; rfl
    rw [e]; exact app_i64x _ _
   rw [show Pl.hullLo a1 b1 = sl d by rw [hsl, List.take_of_length_le (by rw [Pl.hullLo_len]; omega)], show Pl.hullHi a2 b2 = sh d by rw [hsh, List.take_of_length_le (by rw [Pl.hullHi_len]; omega)]]
   refine acall_on (mu := []) [(14, [.lay 50, .lay 51])] [] mixed Tryz.func69 rfl rfl rfl ?_
   conv => whnf
   repeat' ((first
   | refine ob ?_
   | refine ⟨_, _, _, .flat _ _ rfl (q1) rfl, ?_⟩
   | refine ⟨_, _, _, .flat _ _ rfl (q2) rfl, ?_⟩
   | ((refine ⟨_, _, _, .flat _ _ rfl (.arg ?harg (q1)) rfl, ?_⟩); case harg => (repeat' (first | exact sm | apply And.intro)))
   | ((refine ⟨_, _, _, .flat _ _ rfl (.arg ?harg (q2)) rfl, ?_⟩); case harg => (repeat' (first | exact sm | apply And.intro))) | (refine And.intro (fun hq => ?_) (fun hq => ?_) <;> first | exact cl1 | ((try simp only [bl] at hq); (try dsimp only at hq); first | exact cl2 | skip))
   | refine fun hq => ?_ | refine ob2 ?_ | fail) <;> conv => whnf)
   refine ⟨[.virtC 7 0 50 2 1, .tell 50 (i64F []), .virtC 7 1 51 2 1, .tell 51 (i64F [])], ?_⟩
   conv => whnf
   refine ⟨Nat, fun k => k ≤ d, fun k => d - k, fun k => [(8, exI .i64 k)], fun k => [(50, .row 2 1 0 false (sl k).length (i64F (sl k))), (51, .row 2 1 0 false (sh k).length (i64F (sh k))), (7, .box 34 [.own 50 0, .own 51 0])], ⟨0, by omega, ?_⟩, ?_⟩
   ·skip
    refine ⟨[], ?_⟩
    conv => whnf
    refine ⟨rfl, ?_, ?_⟩ <;> (repeat' (first | exact trivial | ((rw [hsl]; rfl)) | ((rw [hsh]; rfl)) | ((intro i hi; rw [hsl]; rfl)) | ((intro i hi; rw [hsh]; rfl)) | exact sm | apply And.intro))
   intro k hk
   conv => whnf
   rcases Nat.lt_or_ge k d with hlt | hge
   ·have k1 := l1 k hk
    have k2 := l2 k hk
    have k3 := l1 (k + 1) hlt
    have k4 := l2 (k + 1) hlt
    conv => whnf
    repeat' ((first
    | refine ob ?_
    | (refine And.intro (fun hq => ?_) (fun hq => ?_) <;> first | exact cl1 | ((try simp only [bl] at hq); (try dsimp only at hq); first | exact cl2 | skip))
    | refine fun hq => ?_ | refine ob2 ?_ | fail) <;> conv => whnf)
    refine ⟨k + 1, by omega, by dsimp only; omega, ?_⟩
    refine ⟨[.regen 50 0, .regen 51 0], ?_⟩
    conv => whnf
    refine ⟨rfl, ?_, ?_⟩ <;> (repeat' (first | exact trivial | (exact n1 k hlt _ rfl) | (exact n2 k hlt _ rfl) | (omega) | exact sm | apply And.intro))
   ·obtain rfl : k = d := by omega
    have k1 := l1 k hk
    have k2 := l2 k hk
    conv => whnf
    repeat' ((first
    | refine ob ?_
    | (refine And.intro (fun hq => ?_) (fun hq => ?_) <;> first | exact cl1 | ((try simp only [bl] at hq); (try dsimp only at hq); first | exact cl2 | skip))
    | refine fun hq => ?_ | refine ob2 ?_ | fail) <;> conv => whnf)
    all_goals (repeat' (first | exact trivial | (exact l1 _ (Nat.le_refl _)) | (exact l2 _ (Nat.le_refl _)) | exact sm | apply And.intro))
  ·obtain ⟨rfl, rfl⟩ : b1 = [] ∧ b2 = [] := hb
   have e : hullD ⟨a1, a2⟩ ⟨[], []⟩ = ⟨a1, a2⟩ := by
    unfold hullD Pl.hullB
    dsimp only
    rw [if_neg (fun q => by rw [q] at r2; simp at r2; omega), if_pos rfl]
   rw [e]
   refine acall_on (mu := []) [] [] mixed Tryz.func69 rfl rfl rfl ?_
   conv => whnf
   repeat' ((first
   | refine ob ?_
   | refine ⟨_, _, _, .flat _ _ rfl (q1) rfl, ?_⟩
   | refine ⟨_, _, _, .flat _ _ rfl (q0) rfl, ?_⟩
   | ((refine ⟨_, _, _, .flat _ _ rfl (.arg ?harg (q1)) rfl, ?_⟩); case harg => (repeat' (first | exact sm | apply And.intro)))
   | ((refine ⟨_, _, _, .flat _ _ rfl (.arg ?harg (q0)) rfl, ?_⟩); case harg => (repeat' (first | exact sm | apply And.intro))) | (refine And.intro (fun hq => ?_) (fun hq => ?_) <;> first | exact cl1 | ((try simp only [bl] at hq); (try dsimp only at hq); first | exact cl2 | skip))
   | refine fun hq => ?_ | refine ob2 ?_ | fail) <;> conv => whnf)
   all_goals (repeat' (first | exact sm | apply And.intro))
 ·obtain ⟨rfl, rfl⟩ : a1 = [] ∧ a2 = [] := ha
  have e : hullD ⟨[], []⟩ ⟨b1, b2⟩ = ⟨b1, b2⟩ := by
   unfold hullD Pl.hullB
   dsimp only
   rw [if_pos rfl]
  rw [e]
  rcases hb with hb | hb
  ·obtain ⟨s1, s2, s3, s4⟩ := hz hb
   dsimp only at s1 s2 s3
   have q2 := xright_yes ⟨b1, b2⟩ b1.length s1
   refine acall_on (mu := []) [] [] mixed Tryz.func69 rfl rfl rfl ?_
   conv => whnf
   repeat' ((first
   | refine ob ?_
   | refine ⟨_, _, _, .flat _ _ rfl (q2) rfl, ?_⟩
   | refine ⟨_, _, _, .flat _ _ rfl (q0) rfl, ?_⟩
   | ((refine ⟨_, _, _, .flat _ _ rfl (.arg ?harg (q2)) rfl, ?_⟩); case harg => (repeat' (first | exact sm | apply And.intro)))
   | ((refine ⟨_, _, _, .flat _ _ rfl (.arg ?harg (q0)) rfl, ?_⟩); case harg => (repeat' (first | exact sm | apply And.intro))) | (refine And.intro (fun hq => ?_) (fun hq => ?_) <;> first | exact cl1 | ((try simp only [bl] at hq); (try dsimp only at hq); first | exact cl2 | skip))
   | refine fun hq => ?_ | refine ob2 ?_ | fail) <;> conv => whnf)
   all_goals (repeat' (first | exact sm | apply And.intro))
  ·obtain ⟨rfl, rfl⟩ : b1 = [] ∧ b2 = [] := hb
   refine acall_on (mu := []) [] [] mixed Tryz.func69 rfl rfl rfl ?_
   conv => whnf
   repeat' ((first
   | refine ob ?_
   | refine ⟨_, _, _, .flat _ _ rfl (q0) rfl, ?_⟩
   | ((refine ⟨_, _, _, .flat _ _ rfl (.arg ?harg (q0)) rfl, ?_⟩); case harg => (repeat' (first | exact sm | apply And.intro))) | (refine And.intro (fun hq => ?_) (fun hq => ?_) <;> first | exact cl1 | ((try simp only [bl] at hq); (try dsimp only at hq); first | exact cl2 | skip))
   | refine fun hq => ?_ | refine ob2 ?_ | fail) <;> conv => whnf)
   all_goals (repeat' (first | exact sm | apply And.intro))
theorem r10say_ok (n : NodeD) (d : Int) (h : Pl.NodeOk n) (hr : Pl.nodeR n d = true) (hkd : n.kind = 1) (hz : (Pl.sayN n).size ≤ 1048576) : ACall Tryz.prog 43 [agD (nodeL n)] [] (.tup [agD (kidL (Pl.sayN n)), exB true]) [] := by
 obtain ⟨D, rfl, hrt⟩ := Pl.nodeR_rt hr
 have q := rnbytes_d n (nodeW_of h hrt)
 have q2 := r9sum_d (Pl.nodeB n) (Pl.nodeB_isB hrt h) (by have := Pl.nodeB_len hrt h; omega)
 rw [pgD_eq] at q2
 have hr4 := hrt.rows
 have hk4 := hrt.kids
 have hd := hrt.dd
 obtain ⟨lo, hlo⟩ : ∃ f : Nat → List Int, ∀ k, f k = (Pl.sayR n k).lo := ⟨_, fun _ => rfl⟩
 obtain ⟨hi, hhi⟩ : ∃ f : Nat → List Int, ∀ k, f k = (Pl.sayR n k).hi := ⟨_, fun _ => rfl⟩
 obtain ⟨lv, hlv⟩ : ∃ f : Nat → Int, ∀ k, f k = (Pl.sayR n k).live := ⟨_, fun _ => rfl⟩
 have z1 : lo 0 = [] := hlo 0
 have z2 : hi 0 = [] := hhi 0
 have z3 : lv 0 = 0 := hlv 0
 obtain ⟨Lo, hLo⟩ : ∃ f : Nat → List Int, ∀ k, f k = (Pl.sayA n k).lo := ⟨_, fun _ => rfl⟩
 obtain ⟨Hi, hHi⟩ : ∃ f : Nat → List Int, ∀ k, f k = (Pl.sayA n k).hi := ⟨_, fun _ => rfl⟩
 obtain ⟨Lv, hLv⟩ : ∃ f : Nat → Int, ∀ k, f k = (Pl.sayA n k).live := ⟨_, fun _ => rfl⟩
 obtain ⟨Sz, hSz⟩ : ∃ f : Nat → Int, ∀ k, f k = (Pl.sayA n k).size := ⟨_, fun _ => rfl⟩
 have y1 : Lo 0 = lo n.rows.length := by rw [hLo, hlo]; rfl
 have y2 : Hi 0 = hi n.rows.length := by rw [hHi, hhi]; rfl
 have y3 : Lv 0 = lv n.rows.length := by rw [hLv, hlv]; rfl
 have y4 : Sz 0 = n.rows.length := by rw [hSz]; exact (Kd.sayR_le n n.rows.length (Nat.le_refl _)).2.2
 refine acall_on (mu := []) [] [] mixed Tryz.func43 rfl rfl rfl ?_
 conv => whnf
 repeat' ((first
 | refine ob ?_
 | refine ⟨_, _, _, .gen [] _ _ _ rfl (q) rfl rfl rfl rfl rfl, ?_⟩
 | refine ⟨_, _, _, .flat _ _ rfl (q2) rfl, ?_⟩
 | refine ⟨_, _, _, .gen [] _ _ _ rfl (q2) rfl rfl rfl rfl rfl, ?_⟩
 | ((refine ⟨_, _, _, .gen [] _ _ _ rfl (.arg ?harg (q)) rfl rfl rfl rfl rfl, ?_⟩); case harg => (repeat' (first | exact sm | apply And.intro)))
 | ((refine ⟨_, _, _, .flat _ _ rfl (.arg ?harg (q2)) rfl, ?_⟩); case harg => (repeat' (first | exact sm | apply And.intro)))
 | ((refine ⟨_, _, _, .gen [] _ _ _ rfl (.arg ?harg (q2)) rfl rfl rfl rfl rfl, ?_⟩); case harg => (repeat' (first | exact sm | apply And.intro))) | (refine And.intro (fun hq => ?_) (fun hq => ?_) <;> first | exact cl1 | ((try simp only [bl] at hq); (try dsimp only at hq); first | exact cl2 | skip))
 | refine fun hq => ?_ | refine ob3 ?_ | fail) <;> conv => whnf)
 refine ⟨[], ?_⟩
 conv => whnf
 refine ⟨Nat, fun i => i ≤ n.rows.length, fun i => n.rows.length - i, fun i => [(5, exI .i64 i)], fun i => [(4, .box 36 ((kidL ⟨Pl.sum9 (Pl.nodeB n), lo i, hi i, lv i, (i : Nat), []⟩).map .d))], ⟨0, by omega, ?_⟩, ?_⟩
 ·skip
  refine ⟨[], ?_⟩
  conv => whnf
  refine ⟨rfl, ?_, ?_⟩ <;> (repeat' (first | exact trivial | ((try intro k_ hk_); rw [z1]; first | done | rfl) | ((try intro k_ hk_); rw [z2]; first | done | rfl) | ((try intro k_ hk_); rw [z3]; first | done | rfl) | exact sm | apply And.intro))
 intro i hi0
 conv => whnf
 rcases Nat.lt_or_ge i n.rows.length with hlt | hge
 ·have hs := Pl.sayR_one n i hlt
  have hI := Pl.sayR_i hrt h i hi0
  have hle := Kd.sayR_le n i hi0
  have hrow := hrt.row i hlt
  have c2 := rhull_ok ⟨lo i, hi i⟩ ⟨(n.rows.getD i default).row, (n.rows.getD i default).row⟩ D (by rw [hlo, hhi]; exact hI.b) (.inl (Pl.row_right hd.1 hd.2 hrow))
  rw [← hlv] at hle
  have m1 : lo (i + 1) = (if (n.rows.getD i default).live = true then (hullD ⟨lo i, hi i⟩ ⟨(n.rows.getD i default).row, (n.rows.getD i default).row⟩).lo else lo i) := by
   rw [hlo, hs, hlo, hhi]; unfold Pl.sayE; split <;> rfl
  have m2 : hi (i + 1) = (if (n.rows.getD i default).live = true then (hullD ⟨lo i, hi i⟩ ⟨(n.rows.getD i default).row, (n.rows.getD i default).row⟩).hi else hi i) := by
   rw [hhi, hs, hlo, hhi]; unfold Pl.sayE; split <;> rfl
  have m3 : lv (i + 1) = (if (n.rows.getD i default).live = true then lv i + 1 else lv i) := by
   rw [hlv, hs, hlv]; unfold Pl.sayE; split <;> rfl
  clear hs hI
  conv => whnf
  repeat' ((first
  | refine ob ?_
  | refine ⟨_, _, _, .gen [] _ _ _ rfl (c2) rfl rfl rfl rfl rfl, ?_⟩
  | ((refine ⟨_, _, _, .gen [] _ _ _ rfl (.arg ?harg (c2)) rfl rfl rfl rfl rfl, ?_⟩); case harg => (repeat' (first | exact sm | apply And.intro))) | (refine And.intro (fun hq => ?_) (fun hq => ?_) <;> first | exact cl1 | ((try simp only [bl] at hq); (try dsimp only at hq); first | exact cl2 | skip))
  | refine fun hq => ?_ | refine ob3 ?_ | fail) <;> conv => whnf)
  ·have hv : (n.rows.getD i default).live = true := hq
   rw [if_pos hv] at m1 m2 m3
   refine ⟨i + 1, by omega, by dsimp only; omega, ?_⟩
   refine ⟨[], ?_⟩
   conv => whnf
   refine ⟨rfl, ?_, ?_⟩ <;> (repeat' (first | exact trivial | ((try intro k_ hk_); rw [m1]; first | done | rfl) | ((try intro k_ hk_); rw [m2]; first | done | rfl) | ((try intro k_ hk_); rw [m3]; first | done | rfl) | exact sm | apply And.intro))
  ·have hv : ¬ (n.rows.getD i default).live = true := by rw [show (n.rows.getD i default).live = false from hq]; decide
   rw [if_neg hv] at m1 m2 m3
   refine ⟨i + 1, by omega, by dsimp only; omega, ?_⟩
   refine ⟨[], ?_⟩
   conv => whnf
   refine ⟨rfl, ?_, ?_⟩ <;> (repeat' (first | exact trivial | ((try intro k_ hk_); rw [m1]; first | done | rfl) | ((try intro k_ hk_); rw [m2]; first | done | rfl) | ((try intro k_ hk_); rw [m3]; first | done | rfl) | exact sm | apply And.intro))
 ·obtain rfl : i = n.rows.length := by omega
  conv => whnf
  repeat' ((first
  | refine ob ?_
  | (refine And.intro (fun hq => ?_) (fun hq => ?_) <;> first | exact cl1 | ((try simp only [bl] at hq); (try dsimp only at hq); first | exact cl2 | skip))
  | refine fun hq => ?_ | refine ob3 ?_ | fail) <;> conv => whnf)
  refine ⟨[], ?_⟩
  conv => whnf
  refine ⟨Nat, fun j => j ≤ n.kids.length, fun j => n.kids.length - j, fun j => [(6, exI .i64 j)], fun j => [(4, .box 36 ((kidL ⟨Pl.sum9 (Pl.nodeB n), Lo j, Hi j, Lv j, Sz j, []⟩).map .d))], ⟨0, by omega, ?_⟩, ?_⟩
  ·skip
   refine ⟨[], ?_⟩
   conv => whnf
   refine ⟨rfl, ?_, ?_⟩ <;> (repeat' (first | exact trivial | ((try intro k_ hk_); rw [y1]; first | done | rfl) | ((try intro k_ hk_); rw [y2]; first | done | rfl) | ((try intro k_ hk_); rw [y3]; first | done | rfl) | ((try intro k_ hk_); rw [y4]; first | done | rfl) | exact sm | apply And.intro))
  intro j hj
  conv => whnf
  rcases Nat.lt_or_ge j n.kids.length with hjt | hjg
  ·have hs := Pl.sayA_one n j hjt
   have hI := Pl.sayA_i hrt h j hj
   have hkr := hrt.kid j hjt
   have hkb := Pl.kidR_box hkr
   have c2 := rhull_ok ⟨Lo j, Hi j⟩ (n.kids.getD j default).bx D (by rw [hLo, hHi]; exact hI.b) hkb.1
   have hl := hI.l
   have hz2 := hI.z
   rw [← hLv] at hl
   rw [← hSz] at hz2
   have hk1 : 0 ≤ (n.kids.getD ((j : Int)).toNat default).live ∧ (n.kids.getD ((j : Int)).toNat default).live ≤ 1048576 := hkb.2.2.1
   have hk2 : 0 ≤ (n.kids.getD ((j : Int)).toNat default).size ∧ (n.kids.getD ((j : Int)).toNat default).size ≤ 1048576 := hkb.2.2.2
   have m1 : Lo (j + 1) = (hullD ⟨Lo j, Hi j⟩ (n.kids.getD j default).bx).lo := by rw [hLo, hs, hLo, hHi]; rfl
   have m2 : Hi (j + 1) = (hullD ⟨Lo j, Hi j⟩ (n.kids.getD j default).bx).hi := by rw [hHi, hs, hLo, hHi]; rfl
   have m3 : Lv (j + 1) = Lv j + (n.kids.getD j default).live := by rw [hLv, hs, hLv]; rfl
   have m4 : Sz (j + 1) = Sz j + (n.kids.getD j default).size := by rw [hSz, hs, hSz]; rfl
   clear hs hI hkb hkr
   conv => whnf
   repeat' ((first
   | refine ob ?_
   | refine ⟨_, _, _, .gen [] _ _ _ rfl (c2) rfl rfl rfl rfl rfl, ?_⟩
   | ((refine ⟨_, _, _, .gen [] _ _ _ rfl (.arg ?harg (c2)) rfl rfl rfl rfl rfl, ?_⟩); case harg => (repeat' (first | exact sm | apply And.intro))) | (refine And.intro (fun hq => ?_) (fun hq => ?_) <;> first | exact cl1 | ((try simp only [bl] at hq); (try dsimp only at hq); first | exact cl2 | skip))
   | refine fun hq => ?_ | refine ob3 ?_ | fail) <;> conv => whnf)
   refine ⟨j + 1, by omega, by dsimp only; omega, ?_⟩
   refine ⟨[], ?_⟩
   conv => whnf
   refine ⟨rfl, ?_, ?_⟩ <;> (repeat' (first | exact trivial | ((try intro k_ hk_); rw [m1]; first | done | rfl) | ((try intro k_ hk_); rw [m2]; first | done | rfl) | ((try intro k_ hk_); rw [m3]; first | done | rfl) | ((try intro k_ hk_); rw [m4]; first | done | rfl) | exact sm | apply And.intro))
  ·obtain rfl : j = n.kids.length := by omega
   have hkey : Pl.keyN n = [] := by unfold Pl.keyN; rw [if_neg (by omega), if_neg (by omega)]
   have e : Pl.sayN n = ⟨Pl.sum9 (Pl.nodeB n), Lo n.kids.length, Hi n.kids.length, Lv n.kids.length, Sz n.kids.length, []⟩ := by rw [hLo, hHi, hLv, hSz, ← hkey]; rfl
   rw [e] at hz ⊢
   dsimp only at hz
   conv => whnf
   repeat' ((first
   | refine ob ?_
   | (refine And.intro (fun hq => ?_) (fun hq => ?_) <;> first | exact cl1 | ((try simp only [bl] at hq); (try dsimp only at hq); first | exact cl2 | skip))
   | refine fun hq => ?_ | refine ob3 ?_ | fail) <;> conv => whnf)
   all_goals (repeat' (first | exact sm | apply And.intro))
end Go.Proofs.YtedokpgkjcnoiaaGreat
