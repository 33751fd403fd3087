/- box.copied, box.Of, box.Hull, in the new way. Chapter 11's statements: Dims, fit; scripts as data. box.Same, node.Same, node.Empty, node.KidRight. -/
import Derived.Test.YtedokpgkjcnoiaaGreatQ17
import Derived.Test.YtedokpgkjcnoiaaGreatQ19
import Derived.Test.YtedokpgkjcnoiaaGreatQ22
set_option linter.unusedVariables false
set_option linter.unusedSimpArgs false
namespace Go.Proofs.YtedokpgkjcnoiaaGreat
open Go.RowKit
set_option maxRecDepth 100000
set_option maxHeartbeats 4000000
def i64F (l : List Int) (i : Nat) : List DV := [.v (.int .i64 (l.getD i 0))]
theorem iclone_ok (n : Nat) (f : Nat → List DV) (hl : n ≤ 100000000000) : ACall Tryz.prog 82 [.d (.sl 1 n f)] [] (.d (.sl 1 n f)) [] := by
 rcases n with _ | n
 ·refine ACall.none0 (pre := []) (post := []) fun A c => ?_
  refine acall_on (mu := [5]) [] [] mixed Tryz.func82 rfl rfl rfl ?_
  conv => whnf
  repeat' ((first
  | refine ob ?_
  | (refine And.intro (fun hq => ?_) (fun hq => ?_) <;> first | exact cl1 | exact cl3 | skip)
  | refine ob2 ?_ | refine ob4 ?_ | refine fun hq => ?_ | fail) <;> conv => whnf)
  all_goals (repeat' (first | exact sm | apply And.intro))
 ·have h0 : 0 < n + 1 := by omega
  refine acall_on (mu := [5]) [] [] mixed Tryz.func82 rfl rfl rfl ?_
  conv => whnf
  repeat' ((first
  | refine ob ?_
  | (refine And.intro (fun hq => ?_) (fun hq => ?_) <;> first | exact cl1 | exact cl3 | skip)
  | refine ob2 ?_ | refine ob4 ?_ | refine fun hq => ?_ | fail) <;> conv => whnf)
  all_goals (repeat' (first | exact trivial | (exact fun k _ => app_ge (Nat.zero_le k)) | (exact Nat.zero_add _) | exact sm | apply And.intro))
/-- .. as a row of one's own -/
theorem icloneO5 (l : List Int) (h0 : 0 < l.length) (hl : l.length ≤ 100000000000) : ACall Tryz.prog 82 [.d (i64L l)] [] (.own 5 1) [(5, .row 2 1 1 false l.length (i64F l))] := by
 refine acall_on (mu := [5]) [] [] mixed Tryz.func82 rfl rfl rfl ?_
 conv => whnf
 repeat' ((first
 | refine ob ?_
 | (refine And.intro (fun hq => ?_) (fun hq => ?_) <;> first | exact cl1 | exact cl3 | skip)
 | refine ob2 ?_ | refine ob4 ?_ | refine fun hq => ?_ | fail) <;> conv => whnf)
 all_goals (repeat' (first | exact trivial | (exact fun k _ => app_ge (Nat.zero_le k)) | (exact Nat.zero_add _) | exact sm | apply And.intro))
theorem icloneO (K : Nat) (l : List Int) (h0 : 0 < l.length) (hl : l.length ≤ 100000000000) : ACall Tryz.prog 82 [.d (i64L l)] [] (.own K 1) [(K, .row 2 1 1 false l.length (i64F l))] := by
 obtain ⟨σ, τ, hστ, e1⟩ := names1 5 K
 have q := (icloneO5 l h0 hl).ren (σ := σ) (τ := τ) (δ := fun _ => 0) hστ (by intros; rfl)
 simpa [mapC, mapA, mapA1, rnA, rnH, rnO, e1] using q
theorem copied_d (b : BoxD) (h1 : b.lo.length ≤ 1000000) (h2 : b.hi.length ≤ 1000000) : ACall Tryz.prog 127 [agD (boxL b)] [] (agD (boxL b)) [] := by
 have q1 := iclone_ok b.lo.length (i64F b.lo) (by omega)
 have q2 := iclone_ok b.hi.length (i64F b.hi) (by omega)
 refine acall_on (mu := []) [] [] mixed Tryz.func127 rfl rfl rfl ?_
 conv => whnf
 repeat' ((first
 | refine ob ?_
 | refine ⟨_, _, _, .gen [] _ _ _ rfl (q1) rfl rfl rfl rfl rfl, ?_⟩
 | refine ⟨_, _, _, .gen [] _ _ _ rfl (q2) rfl rfl rfl rfl rfl, ?_⟩
 | ((refine ⟨_, _, _, .gen [] _ _ _ rfl (.arg ?harg (q1)) rfl rfl rfl rfl rfl, ?_⟩); case harg => (repeat' (first | exact sm | apply And.intro)))
 | ((refine ⟨_, _, _, .gen [] _ _ _ rfl (.arg ?harg (q2)) rfl rfl rfl rfl rfl, ?_⟩); case harg => (repeat' (first | exact sm | apply And.intro))) | (refine And.intro (fun hq => ?_) (fun hq => ?_) <;> first | exact cl1 | exact cl3 | skip)
 | refine ob2 ?_ | refine ob4 ?_ | refine fun hq => ?_ | fail) <;> conv => whnf)
 all_goals (repeat' (first | exact sm | apply And.intro))
theorem copied_o (b : BoxD) (h01 : 0 < b.lo.length) (h02 : 0 < b.hi.length) (h1 : b.lo.length ≤ 1000000) (h2 : b.hi.length ≤ 1000000) : ACall Tryz.prog 127 [agD (boxL b)] [] (.agg [.own 901 1, .own 902 1]) [(901, .row 2 1 1 false b.lo.length (i64F b.lo)), (902, .row 2 1 1 false b.hi.length (i64F b.hi))] := by
 have q1 := icloneO 901 b.lo h01 (by omega)
 have q2 := icloneO 902 b.hi h02 (by omega)
 refine acall_on (mu := []) [] [] mixed Tryz.func127 rfl rfl rfl ?_
 conv => whnf
 refine ⟨_, _, _, .gen [] _ _ _ rfl q1 rfl rfl rfl rfl rfl, ?_⟩
 conv => whnf
 refine ⟨_, _, _, .gen [] _ _ _ rfl q2 rfl rfl rfl rfl rfl, ?_⟩
 conv => whnf
 conv => whnf
 repeat' ((first
 | refine ob ?_
 | (refine And.intro (fun hq => ?_) (fun hq => ?_) <;> first | exact cl1 | exact cl3 | skip)
 | refine ob2 ?_ | refine ob4 ?_ | refine fun hq => ?_ | fail) <;> conv => whnf)
 all_goals (repeat' (first | exact sm | apply And.intro))
theorem boxR_eq (lo hi : List Int) (d : Int) : boxR ⟨lo, hi⟩ d = Pl.rightB lo hi d := by
 rw [Bool.eq_iff_iff]
 unfold boxR Pl.rightB Pl.leAll allTo
 simp only [Bool.and_eq_true, decide_eq_true_eq, List.all_eq_true, List.mem_range]
 constructor
 ·rintro ⟨h1, h2, h3, h4, h5⟩
  exact ⟨⟨⟨⟨h1, h2⟩, h3⟩, h4⟩, fun i hi => h5 i (by omega)⟩
 ·rintro ⟨⟨⟨⟨h1, h2⟩, h3⟩, h4⟩, h5⟩
  exact ⟨h1, h2, h3, h4, fun i hi => h5 i (by omega)⟩
def hullD (a b : BoxD) : BoxD := ⟨(Pl.hullB (a.lo, a.hi) (b.lo, b.hi)).1, (Pl.hullB (a.lo, a.hi) (b.lo, b.hi)).2⟩
def mixI (g f : Nat → Int) (n k : Nat) : List Int := (List.range n).map fun i => if i < k then g i else f i
theorem mixI_len (g f : Nat → Int) (n k : Nat) : (mixI g f n k).length = n := by simp [mixI]
theorem mixI_get (g f : Nat → Int) (n k i : Nat) (h : i < n) : (mixI g f n k).getD i 0 = if i < k then g i else f i := by
 unfold mixI
 rw [List.getD_eq_getElem?_getD, List.getElem?_map, List.getElem?_range h]; rfl
theorem mixI_zero (g : Nat → Int) (l : List Int) : mixI g (fun i => l.getD i 0) l.length 0 = l := by
 apply List.ext_getElem (mixI_len _ _ _ _)
 intro i h1 h2
 have := mixI_get g (fun i => l.getD i 0) l.length 0 i h2
 rw [if_neg (by omega), List.getD_eq_getElem?_getD, List.getD_eq_getElem?_getD, List.getElem?_eq_getElem h1, List.getElem?_eq_getElem h2] at this
 exact this
theorem store_mix (g f : Nat → Int) (n k : Nat) (z : Int) (hz : z.toNat = k) (h : k < n) (x : Int) (hx : x = g k) : ∀ i, i < n → (if i = z.toNat then spl (i64F (mixI g f n k) z.toNat) 0 [DV.v (.int .i64 x)] else i64F (mixI g f n k) i) = i64F (mixI g f n (k + 1)) i := fun i hi => by
 subst hx
 rw [hz]
 unfold i64F
 rw [mixI_get _ _ _ _ _ hi, mixI_get _ _ _ _ _ hi]
 by_cases e : i = k
 ·rw [if_pos e, if_pos (by omega), e]; rfl
 ·rw [if_neg e]
  by_cases q : i < k
  ·rw [if_pos q, if_pos (by omega)]
  ·rw [if_neg q, if_neg (by omega)]
theorem hull_ok (a b : BoxD) (d : Nat) (ha : Pl.boxOk (a.lo, a.hi) d) (hb : Pl.boxOk (b.lo, b.hi) d) : ACall Tryz.prog 80 [agD (boxL a), agD (boxL b)] [] (agD (boxL (hullD a b))) [] := by
 obtain ⟨al, ah⟩ := a
 obtain ⟨bl, bh⟩ := b
 have la := Pl.boxOk_len ha
 have lb := Pl.boxOk_len hb
 dsimp only at la lb
 have q1 := boxr_any ⟨al, ah⟩ al.length (by dsimp only; omega) (by dsimp only; omega)
 have q2 := boxr_any ⟨bl, bh⟩ bl.length (by dsimp only; omega) (by dsimp only; omega)
 rw [boxR_eq] at q1 q2
 have z0 : Pl.rightB ([] : List Int) [] (([] : List Int).length : Int) = false := rfl
 have hz : ∀ {lo hi : List Int}, Pl.rightB lo hi (d : Int) = true → Pl.rightB lo hi (lo.length : Int) = true ∧ lo.length = d ∧ hi.length = d ∧ 0 < d := fun {lo hi} h => by
  have := Pl.rightB_len h
  have e : lo.length = d := by omega
  exact ⟨by rw [e]; exact h, e, by omega, by omega⟩
 rcases ha with ha | ha
 ·obtain ⟨r1, r2, r3, r4⟩ := hz ha
  dsimp only at r1 r2 r3
  rw [r1] at q1
  rcases hb with hb | hb
  ·obtain ⟨s1, s2, s3, s4⟩ := hz hb
   dsimp only at s1 s2 s3
   rw [s1] at q2
   have e : hullD ⟨al, ah⟩ ⟨bl, bh⟩ = ⟨Pl.hullLo al bl, Pl.hullHi ah bh⟩ := by
    unfold hullD Pl.hullB
    dsimp only
    rw [if_neg (fun q => by rw [q] at r2; simp at r2; omega), if_neg (fun q => by rw [q] at s2; simp at s2; omega)]
   rw [e]
   have q3 := copied_o ⟨al, ah⟩ (by dsimp only; omega) (by dsimp only; omega) (by dsimp only; omega) (by dsimp only; omega)
   obtain ⟨sl, hsl⟩ : ∃ sl : Nat → List Int, ∀ k, sl k = mixI (fun i => Pl.mn (al.getD i 0) (bl.getD i 0)) (fun i => al.getD i 0) d k := ⟨_, fun _ => rfl⟩
   obtain ⟨sh, hsh⟩ : ∃ sl : Nat → List Int, ∀ k, sl k = mixI (fun i => Pl.mx (ah.getD i 0) (bh.getD i 0)) (fun i => ah.getD i 0) d k := ⟨_, fun _ => rfl⟩
   have l1 : ∀ k, (sl k).length = d := fun k => by rw [hsl, mixI_len]
   have l2 : ∀ k, (sh k).length = d := fun k => by rw [hsh, mixI_len]
   have z1 : sl 0 = al := by rw [hsl, ← r2]; exact mixI_zero _ al
   have z2 : sh 0 = ah := by rw [hsh, ← r3]; exact mixI_zero _ ah
   have e1 : sl d = Pl.hullLo al bl := by
    rw [hsl]; unfold mixI Pl.hullLo
    rw [r2]
    refine List.map_congr_left fun i hi => ?_
    rw [if_pos (List.mem_range.1 hi)]
   have e2 : sh d = Pl.hullHi ah bh := by
    rw [hsh]; unfold mixI Pl.hullHi
    rw [r3]
    refine List.map_congr_left fun i hi => ?_
    rw [if_pos (List.mem_range.1 hi)]
   have n1 : ∀ (k : Nat) (z : Int) (x : Int), z.toNat = k → k < d → x = Pl.mn (al.getD k 0) (bl.getD k 0) → ∀ i, i < d → (if i = z.toNat then spl (i64F (sl k) z.toNat) 0 [DV.v (.int .i64 x)] else i64F (sl k) i) = i64F (sl (k + 1)) i := fun k z x h1 h2 h3 => by
    rw [hsl, hsl]; exact store_mix _ _ d k z h1 h2 x h3
   have n2 : ∀ (k : Nat) (z : Int) (x : Int), z.toNat = k → k < d → x = Pl.mx (ah.getD k 0) (bh.getD k 0) → ∀ i, i < d → (if i = z.toNat then spl (i64F (sh k) z.toNat) 0 [DV.v (.int .i64 x)] else i64F (sh k) i) = i64F (sh (k + 1)) i := fun k z x h1 h2 h3 => by
    rw [hsh, hsh]; exact store_mix _ _ d k z h1 h2 x h3
   rw [← e1, ← e2]
   refine acall_on (mu := []) [] [] mixed Tryz.func80 rfl rfl rfl ?_
   conv => whnf
   repeat' ((first
   | refine ob ?_
   | refine ⟨_, _, _, .flat _ _ rfl (q1) rfl, ?_⟩
   | refine ⟨_, _, _, .flat _ _ rfl (q2) rfl, ?_⟩
   | refine ⟨_, _, _, .gen [] _ _ _ rfl (q3) rfl rfl rfl rfl rfl, ?_⟩
   | ((refine ⟨_, _, _, .flat _ _ rfl (.arg ?harg (q1)) rfl, ?_⟩); case harg => (repeat' (first | exact sm | apply And.intro)))
   | ((refine ⟨_, _, _, .flat _ _ rfl (.arg ?harg (q2)) rfl, ?_⟩); case harg => (repeat' (first | exact sm | apply And.intro)))
   | ((refine ⟨_, _, _, .gen [] _ _ _ rfl (.arg ?harg (q3)) rfl rfl rfl rfl rfl, ?_⟩); case harg => (repeat' (first | exact sm | apply And.intro))) | (refine And.intro (fun hq => ?_) (fun hq => ?_) <;> first | exact cl1 | ((try simp only [bl] at hq); (try dsimp only at hq); first | exact cl2 | skip))
   | refine fun hq => ?_ | refine ob2 ?_ | fail) <;> conv => whnf)
   refine ⟨[], ?_⟩
   conv => whnf
   refine ⟨Nat, fun k => k ≤ d, fun k => d - k, fun k => [(53, exI .i64 k)], fun k => [(901, .row 2 1 1 false d (i64F (sl k))), (902, .row 2 1 1 false d (i64F (sh k)))], ⟨0, by omega, ?_⟩, ?_⟩
   ·skip
    refine ⟨[], ?_⟩
    conv => whnf
    refine ⟨rfl, ?_, ?_⟩ <;> (repeat' (first | exact trivial | ((rw [z1]; done)) | ((rw [z2]; done)) | ((rw [z1]; rfl)) | ((rw [z2]; rfl)) | (exact r2) | (exact r3) | ((intro i hi; rw [z1])) | ((intro i hi; rw [z2])) | exact sm | apply And.intro))
   intro k hk
   conv => whnf
   rcases Nat.lt_or_ge k d with hlt | hge
   ·skip
    conv => whnf
    repeat' ((first
    | refine ob ?_
    | (refine And.intro (fun hq => ?_) (fun hq => ?_) <;> first | exact cl1 | ((try simp only [bl] at hq); (try dsimp only at hq); first | exact cl2 | skip))
    | refine fun hq => ?_ | refine ob2 ?_ | fail) <;> conv => whnf)
    refine ⟨k + 1, by omega, by dsimp only; omega, ?_⟩
    refine ⟨[], ?_⟩
    conv => whnf
    refine ⟨rfl, ?_, ?_⟩ <;> (repeat' (first | exact trivial | (exact n1 k _ _ (by omega) hlt rfl) | (exact n2 k _ _ (by omega) hlt rfl) | exact sm | apply And.intro))
   ·obtain rfl : k = d := by omega
    conv => whnf
    repeat' ((first
    | refine ob ?_
    | (refine And.intro (fun hq => ?_) (fun hq => ?_) <;> first | exact cl1 | ((try simp only [bl] at hq); (try dsimp only at hq); first | exact cl2 | skip))
    | refine fun hq => ?_ | refine ob2 ?_ | fail) <;> conv => whnf)
    all_goals (repeat' (first | exact trivial | (exact l1 _) | (exact l2 _) | (exact (l1 _).symm) | (exact (l2 _).symm) | exact sm | apply And.intro))
  ·obtain ⟨rfl, rfl⟩ : bl = [] ∧ bh = [] := hb
   rw [z0] at q2
   have e : hullD ⟨al, ah⟩ ⟨[], []⟩ = ⟨al, ah⟩ := by
    unfold hullD Pl.hullB
    dsimp only
    rw [if_neg (fun q => by rw [q] at r2; simp at r2; omega), if_pos rfl]
   rw [e]
   have q3 := copied_d ⟨al, ah⟩ (by dsimp only; omega) (by dsimp only; omega)
   refine acall_on (mu := []) [] [] mixed Tryz.func80 rfl rfl rfl ?_
   conv => whnf
   repeat' ((first
   | refine ob ?_
   | refine ⟨_, _, _, .flat _ _ rfl (q1) rfl, ?_⟩
   | refine ⟨_, _, _, .flat _ _ rfl (q2) rfl, ?_⟩
   | refine ⟨_, _, _, .gen [] _ _ _ rfl (q3) rfl rfl rfl rfl rfl, ?_⟩
   | ((refine ⟨_, _, _, .flat _ _ rfl (.arg ?harg (q1)) rfl, ?_⟩); case harg => (repeat' (first | exact sm | apply And.intro)))
   | ((refine ⟨_, _, _, .flat _ _ rfl (.arg ?harg (q2)) rfl, ?_⟩); case harg => (repeat' (first | exact sm | apply And.intro)))
   | ((refine ⟨_, _, _, .gen [] _ _ _ rfl (.arg ?harg (q3)) rfl rfl rfl rfl rfl, ?_⟩); case harg => (repeat' (first | exact sm | apply And.intro))) | (refine And.intro (fun hq => ?_) (fun hq => ?_) <;> first | exact cl1 | ((try simp only [bl] at hq); (try dsimp only at hq); first | exact cl2 | skip))
   | refine fun hq => ?_ | refine ob2 ?_ | fail) <;> conv => whnf)
   all_goals (repeat' (first | exact sm | apply And.intro))
 ·obtain ⟨rfl, rfl⟩ : al = [] ∧ ah = [] := ha
  rw [z0] at q1
  have e : hullD ⟨[], []⟩ ⟨bl, bh⟩ = ⟨bl, bh⟩ := by
   unfold hullD Pl.hullB
   dsimp only
   rw [if_pos rfl]
  rw [e]
  rcases hb with hb | hb
  ·obtain ⟨s1, s2, s3, s4⟩ := hz hb
   dsimp only at s1 s2 s3
   rw [s1] at q2
   have q3 := copied_d ⟨bl, bh⟩ (by dsimp only; omega) (by dsimp only; omega)
   refine acall_on (mu := []) [] [] mixed Tryz.func80 rfl rfl rfl ?_
   conv => whnf
   repeat' ((first
   | refine ob ?_
   | refine ⟨_, _, _, .flat _ _ rfl (q1) rfl, ?_⟩
   | refine ⟨_, _, _, .flat _ _ rfl (q2) rfl, ?_⟩
   | refine ⟨_, _, _, .gen [] _ _ _ rfl (q3) rfl rfl rfl rfl rfl, ?_⟩
   | ((refine ⟨_, _, _, .flat _ _ rfl (.arg ?harg (q1)) rfl, ?_⟩); case harg => (repeat' (first | exact sm | apply And.intro)))
   | ((refine ⟨_, _, _, .flat _ _ rfl (.arg ?harg (q2)) rfl, ?_⟩); case harg => (repeat' (first | exact sm | apply And.intro)))
   | ((refine ⟨_, _, _, .gen [] _ _ _ rfl (.arg ?harg (q3)) rfl rfl rfl rfl rfl, ?_⟩); case harg => (repeat' (first | exact sm | apply And.intro))) | (refine And.intro (fun hq => ?_) (fun hq => ?_) <;> first | exact cl1 | ((try simp only [bl] at hq); (try dsimp only at hq); first | exact cl2 | skip))
   | refine fun hq => ?_ | refine ob2 ?_ | fail) <;> conv => whnf)
   all_goals (repeat' (first | exact sm | apply And.intro))
  ·obtain ⟨rfl, rfl⟩ : bl = [] ∧ bh = [] := hb
   rw [z0] at q2
   refine acall_on (mu := []) [] [] mixed Tryz.func80 rfl rfl rfl ?_
   conv => whnf
   repeat' ((first
   | refine ob ?_
   | refine ⟨_, _, _, .flat _ _ rfl (q1) rfl, ?_⟩
   | refine ⟨_, _, _, .flat _ _ rfl (q2) rfl, ?_⟩
   | ((refine ⟨_, _, _, .flat _ _ rfl (.arg ?harg (q1)) rfl, ?_⟩); case harg => (repeat' (first | exact sm | apply And.intro)))
   | ((refine ⟨_, _, _, .flat _ _ rfl (.arg ?harg (q2)) rfl, ?_⟩); case harg => (repeat' (first | exact sm | apply And.intro))) | (refine And.intro (fun hq => ?_) (fun hq => ?_) <;> first | exact cl1 | ((try simp only [bl] at hq); (try dsimp only at hq); first | exact cl2 | skip))
   | refine fun hq => ?_ | refine ob2 ?_ | fail) <;> conv => whnf)
   all_goals (repeat' (first | exact sm | apply And.intro))
theorem of_ok (p : List Int) (h1 : 1 ≤ p.length) (h8 : p.length ≤ 8) : ACall Tryz.prog 81 [.d (i64L p)] [] (agD (boxL ⟨p, p⟩)) [] := by
 have q1 := iclone_ok p.length (i64F p) (by omega)
 refine acall_on (mu := []) [] [] mixed Tryz.func81 rfl rfl rfl ?_
 conv => whnf
 repeat' ((first
 | refine ob ?_
 | refine ⟨_, _, _, .gen [] _ _ _ rfl (q1) rfl rfl rfl rfl rfl, ?_⟩
 | ((refine ⟨_, _, _, .gen [] _ _ _ rfl (.arg ?harg (q1)) rfl rfl rfl rfl rfl, ?_⟩); case harg => (repeat' (first | exact sm | apply And.intro))) | (refine And.intro (fun hq => ?_) (fun hq => ?_) <;> first | exact cl1 | ((try simp only [bl] at hq); (try dsimp only at hq); first | exact cl2 | skip))
 | refine fun hq => ?_ | refine ob2 ?_ | fail) <;> conv => whnf)
 all_goals (repeat' (first | exact sm | apply And.intro))
end Go.Proofs.YtedokpgkjcnoiaaGreat
namespace Go.Proofs.YtedokpgkjcnoiaaGreat
open Go.RowKit
open Kd (Rw RwOk)
set_option maxRecDepth 100000
set_option maxHeartbeats 4000000
def fitD (p : Rw) (d : Nat) : Rw := mixI (fun i => p.getD i 0) (fun _ => 0) d (min p.length d)
theorem fitD_ok {p : Rw} (h : Pl.IsI p) (d : Nat) : RwOk d (fitD p d) := ⟨mixI_len _ _ _ _, fun i => by
 unfold fitD
 rcases Nat.lt_or_ge i d with q | q
 ·rw [mixI_get _ _ _ _ _ q]
  split
  ·exact h i
  ·omega
 ·have : (mixI (fun i => p.getD i 0) (fun _ => 0) d (min p.length d)).getD i 0 = 0 := by rw [List.getD_eq_getElem?_getD, List.getElem?_eq_none (by rw [mixI_len]; exact q)]; rfl
  rw [this]; omega⟩
theorem ldims_ok (z : Nat) (hz : z < 256) : ACall Tryz.prog 8 [.d (.v (.int .u8 (z : Nat)))] [] (exI .i64 ((1 + z % 5 : Nat) : Int)) [] := by
 have e : 1 + (z : Int).tmod 5 = ((1 + z % 5 : Nat) : Int) := by rw [Int.tmod_eq_emod_of_nonneg (by omega)]; omega
 rw [← e]
 have e2 : 0 ≤ (z : Int).tmod 5 ∧ (z : Int).tmod 5 < 5 := by rw [Int.tmod_eq_emod_of_nonneg (by omega)]; omega
 refine acall_of (mu := []) mixed Tryz.func8 rfl rfl rfl ?_
 conv => whnf
 repeat' ((first
 | refine ob ?_
 | (refine And.intro (fun hq => ?_) (fun hq => ?_) <;> first | exact cl1 | ((try simp only [bl] at hq); (try dsimp only at hq); first | exact cl2 | skip))
 | refine fun hq => ?_ | refine ob3 ?_ | fail) <;> conv => whnf)
 all_goals (repeat' (first | exact sm | apply And.intro))
theorem lfit_ok (p : Rw) (d : Nat) (h1 : 1 ≤ d) (h8 : d ≤ 8) : ACall Tryz.prog 9 [.d (i64L p), exI .i64 d] [] (.d (i64L (fitD p d))) [] := by
 obtain ⟨st, hst⟩ : ∃ st : Nat → Rw, ∀ k, st k = mixI (fun i => p.getD i 0) (fun _ => 0) d k := ⟨_, fun _ => rfl⟩
 have hl1 : ∀ k, (st k).length = d := fun k => by rw [hst, mixI_len]
 have n1 : ∀ (k : Nat) (z : Int) (x : Int), z.toNat = k → k < d → x = p.getD k 0 → ∀ i, i < d → (if i = z.toNat then spl (i64F (st k) z.toNat) 0 [DV.v (.int .i64 x)] else i64F (st k) i) = i64F (st (k + 1)) i := fun k z x h1 h2 h3 => by
  rw [hst, hst]; exact store_mix _ _ d k z h1 h2 x h3
 have z1 : ∀ i, i < d → i64F (st 0) i = [DV.v (.int .i64 0)] := fun i hi => by
  unfold i64F; rw [hst, mixI_get _ _ _ _ _ hi, if_neg (by omega)]
 have z2 : ∀ i, i < d → [DV.v (.int .i64 0)] = i64F (st 0) i := fun i hi => (z1 i hi).symm
 have hm : fitD p d = st (min p.length d) := by rw [hst]; rfl
 rw [hm]
 obtain ⟨m, em⟩ : ∃ m, m = min p.length d := ⟨_, rfl⟩
 rw [← em]
 clear hm hst
 refine acall_on (mu := []) [] [] mixed Tryz.func9 rfl rfl rfl ?_
 conv => whnf
 repeat' ((first
 | refine ob ?_
 | (refine And.intro (fun hq => ?_) (fun hq => ?_) <;> first | exact cl1 | ((try simp only [bl] at hq); (try dsimp only at hq); first | exact cl2 | skip))
 | refine fun hq => ?_ | refine ob3 ?_ | fail) <;> conv => whnf)
 refine ⟨(by show _ * 8 ≤ _; omega), ?_⟩
 conv => whnf
 conv => whnf
 repeat' ((first
 | refine ob ?_
 | (refine And.intro (fun hq => ?_) (fun hq => ?_) <;> first | exact cl1 | ((try simp only [bl] at hq); (try dsimp only at hq); first | exact cl2 | skip))
 | refine fun hq => ?_ | refine ob3 ?_ | fail) <;> conv => whnf)
 refine ⟨[], ?_⟩
 conv => whnf
 refine ⟨Nat, fun k => k ≤ m, fun k => m - k, fun k => [(6, exI .i64 k)], fun k => [(8, .row 2 1 0 false d (i64F (st k)))], ⟨0, by omega, ?_⟩, ?_⟩
 ·skip
  refine ⟨[], ?_⟩
  conv => whnf
  refine ⟨rfl, ?_, ?_⟩ <;> (repeat' (first | exact trivial | (exact z2) | (exact z1) | exact sm | apply And.intro))
 intro k hk
 conv => whnf
 rcases Nat.lt_or_ge k m with hlt | hge
 ·skip
  conv => whnf
  repeat' ((first
  | refine ob ?_
  | (refine And.intro (fun hq => ?_) (fun hq => ?_) <;> first | exact cl1 | ((try simp only [bl] at hq); (try dsimp only at hq); first | exact cl2 | skip))
  | refine fun hq => ?_ | refine ob3 ?_ | fail) <;> conv => whnf)
  refine ⟨k + 1, by omega, by dsimp only; omega, ?_⟩
  refine ⟨[], ?_⟩
  conv => whnf
  refine ⟨rfl, ?_, ?_⟩ <;> (repeat' (first | exact trivial | (exact n1 k _ _ (by omega) (by omega) rfl) | exact sm | apply And.intro))
 ·obtain rfl : k = m := by omega
  conv => whnf
  repeat' ((first
  | refine ob ?_
  | (refine And.intro (fun hq => ?_) (fun hq => ?_) <;> first | exact cl1 | ((try simp only [bl] at hq); (try dsimp only at hq); first | exact cl2 | skip))
  | refine fun hq => ?_ | refine ob3 ?_ | fail) <;> conv => whnf)
  all_goals (repeat' (first | exact trivial | (exact hl1 _) | (exact (hl1 _).symm) | exact sm | apply And.intro))
end Go.Proofs.YtedokpgkjcnoiaaGreat
namespace Go.Proofs.YtedokpgkjcnoiaaGreat
open Go.RowKit
set_option maxRecDepth 100000
set_option maxHeartbeats 1000000
theorem boxsame_any (a b : BoxD) (h1 : a.lo.length ≤ 1000000) (h2 : a.hi.length ≤ 1000000) : ACall Tryz.prog 66 [agD (boxL a), agD (boxL b)] [] (exB (decide (a.lo = b.lo) && decide (a.hi = b.hi))) [] := by
 refine acall_of (mu := []) mixed Tryz.func66 rfl rfl rfl ?_
 conv => whnf
 repeat' ((first
 | refine ob ?_
 | refine ⟨_, _, _, .flat _ _ rfl (equal_any a.lo b.lo h1) rfl, ?_⟩
 | refine ⟨_, _, _, .flat _ _ rfl (equal_any a.hi b.hi h2) rfl, ?_⟩
 | ((refine ⟨_, _, _, .flat _ _ rfl (.arg ?harg (equal_any a.lo b.lo h1)) rfl, ?_⟩); case harg => (repeat' (first | exact sm | apply And.intro)))
 | ((refine ⟨_, _, _, .flat _ _ rfl (.arg ?harg (equal_any a.hi b.hi h2)) rfl, ?_⟩); case harg => (repeat' (first | exact sm | apply And.intro))) | (refine And.intro (fun hq => ?_) (fun hq => ?_) <;> first | exact cl1 | exact cl3 | skip)
 | refine ob2 ?_ | refine ob4 ?_ | refine fun hq => ?_ | fail) <;> conv => whnf)
 all_goals first
  | exact trivial
  | (refine And.intro (congrArg Value.bool ?_) trivial; grind [boxR])
  | (refine And.intro (congrArg Value.bool ?_) trivial; simp_all [boxR]; done)
  | (refine And.intro (congrArg Value.bool ?_) trivial; simp [boxR] at *; omega)
  | skip
def KidD.bx (k : KidD) : BoxD := ⟨k.lo, k.hi⟩
def dgq (a b : List Nat) : Bool := (List.range 32).all fun i => decide (((a.getD i 0 : Nat) : Int) = (b.getD i 0 : Nat))
def kidS (a b : KidD) : Bool := dgq a.sum b.sum && (decide (a.live = b.live) && (decide (a.size = b.size) && (decide (a.lo = b.lo) && (decide (a.hi = b.hi) && decide (a.key = b.key)))))
def KidD.small (k : KidD) : Prop := k.lo.length ≤ 1000000 ∧ k.hi.length ≤ 1000000 ∧ k.key.length ≤ 1000000
theorem nsame_any (a b : KidD) (h : a.small) : ACall Tryz.prog 39 [agD (kidL a), agD (kidL b)] [] (exB (kidS a b)) [] := by
 obtain ⟨h1, h2, h3⟩ := h
 refine acall_of (mu := []) mixed Tryz.func39 rfl rfl rfl ?_
 conv => whnf
 refine ⟨fun h => ?_, fun h => ?_⟩
 ·replace h : dgq a.sum b.sum = true := h
  conv => whnf
  repeat' ((first
  | refine ob ?_
  | refine ⟨_, _, _, .flat _ _ rfl (boxsame_any a.bx b.bx h1 h2) rfl, ?_⟩
  | refine ⟨_, _, _, .flat _ _ rfl (equal_any a.key b.key h3) rfl, ?_⟩
  | ((refine ⟨_, _, _, .flat _ _ rfl (.arg ?harg (boxsame_any a.bx b.bx h1 h2)) rfl, ?_⟩); case harg => (repeat' (first | exact sm | apply And.intro)))
  | ((refine ⟨_, _, _, .flat _ _ rfl (.arg ?harg (equal_any a.key b.key h3)) rfl, ?_⟩); case harg => (repeat' (first | exact sm | apply And.intro))) | (refine And.intro (fun hq => ?_) (fun hq => ?_) <;> first | exact cl1 | exact cl3 | skip)
  | refine ob2 ?_ | refine ob4 ?_ | refine fun hq => ?_ | fail) <;> conv => whnf)
  all_goals first
   | exact trivial
   | (refine And.intro (congrArg Value.bool ?_) trivial; grind [kidS, KidD.bx])
   | (refine And.intro (congrArg Value.bool ?_) trivial; simp_all [kidS, KidD.bx]; done)
   | (refine And.intro (congrArg Value.bool ?_) trivial; simp [kidS, KidD.bx] at *; omega)
   | skip
 ·replace h : dgq a.sum b.sum = false := h
  conv => whnf
  repeat' ((first
  | refine ob ?_
  | refine ⟨_, _, _, .flat _ _ rfl (boxsame_any a.bx b.bx h1 h2) rfl, ?_⟩
  | refine ⟨_, _, _, .flat _ _ rfl (equal_any a.key b.key h3) rfl, ?_⟩
  | ((refine ⟨_, _, _, .flat _ _ rfl (.arg ?harg (boxsame_any a.bx b.bx h1 h2)) rfl, ?_⟩); case harg => (repeat' (first | exact sm | apply And.intro)))
  | ((refine ⟨_, _, _, .flat _ _ rfl (.arg ?harg (equal_any a.key b.key h3)) rfl, ?_⟩); case harg => (repeat' (first | exact sm | apply And.intro))) | (refine And.intro (fun hq => ?_) (fun hq => ?_) <;> first | exact cl1 | exact cl3 | skip)
  | refine ob2 ?_ | refine ob4 ?_ | refine fun hq => ?_ | fail) <;> conv => whnf)
  all_goals first
   | exact trivial
   | (refine And.intro (congrArg Value.bool ?_) trivial; grind [kidS])
   | (refine And.intro (congrArg Value.bool ?_) trivial; simp_all [kidS]; done)
   | (refine And.intro (congrArg Value.bool ?_) trivial; simp [kidS] at *; omega)
   | skip
def kid0 : KidD := ⟨[], [], [], 0, 0, []⟩
theorem nempty_any (a : KidD) (h : a.small) : ACall Tryz.prog 13 [agD (kidL a)] [] (exB (kidS a kid0)) [] := by
 refine acall_of (mu := []) mixed Tryz.func13 rfl rfl rfl ?_
 conv => whnf
 repeat' ((first
 | refine ob ?_
 | refine ⟨_, _, _, .flat _ _ rfl (nsame_any a kid0 h) rfl, ?_⟩
 | ((refine ⟨_, _, _, .flat _ _ rfl (.arg ?harg (nsame_any a kid0 h)) rfl, ?_⟩); case harg => (repeat' (first | exact sm | apply And.intro))) | (refine And.intro (fun hq => ?_) (fun hq => ?_) <;> first | exact cl1 | exact cl3 | skip)
 | refine ob2 ?_ | refine ob4 ?_ | refine fun hq => ?_ | fail) <;> conv => whnf)
 all_goals first
  | exact trivial
  | (refine And.intro (congrArg Value.bool ?_) trivial; grind [kidS])
  | (refine And.intro (congrArg Value.bool ?_) trivial; simp_all [kidS]; done)
  | (refine And.intro (congrArg Value.bool ?_) trivial; simp [kidS] at *; omega)
  | skip
def kidR (k : KidD) (d : Int) : Bool := kidS k kid0 || (decide (1 ≤ k.size) && (decide (k.size ≤ 1048576) && (decide (0 ≤ k.live) && (decide (k.live ≤ k.size) && (if k.live = 0 then decide (k.lo.length = 0) && decide (k.hi.length = 0) else boxR k.bx d)))))
theorem kright_any (a : KidD) (d : Int) (h : a.small) : ACall Tryz.prog 113 [agD (kidL a), exI .i64 d] [] (exB (kidR a d)) [] := by
 refine acall_of (mu := []) mixed Tryz.func113 rfl rfl rfl ?_
 conv => whnf
 repeat' ((first
 | refine ob ?_
 | refine ⟨_, _, _, .flat _ _ rfl (nempty_any a h) rfl, ?_⟩
 | refine ⟨_, _, _, .flat _ _ rfl (boxr_any a.bx d h.1 h.2.1) rfl, ?_⟩
 | ((refine ⟨_, _, _, .flat _ _ rfl (.arg ?harg (nempty_any a h)) rfl, ?_⟩); case harg => (repeat' (first | exact sm | apply And.intro)))
 | ((refine ⟨_, _, _, .flat _ _ rfl (.arg ?harg (boxr_any a.bx d h.1 h.2.1)) rfl, ?_⟩); case harg => (repeat' (first | exact sm | apply And.intro))) | (refine And.intro (fun hq => ?_) (fun hq => ?_) <;> first | exact cl1 | exact cl3 | skip)
 | refine ob2 ?_ | refine ob4 ?_ | refine fun hq => ?_ | fail) <;> conv => whnf)
 all_goals first
  | exact trivial
  | (refine And.intro (congrArg Value.bool ?_) trivial; grind [kidR])
  | (refine And.intro (congrArg Value.bool ?_) trivial; simp_all [kidR]; done)
  | (refine And.intro (congrArg Value.bool ?_) trivial; simp [kidR] at *; omega)
  | skip
end Go.Proofs.YtedokpgkjcnoiaaGreat
