/- A box's ranges: each point is in just one, and they stand in order; no program in sight. -/
import Derived.Test.YtjdbpeblbejllaaZr22
set_option linter.unusedVariables false
set_option linter.unusedSimpArgs false
namespace Go.Proofs.Ytjdbpeblbejllaa
open Go.RowKit
def inX (x : List Int × List Int) (p : List Int) : Bool := hasB x.1 x.2 p
theorem ranges_cases (d : Nat) {lo hi : List Int} (hb : Bx lo hi lo.length) : rangesP (d + 1) lo hi = [(lo, hi)] ∨ ∃ a b c e N s U, Parts lo hi a b c e lo.length N s U ∧ a.length = lo.length ∧ c.length = lo.length ∧ rangesP (d + 1) lo hi = rangesP d a b ++ rangesP d c e := by
  rw [rangesP]
  rcases ho : splitP lo hi with _ | ⟨⟨a, b⟩, c, e⟩
  · exact .inl rfl
  · obtain ⟨_, N, s, U, pt⟩ := split_parts hb.li hb.hi' ho
    by_cases hk : blockP lo hi = true
    · left; simp [hk]
    · right; exact ⟨a, b, c, e, N, s, U, pt, pt.bx1.ll, pt.bx2.ll, by simp [hk]⟩
theorem ranges_bx : ∀ (d : Nat) (lo hi : List Int), Bx lo hi lo.length → ∀ x ∈ rangesP d lo hi, Bx x.1 x.2 lo.length
  | 0, lo, hi, hb, x, hx => by
    obtain rfl : x = (lo, hi) := by simpa [rangesP] using hx
    exact hb
  | d + 1, lo, hi, hb, x, hx => by
    rcases ranges_cases d hb with h | ⟨a, b, c, e, N, s, U, pt, e1, e2, h⟩
    · rw [h] at hx
      obtain rfl : x = (lo, hi) := by simpa using hx
      exact hb
    · rw [h] at hx
      rcases List.mem_append.1 hx with hx | hx
      · have := ranges_bx d a b (by rw [e1]; exact pt.bx1) x hx
        rwa [e1] at this
      · have := ranges_bx d c e (by rw [e2]; exact pt.bx2) x hx
        rwa [e2] at this
theorem ranges_count : ∀ (d : Nat) (lo hi p : List Int), Bx lo hi lo.length → ((rangesP d lo hi).filter fun x => inX x p).length = if hasB lo hi p then 1 else 0
  | 0, lo, hi, p, hb => by
    rw [rangesP]
    cases h : hasB lo hi p <;> simp [inX, h]
  | d + 1, lo, hi, p, hb => by
    rcases ranges_cases d hb with h | ⟨a, b, c, e, N, s, U, pt, e1, e2, h⟩
    · rw [h]
      cases h : hasB lo hi p <;> simp [inX, h]
    · rw [h, List.filter_append, List.length_append, ranges_count d a b p (by rw [e1]; exact pt.bx1), ranges_count d c e p (by rw [e2]; exact pt.bx2)]
      obtain ⟨h1, h2⟩ := parts_has (p := p) hb pt
      rw [h1]
      cases i1 : hasB a b p <;> cases i2 : hasB c e p <;> simp [i1, i2] at h2 ⊢
theorem ranges_sub : ∀ (d : Nat) (lo hi p : List Int), Bx lo hi lo.length → ∀ x ∈ rangesP d lo hi, inX x p = true → hasB lo hi p = true := fun d lo hi p hb x hx hp => by
  have h := ranges_count d lo hi p hb
  cases hh : hasB lo hi p
  · rw [hh] at h
    have : x ∈ (rangesP d lo hi).filter fun x => inX x p := List.mem_filter.2 ⟨hx, hp⟩
    rw [if_neg (by decide)] at h
    rw [List.eq_nil_of_length_eq_zero h] at this
    cases this
  · rfl
def Before (x y : List Int × List Int) : Prop := ∀ p q, IsI p → IsI q → inX x p = true → inX y q = true → lexLt (code p) (code q) = true
theorem ranges_order : ∀ (d : Nat) (lo hi : List Int), Bx lo hi lo.length → (rangesP d lo hi).Pairwise Before
  | 0, lo, hi, hb => by rw [rangesP]; simp
  | d + 1, lo, hi, hb => by
    rcases ranges_cases d hb with h | ⟨a, b, c, e, N, s, U, pt, e1, e2, h⟩
    · rw [h]; simp
    · rw [h, List.pairwise_append]
      have b1 : Bx a b a.length := by rw [e1]; exact pt.bx1
      have b2 : Bx c e c.length := by rw [e2]; exact pt.bx2
      exact ⟨ranges_order d a b b1, ranges_order d c e b2, fun x hx y hy p q hp hq h1 h2 => parts_less hb pt hp hq (ranges_sub d a b p b1 x hx h1) (ranges_sub d c e q b2 y hy h2)⟩
/-- the last of the first k boxes that has a point; how many have it -/
def lastN (rs : Bxs) (p : List Int) : Nat → Int
  | 0 => -1
  | k + 1 => if inX (rs.getD k ([], [])) p then (k : Int) else lastN rs p k
def manyN (rs : Bxs) (p : List Int) : Nat → Nat
  | 0 => 0
  | k + 1 => if inX (rs.getD k ([], [])) p then manyN rs p k + 1 else manyN rs p k
theorem lastN_bd (rs : Bxs) (p : List Int) : ∀ k, -1 ≤ lastN rs p k ∧ lastN rs p k < k
  | 0 => by simp [lastN]
  | k + 1 => by
    have := lastN_bd rs p k
    rw [lastN]
    split <;> omega
theorem lastN_in (rs : Bxs) (p : List Int) : ∀ k i, lastN rs p k = (i : Nat) → i < k ∧ inX (rs.getD i ([], [])) p = true
  | 0, i, h => by simp only [lastN] at h; omega
  | k + 1, i, h => by
    rw [lastN] at h
    split at h
    · rename_i h1
      have : i = k := by omega
      subst this
      exact ⟨by omega, h1⟩
    · have := lastN_in rs p k i h
      exact ⟨by omega, this.2⟩
theorem manyN_le (rs : Bxs) (p : List Int) : ∀ k, manyN rs p k ≤ k
  | 0 => Nat.le_refl _
  | k + 1 => by have := manyN_le rs p k; rw [manyN]; split <;> omega
theorem manyN_take (rs : Bxs) (p : List Int) : ∀ k, k ≤ rs.length → manyN rs p k = ((rs.take k).filter fun x => inX x p).length
  | 0, _ => by simp [manyN]
  | k + 1, h => by
    have ih := manyN_take rs p k (by omega)
    have e : rs.getD k ([], []) = rs[k] := by simp [List.getD, List.getElem?_eq_getElem (show k < rs.length by omega)]
    rw [List.take_succ_eq_append_getElem (by omega), List.filter_append, List.length_append, ← ih, manyN, e]
    cases hh : inX rs[k] p <;> simp [hh]
theorem many_all {lo hi : List Int} (hb : Bx lo hi lo.length) (d : Nat) (p : List Int) : manyN (rangesP d lo hi) p (rangesP d lo hi).length = if hasB lo hi p then 1 else 0 := by
  rw [manyN_take _ _ _ (Nat.le_refl _), List.take_length]
  exact ranges_count d lo hi p hb
/-- the law's last word -/
theorem order_all {lo hi : List Int} (hb : Bx lo hi lo.length) (d : Nat) (p q : List Int) (hp : IsI p) (hq : IsI q) (i j : Nat) (h1 : lastN (rangesP d lo hi) p (rangesP d lo hi).length = i) (h2 : lastN (rangesP d lo hi) q (rangesP d lo hi).length = j) (hne : i ≠ j) :
    p.length = lo.length ∧ q.length = lo.length ∧ lexLt (code p) (code q) = decide ((i : Int) < j) := by
  obtain ⟨i1, i2⟩ := lastN_in _ _ _ _ h1
  obtain ⟨j1, j2⟩ := lastN_in _ _ _ _ h2
  have ho := ranges_order d lo hi hb
  rw [List.pairwise_iff_getElem] at ho
  have ei : (rangesP d lo hi).getD i ([], []) = (rangesP d lo hi)[i] := by simp [List.getD, List.getElem?_eq_getElem i1]
  have ej : (rangesP d lo hi).getD j ([], []) = (rangesP d lo hi)[j] := by simp [List.getD, List.getElem?_eq_getElem j1]
  rw [ei] at i2
  rw [ej] at j2
  have hpb := ranges_sub d lo hi p hb _ (List.getElem_mem i1) i2
  have hqb := ranges_sub d lo hi q hb _ (List.getElem_mem j1) j2
  have hpl := (hasB_plen hpb).symm
  have hql := (hasB_plen hqb).symm
  refine ⟨hpl, hql, ?_⟩
  rcases Nat.lt_or_ge i j with h | h
  · rw [ho i j i1 j1 h p q hp hq i2 j2]; simp; omega
  · have := ho j i j1 i1 (by omega) q p hq hp j2 i2
    rw [lexLt_asymm _ _ (by rw [code_len, code_len, hpl, hql]) this]; simp; omega
set_option maxRecDepth 100000 in
set_option maxHeartbeats 1000000 in
theorem ranges_out (L H : Option Addr) (lo hi : List Int) (dl sh : Nat) (d : Int) (w : World) (hL : Arr w w.heap.size L lo.length (i64s lo)) (hH : Arr w w.heap.size H hi.length (i64s hi)) (hd : rightB lo hi lo.length = false ∨ d < 0 ∨ 10 < d) :
    Calls Try.prog 42 #[.agg #[.slice L lo.length dl, .slice H hi.length sh], .int .i64 d] w fun e w' => e = .returned (.tuple #[.slice none 0 0, .int .i64 1]) ∧ Below w.heap.size w w' := by
  have tR := fun W h h' => right_any L H lo hi dl sh lo.length W h h'
  obtain ⟨rr, hrr⟩ : ∃ z, z = rightB lo hi lo.length := ⟨_, rfl⟩
  rw [← hrr] at tR hd
  clear hrr
  have HhL := hideP hL; have HhH := hideP hH; have HtR := hideP tR; clear hL hH tR
  go_enter Try.func42, Try.ntmps42
  go_upto_region 1 with fail
  obtain ⟨w1, hw1⟩ : ∃ w1, w1 = w.alloc (Obj.cells #[.slice L lo.length dl, .slice H hi.length sh] 58) := ⟨_, rfl⟩
  have c1 := hideP (show Two w1 w.heap.size 58 (.slice L lo.length dl) (.slice H hi.length sh) by rw [hw1]; exact Two.new _ _ _ _)
  have cb := hideP (show Below w.heap.size w w1 by rw [hw1]; exact below_new _ _)
  rw [← hw1]
  clear hw1
  have kc10 := c1.out.c0; have kc11 := c1.out.c1
  go_wp2_with fail
  refine (HtR.out w1 (HhL.out.after cb.out) (HhH.out.after cb.out)).mono ?_
  rintro e w2 ⟨rfl, hb⟩
  clear kc10 kc11
  replace c1 := hideP (c1.out.after hb)
  replace cb := hideP (bstep cb.out hb)
  clear hb
  cases rr
  · go_wp2
    go_ret2
    exact ⟨rfl, cb.out⟩
  · have hd := hd.resolve_left (by decide)
    by_cases h0 : d < 0
    · have g1 : decide (d < 0) = true := by simpa using h0
      clear hd h0
      go_wp2
      go_ret2
      exact ⟨rfl, cb.out⟩
    · have g1 : decide (d < 0) = false := by simpa using h0
      have g2 : decide (10 < d) = true := by simpa using hd.resolve_left h0
      clear hd h0
      go_wp2
      go_ret2
      exact ⟨rfl, cb.out⟩
set_option maxRecDepth 100000 in
set_option maxHeartbeats 8000000 in
theorem walk_ZrangeRanges (L : Option Addr) (lo : List Int) (dl : Nat) (H : Option Addr) (hi : List Int) (sh : Nat) (d : Int) (P : Option Addr) (p : List Int) (cp : Nat) (Q : Option Addr) (q : List Int) (cq : Nat) (w : World)
    (hL : Arr w w.heap.size L lo.length (i64s lo)) (il : IsI lo) (hH : Arr w w.heap.size H hi.length (i64s hi)) (ih : IsI hi) (nl : lo.length ≤ 17592186043904) (nh : hi.length ≤ 17592186043904) (cl : lo.length ≤ dl) (ch : hi.length ≤ sh)
    (hd : -9223372036854775808 ≤ d ∧ d ≤ 9223372036854775807) (hP : Arr w w.heap.size P p.length (i64s p)) (ip : IsI p) (hpn : p.length ≤ 17592186043904) (hQ : Arr w w.heap.size Q q.length (i64s q)) (iq : IsI q) (hqn : q.length ≤ 17592186043904) :
    Calls Try.prog 10 #[.agg #[.slice L lo.length dl, .slice H hi.length sh], .int .i64 d, .slice P p.length cp, .slice Q q.length cq] w fun e w' => e = .returned (.bool true) ∧ Below w.heap.size w w' := by
  have ha' := fun W => alive06 W
  have tR := fun W h h' => rright_any L H lo hi dl sh (lo.length : Int) W h h'
  by_cases hbad : rightB lo hi lo.length = false ∨ d < 0 ∨ 10 < d
  case pos =>
    have tO := fun W h h' => ranges_out L H lo hi dl sh d W h h' hbad
    obtain ⟨rr, hrr⟩ : ∃ z, z = rightB lo hi lo.length := ⟨_, rfl⟩
    rw [← hrr] at tR hbad
    obtain ⟨n, hn⟩ : ∃ n, n = lo.length := ⟨_, rfl⟩
    obtain ⟨m, hm⟩ : ∃ n, n = hi.length := ⟨_, rfl⟩
    rw [← hn] at hL tR tO ⊢
    rw [← hm] at hH tR tO ⊢
    clear hrr hn hm il ih nl nh cl ch hP ip hpn hQ iq hqn
    have HhL := hideP hL; have HhH := hideP hH; have HtR := hideP tR; have HtO := hideP tO; have Hha' := hideP ha'; clear hL hH tR tO ha'
    go_enter Try.func10, Try.ntmps10
    go_upto_region 1 with fail
    obtain ⟨w1, hw1⟩ : ∃ w1, w1 = w.alloc (Obj.cells #[.slice L n dl, .slice H m sh] 58) := ⟨_, rfl⟩
    have c1 := hideP (show Two w1 w.heap.size 58 (.slice L n dl) (.slice H m sh) by rw [hw1]; exact Two.new _ _ _ _)
    have cb := hideP (show Below w.heap.size w w1 by rw [hw1]; exact below_new _ _)
    rw [← hw1]
    clear hw1
    go_wp2_with fail
    refine (Hha'.out w1).mono ?_
    rintro e w2 ⟨rfl, hb⟩
    replace c1 := hideP (c1.out.after hb)
    replace cb := hideP (bstep cb.out hb)
    clear hb
    have kc10 := c1.out.c0; have kc11 := c1.out.c1
    by_cases g1 : 8 < n
    · have g1' : decide ((8 : Int) < (n : Int)) = true := by simp; omega
      clear g1
      go_wp2
      go_ret
      exact ⟨rfl, cb.out⟩
    have g1' : decide ((8 : Int) < (n : Int)) = false := by simp; omega
    clear g1
    go_wp2_with fail
    refine (HtO.out w2 (HhL.out.after cb.out) (HhH.out.after cb.out)).mono ?_
    rintro e w3 ⟨rfl, hb⟩
    clear kc10 kc11
    replace c1 := hideP (c1.out.after hb)
    replace cb := hideP (bstep cb.out hb)
    clear hb
    have kc10 := c1.out.c0; have kc11 := c1.out.c1
    go_wp2_with fail
    refine (HtR.out w3 (HhL.out.after cb.out) (HhH.out.after cb.out)).mono ?_
    rintro e w4 ⟨rfl, hb⟩
    clear kc10 kc11
    replace c1 := hideP (c1.out.after hb)
    replace cb := hideP (bstep cb.out hb)
    clear hb
    cases rr
    · go_wp2
      go_ret
      exact ⟨rfl, cb.out⟩
    · have hd2 := hbad.resolve_left (by decide)
      by_cases h0 : d < 0
      · have g1 : decide (d < 0) = true := by simpa using h0
        clear hd2 h0 hbad
        go_wp2
        go_ret
        exact ⟨rfl, cb.out⟩
      · have g1 : decide (d < 0) = false := by simpa using h0
        have g2 : decide (10 < d) = true := by simpa using hd2.resolve_left h0
        clear hd2 h0 hbad
        go_wp2
        go_ret
        exact ⟨rfl, cb.out⟩
  case neg =>
  have hR : rightB lo hi lo.length = true := by
    refine Decidable.byContradiction fun h => hbad (.inl (by simpa using h))
  have hd0 : 0 ≤ d := Int.not_lt.1 fun h => hbad (.inr (.inl h))
  have hd1 : d ≤ 10 := Int.not_lt.1 fun h => hbad (.inr (.inr h))
  obtain ⟨D, rfl⟩ := Int.eq_ofNat_of_zero_le hd0
  have bx := Bx.of hR il ih
  rw [hR] at tR
  have tA := fun W h h' => ranges_in D (by omega) L H lo hi dl sh W h h' bx
  have tB := fun W h h' => rranges_in D (by omega) (fun b => b < W.heap.size) L H lo hi dl sh W h h' bx
  have tHb := fun W h h' h3 => rhas_any L H P lo hi p dl sh cp W h h' h3 hpn
  have hmany := many_all bx D p
  have hord := order_all bx D p q ip iq
  have hall := ranges_bx D lo hi bx
  have hlen := rangesP_len D lo hi
  have h1024 : 2 ^ D ≤ 1024 := Nat.le_trans (Nat.pow_le_pow_right (by omega) (show D ≤ 10 by omega)) (by decide)
  obtain ⟨rs, hrs⟩ : ∃ r, r = rangesP D lo hi := ⟨_, rfl⟩
  rw [← hrs] at tA hmany hord hall hlen
  simp only [← hrs] at tB
  obtain ⟨i0, hi0⟩ : ∃ z, z = hasB lo hi p := ⟨_, rfl⟩
  rw [← hi0] at tHb hmany
  obtain ⟨N, hN⟩ : ∃ N, N = rs.length := ⟨_, rfl⟩
  unfold RangesTold at tA
  unfold RTold at tB
  rw [← hN] at tA hmany hord hlen
  simp only [← hN] at tB
  have tS := fun (x y : List Int) (h8 : x.length ≤ 8 ∧ y.length ≤ 8) (A B C E : Option Addr) (u v u' v' : Nat) W h1 h2 h3 h4 => same_any A B C E x y x y u v u' v' W h1 h2 h3 h4 (by omega) (by omega)
  simp only [and_self, decide_true] at tS
  have tHp := fun (x y : List Int) (A B : Option Addr) (u v : Nat) W h h' h3 => rhas_any A B P x y p u v cp W h h' h3 hpn
  have tHq := fun (x y : List Int) (A B : Option Addr) (u v : Nat) W h h' h3 => rhas_any A B Q x y q u v cq W h h' h3 hqn
  have tC1 := fun (h8 : p.length ≤ 8) W h => rcode_any P p cp W h ip h8
  have tC2 := fun (h8 : q.length ≤ 8) W h => rcode_any Q q cq W h iq h8
  have icp := code_lt p
  have icq := code_lt q
  have lcp := code_len p
  have lcq := code_len q
  have hn8 := bx.d8
  obtain ⟨n, hn⟩ : ∃ n, n = lo.length := ⟨_, rfl⟩
  have hhl : hi.length = n := by rw [hn]; exact bx.hl
  rw [← hn] at hL tR tA tB tHb hord hn8 hall ⊢
  rw [hhl] at hH tR tA tB tHb ⊢
  have hbox := fun k (hk : k < N) => hall (rs.getD k ([], [])) (by
    rw [hN] at hk
    have : rs.getD k ([], []) = rs[k] := by simp [List.getD, List.getElem?_eq_getElem hk]
    rw [this]; exact List.getElem_mem hk)
  have hN1 : 1 ≤ N ∧ N ≤ 1024 := by omega
  have HN := hideP hN
  clear hrs hi0 hN hn hhl bx hR hbad hd hd0 il ih nl nh cl ch ip iq hpn hqn hall hlen h1024
  have HhL := hideP hL; have HhH := hideP hH; have HhP := hideP hP; have HhQ := hideP hQ; have HtR := hideP tR; have HtA := hideP tA; have HtB := hideP tB; have HtHb := hideP tHb; have HtS := hideP tS; have HtHp := hideP tHp; have HtHq := hideP tHq; have HtC1 := hideP tC1; have HtC2 := hideP tC2; have Hicp := hideP icp; have Hicq := hideP icq; have Hlcp := hideP lcp; have Hlcq := hideP lcq; have Hhmany := hideP hmany; have Hhord := hideP hord; have Hhbox := hideP hbox; have Hha' := hideP ha'; have HhN1 := hideP hN1; clear hL hH hP hQ tR tA tB tHb tS tHp tHq tC1 tC2 icp icq lcp lcq hmany hord hbox ha' hN1
  go_enter Try.func10, Try.ntmps10
  go_upto_region 1 with fail
  obtain ⟨w1, hw1⟩ : ∃ w1, w1 = w.alloc (Obj.cells #[.slice L n dl, .slice H n sh] 58) := ⟨_, rfl⟩
  have c1 := hideP (show Two w1 w.heap.size 58 (.slice L n dl) (.slice H n sh) by rw [hw1]; exact Two.new _ _ _ _)
  have cb := hideP (show Below w.heap.size w w1 by rw [hw1]; exact below_new _ _)
  rw [← hw1]
  clear hw1
  go_wp2_with fail
  refine (Hha'.out w1).mono ?_
  rintro e w2 ⟨rfl, hb⟩
  replace c1 := hideP (c1.out.after hb)
  replace cb := hideP (bstep cb.out hb)
  clear hb
  have kc10 := c1.out.c0; have kc11 := c1.out.c1
  have g1' : decide ((8 : Int) < (n : Int)) = false := by simp; omega
  go_wp2_with fail
  refine (HtA.out w2 (HhL.out.after cb.out) (HhH.out.after cb.out)).mono ?_
  rintro e w3 ⟨gA, kA, rfl, hbA, hb⟩
  have bA := hideP hbA
  clear hbA g1'
  clear kc10 kc11
  replace c1 := hideP (c1.out.after hb)
  replace cb := hideP (bstep cb.out hb)
  clear hb
  have kc10 := c1.out.c0; have kc11 := c1.out.c1
  go_wp2_with fail
  refine (HtR.out w3 (HhL.out.after cb.out) (HhH.out.after cb.out)).mono ?_
  rintro e w4 ⟨rfl, hb⟩
  replace bA := hideP (bA.out.ext (Ext.of_below hb))
  clear kc10 kc11
  replace c1 := hideP (c1.out.after hb)
  replace cb := hideP (bstep cb.out hb)
  clear hb
  have kc10 := c1.out.c0; have kc11 := c1.out.c1
  have g1 : decide ((D : Int) < 0) = false := by simp
  have g2 : decide ((10 : Int) < (D : Int)) = false := by simp; omega
  go_wp2_with fail
  refine (HtB.out w4 (ArrQ.of_arr (HhL.out.after cb.out)) (ArrQ.of_arr (HhH.out.after cb.out))).mono ?_
  rintro e w5 ⟨gB, kB, rfl, hbB, hb⟩
  have bB := hideP hbB
  clear hbB g1 g2
  replace bA := hideP (bA.out.ext (Ext.of_below hb))
  clear kc10 kc11
  replace c1 := hideP (c1.out.after hb)
  replace cb := hideP (bstep cb.out hb)
  clear hb
  have hN1 := HhN1.out
  go_wp2
  go_loopw [12, 13, 14, 15] (fun v12 v13 v14 v15 wr => ∃ k : Nat, k ≤ N ∧ v15 = .int .i64 k ∧ v12 = .int .i64 (lastN rs p k) ∧ v13 = .int .i64 (lastN rs q k) ∧ v14 = .int .i64 (manyN rs p k : Nat) ∧ Hid (Ext w5 wr)) (fun _ _ _ v _ => N - (intOf v).toNat)
  case atStart => exact ⟨0, Nat.zero_le _, rfl, rfl, rfl, rfl, Ext.refl _⟩
  case round =>
    obtain ⟨k, hkN, rfl, rfl, rfl, rfl, hx⟩ := hrel
    by_cases hlt : k < N
    · have bxk := Hhbox.out k hlt
      obtain ⟨A1, s1, A2, s2, m1, m2, ar1, ar2⟩ := (bA.out.ext hx.out).at k (by rw [← HN.out]; exact hlt)
      obtain ⟨B1, t1, B2, t2, m3, m4, br1, br2⟩ := (bB.out.ext hx.out).at k (by rw [← HN.out]; exact hlt)
      rw [Nat.mul_comm 2 k] at m1 m2 m3 m4
      have hs1 : lastN rs p (k + 1) = if inX (rs.getD k ([], [])) p then (k : Int) else lastN rs p k := rfl
      have hs2 : lastN rs q (k + 1) = if inX (rs.getD k ([], [])) q then (k : Int) else lastN rs q k := rfl
      have hs3 : manyN rs p (k + 1) = if inX (rs.getD k ([], [])) p then manyN rs p k + 1 else manyN rs p k := rfl
      unfold inX at hs1 hs2 hs3
      obtain ⟨x, hx1⟩ : ∃ x, x = (rs.getD k ([], [])).1 := ⟨_, rfl⟩
      obtain ⟨y, hy1⟩ : ∃ x, x = (rs.getD k ([], [])).2 := ⟨_, rfl⟩
      rw [← hx1] at m1 ar1 m3 br1 bxk hs1 hs2 hs3
      rw [← hy1] at m2 ar2 m4 br2 bxk hs1 hs2 hs3
      have hxl := bxk.ll
      have hyl := bxk.hl
      have tS := hideP (HtS.out x y (by omega))
      have tHp := hideP (HtHp.out x y)
      have tHq := hideP (HtHq.out x y)
      obtain ⟨ip_, hip⟩ : ∃ z, z = hasB x y p := ⟨_, rfl⟩
      obtain ⟨iq_, hiq⟩ : ∃ z, z = hasB x y q := ⟨_, rfl⟩
      rw [← hip] at tHp hs1 hs3
      rw [← hiq] at tHq hs2
      have b1 := lastN_bd rs p k
      have b2 := lastN_bd rs q k
      have b3 := manyN_le rs p k
      obtain ⟨la, hla⟩ : ∃ z, z = lastN rs p k := ⟨_, rfl⟩
      obtain ⟨lb, hlb⟩ : ∃ z, z = lastN rs q k := ⟨_, rfl⟩
      obtain ⟨mm, hmm⟩ : ∃ z, z = manyN rs p k := ⟨_, rfl⟩
      rw [← hla] at hs1 b1 ⊢
      rw [← hlb] at hs2 b2 ⊢
      rw [← hmm] at hs3 b3 ⊢
      rw [hxl] at m1 ar1 m3 br1 tS tHp tHq
      rw [hyl] at m2 ar2 m4 br2 tS tHp tHq
      have Hhs1 := hideP hs1; have Hhs2 := hideP hs2; have Hhs3 := hideP hs3; have Har1 := hideP ar1; have Har2 := hideP ar2; have Hbr1 := hideP br1; have Hbr2 := hideP br2; clear hs1 hs2 hs3 ar1 ar2 br1 br2
      clear hx1 hy1 hip hiq hla hlb hmm hxl hyl bxk
      go_upto_region 15 with fail
      refine wp_region_eager 10 [(true, 0), (true, 1), (true, 2), (true, 3), (true, 4), (true, 5), (true, 6), (true, 7), (true, 8), (true, 9)] (by kernel_rfl) (by kernel_rfl) ?_
      simp only [pick, List.map_cons, List.map_nil, nthO_zero, nthO_succ]
      repeat (first
        | (refine wpPlan_skipK (by rfl) (fun K hK => ?_); go_simp; refine hK _ ?_; clear hK K)
        | (refine wpPlan_valK (by rfl) (fun K hK => ?_); apply Exists.intro; refine ⟨fun W hW => ?_, ?_⟩; (focus (have hs0 := hW.cell m1; have hs1 := hW.cell m2; have hs2 := hW.cell m3; have hs3 := hW.cell m4; go_simp; (try rfl); done)); go_simp; refine hK _ ?_; clear hK K)
        | (refine wpPlan_callK (.bool true) 31 #[.agg #[.slice A1 n s1, .slice A2 n s2], .agg #[.slice B1 n t1, .slice B2 n t2]] (by rfl) ?_ (fun W hW => (tS.out A1 A2 B1 B2 s1 s2 t1 t2 W (Har1.out.ext hW.drew_left) (Har2.out.ext hW.drew_left) (Hbr1.out.ext hW.drew_left) (Hbr2.out.ext hW.drew_left)).mono fun e w2 h => ⟨h.1, Ext.of_below h.2⟩) (fun K hK => ?_); (focus (intro W; go_simp; done)); go_simp; refine hK _ ?_; clear hK K))
      refine wpPlan_nil (fun W6 hW0 => ?_)
      simp only [List.drop_succ_cons, List.drop_zero, List.drop_nil]
      have x6 := hideP hW0.drew_left
      have m1' := x6.out.cell m1
      have m2' := x6.out.cell m2
      replace Har1 := hideP (Har1.out.ext x6.out)
      replace Har2 := hideP (Har2.out.ext x6.out)
      have x7 := hideP (hx.out.trans x6.out)
      clear m1 m2 m3 m4 Hbr1 Hbr2 hW0 x6 hx tS
      go_wp2_with fail
      refine (tHp.out A1 A2 s1 s2 W6 Har1.out Har2.out (HhP.out.after (below_ext cb.out x7.out))).mono ?_
      rintro e W7 ⟨rfl, hb⟩
      have x8 := hideP (Ext.of_below hb)
      have m1 := x8.out.cell m1'
      have m2 := x8.out.cell m2'
      replace Har1 := hideP (Har1.out.ext x8.out)
      replace Har2 := hideP (Har2.out.ext x8.out)
      replace x7 := hideP (x7.out.trans x8.out)
      clear m1' m2' hb x8 tHp
      cases ip_
      · have r1 := hideP (show lastN rs p (k + 1) = la from Hhs1.out)
        have r3 := hideP (show manyN rs p (k + 1) = mm from Hhs3.out)
        go_wp2_with fail
        refine (tHq.out A1 A2 s1 s2 W7 Har1.out Har2.out (HhQ.out.after (below_ext cb.out x7.out))).mono ?_
        rintro e W8 ⟨rfl, hb⟩
        replace x7 := hideP (x7.out.trans (Ext.of_below hb))
        clear hb m1 m2
        cases iq_
        · have r2 := hideP (show lastN rs q (k + 1) = lb from Hhs2.out)
          go_wp2
          go_roundw
          case rel => exact ⟨k + 1, by omega, by go_num, by rw [r1.out], by rw [r2.out], by rw [r3.out], x7.out⟩
          case measure => simp [intOf]; omega
        · have r2 := hideP (show lastN rs q (k + 1) = (k : Int) from Hhs2.out)
          go_wp2
          go_roundw
          case rel => exact ⟨k + 1, by omega, by go_num, by rw [r1.out], by rw [r2.out], by rw [r3.out], x7.out⟩
          case measure => simp [intOf]; omega
      · have r1 := hideP (show lastN rs p (k + 1) = (k : Int) from Hhs1.out)
        have r3 := hideP (show manyN rs p (k + 1) = mm + 1 from Hhs3.out)
        go_wp2_with fail
        refine (tHq.out A1 A2 s1 s2 W7 Har1.out Har2.out (HhQ.out.after (below_ext cb.out x7.out))).mono ?_
        rintro e W8 ⟨rfl, hb⟩
        replace x7 := hideP (x7.out.trans (Ext.of_below hb))
        clear hb m1 m2
        cases iq_
        · have r2 := hideP (show lastN rs q (k + 1) = lb from Hhs2.out)
          go_wp2
          go_roundw
          case rel => exact ⟨k + 1, by omega, by go_num, by rw [r1.out], by rw [r2.out], by rw [r3.out]; go_num, x7.out⟩
          case measure => simp [intOf]; omega
        · have r2 := hideP (show lastN rs q (k + 1) = (k : Int) from Hhs2.out)
          go_wp2
          go_roundw
          case rel => exact ⟨k + 1, by omega, by go_num, by rw [r1.out], by rw [r2.out], by rw [r3.out]; go_num, x7.out⟩
          case measure => simp [intOf]; omega
    · obtain rfl : k = N := by omega
      replace c1 := hideP (c1.out.ext hx.out)
      replace cb := hideP (below_ext cb.out hx.out)
      clear hx bA bB
      have b1 := lastN_bd rs p k
      have b2 := lastN_bd rs q k
      have hm := Hhmany.out
      obtain ⟨la, hla⟩ : ∃ z, z = lastN rs p k := ⟨_, rfl⟩
      obtain ⟨lb, hlb⟩ : ∃ z, z = lastN rs q k := ⟨_, rfl⟩
      rw [← hla] at b1 Hhord
      rw [← hlb] at b2 Hhord
      obtain ⟨mm, hmm⟩ : ∃ z, z = manyN rs p k := ⟨_, rfl⟩
      rw [← hmm] at hm ⊢
      rw [← hla, ← hlb]
      clear hla hlb hmm
      have HM := hideP hm
      clear hm
      have kc10 := c1.out.c0; have kc11 := c1.out.c1
      go_wp2_with fail
      refine (HtHb.out wr (HhL.out.after cb.out) (HhH.out.after cb.out) (HhP.out.after cb.out)).mono ?_
      rintro e w6 ⟨rfl, hb⟩
      clear kc10 kc11
      clear c1
      replace cb := hideP (bstep cb.out hb)
      clear hb
      cases i0
      · have h0 : mm = 0 := HM.out
        subst h0
        clear HM
        by_cases h1 : la < 0
        · have t1 : decide (la < 0) = true := by simpa using h1
          clear h1
          go_wp2
          go_ret
          exact ⟨rfl, cb.out⟩
        have t1 : decide (la < 0) = false := by simpa using h1
        by_cases h2 : lb < 0
        · have t2 : decide (lb < 0) = true := by simpa using h2
          clear h1 h2
          go_wp2
          go_ret
          exact ⟨rfl, cb.out⟩
        have t2 : decide (lb < 0) = false := by simpa using h2
        by_cases h3 : la = lb
        · subst h3
          have t3 : (la == la) = true := by simp
          clear h1 h2
          go_wp2
          go_ret
          exact ⟨rfl, cb.out⟩
        obtain ⟨i, rfl⟩ := Int.eq_ofNat_of_zero_le (Int.not_lt.1 h1)
        obtain ⟨j, rfl⟩ := Int.eq_ofNat_of_zero_le (Int.not_lt.1 h2)
        have t3 : ((i : Int) == (j : Int)) = false := by simpa using h3
        obtain ⟨hpl, hql, hlx⟩ := Hhord.out i j rfl rfl (by omega)
        have tC1 := hideP (HtC1.out (by omega))
        have tC2 := hideP (HtC2.out (by omega))
        obtain ⟨lv, hlv⟩ : ∃ z, z = decide ((i : Int) < (j : Int)) := ⟨_, rfl⟩
        have hLess := hideP (fun (X Y : Option Addr) (u v : Nat) W h h' => less_any X Y (code p) (code q) u v W h h' Hicp.out Hicq.out (by have := Hlcp.out; omega) (by have := Hlcq.out; omega))
        have hv : lessB (code p) (code q) = lv := by unfold lessB; rw [if_pos (by have := Hlcp.out; have := Hlcq.out; omega), hlx, hlv]
        rw [hv, Hlcp.out, Hlcq.out] at hLess
        have t4 : decide (i < j) = lv := by rw [hlv]; simp
        have t4' : decide ((i : Int) < (j : Int)) = lv := hlv.symm
        have t5 : (lv == lv) = true := by simp
        clear hlx hpl hql hv hlv h1 h2 h3
        go_wp2_with fail
        refine (tC1.out w6 (HhP.out.after cb.out)).mono ?_
        rintro e w12 ⟨R1, d1, rfl, k1, hb⟩
        have Hk1 := hideP k1; clear k1
        replace cb := hideP (bstep cb.out hb)
        clear hb
        go_wp2_with fail
        refine (tC2.out w12 (HhQ.out.after cb.out)).mono ?_
        rintro e w13 ⟨R2, d2, rfl, k2, hb⟩
        have Hk2 := hideP k2; clear k2
        replace Hk1 := hideP (Hk1.out.after hb)
        replace cb := hideP (bstep cb.out hb)
        clear hb
        go_wp2_with fail
        refine (hLess.out R1 R2 d1 d2 w13 Hk1.out Hk2.out).mono ?_
        rintro e w14 ⟨rfl, rfl⟩
        go_wp2
        go_ret
        exact ⟨rfl, cb.out⟩
      · have h0 : mm = 1 := HM.out
        subst h0
        clear HM
        by_cases h1 : la < 0
        · have t1 : decide (la < 0) = true := by simpa using h1
          clear h1
          go_wp2
          go_ret
          exact ⟨rfl, cb.out⟩
        have t1 : decide (la < 0) = false := by simpa using h1
        by_cases h2 : lb < 0
        · have t2 : decide (lb < 0) = true := by simpa using h2
          clear h1 h2
          go_wp2
          go_ret
          exact ⟨rfl, cb.out⟩
        have t2 : decide (lb < 0) = false := by simpa using h2
        by_cases h3 : la = lb
        · subst h3
          have t3 : (la == la) = true := by simp
          clear h1 h2
          go_wp2
          go_ret
          exact ⟨rfl, cb.out⟩
        obtain ⟨i, rfl⟩ := Int.eq_ofNat_of_zero_le (Int.not_lt.1 h1)
        obtain ⟨j, rfl⟩ := Int.eq_ofNat_of_zero_le (Int.not_lt.1 h2)
        have t3 : ((i : Int) == (j : Int)) = false := by simpa using h3
        obtain ⟨hpl, hql, hlx⟩ := Hhord.out i j rfl rfl (by omega)
        have tC1 := hideP (HtC1.out (by omega))
        have tC2 := hideP (HtC2.out (by omega))
        obtain ⟨lv, hlv⟩ : ∃ z, z = decide ((i : Int) < (j : Int)) := ⟨_, rfl⟩
        have hLess := hideP (fun (X Y : Option Addr) (u v : Nat) W h h' => less_any X Y (code p) (code q) u v W h h' Hicp.out Hicq.out (by have := Hlcp.out; omega) (by have := Hlcq.out; omega))
        have hv : lessB (code p) (code q) = lv := by unfold lessB; rw [if_pos (by have := Hlcp.out; have := Hlcq.out; omega), hlx, hlv]
        rw [hv, Hlcp.out, Hlcq.out] at hLess
        have t4 : decide (i < j) = lv := by rw [hlv]; simp
        have t4' : decide ((i : Int) < (j : Int)) = lv := hlv.symm
        have t5 : (lv == lv) = true := by simp
        clear hlx hpl hql hv hlv h1 h2 h3
        go_wp2_with fail
        refine (tC1.out w6 (HhP.out.after cb.out)).mono ?_
        rintro e w12 ⟨R1, d1, rfl, k1, hb⟩
        have Hk1 := hideP k1; clear k1
        replace cb := hideP (bstep cb.out hb)
        clear hb
        go_wp2_with fail
        refine (tC2.out w12 (HhQ.out.after cb.out)).mono ?_
        rintro e w13 ⟨R2, d2, rfl, k2, hb⟩
        have Hk2 := hideP k2; clear k2
        replace Hk1 := hideP (Hk1.out.after hb)
        replace cb := hideP (bstep cb.out hb)
        clear hb
        go_wp2_with fail
        refine (hLess.out R1 R2 d1 d2 w13 Hk1.out Hk2.out).mono ?_
        rintro e w14 ⟨rfl, rfl⟩
        go_wp2
        go_ret
        exact ⟨rfl, cb.out⟩
end Go.Proofs.Ytjdbpeblbejllaa
