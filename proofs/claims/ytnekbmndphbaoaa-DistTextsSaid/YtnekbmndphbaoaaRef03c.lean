/- The contract of the document's Text. -/
import Derived.Test.YtnekbmndphbaoaaDist4
import Derived.Test.YtnekbmndphbaoaaRef03
set_option linter.unusedVariables false
set_option linter.unusedSimpArgs false
namespace Go.Proofs.Ytnekbmndphbaoaa
open Go.RowKit

theorem bstr_append (a b : List Nat) : bstr a ++ bstr b = bstr (a ++ b) := by
  have key : ∀ x y : ByteArray, x.data = y.data → x = y := fun x y h => by cases x; cases y; simpa using h
  apply key
  rw [ByteArray.data_append]
  simp [bstr]
/-- the remainder behind the first k digits -/
def lft (E k : Nat) : Nat := E / 4294967296 ^ (4 - k) % 10
def smK (E k : Nat) : Bool := (List.range k).any fun j => decide (0 < dg (E / 10) (3 - j))
theorem smK_succ (E k : Nat) : smK E (k + 1) = (smK E k || decide (0 < dg (E / 10) (3 - k))) := by simp [smK, List.range_succ]
theorem lft_step (E k : Nat) (hk : k < 4) : (4294967296 * lft E k + dg E (3 - k)) / 10 = dg (E / 10) (3 - k) ∧ (4294967296 * lft E k + dg E (3 - k)) % 10 = lft E (k + 1) := by
  unfold lft dg
  have hc : E / 10 / 4294967296 ^ (3 - k) = E / 4294967296 ^ (3 - k) / 10 := by rw [Nat.div_div_eq_div_mul, Nat.mul_comm, ← Nat.div_div_eq_div_mul]
  rw [hc, show 4 - k = (3 - k) + 1 from by omega, show 4 - (k + 1) = 3 - k from by omega, Nat.pow_succ, ← Nat.div_div_eq_div_mul]
  generalize E / 4294967296 ^ (3 - k) = a
  omega
theorem lft_lt (E k : Nat) : lft E k < 10 := Nat.mod_lt _ (by decide)
theorem lft_4 (E : Nat) : lft E 4 = E % 10 := by simp [lft]
theorem lft_0 (E : Nat) (h : E < 340282366920938463463374607431768211456) : lft E 0 = 0 := by
  unfold lft
  rw [show 4294967296 ^ (4 - 0) = 340282366920938463463374607431768211456 from by decide, Nat.div_eq_of_lt h]
theorem smK_4 (E : Nat) (h : E < 340282366920938463463374607431768211456) : smK E 4 = decide (0 < E / 10) := by
  have h2 : E / 10 < 340282366920938463463374607431768211456 := Nat.lt_of_le_of_lt (Nat.div_le_self _ _) h
  rw [Bool.eq_iff_iff]
  simp only [smK, List.any_eq_true, List.mem_range, decide_eq_true_eq]
  generalize E / 10 = F at *
  constructor
  · rintro ⟨j, _, hj⟩
    unfold dg at hj
    rcases Nat.eq_zero_or_pos F with h0 | h0
    · rw [h0] at hj; simp at hj
    · exact h0
  · intro h0
    refine Classical.byContradiction fun hn => ?_
    have e : ∀ j, j < 4 → dg F (3 - j) = 0 := fun j hj => by
      refine Classical.byContradiction fun hne => hn ⟨j, hj, Nat.pos_of_ne_zero hne⟩
    have e0 := e 3 (by omega); have e1 := e 2 (by omega); have e2 := e 1 (by omega); have e3 := e 0 (by omega)
    have hs := dg_sum F
    simp only [Nat.sub_self, show 3 - 2 = 1 from rfl, show 3 - 1 = 2 from rfl, show 3 - 0 = 3 from rfl] at e0 e1 e2 e3
    rw [e0, e1, e2, e3, Nat.mod_eq_of_lt h2] at hs
    have := Nat.div_add_mod F 18446744073709551616
    rw [← hs.1, ← hs.2] at this
    omega
/-- the ref's digits, the first one first, k of them turned -/
def txc (E k : Nat) (j : Nat) : Value := .int .u64 (if j < k then dg (E / 10) (3 - j) else dg E (3 - j) : Nat)
def strMeas (v : Value) : Nat := match v with | .string b => 41 - b.size | _ => 0

set_option maxRecDepth 100000 in
set_option maxHeartbeats 4000000 in
theorem rtext_any (D : Nat) (w : World) (hD : D < 340282366920938463463374607431768211456) :
    Calls Try.prog 19 #[dv D] w fun e w' => e = .returned (.string (digText D)) ∧ Below w.heap.size w w' := by
  have hlen : (dig D).length ≤ 39 := dig_len 39 D (Nat.lt_trans hD (by decide)) (by decide)
  have HLEN := hideP hlen; have HD := hideP hD
  clear hlen
  have c0 : dg D 3 = D / 18446744073709551616 / 4294967296 := by unfold dg; simp only [Nat.reducePow]; omega
  have c1 : dg D 2 = D / 18446744073709551616 % 4294967296 := by unfold dg; simp only [Nat.reducePow]
  have c2 : dg D 1 = D % 18446744073709551616 / 4294967296 := by unfold dg; simp only [Nat.reducePow]; omega
  have c3 : dg D 0 = D % 18446744073709551616 % 4294967296 := by unfold dg; simp only [Nat.reducePow]; omega
  unfold dv dvp
  have bh : D / 18446744073709551616 < 18446744073709551616 := by omega
  have bl : D % 18446744073709551616 < 18446744073709551616 := by omega
  clear hD
  obtain ⟨h0, eh0⟩ : ∃ h, h = D / 18446744073709551616 := ⟨_, rfl⟩
  obtain ⟨l0, el0⟩ : ∃ l, l = D % 18446744073709551616 := ⟨_, rfl⟩
  rw [← eh0] at c0 c1 bh ⊢
  rw [← el0] at c2 c3 bl ⊢
  have C := hideP (And.intro c0 (And.intro c1 (And.intro c2 c3)))
  clear eh0 el0 c0 c1 c2 c3
  go_enter Try.func19, Try.ntmps19
  go_wp2
  obtain ⟨g, hg⟩ : ∃ g, g = w.heap.size := ⟨_, rfl⟩
  obtain ⟨w0, hw0⟩ : ∃ w0, w0 = (w.alloc (Obj.cells #[.int .u64 h0, .int .u64 l0] 29)).alloc (Obj.cells #[.int .u64 ((h0 : Int) / 4294967296), .int .u64 ((h0 : Int) % 4294967296), .int .u64 ((l0 : Int) / 4294967296), .int .u64 ((l0 : Int) % 4294967296)] 27) := ⟨_, rfl⟩
  have r1 : Blk w0 (g + 1) 27 4 (txc D 0) := by
    rw [hw0, hg]
    refine ⟨_, heap_alloc2_new _ _ _, Nat.le_refl _, fun i hi => ?_⟩
    unfold txc
    rw [if_neg (Nat.not_lt_zero i)]
    obtain ⟨d3, d2, d1, d0⟩ := C.out
    rcases (by omega : i = 0 ∨ i = 1 ∨ i = 2 ∨ i = 3) with rfl | rfl | rfl | rfl
    · rw [d3]; rfl
    · rw [d2]; rfl
    · rw [d1]; rfl
    · rw [d0]; rfl
  have rb : Below w.heap.size w w0 := by rw [hw0]; exact ((Below.refl _ _).alloc (Nat.le_refl _) _).alloc (by simp) _
  rw [← hw0, ← hg]
  have HG := hideP hg
  clear hw0 hg bh bl C
  go_loopw [4] (fun v4 wr => ∃ (E : Nat) (ds : List Nat), v4 = .string (bstr ds.reverse) ∧ Hid (dig D = ds ++ dig E) ∧ Hid (E < 340282366920938463463374607431768211456) ∧
    Hid (Blk wr (g + 1) 27 4 (txc E 0) ∧ Below w.heap.size w wr)) (fun v4 _ => strMeas v4)
  case atStart =>
    refine ⟨D, [], rfl, ?_, HD.out, r1, rb⟩
    rfl
  case round =>
    obtain ⟨E, ds, rfl, hdig, hE, hW⟩ := hrel
    clear r1 rb
    go_wp2
    obtain ⟨wo, hwo⟩ : ∃ wo : World, wo = wr := ⟨_, rfl⟩
    have b1 := hW.out.1
    have b2 := hW.out.2
    clear hW
    obtain ⟨sv, hsv⟩ : ∃ sv, sv = bstr ds.reverse := ⟨_, rfl⟩
    rw [← hwo] at b1 b2 ⊢
    go_loopw [5, 6, 7] (fun v5 v6 v7 wr => ∃ k u : Nat, ∃ b : Bool, k ≤ 4 ∧ v5 = .int .u64 u ∧ v6 = .bool b ∧ v7 = .int .i64 k ∧ Hid (u = lft E k) ∧ Hid (b = smK E k) ∧
      Hid (Blk wr (g + 1) 27 4 (txc E k) ∧ Below w.heap.size w wr)) (fun _ _ v7 _ => 4 - (intOf v7).toNat)
    case atStart => exact ⟨0, 0, false, by omega, rfl, rfl, rfl, (lft_0 E hE.out).symm, rfl, b1, b2⟩
    case round =>
      obtain ⟨k, u, b, hk, rfl, rfl, rfl, hu, hb, hW⟩ := hrel
      clear b1 b2 hwo
      by_cases hk4 : k < 4
      · have t2 : decide ((k : Int) < 4) = true := by simp; omega
        have c1 := hW.out.1.cell (i := k) hk4
        have f1 := hW.out.1.frozen k
        unfold txc at c1
        rw [if_neg (Nat.lt_irrefl k)] at c1
        have l1 := dg_lt E (3 - k)
        have l2 := lft_lt E k
        have st := lft_step E k hk4
        rw [← hu.out] at l2 st
        obtain ⟨v, ev⟩ : ∃ v, v = dg E (3 - k) := ⟨_, rfl⟩
        rw [← ev] at c1 l1 st
        have l3 : 4294967296 * u + v < 18446744073709551616 := by clear st; omega
        obtain ⟨q, eq⟩ : ∃ q, q = (4294967296 * u + v) / 10 := ⟨_, rfl⟩
        have HST := hideP st
        have f2 : ((4294967296 : Int) * u + v) / 10 = (q : Int) := by rw [eq]; rfl
        have HQ := hideP eq
        clear ev st eq
        have i0 : (0 : Int) ≤ (k : Int) := by omega
        have i1 : (k : Int) < 4 := by omega
        have hb2 := smK_succ E k
        have hq2 : q = dg (E / 10) (3 - k) := by rw [HQ.out]; exact HST.out.1
        rw [← hb.out, ← hq2] at hb2
        have HB2 := hideP hb2; have HQ2 := hideP hq2
        clear hb2 hq2 hb
        cases b
        all_goals go_wp2
        all_goals refine ⟨⟨k + 1, lft E (k + 1), _, by omega, ?_, rfl, by go_num, rfl, ?_, ?_, ?_⟩, by simp [intOf]; omega⟩
        all_goals first
          | (rw [← HST.out.2]; rfl)
          | (simp only [Hid]; rw [HB2.out]; rfl)
          | (refine (hW.out.1.set k _).congr fun j hj => ?_
             unfold txc
             by_cases e : j = k
             · subst e
               rw [if_pos rfl, if_pos (by omega), HQ2.out]
             · rw [if_neg e]
               by_cases e2 : j < k
               · rw [if_pos e2, if_pos (by omega)]
               · rw [if_neg e2, if_neg (by omega)])
          | (have := HG.out; exact hW.out.2.setCell (p := ⟨g + 1, k, none⟩) (by simp; omega) _)
      · obtain rfl : k = 4 := by omega
        have hu4 : u = E % 10 := by rw [hu.out, lft_4]
        have hd : u < 10 := by rw [hu4]; exact Nat.mod_lt _ (by decide)
        have hb4 : b = decide (0 < E / 10) := by rw [hb.out, smK_4 E hE.out]
        have hcv : ∀ W : World, (convert 74 9 (.slice (some ⟨W.heap.size, 0, none⟩) 1 1)).run Try.prog (W.alloc (.cells #[.int .u8 (48 + (u : Int))] 5)) = .ok (.string (bstr [48 + u])) (W.alloc (.cells #[.int .u8 (48 + (u : Int))] 5)) := fun W => by
          refine run_str (l := [48 + u]) (n := 1) (c := 1) _ 74 5 Try.underlying74 Try.underlying5 (B := W.heap.size + 1) (fun _ => ⟨W.heap.size, 0, rfl, by omega, fun i hi => ?_⟩) rfl 9 Try.underlying9
          obtain rfl : i = 0 := by omega
          rw [(One.new W _ _).c0]; rfl
        have HU := hideP hu4; have HB4 := hideP hb4
        clear hu hb hu4 hb4
        have hds : ds.length ≤ 38 := by
          have h1 := HLEN.out
          have h2 := dig_pos E
          rw [hdig.out, List.length_append] at h1
          omega
        have hsz : ¬ 9223372036854775807 < (bstr [48 + u]).size + (bstr ds.reverse).size := by rw [bstr_size, bstr_size, List.length_reverse]; simp; omega
        have hbel := HG.out
        clear hsv
        cases b
        · go_wp2
          go_ret
          refine ⟨?_, hW.out.2.alloc hW.out.2.size _⟩
          have e0 : E / 10 = 0 := by have := HB4.out; simp at this; omega
          have e1 : E < 10 := by omega
          have e2 : E % 10 = E := Nat.mod_eq_of_lt e1
          unfold digText
          rw [hdig.out, dig_last E e1, List.reverse_append, List.reverse_singleton, ← bstr_append, ← e2, ← HU.out]
          rfl
        · go_wp2
          have e0 : 0 < E / 10 := by have := HB4.out; simp at this; omega
          refine ⟨⟨E / 10, ds ++ [48 + u], ?_, ?_, ?_, ?_, ?_⟩, ?_⟩
          · rw [List.reverse_append, List.reverse_singleton, ← bstr_append]
          · simp only [Hid]
            rw [hdig.out, List.append_assoc]
            have e := dig_more (E / 10) (E % 10) (Nat.mod_lt _ (by decide)) e0
            rw [Nat.div_add_mod] at e
            rw [e, HU.out]; rfl
          · exact Nat.lt_of_le_of_lt (Nat.div_le_self _ _) hE.out
          · refine (hW.out.1.alloc _).congr fun j hj => ?_
            unfold txc
            rw [if_pos hj, if_neg (Nat.not_lt_zero j)]
          · exact hW.out.2.alloc hW.out.2.size _
          · simp only [strMeas, ByteArray.size_append, bstr_size, List.length_reverse, List.length_singleton]
            omega
end Go.Proofs.Ytnekbmndphbaoaa
