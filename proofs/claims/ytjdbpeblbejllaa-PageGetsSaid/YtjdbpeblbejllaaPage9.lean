/- PageGets: the walk. -/
import Derived.Test.YtjdbpeblbejllaaPage8
set_option linter.unusedVariables false
set_option linter.unusedSimpArgs false
namespace Go.Proofs.Ytjdbpeblbejllaa
open Go.RowKit
/-- the store behind some Puts -/
def putAll (l : List (List Nat)) : List (List Nat) × Option (List Nat × List Nat) := l.foldl (fun p t => (putL p.1 t, putC p.1 p.2 t)) ([], none)
theorem putAll_snoc (l : List (List Nat)) (t : List Nat) : putAll (l ++ [t]) = (putL (putAll l).1 t, putC (putAll l).1 (putAll l).2 t) := by simp [putAll]
theorem put_mem (L : List (List Nat)) (t : List Nat) : ∃ u ∈ putL L t, sum9 u = sum9 t := by
  unfold putL
  by_cases h : L.any (fun u => sum9 u == sum9 t) = true
  · rw [if_pos h]
    obtain ⟨u, hu, hs⟩ := List.any_eq_true.1 h
    exact ⟨u, hu, by simpa using hs⟩
  · rw [if_neg h]
    exact ⟨t, by simp, rfl⟩
theorem put_same (L : List (List Nat)) (C : Option (List Nat × List Nat)) (t : List Nat) (h : putC L C t = none) : t ∈ putL L t := by
  unfold putC at h
  rcases C with _ | p
  · simp only at h
    rcases hf : L.find? (fun u => sum9 u == sum9 t) with _ | u
    · unfold putL
      rw [if_neg]
      · simp
      · intro h1
        obtain ⟨u, hu, hs⟩ := List.any_eq_true.1 h1
        exact List.find?_eq_none.1 hf u hu hs
    · rw [hf] at h
      simp only at h
      by_cases e : u = t
      · have hu := List.mem_of_find?_eq_some hf
        unfold putL
        rw [if_pos (List.any_eq_true.2 ⟨u, hu, by simpa using List.find?_some hf⟩), ← e]
        exact hu
      · rw [if_neg e] at h
        cases h
  · cases h
/-- the store under way -/
def Under (w0 w : World) (g : Nat) (l : List (List Nat)) : Prop := ∃ S, PSt w S g (putAll l).1 (putAll l).2 ∧ (∀ b, S b → w0.heap.size ≤ b) ∧ Below w0.heap.size w0 w
set_option maxRecDepth 100000 in
set_option maxHeartbeats 1000000 in
theorem walk_PageGets (A : Option Addr) (t : List Nat) (c : Nat) (B : Option Addr) (ll : List (List Nat)) (cb : Nat) (AA : Nat → Option Addr) (cc : Nat → Nat) (w : World) (hA : Arr w w.heap.size A t.length (u8s t)) (ht : IsB t) (hn : t.length ≤ 140737488351232)
    (hB : Arr w w.heap.size B ll.length (fun i => .slice (AA i) (ll.getD i []).length (cc i))) (hall : ∀ i, i < ll.length → Arr w w.heap.size (AA i) (ll.getD i []).length (u8s (ll.getD i [])) ∧ IsB (ll.getD i []) ∧ (ll.getD i []).length ≤ maxLen) (hln : ll.length ≤ maxLen) :
    Calls Try.prog 4 #[.slice A t.length c, .slice B ll.length cb] w fun e w' => e = .returned (.bool true) ∧ Below w.heap.size w w' := by
  have ha := hideP (alive09 w)
  unfold maxLen at hln
  by_cases hg : t.length ≤ 200 ∧ ll.length ≤ 30
  · obtain ⟨hg1, hg2⟩ := hg
    have hg1' := hideP hg1
    have HhA := hideP hA; have Hht := hideP ht; have HhB := hideP hB; have Hhall := hideP hall; clear hA ht hB hall
    have hg3 : ¬ (200 : Int) < (t.length : Nat) := by omega
    have hg4 : ¬ (30 : Int) < (ll.length : Nat) := by omega
    go_enter Try.func4, Try.ntmps4
    go_upto_region 6 with (first
      | (go_at_call 11; refine ha.out.mono ?_; rintro e w1 ⟨rfl, hb1⟩; have b1 := hideP hb1; clear hb1)
      | (go_at_call 16; refine (pnew_any w1).mono ?_; rintro e w2 ⟨g, S, rfl, hb2, hP2, hS2⟩; have b2 := hideP (b1.out.trans (hb2.mono b1.out.size)); have P2 := hideP hP2; have s2 := hideP (show ∀ b, S b → w.heap.size ≤ b from fun b hb => Nat.le_trans b1.out.size (hS2 b hb)); clear hb2 hP2 hS2))
    go_wp2
    go_loopw [6] (fun v wr => ∃ k : Nat, k ≤ ll.length ∧ v = .int .i64 k ∧ Hid (Under w wr g (ll.take k))) (fun v _ => ll.length - (intOf v).toNat)
    case atStart => exact ⟨0, Nat.zero_le _, rfl, ⟨S, P2.out, s2.out, b2.out⟩⟩
    case round =>
      obtain ⟨k, hkn, rfl, hrel⟩ := hrel
      by_cases hlt : k < ll.length
      · obtain ⟨b0, off, hBe, hb0, hcells⟩ := HhB.out (by omega)
        obtain ⟨SS, hP, hS, hb⟩ := hrel.out
        obtain ⟨u, hu⟩ : ∃ u, u = ll.getD k [] := ⟨_, rfl⟩
        have hck : wr.cell? ⟨b0, off + k, none⟩ = some (.slice (AA k) u.length (cc k)) := by rw [hu]; exact cell_below (w' := wr) hb hb0 (hcells k hlt)
        have hau := hideP ((Hhall.out k hlt).1)
        have hub := hideP ((Hhall.out k hlt).2.1)
        have hun : u.length ≤ maxLen := by rw [hu]; exact (Hhall.out k hlt).2.2
        unfold maxLen at hun
        have hts := hideP (show ll.take (k + 1) = ll.take k ++ [u] by rw [hu]; exact take_snoc' ll k hlt)
        rw [← hu] at hau hub
        subst hBe
        have hau' := hideP (hau.out.after hb)
        have hP' := hideP hP
        have hS' := hideP hS
        have hb' := hideP hb
        clear hP hS hb hu hcells hb0 hau
        by_cases hul : u.length ≤ 200
        · have hul' := hideP hul
          have hul2 : ¬ (200 : Int) < (u.length : Nat) := by omega
          have hput := hideP (pput_any g SS _ _ (AA k) u (cc k) wr hP'.out hau'.out hub.out (by have := hul'.out; omega))
          go_wp2_with (go_at_call 17; refine hput.out.mono ?_; rintro e w3 ⟨S3, rfl, hb3, hS3, hP3⟩; have x3 := hideP hb3; have P3 := hideP hP3; have s3 := hideP hS3; clear hb3 hP3 hS3)
          go_roundw
          case rel =>
            refine ⟨k + 1, by omega, by go_num, ⟨S3, ?_, fun b hb => (s3.out b hb).elim (hS'.out b) (fun h => Nat.le_trans hb'.out.size h), hb'.out.trans (x3.out.below hS'.out hb'.out.size)⟩⟩
            rw [hts.out, putAll_snoc]
            exact P3.out
          case measure => simp [intOf]; omega
        · have hul2 : (200 : Int) < (u.length : Nat) := by omega
          go_wp2
          go_ret
          exact ⟨rfl, hb'.out⟩
      · obtain rfl : k = ll.length := by omega
        rw [List.take_length] at hrel
        obtain ⟨SS, hP, hS, hb⟩ := hrel.out
        have hP' := hideP hP
        have hS' := hideP hS
        have hb' := hideP hb
        have hAr := hideP (HhA.out.after hb)
        clear hP hS hb hrel P2 s2 b2 b1
        have hput := hideP (pput_any g SS _ _ A t c wr hP'.out hAr.out Hht.out (by have := hg1'.out; omega))
        obtain ⟨L, hL⟩ : ∃ L, L = putL (putAll ll).1 t := ⟨_, rfl⟩
        obtain ⟨C, hC⟩ : ∃ C, C = putC (putAll ll).1 (putAll ll).2 t := ⟨_, rfl⟩
        have hm1 := hideP (show ∃ u ∈ L, sum9 u = sum9 t ∧ (C = none → u = t) by
          rw [hL]
          by_cases hCn : C = none
          · exact ⟨t, put_same _ _ t (hC ▸ hCn), rfl, fun _ => rfl⟩
          · obtain ⟨u, hu, hs⟩ := put_mem (putAll ll).1 t
            exact ⟨u, hu, hs, fun h => absurd h hCn⟩)
        rw [← hL, ← hC] at hput
        clear hL hC
        obtain ⟨u, hu, hs, huC⟩ := hm1.out
        obtain ⟨l, hl⟩ : ∃ l, l = sum9 t := ⟨_, rfl⟩
        have hll := hideP (show l.length = 32 by rw [hl]; exact sum9_len t)
        have hlb := hideP (show IsB l by rw [hl]; exact isB_dig _)
        have hpd := hideP (show pageD t = l.map b8 by rw [hl]; rfl)
        rw [hpd.out] at hput
        have hsl := hideP (show sum9 u = l by rw [hl]; exact hs)
        have huL := hideP hu
        have huC' := hideP huC
        have hds := hideP (show (Try.prog.info? 25).map (·.size) = some (l.map b8).toArray.size by rw [size_dig]; simp [hll.out])
        have hdo := hideP (show z32.toArray.size = (l.map b8).toArray.size by simp [hll.out, z32])
        have hda := hideP (show (l.map b8).toArray.all (·.oneCell') = true from all_b8 _)
        clear hm1 hu hs huC hl
        go_upto_region 13 with (first
          | (go_at_call 17; refine hput.out.mono ?_; rintro e w2 ⟨S2, rfl, hb2, hS2, hP2⟩; have b2 := hideP (hb'.out.trans (hb2.below hS'.out hb'.out.size)); have P2 := hideP hP2; clear hb2 hP2 hS2)
          | (refine wpList_store_row rfl 25 (.tmp 7) (.tmp 44) rfl w2.heap.size (l.map b8).toArray rfl rfl 25 z32.toArray (Row.new w2 _ z32) hds.out hdo.out hda.out ?_))
        simp only [Act.put]
        obtain ⟨D, hD⟩ : ∃ D, D = w2.heap.size := ⟨_, rfl⟩
        obtain ⟨w3, hw3⟩ : ∃ w3, w3 = (w2.alloc (Obj.cells #[.int .u8 0, .int .u8 0, .int .u8 0, .int .u8 0, .int .u8 0, .int .u8 0, .int .u8 0, .int .u8 0, .int .u8 0, .int .u8 0, .int .u8 0, .int .u8 0, .int .u8 0, .int .u8 0, .int .u8 0, .int .u8 0, .int .u8 0, .int .u8 0, .int .u8 0, .int .u8 0, .int .u8 0, .int .u8 0, .int .u8 0, .int .u8 0, .int .u8 0, .int .u8 0, .int .u8 0, .int .u8 0, .int .u8 0, .int .u8 0, .int .u8 0, .int .u8 0] 25)).setRow w2.heap.size (l.map b8).toArray := ⟨_, rfl⟩
        have d3 := hideP (show Row w3 D 25 (l.map b8) by rw [hw3, hD]; exact Row.setRow (Row.new w2 _ z32) _)
        have bb := hideP (show Below w2.heap.size w2 w3 by rw [hw3]; exact below_setRow' (below_new _ _) (Nat.le_refl _) _)
        rw [← hw3, ← hD]
        have P3 := hideP (P2.out.after bb.out)
        have b3 := hideP (b2.out.trans (bb.out.mono b2.out.size))
        clear hw3 hD bb b2 P2 hput hP' hS' hb' hAr
        have hget := pget_in g S2 L C u l w3 P3.out huL.out hsl.out
        unfold dg at hget
        have hget' := hideP hget
        clear hget
        go_upto_region 16 with (first
          | (refine wpList_load_row rfl 25 (.tmp 7) rfl D rfl 25 (l.map b8).toArray (0, 0) _ d3.out Try.underlying25 rfl hds.out ?_)
          | (go_at_call 18; refine hget'.out.mono ?_; rintro e w4 ⟨R, d, rfl, hb4, ho⟩; have b4 := hideP (b3.out.trans (hb4.mono b3.out.size)); have o4 := hideP ho.arr; have P4 := hideP (P3.out.after hb4); clear hb4 ho))
        have hcl := hideP (pclash_any g S2 L C w4 P4.out)
        have huB := hideP (P4.out.isB huL.out)
        clear hget' d3 P3 b3 P4
        rcases C with _ | p
        · obtain rfl := huC'.out rfl
          simp only [Option.isSome_none] at hcl
          go_upto_region 18 with (go_at_call 19; refine hcl.out.mono ?_; rintro e w5 ⟨x, y, R1, R2, d1, d2, rfl, hb5, hx, hy, hxb, hyb, hxn, hyn, hN, hSm⟩; (obtain ⟨rfl, rfl⟩ := hN trivial); have b5 := hideP (b4.out.trans (hb5.mono b4.out.size)); have o5 := hideP (o4.out.after hb5); clear hb5 hx hy hxb hyb hxn hyn hN hSm)
          have h1 := run_str (P := Try.prog) w5 22 5 Try.underlying22 Try.underlying5 (c := d) o5.out rfl 9 Try.underlying9
          have h2 := run_str (P := Try.prog) w5 22 5 Try.underlying22 Try.underlying5 (c := c) (HhA.out.after b5.out) rfl 9 Try.underlying9
          go_wp2
          go_ret
          exact ⟨by simp, b5.out⟩
        · simp only [Option.isSome_some] at hcl
          clear huC' o4
          go_upto_region 19 with (go_at_call 19; refine hcl.out.mono ?_; rintro e w5 ⟨x, y, R1, R2, d1, d2, rfl, hb5, hx, hy, hxb, hyb, hxn, hyn, hN, hSm⟩; have b5 := hideP (b4.out.trans (hb5.mono b4.out.size)); have x5 := hideP hx; have y5 := hideP hy; have xb := hideP hxb; have yb := hideP hyb; have xn := hideP hxn; have yn := hideP hyn; have hxy := hideP (hSm p rfl).2; clear hb5 hx hy hxb hyb hxn hyn hN hSm)
          have h1 := run_str (P := Try.prog) w5 22 5 Try.underlying22 Try.underlying5 (c := d1) x5.out rfl 9 Try.underlying9
          have h2 := run_str (P := Try.prog) w5 22 5 Try.underlying22 Try.underlying5 (c := d2) y5.out rfl 9 Try.underlying9
          have h3 : ((bstr x).toList == (bstr y).toList) = false := by
            rw [toList_bstr, toList_bstr, beq_eq_false_iff_ne]
            exact fun h => hxy.out.2 (map_ofNat_inj x y xb.out yb.out h)
          have h4 : ((bstr x).toList != (bstr y).toList) = true := by rw [bne, h3]; rfl
          obtain ⟨l2, hl2⟩ : ∃ l2, l2 = sum9 x := ⟨_, rfl⟩
          have hl2l := hideP (show l2.length = 32 by rw [hl2]; exact sum9_len x)
          have hl2b := hideP (show IsB l2 by rw [hl2]; exact isB_dig _)
          have hpx := hideP (show pageD x = l2.map b8 by rw [hl2]; rfl)
          have hpy := hideP (show pageD y = l2.map b8 by rw [hl2, hxy.out.1]; rfl)
          clear hl2
          have hq : ∀ W, (binOp .eql 25 (.agg (l2.map b8).toArray) (.agg (l2.map b8).toArray)).run Try.prog W = .ok (.bool true) W := fun W => by rw [run_eql_dg l2 l2 hl2l.out hl2l.out hl2b.out hl2b.out]; simp
          have hs1 := psum_any R1 x d1 w5 x5.out xb.out xn.out
          rw [hpx.out] at hs1
          have hs1' := hideP hs1
          clear hs1
          go_wp2_with fail
          refine hs1'.out.mono ?_
          rintro e w6 ⟨rfl, hb6⟩
          have b6 := hideP (b5.out.trans (hb6.mono b5.out.size))
          have hs2 := psum_any R2 y d2 w6 (y5.out.after hb6) yb.out yn.out
          rw [hpy.out] at hs2
          have hs2' := hideP hs2
          clear hs2 hb6
          go_wp2_with fail
          refine hs2'.out.mono ?_
          rintro e w7 ⟨rfl, hb7⟩
          have b7 := hideP (b6.out.trans (hb7.mono b6.out.size))
          clear hb7
          go_wp2
          go_ret
          exact ⟨rfl, b7.out⟩
  · by_cases hg1 : t.length ≤ 200
    · have hg2 : ¬ ll.length ≤ 30 := fun h => hg ⟨hg1, h⟩
      have hg3 : ¬ (200 : Int) < (t.length : Nat) := by omega
      have hg4 : (30 : Int) < (ll.length : Nat) := by omega
      clear hg hA hB hall ht
      go_enter Try.func4, Try.ntmps4
      go_wp2_with (go_at_call 11; refine ha.out.mono ?_; rintro e w1 ⟨rfl, hb1⟩; have b1 := hideP hb1; clear hb1)
      go_ret
      exact ⟨rfl, b1.out⟩
    · have hg3 : (200 : Int) < (t.length : Nat) := by omega
      clear hg hA hB hall ht
      go_enter Try.func4, Try.ntmps4
      go_wp2_with (go_at_call 11; refine ha.out.mono ?_; rintro e w1 ⟨rfl, hb1⟩; have b1 := hideP hb1; clear hb1)
      go_ret
      exact ⟨rfl, b1.out⟩
end Go.Proofs.Ytjdbpeblbejllaa
