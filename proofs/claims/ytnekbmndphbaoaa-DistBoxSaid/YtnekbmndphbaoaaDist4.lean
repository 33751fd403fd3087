/- The contract of dist.Text. -/
import Derived.Test.YtnekbmndphbaoaaDist3
set_option linter.unusedVariables false
set_option linter.unusedSimpArgs false
namespace Go.Proofs.Ytnekbmndphbaoaa
open Go.RowKit

theorem info_u8' : (Try.prog.info? 5).map (fun i => (i.zero, i.size, i.bytes)) = some (some (.int .u8 0), 1, 1) := by kernel_rfl
theorem dig_pos (D : Nat) : 0 < (dig D).length := by unfold dig; split <;> simp
theorem dig_more (E d : Nat) (hd : d < 10) (hE : 0 < E) : dig (10 * E + d) = (48 + d) :: dig E := by
  rw [dig, dif_neg (by omega), show (10 * E + d) % 10 = d from by omega, show (10 * E + d) / 10 = E from by omega]
theorem dig_last (d : Nat) (hd : d < 10) : dig d = [48 + d] := by
  rw [dig, dif_pos (by omega), show d % 10 = d from by omega]
theorem txt_eq (h l q m a d : Nat) (h1 : 10 * q + m = h) (h2 : 10 * a + d = m * 18446744073709551616 + l) (hm : m < 10) (hl : l < 18446744073709551616) (hh : h < 18446744073709551616) :
    h * 18446744073709551616 + l = 10 * (q * 18446744073709551616 + a) + d ∧ a < 18446744073709551616 ∧ q < 18446744073709551616 := by
  refine ⟨by omega, by omega, by omega⟩
def digText (D : Nat) : ByteArray := bstr (dig D).reverse

def txtMeas (v3 v4 : Value) : Nat := match v4 with
  | .bool true => 41 - (match v3 with | .slice _ n _ => n | _ => 0)
  | _ => 0

set_option maxRecDepth 100000 in
set_option maxHeartbeats 2000000 in
theorem dist_text (D : Nat) (w : World) (hD : D < 340282366920938463463374607431768211456) :
    Calls Try.prog 18 #[dv D] w fun e w' => e = .returned (.string (digText D)) ∧ Below w.heap.size w w' := by
  obtain ⟨i0, hi0, hz0, hz1, hz2⟩ := info_parts info_u8'
  have hlen : (dig D).length ≤ 39 := dig_len 39 D (Nat.lt_trans hD (by decide)) (by decide)
  have HLEN := hideP hlen
  clear hlen
  unfold dv dvp
  have e0 : Two (w.alloc (.cells #[.int .u64 (D / 18446744073709551616 : Nat), .int .u64 (D % 18446744073709551616 : Nat)] 29)) w.heap.size 29 (.int .u64 (D / 18446744073709551616 : Nat)) (.int .u64 (D % 18446744073709551616 : Nat)) := Two.new _ _ _ _
  obtain ⟨h0, eh0⟩ : ∃ h, h = D / 18446744073709551616 := ⟨_, rfl⟩
  obtain ⟨l0, el0⟩ : ∃ l, l = D % 18446744073709551616 := ⟨_, rfl⟩
  have bh0 : h0 < 18446744073709551616 := by rw [eh0]; omega
  have bl0 : l0 < 18446744073709551616 := by rw [el0]; exact Nat.mod_lt _ (by decide)
  have eD : h0 * 18446744073709551616 + l0 = D := by rw [eh0, el0, Nat.mul_comm]; exact Nat.div_add_mod _ _
  have BH0 := hideP bh0; have BL0 := hideP bl0; have ED := hideP eD
  have start : dig D = [] ++ dig (h0 * 18446744073709551616 + l0) := by rw [List.nil_append, eD]
  have START := hideP start
  clear bh0 bl0 eD hD start
  rw [← eh0, ← el0] at e0 ⊢
  have HH0 := hideP eh0; have HL0 := hideP el0; have E0 := hideP e0
  clear eh0 el0 e0
  go_enter Try.func18, Try.ntmps18
  go_wp2
  obtain ⟨g, hg⟩ : ∃ g, g = w.heap.size := ⟨_, rfl⟩
  obtain ⟨w0, hw0⟩ : ∃ w0, w0 = w.alloc (Obj.cells #[.int .u64 h0, .int .u64 l0] 29) := ⟨_, rfl⟩
  have r0 : Two w0 g 29 (.int .u64 h0) (.int .u64 l0) := by rw [hw0, hg]; exact E0.out
  have rb : Below w.heap.size w w0 := by rw [hw0]; exact (Below.refl _ _).alloc (Nat.le_refl _) _
  have hown0 : w0.ownsRow (g + 1) 5 1 (.slice none 0 0) 0 [] := World.ownsRow_nil _ _ _ _
  rw [← hw0, ← hg]
  have HG := hideP hg
  clear hw0 hg E0
  go_loopw [3, 4] (fun v3 v4 wr => ∃ (b : Bool) (R : Option Addr) (s k h l : Nat) (ds : List Nat), v3 = .slice R k s ∧ v4 = .bool b ∧ Hid (ds.length = k) ∧
    Hid (wr.ownsRow (g + 1) 5 1 (.slice R k s) k (ds.map fun (x : Nat) => Value.int .u8 x) ∧ Two wr g 29 (.int .u64 h) (.int .u64 l) ∧ Below w.heap.size w wr) ∧
    l < 18446744073709551616 ∧ h < 18446744073709551616 ∧ Hid ((b = true → dig D = ds ++ dig (h * 18446744073709551616 + l)) ∧ (b = false → dig D = ds))) (fun v3 v4 _ => txtMeas v3 v4)
  case atStart =>
    refine ⟨true, none, 0, 0, h0, l0, [], rfl, rfl, rfl, ⟨hown0, r0, rb⟩, BL0.out, BH0.out, ?_, ?_⟩
    · intro _; exact START.out
    · intro h; cases h
  case round =>
    obtain ⟨b, R, s, k, h, l, ds, rfl, rfl, hk, hW, hl, hh, hd⟩ := hrel
    clear r0 rb hown0
    cases b
    · have hd' : dig D = ds := hd.out.2 rfl
      have hk0 : 0 < k := by rw [← hk.out, ← hd']; exact dig_pos D
      have hk39 : k ≤ 39 := by rw [← hk.out, ← hd']; exact HLEN.out
      obtain ⟨g', rfl, hg', hblk⟩ := Blk.of_own (f := u8s ds) hW.out.1 hk0 (fun i hi => by
        have hi' : i < ds.length := by rw [hk.out]; exact hi
        unfold u8s
        simp [List.getD, List.getElem?_eq_getElem hi'])
      have HBK := hideP hblk; have HDD := hideP hd'
      clear hd hblk hd'
      go_wp2_with fail
      refine (reverse_any g' k s (u8s ds) w.heap.size wr HBK.out (by have := HG.out; omega) (by omega) (fun i => ⟨_, rfl⟩)).mono ?_
      rintro e w1 ⟨rfl, hb1, hbe1⟩
      have hA : Arr w1 w1.heap.size (some ⟨g', 0, none⟩) k (u8s ds.reverse) := Arr.of_blk (hb1.congr fun i hi => by
        unfold u8s
        have h1 : i < ds.reverse.length := by rw [List.length_reverse, hk.out]; exact hi
        have h2 : k - 1 - i < ds.length := by rw [hk.out]; omega
        simp only [List.getD, List.getElem?_eq_getElem h1, List.getElem?_eq_getElem h2, Option.getD_some, List.getElem_reverse]
        congr 3
        rw [hk.out])
      have hs1 := run_str (P := Try.prog) w1 74 5 Try.underlying74 Try.underlying5 (c := s) hA (by rw [List.length_reverse, hk.out]) 9 Try.underlying9
      have HBE := hideP (hW.out.2.2.trans (hbe1.mono (Nat.le_refl _)))
      clear hA hb1 hbe1
      go_wp2
      go_ret
      refine ⟨?_, HBE.out⟩
      unfold digText
      rw [HDD.out]
      rfl
    · have hd' : dig D = ds ++ dig (h * 18446744073709551616 + l) := hd.out.1 rfl
      have hk39 : k + 1 ≤ 39 := by
        have h1 := HLEN.out
        have h2 : 0 < (dig (h * 18446744073709551616 + l)).length := dig_pos _
        rw [hd', List.length_append, hk.out] at h1
        clear hl hh
        omega
      have HD := hideP hd'
      clear hd hd'
      have c0 := hW.out.2.1.c0
      have c1 := hW.out.2.1.c1
      obtain ⟨q, eq⟩ : ∃ q, q = h / 10 := ⟨_, rfl⟩
      obtain ⟨m, em⟩ : ∃ m, m = h % 10 := ⟨_, rfl⟩
      have hm : m < 10 := by rw [em]; exact Nat.mod_lt _ (by decide)
      have hqm : 10 * q + m = h := by rw [eq, em]; exact Nat.div_add_mod _ _
      have f1 : (h : Int) / 10 = (q : Int) := by rw [eq]; rfl
      have f2 : (h : Int) % 10 = (m : Int) := by rw [em]; rfl
      have HQM := hideP hqm; have HL := hideP hl; have HH := hideP hh
      clear eq em hqm hl
      go_wp2_with fail
      go_quiet (fail)
      clear hh
      have hd10 := div64_10 0 (wr.drewN nq) m l hm HL.out
      obtain ⟨a, ea⟩ : ∃ a, a = (m * 18446744073709551616 + l) / 10 := ⟨_, rfl⟩
      obtain ⟨d, ed⟩ : ∃ d, d = (m * 18446744073709551616 + l) % 10 := ⟨_, rfl⟩
      rw [← ea, ← ed] at hd10
      have hd : d < 10 := by rw [ed]; exact Nat.mod_lt _ (by decide)
      have had : 10 * a + d = m * 18446744073709551616 + l := by rw [ea, ed]; exact Nat.div_add_mod _ _
      have HAD := hideP had
      have HD10 := hideP hd10
      clear ea ed had hd10
      go_wp2_with fail
      refine HD10.out.mono ?_
      rintro e w1 ⟨rfl, nq1, hw1⟩
      have hown : w1.ownsRow (g + 1) 5 1 (.slice R k s) k (ds.map fun (x : Nat) => Value.int .u8 x) := by rw [← hw1]; exact hW.out.1
      have htwo : Two w1 g 29 (.int .u64 h) (.int .u64 l) := by rw [← hw1]; exact hW.out.2.1
      have hbel : Below w.heap.size w w1 := by rw [← hw1]; exact below_drewN (below_drewN hW.out.2.2 _) _
      have HB := hideP hbel; have HT := hideP htwo
      have hg1 : g + 1 ≤ w1.heap.size := by have := htwo.lt; omega
      clear hw1 hW hbel htwo c0 c1 HD10 f1 f2
      go_wp2_with (at_builtin; refine wpList_append_cells _ rfl (.tmp 26) (.tmp 30) 74 rfl (g + 1) 5 i0 _ 1 1 Try.underlying74 hi0 hz0 hz1 hz2 rfl (by decide) (.slice R k s) k (ds.map fun (x : Nat) => Value.int .u8 x) rfl hown _ 1 rfl rfl (by simp [Value.oneCell']) (by omega) (by unfold maxLen; omega) (by omega) hg1 ?_; intro g3 c3 w3 hown3 hg3 hat3; have r1 := HT.out.below (below_own hown hg3 (Nat.le_refl _) hg1) (by omega); have f0 := r1.fz 0; have f1 := r1.fz 1; have p0 := r1.c0; have p1 := r1.c1; clear r1)
      all_goals
        have HO := hideP hown3
        have HG3 := hideP hg3
        have HOW := hideP hown
      all_goals clear hown3 hg3 hown hat3 f0 f1 p0 p1
      all_goals
        have hlen3 : (ds ++ [48 + d]).length = k + 1 := by rw [List.length_append, hk.out]; rfl
        have hmap : (ds ++ [48 + d]).map (fun (x : Nat) => Value.int .u8 x) = ds.map (fun (x : Nat) => Value.int .u8 x) ++ #[Value.int .u8 (48 + (d : Int))].toList := by simp
        have htwo := HT.out.below (below_own HOW.out HG3.out (Nat.le_refl _) hg1) (by omega)
        have hEQ := txt_eq h l q m a d HQM.out HAD.out hm HL.out HH.out
        have hb3 : Below w.heap.size w w3 := HB.out.trans (below_own HOW.out HG3.out (by have := HG.out; omega) HB.out.size)
        have hgs : w.heap.size ≤ g := by have := HG.out; omega
      · rename_i hq ha
        refine ⟨⟨false, _, _, _, 0, 0, ds ++ [48 + d], rfl, rfl, hlen3, ⟨?_, htwo.set2 _ _, ?_⟩, by decide, by decide, ?_⟩, by simp [txtMeas]; omega⟩
        · rw [hmap]; exact ownsRow_setCell_below (ownsRow_setCell_below HO.out (by simp) _) (by simp) _
        · exact (hb3.setCell (p := ⟨g, 0, none⟩) hgs _).setCell (p := ⟨g, 1, none⟩) hgs _
        · refine ⟨fun h => (by cases h), fun _ => ?_⟩
          rw [HD.out, hEQ.1, hq, ha, Nat.zero_mul, Nat.zero_add, dig_last d hd]
      · rename_i hq ha
        refine ⟨⟨true, _, _, _, 0, a, ds ++ [48 + d], rfl, rfl, hlen3, ⟨?_, htwo.set2 _ _, ?_⟩, hEQ.2.1, by decide, ?_⟩, by simp [txtMeas]; omega⟩
        · rw [hmap]; exact ownsRow_setCell_below (ownsRow_setCell_below HO.out (by simp) _) (by simp) _
        · exact (hb3.setCell (p := ⟨g, 0, none⟩) hgs _).setCell (p := ⟨g, 1, none⟩) hgs _
        · refine ⟨fun _ => ?_, fun h => (by cases h)⟩
          rw [HD.out, hEQ.1, hq, Nat.zero_mul, Nat.zero_add, dig_more a d hd (Nat.pos_of_ne_zero ha), List.append_assoc]; rfl
      · rename_i hq
        refine ⟨⟨true, _, _, _, q, a, ds ++ [48 + d], rfl, rfl, hlen3, ⟨?_, htwo.set2 _ _, ?_⟩, hEQ.2.1, hEQ.2.2, ?_⟩, by simp [txtMeas]; omega⟩
        · rw [hmap]; exact ownsRow_setCell_below (ownsRow_setCell_below HO.out (by simp) _) (by simp) _
        · exact (hb3.setCell (p := ⟨g, 0, none⟩) hgs _).setCell (p := ⟨g, 1, none⟩) hgs _
        · refine ⟨fun _ => ?_, fun h => (by cases h)⟩
          rw [HD.out, hEQ.1, dig_more (q * 18446744073709551616 + a) d hd (by clear hk39 hd hm hg1; omega), List.append_assoc]; rfl
end Go.Proofs.Ytnekbmndphbaoaa
