/- The walk of NodeReads. From a row's arguments, read as data, to the words of my walks. -/
import Derived.ProofKit
import Derived.OpenShut
import Derived.ShutString
import Derived.ChangeOld
import Derived.SizedLaws
import Derived.Lib.SmallJoins
import Derived.Test.YtgcbodpjidoanaaK1
import Derived.Test.YtgcbodpjidoanaaK30
import Derived.Test.YtgcbodpjidoanaaK42
import Derived.Test.YtgcbodpjidoanaaK43
set_option linter.unusedVariables false
set_option linter.unusedSimpArgs false
namespace Go.Proofs.Ytgcbodpjidoanaa
open Go.RowKit
def nodeZ : NodeD := ⟨0, [], []⟩
def nodeZP : NodeP := ⟨none, 0, fun _ => default, none, 0, fun _ => default⟩
theorem nodeZ_ok : NodeOk nodeZ := ⟨by decide, fun i hi => absurd hi (by simp [nodeZ]), fun i hi => absurd hi (by simp [nodeZ]), by decide, by decide⟩
theorem nodeZ_mem (w : World) (B : Nat) (p : NodeP) (h1 : p.rA = none) (h2 : p.kA = none) : NodeMem w B nodeZ p := ⟨fun h => absurd h (by simp [nodeZ]), fun i hi => absurd hi (by simp [nodeZ]), fun h => absurd h (by simp [nodeZ]), fun i hi => absurd hi (by simp [nodeZ])⟩
set_option maxRecDepth 100000 in
set_option maxHeartbeats 4000000 in
theorem nodereads_from (A : Option Addr) (b : List Nat) (n c : Nat) (d : Int) (w : World) (nd : NodeD) (er : Int) (ok : Bool) (hbig : n ≤ 3000) (hA : Arr w w.heap.size A n (u8s b)) (hnn : n = b.length) (hI : IsB b) (hok : NodeOk nd)
    (hD : ∀ W, Below w.heap.size w W → Calls Try.prog 15 #[.slice A n c, .int .i64 d] W fun e w' => ∃ p, e = .returned (.tuple #[.agg (nodeC nd p).toArray, .int .i64 er]) ∧ NodeMem w' w'.heap.size nd p ∧ Below W.heap.size W w')
    (hR : ∀ W, Below w.heap.size w W → Calls Try.prog 16 #[.slice A n c, .int .i64 d] W fun e w' => ∃ p, e = .returned (.tuple #[.agg (nodeC nd p).toArray, .bool ok]) ∧ NodeMem w' w'.heap.size nd p ∧ Below W.heap.size W w')
    (h0 : ok = false → er = 21 ∧ nd = nodeZ) (h1 : ok = true → er = 0 ∧ b = nodeB nd ∧ nodeR nd d = true) :
    Calls Try.prog 3 #[.slice A n c, .int .i64 d] w fun e w' => e = .returned (.bool true) ∧ Below w.heap.size w w' := by
  have hD' := hideP hD; have hR' := hideP hR; have H0 := hideP h0; have H1 := hideP h1; have HA := hideP hA; have HI := hideP hI; have HNN := hideP hnn; have HOK := hideP hok
  have n3 := hideP (show (Try.prog.info? 27).map (·.size) = some 3 by kernel_rfl)
  have hl3 := hideP (fun p => show (nodeC nd p).length = 3 from rfl)
  have hone := hideP (fun p => show (nodeC nd p).toArray.all (·.oneCell') = true by unfold nodeC; simp [Value.oneCell'])
  have i2 : ¬ (3000 : Int) < (n : Int) := by omega
  clear hD hR h0 h1 hA hI hnn hok hbig
  go_enter Try.func3, Try.ntmps3
  go_upto_region 5 with (go_at_call 14; refine (alive10 w).mono ?_; rintro e_ w1 ⟨rfl, b_⟩; have B1 := hideP b_; clear b_)
  go_upto_region 6 with (first
    | (go_at_call 15; refine (hD'.out _ B1.out).mono ?_; rintro e_ w2 ⟨p, rfl, m_, b_⟩; have M2 := hideP m_; have B2 := hideP (bstep B1.out b_); clear b_ m_; obtain ⟨C, hC⟩ : ∃ C, C = nodeC nd p := ⟨_, rfl⟩; have l3 := hideP (show C.length = 3 by rw [hC]; rfl); have tC := hideP (show (Try.prog.info? 27).map (·.size) = some C.toArray.size by rw [List.size_toArray, l3.out]; exact n3.out); have tCl := hideP (show (Try.prog.info? 27).map (·.size) = some C.length by rw [l3.out]; exact n3.out); have tso := hideP (show (nodeV 0 none 0 0 none 0 0).toArray.size = C.toArray.size by rw [List.size_toArray, List.size_toArray, l3.out]; rfl); have tone := hideP (show C.toArray.all (·.oneCell') = true by rw [hC]; exact hone.out p); rw [← hC]; have HC := hideP hC; clear hC)
    | (refine wpList_store_row rfl 27 (.tmp 5) (.tmp 18) rfl w2.heap.size C.toArray (by kernel_rfl) (by kernel_rfl) 27 (nodeV 0 none 0 0 none 0 0).toArray (Row.new w2 27 (nodeV 0 none 0 0 none 0 0)) tC.out tso.out tone.out ?_))
  try simp only [Act.put]
  obtain ⟨y, hy⟩ : ∃ x, x = w2.heap.size := ⟨_, rfl⟩
  obtain ⟨v3, hv3⟩ : ∃ v, v = (w2.alloc (.cells #[.int .u8 0, .slice none 0 0, .slice none 0 0] 27)).setRow y C.toArray := ⟨_, rfl⟩
  rw [← hy, ← hv3]
  have hb3 : Below w2.heap.size w2 v3 := by rw [hv3, hy]; exact below_setRow' (below_new w2 _) (Nat.le_refl _) _
  have Y3 := hideP (show Row v3 y 27 C by rw [hv3, hy]; exact Row.setRow (Row.new w2 27 (nodeV 0 none 0 0 none 0 0)) C)
  have M3 := hideP (M2.out.after hb3)
  have B3 := hideP (bstep B2.out hb3)
  clear hy hv3 hb3 M2 B2 B1
  go_upto_region 7 with (first
    | (go_at_call 16; refine (hR'.out _ B3.out).mono ?_; rintro e_ w4 ⟨q, rfl, m_, b_⟩; have N4 := hideP m_; have Y4 := hideP (Row.after Y3.out b_); have M4 := hideP (M3.out.after b_); have B4 := hideP (bstep B3.out b_); clear b_ m_; obtain ⟨D, hD⟩ : ∃ C, C = nodeC nd q := ⟨_, rfl⟩; have k3 := hideP (show D.length = 3 by rw [hD]; rfl); have tD := hideP (show (Try.prog.info? 27).map (·.size) = some D.toArray.size by rw [List.size_toArray, k3.out]; exact n3.out); have tDl := hideP (show (Try.prog.info? 27).map (·.size) = some D.length by rw [k3.out]; exact n3.out); have dso := hideP (show (nodeV 0 none 0 0 none 0 0).toArray.size = D.toArray.size by rw [List.size_toArray, List.size_toArray, k3.out]; rfl); have done_ := hideP (show D.toArray.all (·.oneCell') = true by rw [hD]; exact hone.out q); rw [← hD]; have HD := hideP hD; clear hD)
    | (refine wpList_store_row rfl 27 (.tmp 7) (.tmp 24) rfl w4.heap.size D.toArray (by kernel_rfl) (by kernel_rfl) 27 (nodeV 0 none 0 0 none 0 0).toArray (Row.new w4 27 (nodeV 0 none 0 0 none 0 0)) tD.out dso.out done_.out ?_))
  try simp only [Act.put]
  obtain ⟨u, hu⟩ : ∃ x, x = w4.heap.size := ⟨_, rfl⟩
  obtain ⟨v5, hv5⟩ : ∃ v, v = (w4.alloc (.cells #[.int .u8 0, .slice none 0 0, .slice none 0 0] 27)).setRow u D.toArray := ⟨_, rfl⟩
  rw [← hu, ← hv5]
  have hb5 : Below w4.heap.size w4 v5 := by rw [hv5, hu]; exact below_setRow' (below_new w4 _) (Nat.le_refl _) _
  have U5 := hideP (show Row v5 u 27 D by rw [hv5, hu]; exact Row.setRow (Row.new w4 27 (nodeV 0 none 0 0 none 0 0)) D)
  have Y5 := hideP (Row.after Y4.out hb5)
  have M5 := hideP (M4.out.after hb5)
  have N5 := hideP (N4.out.after hb5)
  have B5 := hideP (bstep B4.out hb5)
  clear hu hv5 hb5 N4 Y4 M4 B4 Y3 M3 B3 hD' hR'
  rcases ok with _ | _
  · obtain ⟨rfl, rfl⟩ := H0.out rfl
    have hZ := hideP (show Calls Try.prog 17 #[.agg C.toArray, .agg #[.int .u8 0, .slice none 0 0, .slice none 0 0]] v5 fun e w' => e = .returned (.bool true) ∧ Below v5.heap.size v5 w' by
      rw [HC.out]
      exact (rsamenode_any nodeZ nodeZ p nodeZP v5 nodeZ_ok nodeZ_ok M5.out (nodeZ_mem _ _ _ rfl rfl)).mono (fun e w' h => ⟨by rw [h.1]; simp, h.2⟩))
    go_wp2_with (first
      | (refine wpList_loadG rfl 27 (.tmp 5) rfl y 0 rfl C _ (Row.range Y5.out) Try.underlying27 rfl tCl.out ?_)
      | (go_at_call 17; refine hZ.out.mono ?_; rintro e_ w6 ⟨rfl, b_⟩; have B6 := hideP (bstep B5.out b_); clear b_))
    go_ret
    exact ⟨rfl, B6.out⟩
  · obtain ⟨rfl, hb, hr⟩ := H1.out rfl
    have hE := hideP (fun W (hW : Below v5.heap.size v5 W) => show Calls Try.prog 17 #[.agg C.toArray, .agg D.toArray] W fun e w' => e = .returned (.bool true) ∧ Below W.heap.size W w' by
      rw [HC.out, HD.out]
      exact (rsamenode_any nd nd p q W HOK.out HOK.out (M5.out.after hW) (N5.out.after hW)).mono (fun e w' h => ⟨by rw [h.1]; simp, h.2⟩))
    have hBy := hideP (fun W (hW : Below v5.heap.size v5 W) => show Calls Try.prog 18 #[.agg D.toArray] W fun e w' => ∃ R k, e = .returned (.slice R n k) ∧ Arr w' w'.heap.size R n (u8s b) ∧ Below W.heap.size W w' by
      rw [HD.out]
      refine (rnbytes_any nd q d W HOK.out (N5.out.after hW) (nodeR_facts hr)).mono ?_
      rintro e w' ⟨R, k, rfl, o, b_⟩
      have := o.arr
      rw [← hb] at this ⊢
      rw [HNN.out]
      exact ⟨R, k, rfl, this, b_⟩)
    have cv := fun A k W (h : Arr W W.heap.size A n (u8s b)) => run_str (P := Try.prog) W 22 5 Try.underlying22 Try.underlying5 (c := k) h HNN.out.symm 9 Try.underlying9
    have CV := hideP cv
    have HA5 := hideP (HA.out.after B5.out)
    have hq : ((bstr b).toList == (bstr b).toList) = true := by simp
    clear hb hr cv H0 H1
    obtain ⟨BS, hBS⟩ : ∃ S, S = bstr b := ⟨_, rfl⟩
    rw [← hBS] at CV hq
    clear hBS
    go_upto_region 9 with fail
    refine wp_region_fork 15 (.q 0 (.q 1 (.q 2 (.q 3 (.q 4 (.l 5 (.q 6 (.q 7 (.q 8 (.q 11 (.q 12 (.l 9 (.q 10 (.q 13 (.q 14 .nil))))))))))))))) (by kernel_rfl) (by kernel_rfl) ?_
    simp only [pickT, nthO_zero, nthO_succ]
    iterate 3 (refine wpT_valK (by rfl) (fun K hK => ?_); apply Exists.intro; refine ⟨fun W hW => ?_, ?_⟩; (focus (go_simp; (try rfl); done)); go_simp; refine hK _ ?_; clear hK K)
    refine wpT_valK (by rfl) (fun K hK => ?_)
    refine ⟨.agg C.toArray, fun W hW => exec_load_mid 27 (.tmp 5) rfl y 0 rfl C _ (Row.range (Row.ext Y5.out hW.drew_left)) Try.underlying27 rfl tCl.out, ?_⟩
    go_simp
    refine hK _ ?_
    clear hK K
    refine wpT_valK (by rfl) (fun K hK => ?_)
    refine ⟨.agg D.toArray, fun W hW => exec_load_mid 27 (.tmp 7) rfl u 0 rfl D _ (Row.range (Row.ext U5.out hW.drew_left)) Try.underlying27 rfl tDl.out, ?_⟩
    go_simp
    refine hK _ ?_
    clear hK K
    refine wpT_loudK 17 #[.agg C.toArray, .agg D.toArray] (by rfl) (fun W' => by go_simp) (fun W1 hW1 => (hE.out W1 hW1.drew_left.below).mono ?_)
    rintro e W2 ⟨rfl, hb_⟩
    refine ⟨_, rfl, Ext.of_below hb_, fun K hK => ?_⟩
    go_simp
    refine hK _ ?_
    clear hK K
    have x2 := hideP (hW1.drew_left.trans (Ext.of_below hb_))
    clear hW1 hb_
    iterate 2 (refine wpT_valK (by rfl) (fun K hK => ?_); apply Exists.intro; refine ⟨fun W hW => ?_, ?_⟩; (focus (go_simp; (try rfl); done)); go_simp; refine hK _ ?_; clear hK K)
    refine wpT_valK (by rfl) (fun K hK => ?_)
    refine ⟨.agg D.toArray, fun W hW => exec_load_mid 27 (.tmp 7) rfl u 0 rfl D _ (Row.range (Row.ext U5.out (x2.out.trans hW))) Try.underlying27 rfl tDl.out, ?_⟩
    go_simp
    refine hK _ ?_
    clear hK K
    iterate 2 (refine wpT_valK (by rfl) (fun K hK => ?_); apply Exists.intro; refine ⟨fun W hW => ?_, ?_⟩; (focus (have hs0 := CV.out A c W (HA5.out.ext (x2.out.trans hW)); go_simp; (try rfl); done)); go_simp; refine hK _ ?_; clear hK K)
    refine wpT_loudK 18 #[.agg D.toArray] (by rfl) (fun W' => by go_simp) (fun W3 hW3 => (hBy.out W3 (x2.out.trans hW3).below).mono ?_)
    rintro e W4 ⟨R4, k4, rfl, a_, hb_⟩
    refine ⟨_, rfl, Ext.of_below hb_, fun K hK => ?_⟩
    go_simp
    refine hK _ ?_
    clear hK K
    have x4 := hideP (x2.out.trans (hW3.trans (Ext.of_below hb_)))
    have A4 := hideP a_
    clear hW3 hb_ a_
    iterate 3 (refine wpT_valK (by rfl) (fun K hK => ?_); apply Exists.intro; refine ⟨fun W hW => ?_, ?_⟩; (focus (have hs0 := CV.out R4 k4 W (A4.out.ext hW); go_simp; (try rfl); done)); go_simp; refine hK _ ?_; clear hK K)
    refine wpT_nil (fun W5 hW5 => ?_)
    simp only [List.drop_succ_cons, List.drop_zero, List.drop_nil]
    have B9 := hideP (below_ext B5.out (x4.out.trans hW5))
    clear hW5 hq
    go_wp2
    go_ret
    exact ⟨rfl, B9.out⟩
theorem walk_NodeReads (A : Option Addr) (b : List Nat) (c : Nat) (d : Int) (w : World) (hA : Arr w w.heap.size A b.length (u8s b)) (hI : IsB b) (hn : b.length ≤ 140737488351232) (hc : b.length ≤ c) (hd : -9223372036854775808 ≤ d ∧ d ≤ 9223372036854775807) :
    Calls Try.prog 3 #[.slice A b.length c, .int .i64 d] w fun e w' => e = .returned (.bool true) ∧ Below w.heap.size w w' := by
  by_cases hb : b.length ≤ 3000
  · have hAW := fun W (hW : Below w.heap.size w W) => hA.after hW
    rcases hR : readN d b with _ | nd
    · refine nodereads_from A b b.length c d w nodeZ 21 false hb hA rfl hI nodeZ_ok (fun W hW => ?_) (fun W hW => ?_) (fun _ => ⟨rfl, rfl⟩) (fun h => by cases h)
      · refine (ndecode_any A b b.length c d W rfl (hAW W hW) hI (by omega)).mono ?_
        rintro e w' ⟨b_, ⟨_, rfl⟩ | ⟨n', p, h, _⟩⟩
        · exact ⟨nodeZP, rfl, nodeZ_mem _ _ _ rfl rfl, b_⟩
        · rw [hR] at h; cases h
      · refine (qread_any A b b.length c d W rfl (hAW W hW) hI hc (by omega)).mono ?_
        rintro e w' ⟨b_, ⟨_, rfl⟩ | ⟨n', p, h, _⟩⟩
        · exact ⟨nodeZP, rfl, nodeZ_mem _ _ _ rfl rfl, b_⟩
        · rw [hR] at h; cases h
    · obtain ⟨h1, h2, h3⟩ := readN_inv hI hR
      refine nodereads_from A b b.length c d w nd 0 true hb hA rfl hI h3 (fun W hW => ?_) (fun W hW => ?_) (fun h => by cases h) (fun _ => ⟨rfl, h1, h2⟩)
      · refine (ndecode_any A b b.length c d W rfl (hAW W hW) hI (by omega)).mono ?_
        rintro e w' ⟨b_, ⟨h, _⟩ | ⟨n', p, h, h4, h5⟩⟩
        · rw [hR] at h; cases h
        · rw [hR] at h; injection h with h; subst h
          exact ⟨p, h4, h5 w' (But.refl _), b_⟩
      · refine (qread_any A b b.length c d W rfl (hAW W hW) hI hc (by omega)).mono ?_
        rintro e w' ⟨b_, ⟨h, _⟩ | ⟨n', p, h, h4, h5⟩⟩
        · rw [hR] at h; cases h
        · rw [hR] at h; injection h with h; subst h
          exact ⟨p, h4, h5, b_⟩
  · obtain ⟨n, hnn⟩ : ∃ n, n = b.length := ⟨_, rfl⟩
    rw [← hnn] at hb ⊢
    have i2 : (3000 : Int) < (n : Int) := by omega
    clear hb hA hI hn hc hnn hd
    go_enter Try.func3, Try.ntmps3
    go_wp2_with (go_at_call 14; refine (alive10 w).mono ?_; rintro e_ w1 ⟨rfl, b_⟩; have B1 := hideP b_; clear b_)
    go_ret
    exact ⟨rfl, B1.out⟩
end Go.Proofs.Ytgcbodpjidoanaa
namespace Go.Proofs.Ytgcbodpjidoanaa
open Go.ChangeShapes Go.WideShapes Go.ChangeAt Go.RowKit
open Go.ChangeMaps (open_string shut_string)

theorem wf_i64_bd {n : Int} (h : (Lit.int .i64 n).wf = true) : -9223372036854775808 ≤ n ∧ n ≤ 9223372036854775807 := by
  simp [Lit.wf, IntKind.min, IntKind.max, IntKind.signed, IntKind.bits] at h
  omega
theorem wf_u8_bd {n : Int} (h : (Lit.int .u8 n).wf = true) : 0 ≤ n ∧ n ≤ 255 := by
  simp [Lit.wf, IntKind.min, IntKind.max, IntKind.signed, IntKind.bits] at h
  omega
theorem wf_u64_bd {n : Int} (h : (Lit.int .u64 n).wf = true) : 0 ≤ n ∧ n ≤ 18446744073709551615 := by
  simp [Lit.wf, IntKind.min, IntKind.max, IntKind.signed, IntKind.bits] at h
  omega

section
variable {H : Type} {enc : TypeId × Value → H} {P : Program} {W : World} {base : Nat}

theorem frame_arr {t e : TypeId} {k : IntKind} (ht : P.underlying t = some (.slice e)) (he : P.underlying e = some (.int k)) (hc : P.cellsOf e = 1) {v : Value} {d : DataW H} {p : List MemPlace}
    (hv : Value.okWide P W .any base t v) (h : DataW.Trod enc P W 0 (fun _ => true) true t v d p) :
    ∃ (A : Option Addr) (len cap : Nat) (zs : List Int), v = .slice A len cap ∧ zs.length = len ∧ len ≤ cap ∧ cap ≤ maxLen ∧ Arr W W.heap.size A len (fun i => .int k (zs.getD i 0)) ∧ (∀ n ∈ zs, (Lit.int k n).wf = true) ∧
      (len = 0 ∨ ∃ E S, d = .slice E S ∧ E.length = len) := by
  obtain ⟨a0, len0, cap0, rfl⟩ := okWide_slice ht hv
  obtain ⟨fuel, hf⟩ := h
  rcases open_ints ht he hc hf with ⟨hcs, hx⟩ | ⟨x, l, c, zs, hcs, _, hl, hm, hz, hx, hcell, hwz⟩
  · simp [Value.cells] at hcs
    obtain ⟨rfl, rfl, rfl⟩ := hcs
    exact ⟨none, 0, 0, [], rfl, rfl, Nat.le_refl _, by simp [maxLen], Arr.none_, by simp, .inl rfl⟩
  · simp [Value.cells] at hcs
    obtain ⟨rfl, rfl, rfl⟩ := hcs
    simp only [if_true] at hz
    have hd : d = .slice (lits k (zs.take len0)) (lits k (zs.drop len0)) := by
      have := congrArg Prod.fst hx
      exact this
    refine ⟨some x, len0, cap0, zs.take len0, rfl, by simp; omega, hl, hm, fun hn => ?_, fun n hn => hwz n (List.mem_of_mem_take hn), .inr ⟨_, _, hd, by simp [lits]; omega⟩⟩
    obtain ⟨b, off, spot⟩ := x
    have h0 := hcell 0 (by omega)
    have hspot : spot = none := by simpa [Addr.add] using World.cell?_spot h0
    subst hspot
    refine ⟨b, off, rfl, ?_, fun i hi => ?_⟩
    · have := World.block_lt_of_cell? W _ h0
      simpa [Addr.add] using this
    · have hadd : (⟨b, off, none⟩ : Addr).add i = ⟨b, off + i, none⟩ := by unfold Addr.add; split <;> simp_all
      have := hcell i (by omega)
      rw [hadd] at this
      rw [this]
      simp [List.getD, List.getElem?_take, hi]

/-- the same for a part of a struct -/
theorem frame_part {t e : TypeId} {k : IntKind} (ht : P.underlying t = some (.slice e)) (he : P.underlying e = some (.int k)) (hc : P.cellsOf e = 1) {v : Value} {x : DataW H × List MemPlace} {n : Nat}
    (hf : DataW.trod enc P W 0 (fun _ => true) true n t [v] = some x) :
    ∃ (A : Option Addr) (len cap : Nat) (zs : List Int), v = .slice A len cap ∧ zs.length = len ∧ len ≤ cap ∧ cap ≤ maxLen ∧ Arr W W.heap.size A len (fun i => .int k (zs.getD i 0)) ∧ (∀ n ∈ zs, (Lit.int k n).wf = true) ∧
      (len = 0 ∨ ∃ E S, x.1 = .slice E S ∧ E.length = len) := by
  rcases open_ints ht he hc hf with ⟨hcs, hx⟩ | ⟨y, l, c, zs, hcs, _, hl, hm, hz, hx, hcell, hwz⟩
  · simp at hcs
    subst hcs
    exact ⟨none, 0, 0, [], rfl, rfl, Nat.le_refl _, by simp [maxLen], Arr.none_, by simp, .inl rfl⟩
  · simp at hcs
    subst hcs
    simp only [if_true] at hz
    have hd : x.1 = .slice (lits k (zs.take l)) (lits k (zs.drop l)) := congrArg Prod.fst hx
    refine ⟨some y, l, c, zs.take l, rfl, by simp; omega, hl, hm, fun hn => ?_, fun n hn => hwz n (List.mem_of_mem_take hn), .inr ⟨_, _, hd, by simp [lits]; omega⟩⟩
    obtain ⟨b, off, spot⟩ := y
    have h0 := hcell 0 (by omega)
    have hspot : spot = none := by simpa [Addr.add] using World.cell?_spot h0
    subst hspot
    refine ⟨b, off, rfl, ?_, fun i hi => ?_⟩
    · have := World.block_lt_of_cell? W _ h0
      simpa [Addr.add] using this
    · have hadd : (⟨b, off, none⟩ : Addr).add i = ⟨b, off + i, none⟩ := by unfold Addr.add; split <;> simp_all
      have := hcell i (by omega)
      rw [hadd] at this
      rw [this]
      simp [List.getD, List.getElem?_take, hi]

theorem isI_of_wf {zs : List Int} (h : ∀ n ∈ zs, (Lit.int .i64 n).wf = true) : IsI zs := fun i => by
  by_cases hi : i < zs.length
  · rw [show zs.getD i 0 = zs[i] from by simp [List.getD, List.getElem?_eq_getElem hi]]; exact wf_i64_bd (h _ (List.getElem_mem hi))
  · rw [getD_out _ _ _ (by omega)]; omega
theorem frame_bytes {A : Option Addr} {len : Nat} {zs : List Int} (hl : zs.length = len) (h : Arr W W.heap.size A len (fun i => .int .u8 (zs.getD i 0))) (hw : ∀ n ∈ zs, (Lit.int .u8 n).wf = true) :
    ∃ l : List Nat, l.length = len ∧ Arr W W.heap.size A len (u8s l) ∧ IsB l := by
  refine ⟨zs.map Int.toNat, by simpa using hl, h.congr fun i hi => ?_, fun i => ?_⟩
  · have hi' : i < zs.length := by omega
    have := wf_u8_bd (hw _ (List.getElem_mem hi'))
    unfold u8s
    simp only [List.getD, List.getElem?_map, List.getElem?_eq_getElem hi', Option.map_some, Option.getD_some]
    congr 1
    omega
  · by_cases hi : i < zs.length
    · have := wf_u8_bd (hw _ (List.getElem_mem hi))
      simp only [List.getD, List.getElem?_map, List.getElem?_eq_getElem hi, Option.map_some, Option.getD_some]
      omega
    · rw [getD_out _ _ _ (by simpa using hi)]; omega
theorem frame_words {A : Option Addr} {len : Nat} {zs : List Int} (hl : zs.length = len) (h : Arr W W.heap.size A len (fun i => .int .u64 (zs.getD i 0))) (hw : ∀ n ∈ zs, (Lit.int .u64 n).wf = true) :
    ∃ l : List Nat, l.length = len ∧ Arr W W.heap.size A len (u64s l) ∧ ∀ i, l.getD i 0 < 18446744073709551616 := by
  refine ⟨zs.map Int.toNat, by simpa using hl, h.congr fun i hi => ?_, fun i => ?_⟩
  · have hi' : i < zs.length := by omega
    have := wf_u64_bd (hw _ (List.getElem_mem hi'))
    unfold u64s
    simp only [List.getD, List.getElem?_map, List.getElem?_eq_getElem hi', Option.map_some, Option.getD_some]
    congr 1
    omega
  · by_cases hi : i < zs.length
    · have := wf_u64_bd (hw _ (List.getElem_mem hi))
      simp only [List.getD, List.getElem?_map, List.getElem?_eq_getElem hi, Option.map_some, Option.getD_some]
      omega
    · rw [getD_out _ _ _ (by simpa using hi)]; omega

/-- a part of a struct that is an integer -/
theorem frame_int {t : TypeId} {k : IntKind} (ht : P.underlying t = some (.int k)) {v : Value} {n : Nat} {x : DataW H × List MemPlace}
    (hf : DataW.trod enc P W 0 (fun _ => true) true n t [v] = some x) : ∃ z : Int, v = .int k z ∧ (Lit.int k z).wf = true := by
  obtain ⟨z, hz, _, hw⟩ := DataW.trod_int ht hf
  exact ⟨z, by simpa using hz, hw⟩
theorem frame_u64 {t : TypeId} (ht : P.underlying t = some (.int .u64)) {v : Value} {n : Nat} {x : DataW H × List MemPlace}
    (hf : DataW.trod enc P W 0 (fun _ => true) true n t [v] = some x) : ∃ z : Nat, v = .int .u64 z ∧ z < 18446744073709551616 := by
  obtain ⟨z, rfl, hw⟩ := frame_int ht hf
  have := wf_u64_bd hw
  exact ⟨z.toNat, by rw [Int.toNat_of_nonneg this.1], by omega⟩
end
/-- the reach of a slice that is a part of a struct -/
theorem sized_part {H : Type} {P : Program} {ts : List TypeId} {ds : List (DataW H)} (h : (DataW.weightsEach P ts ds).all (· ≤ reachBytes) = true) {j i : Nat} {t t' e : TypeId} {parts elems spare : List (DataW H)} {fs : Array Field}
    (ht : ts[j]? = some t) (hd : ds[j]? = some (.agg parts)) (hu : P.underlying t = some (.struct fs)) (hi : (fs.toList.map (·.type))[i]? = some t') (hp : parts[i]? = some (.slice elems spare)) (hs : P.underlying t' = some (.slice e)) :
    (elems.length + spare.length) * P.bytesOf e ≤ reachBytes := by
  refine of_decide_eq_true (List.all_eq_true.1 h _ (DataW.weights_mem_each ht hd _ ?_))
  simp only [DataW.weights, hu]
  exact DataW.weights_mem_each hi hp _ (by simp [DataW.weights, hs])
theorem dv_split (h l : Nat) (bh : h < 18446744073709551616) (bl : l < 18446744073709551616) : ∃ D : Nat, D < 340282366920938463463374607431768211456 ∧ h = D / 18446744073709551616 ∧ l = D % 18446744073709551616 :=
  ⟨h * 18446744073709551616 + l, by omega, by omega, by omega⟩
end Go.Proofs.Ytgcbodpjidoanaa
