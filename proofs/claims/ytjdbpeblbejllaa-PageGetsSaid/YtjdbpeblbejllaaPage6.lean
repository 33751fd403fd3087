/- Contract of page's Keep. -/
import Derived.Test.YtjdbpeblbejllaaPage5
set_option linter.unusedVariables false
set_option linter.unusedSimpArgs false
namespace Go.Proofs.Ytjdbpeblbejllaa
open Go.RowKit
open Go.Maps (Keyed)
/-- digests at A, one behind the other -/
def ArrD (w : World) (B : Nat) (A : Option Addr) (ks : List (List Nat)) : Prop :=
  0 < ks.length → ∃ b off, A = some ⟨b, off, none⟩ ∧ b < B ∧ ∀ i, i < ks.length → w.rangeAt b (off + i * 32) ((ks.getD i []).map b8)
theorem ArrD.after {w w' : World} {A : Option Addr} {ks : List (List Nat)} (h : ArrD w w.heap.size A ks) (hb : Below w.heap.size w w') : ArrD w' w'.heap.size A ks := fun hn => by
  obtain ⟨b, off, hA, hlt, hc⟩ := h hn
  exact ⟨b, off, hA, Nat.lt_of_lt_of_le hlt hb.size, fun i hi j v hj => (World.cell?_of_block (w := w) (hb.block b hlt)).trans (hc i hi j v hj)⟩
/-- the keys without repeats, as they come -/
def kset (ks : List (List Nat)) : List (List Nat) := ks.foldl (fun acc d => if d ∈ acc then acc else acc ++ [d]) []
theorem kset_snoc (ks : List (List Nat)) (d : List Nat) : kset (ks ++ [d]) = if d ∈ kset ks then kset ks else kset ks ++ [d] := by
  unfold kset
  rw [List.foldl_append]
  rfl
theorem mem_kset (ks : List (List Nat)) (d : List Nat) : d ∈ kset ks ↔ d ∈ ks := by
  suffices h : ∀ (l acc : List (List Nat)), d ∈ l.foldl (fun acc d => if d ∈ acc then acc else acc ++ [d]) acc ↔ d ∈ acc ∨ d ∈ l by simpa [kset] using h ks []
  intro l
  induction l with
  | nil => simp
  | cons e l ih =>
    intro acc
    rw [List.foldl_cons, ih]
    split
    · rename_i h
      constructor
      · rintro (h1 | h1)
        · exact .inl h1
        · exact .inr (by simp [h1])
      · rintro (h1 | h1)
        · exact .inl h1
        · rcases List.mem_cons.1 h1 with rfl | h2
          · exact .inl h
          · exact .inr h2
    · simp only [List.mem_append, List.mem_singleton, List.mem_cons, or_assoc, List.not_mem_nil, false_or]
def kents (ks : List (List Nat)) : List (Value × Value) := (kset ks).map fun d => (dg d, .bool true)
theorem kents_snoc_in (ks : List (List Nat)) (d : List Nat) (h : d ∈ kset ks) : kents (ks ++ [d]) = kents ks := by unfold kents; rw [kset_snoc, if_pos h]
theorem kents_snoc_out (ks : List (List Nat)) (d : List Nat) (h : ¬ d ∈ kset ks) : kents (ks ++ [d]) = kents ks ++ [(dg d, .bool true)] := by unfold kents; rw [kset_snoc, if_neg h]; simp
theorem kents_in {ks : List (List Nat)} {d : List Nat} (h : d ∈ kset ks) : (dg d, Value.bool true) ∈ kents ks := List.mem_map.2 ⟨d, h, rfl⟩
theorem kents_out {ks : List (List Nat)} {d : List Nat} (h : ¬ d ∈ kset ks) : ∀ x ∈ kents ks, x.1 ≠ dg d := fun x hx e => by
  obtain ⟨d', hd', rfl⟩ := List.mem_map.1 hx
  exact h (dg_inj e ▸ hd')
theorem take_snoc' (ks : List (List Nat)) (k : Nat) (h : k < ks.length) : ks.take (k + 1) = ks.take k ++ [ks.getD k []] := by
  rw [List.take_succ_eq_append_getElem h]; simp [List.getD, List.getElem?_eq_getElem h]
/-- the texts that are kept -/
def keepL (L ks : List (List Nat)) : List (List Nat) := L.filter fun t => ks.contains (sum9 t)
theorem zeroBool (w : World) : (zeroValue 4).run Try.prog w = .ok (.bool false) w := by kernel_rfl
theorem but_ext {S : Nat → Prop} {w w1 w2 : World} (h : But S w w1) (k : Below w1.heap.size w1 w2) : But S w w2 := h.trans (But.of_ext (Ext.of_below k))
theorem But.of_grown {S : Nat → Prop} {w w' : World} {r : Nat} (h : w.grownBy w' (some r)) (hS : S r) : But S w w' :=
  ⟨h.size, fun k hk hn => h.block k hk (fun e => hn (by injection e with e; exact e ▸ hS)), h.os, h.tape, h.output⟩
theorem rangeLeft_same {w w' : World} {b r : Nat} (h1 : w'.heap[b]? = w.heap[b]?) (h2 : w'.heap[r]? = w.heap[r]?) : w'.rangeLeft b r = w.rangeLeft b r := by
  unfold World.rangeLeft
  rw [h1, h2]
/-- the range that gives up: what is there -/
def Sweep (A : List Nat → Option Addr) (c : List Nat → Nat) (L ks : List (List Nat)) (bm : Nat) (w0 w : World) (p : List Nat → Bool) (left : Value → Prop) : Prop :=
  Rng Try.prog 25 w bm w0.heap.size (entsOf A c (L.filter p)) left ∧ (∀ t ∈ L, p t = true ↔ (sum9 t ∈ ks ∨ left (dg (sum9 t)))) ∧ But (fun q => q = bm ∨ w0.heap.size ≤ q) w0 w
theorem entsOf_filter (A : List Nat → Option Addr) (c : List Nat → Nat) (L : List (List Nat)) (p : List Nat → Bool) (d : List Nat) (q : Value × Value → Bool) (hq : ∀ x ∈ entsOf A c (L.filter p), q x = true ↔ x.1 ≠ dg d) :
    (entsOf A c (L.filter p)).filter q = entsOf A c (L.filter fun t => p t && decide (sum9 t ≠ d)) := by
  unfold entsOf at *
  rw [List.filter_map]
  congr 1
  rw [show (L.filter fun t => p t && decide (sum9 t ≠ d)) = (L.filter p).filter (fun t => decide (sum9 t ≠ d)) by rw [List.filter_filter]; congr 1; funext t; exact Bool.and_comm _ _]
  refine List.filter_congr fun t ht => ?_
  rw [Bool.eq_iff_iff]
  show q (dg (sum9 t), _) = true ↔ _
  rw [hq _ (List.mem_map.2 ⟨t, ht, rfl⟩)]
  simp only [decide_eq_true_eq]
  exact ⟨fun h e => h (by rw [e]), fun h e => h (dg_inj e)⟩
set_option maxRecDepth 100000 in
set_option maxHeartbeats 1000000 in
theorem pkeep_any (g : Nat) (S : Nat → Prop) (L : List (List Nat)) (C : Option (List Nat × List Nat)) (At : Option Addr) (ks : List (List Nat)) (ct n : Nat) (w : World) (h : PSt w S g L C) (hA : ArrD w w.heap.size At ks) (hl : n = ks.length) (hk : ∀ d ∈ ks, d.length = 32 ∧ IsB d) (hn : n ≤ 4398046511104) (hLn : L.length ≤ 4398046511104) :
    Calls Try.prog 23 #[.pointer (some ⟨g, 0, none⟩), .slice At n ct] w fun e w' => e = .returned (.int .i64 ((L.length : Int) - ((keepL L ks).length : Int))) ∧ But S w w' ∧ PSt w' S g (keepL L ks) C := by
  have hmm := @run_makeMap Try.prog
  obtain ⟨bm, A, c, a, b, ca, cb, x, y, h1, h2, h3, h4, h5, h6, h7, h8, h9, h10⟩ := h
  have hP := hideP h6
  have hx := hideP h7
  have hy := hideP h8
  have hf := hideP h9
  have hr := hideP h10
  have hSg := hideP h3
  have hSb := hideP h4
  have hgb := hideP h5
  have hRow := hideP h1
  have hE := hideP h2
  have hgl := hideP (hf.out g hSg.out)
  have hbl := hideP (hf.out bm hSb.out)
  clear h1 h2 h3 h4 h5 h6 h7 h8 h9 h10
  obtain ⟨m, hm⟩ : ∃ m, m = (keepL L ks).length := ⟨_, rfl⟩
  have hmL : m ≤ L.length := by rw [hm]; exact List.length_filter_le _ _
  rw [← hm]
  have hm' := hideP hm
  clear hm
  have HhA := hideP hA; have Hhk := hideP hk; have Hhl := hideP hl; clear hA hk hl
  go_enter Try.func23, Try.ntmps23
  go_wp2
  obtain ⟨w1, hw1⟩ : ∃ w1, w1 = w.alloc (.map #[] 0) := ⟨_, rfl⟩
  have e1 := hideP (show Ents Try.prog 25 w1 w.heap.size (kents (ks.take 0)) by rw [hw1]; exact Ents.made w _ _)
  have b1 := hideP (show Below w.heap.size w w1 by rw [hw1]; exact below_new _ _)
  rw [← hw1]
  clear hw1
  go_loopw [13] (fun v wr => ∃ k : Nat, k ≤ n ∧ v = .int .i64 k ∧ Hid (Ents Try.prog 25 wr w.heap.size (kents (ks.take k)) ∧ Below w.heap.size w wr)) (fun v _ => n - (intOf v).toNat)
  case atStart => exact ⟨0, Nat.zero_le _, rfl, ⟨e1.out, b1.out⟩⟩
  case round =>
    obtain ⟨k, hkn, rfl, hrel⟩ := hrel
    by_cases hlt : k < n
    · obtain ⟨b0, off, hAe, hlt0, hcells⟩ := HhA.out (by have := Hhl.out; omega)
      obtain ⟨dk, hdk⟩ : ∃ dk, dk = ks.getD k [] := ⟨_, rfl⟩
      have hck := hideP (hcells k (by have := Hhl.out; omega))
      have hdm := hideP (Hhk.out dk (by rw [hdk]; simp only [List.getD, List.getElem?_eq_getElem (show k < ks.length by have := Hhl.out; omega)]; exact List.getElem_mem _))
      have hts := hideP (take_snoc' ks k (by have := Hhl.out; omega))
      rw [← hdk] at hck hts
      subst hAe
      have hb0 := hideP hlt0
      clear hdk hlt0 hcells
      obtain ⟨kl, hkl⟩ := key_dg dk hdm.out.1 hdm.out.2
      have hkk := hideP hkl
      clear hkl
      have hds := hideP (show (Try.prog.info? 25).map (·.size) = some (dk.map b8).toArray.size by rw [size_dig]; simp [hdm.out.1])
      have hdo := hideP (show z32.toArray.size = (dk.map b8).toArray.size by simp [hdm.out.1, z32])
      have hda := hideP (show (dk.map b8).toArray.all (·.oneCell') = true from all_b8 _)
      have hsz := hideP (size_dg dk hdm.out.1)
      have hrg := hideP (show wr.rangeAt b0 (off + k * 32) (dk.map b8) from fun j v hj => (World.cell?_of_block (w := w) (hrel.out.2.block b0 hb0.out)).trans (hck.out j v hj))
      go_upto_region 5 with (first
        | (refine wpList_load_mid rfl 25 (.tmp 15) rfl b0 (off + k * 32) rfl (dk.map b8) _ hrg.out Try.underlying25 rfl hsz.out ?_)
        | (refine wpList_store_row rfl 25 (.tmp 7) (.tmp 16) rfl wr.heap.size (dk.map b8).toArray rfl rfl 25 z32.toArray (Row.new wr _ z32) hds.out hdo.out hda.out ?_))
      simp only [Act.put]
      obtain ⟨e, he⟩ : ∃ e, e = wr.heap.size := ⟨_, rfl⟩
      obtain ⟨W1, hW1⟩ : ∃ W1, W1 = (wr.alloc (Obj.cells #[.int .u8 0, .int .u8 0, .int .u8 0, .int .u8 0, .int .u8 0, .int .u8 0, .int .u8 0, .int .u8 0, .int .u8 0, .int .u8 0, .int .u8 0, .int .u8 0, .int .u8 0, .int .u8 0, .int .u8 0, .int .u8 0, .int .u8 0, .int .u8 0, .int .u8 0, .int .u8 0, .int .u8 0, .int .u8 0, .int .u8 0, .int .u8 0, .int .u8 0, .int .u8 0, .int .u8 0, .int .u8 0, .int .u8 0, .int .u8 0, .int .u8 0, .int .u8 0] 25)).setRow wr.heap.size (dk.map b8).toArray := ⟨_, rfl⟩
      have d1 := hideP (show Row W1 e 25 (dk.map b8) by rw [hW1, he]; exact Row.setRow (Row.new wr _ z32) _)
      have bb := hideP (show Below wr.heap.size wr W1 by rw [hW1]; exact below_setRow' (below_new _ _) (Nat.le_refl _) _)
      have hE1 := hideP (hrel.out.1.of_block (w' := W1) (bb.out.block _ hrel.out.1.lt))
      have hkb := hideP hrel.out.1.lt
      rw [← hW1, ← he]
      have hes := hideP he
      clear hW1 he
      have hput : ∃ o, (Instr.mapUpdate 85 (.map (some w.heap.size)) (dg dk) (.bool true)).run Try.prog W1 = .ok () (ChangeMaps.setBlock W1 w.heap.size o) ∧ Ents Try.prog 25 (ChangeMaps.setBlock W1 w.heap.size o) w.heap.size (kents (ks.take (k + 1))) := by
        rw [hts.out]
        by_cases hin : dk ∈ kset (ks.take k)
        · rw [kents_snoc_in _ _ hin]
          exact Ents.put_same hE1.out keyD Try.underlying85 hkk.out (kents_in hin)
        · rw [kents_snoc_out _ _ hin]
          exact Ents.put_out hE1.out keyD Try.underlying85 hkk.out (kents_out hin)
      obtain ⟨o, hrun, hE2⟩ := hput
      obtain ⟨W2, hW2⟩ : ∃ W2, W2 = ChangeMaps.setBlock W1 w.heap.size o := ⟨_, rfl⟩
      rw [← hW2] at hrun hE2
      have hrun' := hideP hrun
      have hE2' := hideP hE2
      have hb2 := hideP (show Below w.heap.size w W2 by
        rw [hW2]
        exact (hrel.out.2.trans (bb.out.mono hrel.out.2.size)).trans ((But.setBlock (S := fun b => w.heap.size ≤ b) W1 _ o (Nat.le_refl _)).below (fun b hb => hb) (Nat.le_trans hrel.out.2.size bb.out.size)))
      clear hrun hE2 hW2
      go_wp2_with (first
        | (refine wpList_load_row rfl 25 (.tmp 7) rfl e rfl 25 (dk.map b8).toArray (0, 0) _ d1.out Try.underlying25 rfl hds.out ?_)
        | (at_mapUpdate; refine wpList_upd rfl _ _ _ 85 rfl (.map (some w.heap.size)) (.agg (dk.map b8).toArray) (.bool true) W2 rfl rfl rfl hrun'.out ?_; go_frame))
      go_roundw
      case rel => exact ⟨k + 1, by omega, by go_num, ⟨hE2'.out, hb2.out⟩⟩
      case measure => simp [intOf]; omega
    · obtain rfl : k = n := by omega
      obtain ⟨wq, rfl⟩ : ∃ wq, wq = wr := ⟨_, rfl⟩
      have hE1 := hideP (show Ents Try.prog 25 wq w.heap.size (kents ks) by have := hrel.out.1; rwa [Hhl.out, List.take_length] at this)
      have hb1 := hideP hrel.out.2
      clear hrel b1 e1
      have RW := hideP (Row.below hRow.out hb1.out hgl.out)
      have c0 := (Row.cell RW.out 0).trans rfl
      have hEm := hideP (hE.out.of_block (w' := wq) (hb1.out.block bm hbl.out))
      have hlen := hideP (hEm.out.len Try.underlying82 3)
      have hLl := hideP (show (entsOf A c L).length = L.length by simp [entsOf])
      obtain ⟨o, hrange, hR⟩ := Rng.start hEm.out Try.underlying82
      have hrange' := hideP hrange
      have hR' := hideP hR
      clear hrange hR
      rw [hLl.out] at hlen
      go_wp2_with (first
        | (at_len; refine wpList_len rfl _ 82 rfl (.map (some bm)) _ rfl hlen.out ?_)
        | (at_range; refine wpList_rng rfl _ 82 rfl (.map (some bm)) _ _ rfl hrange'.out ?_))
      go_frame
      obtain ⟨kn, hkn'⟩ : ∃ kn, kn = w.heap.size := ⟨_, rfl⟩
      have hkw := hideP (show kn < wq.heap.size by rw [hkn']; exact hE1.out.lt)
      have hbw := hideP (show bm < wq.heap.size from Nat.lt_of_lt_of_le hbl.out hb1.out.size)
      have hgw := hideP (show g < wq.heap.size from Nat.lt_of_lt_of_le hgl.out hb1.out.size)
      have hkb := hideP (show kn ≠ bm ∧ g ≠ bm by constructor; (have := hbl.out; omega); exact hgb.out)
      rw [← hkn'] at hE1 ⊢
      have hkn2 := hideP hkn'
      clear hkn' hkn hrange'
      go_loopw [30] (fun _ wr => ∃ p left, Hid (Sweep A c L ks bm wq wr p left)) (fun _ wr => wr.rangeLeft bm wq.heap.size)
      case atStart =>
        refine ⟨fun _ => true, fun v => v ∈ List.map Prod.fst (entsOf A c L), ⟨?_, ?_, But.of_ext (Ext.alloc _ _)⟩⟩
        · rw [List.filter_eq_self.2 (by simp)]
          exact hR'.out
        · intro t ht
          simp only [true_iff]
          exact .inr (List.mem_map.2 ⟨_, List.mem_map.2 ⟨t, ht, rfl⟩, rfl⟩)
      case round =>
        obtain ⟨p, left, hrel⟩ := hrel
        have hRW := hideP hrel.out.1
        have hp := hideP hrel.out.2.1
        have hbW := hideP hrel.out.2.2
        clear hrel
        rcases Rng.next hRW.out 0 with ⟨hno, hrun⟩ | ⟨key, val, W1, hmem, hleft, hrun, hR1, hlt1, hg1, hs1, hen⟩
        · have hrun' := hideP hrun
          have hk : L.filter p = keepL L ks := List.filter_congr fun t ht => by
            rw [Bool.eq_iff_iff, hp.out t ht, List.contains_iff_mem]
            exact ⟨fun h => h.elim id (fun h => absurd h (hno _)), .inl⟩
          have hEW := hideP (show Ents Try.prog 25 wr bm (entsOf A c (keepL L ks)) by rw [← hk]; exact hRW.out.ents)
          have RW := hideP (show Row wr g 84 _ from (hbW.out.block g hgw.out (by have := hgw.out; have := hkb.out.2; omega)).trans RW.out)
          have c0 := (Row.cell RW.out 0).trans rfl
          have hlen := hideP (hEW.out.len Try.underlying82 3)
          rw [show (entsOf A c (keepL L ks)).length = m by rw [hm'.out]; simp [entsOf]] at hlen
          clear hno hrun hk
          go_wp2_with (first
            | (at_next; refine wpList_next rfl (.tmp 29) rfl (.pointer (some ⟨wq.heap.size, 0, none⟩)) _ wr rfl hrun'.out ?_)
            | (at_len; refine wpList_len rfl _ 82 rfl (.map (some bm)) _ rfl hlen.out ?_))
          go_ret
          refine ⟨by simp, ?_, ?_⟩
          · refine (But.of_ext (Ext.of_below hb1.out)).mono2 (S1 := fun q => S q ∨ w.heap.size ≤ q) (fun b hb => hb) ⟨hbW.out.size, fun k hk hn => hbW.out.block k hk (fun h => hn (h.elim (fun e => .inl (e ▸ hSb.out)) (fun h => .inr (Nat.le_trans hb1.out.size h)))), hbW.out.os, hbW.out.tape, hbW.out.output⟩
          · have hsame : ∀ q, S q → q ≠ bm → wr.heap[q]? = w.heap[q]? := fun q hq hne => (hbW.out.block q (Nat.lt_of_lt_of_le (hf.out q hq) hb1.out.size) (by have := hf.out q hq; have := hb1.out.size; omega)).trans (hb1.out.block q (hf.out q hq))
            have hsz : w.heap.size ≤ wr.heap.size := Nat.le_trans hb1.out.size hbW.out.size
            have hkA : ∀ {A : Option Addr} {n : Nat} {l : List Nat}, ArrS S w A n (u8s l) → ArrS S wr A n (u8s l) := fun {A n l} h hn0 => by
              obtain ⟨q, off, hA, hS, hb, hc⟩ := h hn0
              have hq : q ≠ bm := fun e => by
                obtain ⟨es, clock, hes, _⟩ := hE.out
                have := hc 0 hn0
                rw [e] at this
                simp [World.cell?, hes] at this
              exact ⟨q, off, hA, hS, by omega, fun i hi => (World.cell?_of_block (w := w) (hsame q hS hq)).trans (hc i hi)⟩
            exact ⟨bm, A, c, a, b, ca, cb, x, y, RW.out, hEW.out, hSg.out, hSb.out, hgb.out, fun t ht => ⟨hkA (hP.out t (List.mem_filter.1 ht).1).1, (hP.out t (List.mem_filter.1 ht).1).2⟩, hkA hx.out, hkA hy.out, fun q hq => Nat.lt_of_lt_of_le (hf.out q hq) hsz, hr.out⟩
        · obtain ⟨u, hu, hkv⟩ := List.mem_map.1 hmem
          simp only [Prod.mk.injEq] at hkv
          obtain ⟨rfl, rfl⟩ := hkv
          have huL := hideP (List.mem_filter.1 hu).1
          obtain ⟨du, hdu⟩ : ∃ du, du = sum9 u := ⟨_, rfl⟩
          have hdl := hideP (show du.length = 32 by rw [hdu]; exact sum9_len u)
          have hdb := hideP (show IsB du by rw [hdu]; exact isB_dig _)
          rw [← hdu] at hmem hleft hrun hR1 hen
          have hdu' := hideP hdu
          have hrun' := hideP hrun
          have hR1' := hideP hR1
          have hlt1' := hideP hlt1
          have hb1' := hideP (hbW.out.trans (But.of_grown hg1 (.inr (Nat.le_refl _))))
          have hg1' := hideP hg1
          have hleft' := hideP hleft
          unfold dg at hen
          obtain ⟨kl, hkl⟩ := key_dg du hdl.out hdb.out
          have hkk := hideP hkl
          have hds := hideP (show (Try.prog.info? 25).map (·.size) = some (du.map b8).toArray.size by rw [size_dig]; simp [hdl.out])
          have hdo := hideP (show z32.toArray.size = (du.map b8).toArray.size by simp [hdl.out, z32])
          have hda := hideP (show (du.map b8).toArray.all (·.oneCell') = true from all_b8 _)
          have hsz := hideP (size_dg du hdl.out)
          clear hmem hleft hrun hR1 hlt1 hg1 hs1 hdu hu hkl hlen
          go_upto_region 11 with (first
            | (at_next; refine wpList_next rfl (.tmp 29) rfl (.pointer (some ⟨wq.heap.size, 0, none⟩)) _ W1 rfl hrun'.out ?_)
            | (refine wpList_store_row rfl 25 (.tmp 9) (.tmp 33) rfl W1.heap.size (du.map b8).toArray rfl rfl 25 z32.toArray (Row.new W1 _ z32) hds.out hdo.out hda.out ?_))
          clear hen
          simp only [Act.put]
          obtain ⟨e, he⟩ : ∃ e, e = W1.heap.size := ⟨_, rfl⟩
          obtain ⟨W2, hW2⟩ : ∃ W2, W2 = (W1.alloc (Obj.cells #[.int .u8 0, .int .u8 0, .int .u8 0, .int .u8 0, .int .u8 0, .int .u8 0, .int .u8 0, .int .u8 0, .int .u8 0, .int .u8 0, .int .u8 0, .int .u8 0, .int .u8 0, .int .u8 0, .int .u8 0, .int .u8 0, .int .u8 0, .int .u8 0, .int .u8 0, .int .u8 0, .int .u8 0, .int .u8 0, .int .u8 0, .int .u8 0, .int .u8 0, .int .u8 0, .int .u8 0, .int .u8 0, .int .u8 0, .int .u8 0, .int .u8 0, .int .u8 0] 25)).setRow W1.heap.size (du.map b8).toArray := ⟨_, rfl⟩
          have d2 := hideP (show Row W2 e 25 (du.map b8) by rw [hW2, he]; exact Row.setRow (Row.new W1 _ z32) _)
          have bb := hideP (show Below W1.heap.size W1 W2 by rw [hW2]; exact below_setRow' (below_new _ _) (Nat.le_refl _) _)
          have hew := hideP (show wq.heap.size ≤ e by rw [he]; exact hb1'.out.size)
          rw [← hW2, ← he]
          clear hW2 he
          have hrs := hideP (show wq.heap.size < W1.heap.size by
            obtain ⟨es, clock, since, seen, c0, _, _, _, _, h, _⟩ := hR1'.out
            exact (Array.getElem?_eq_some_iff.1 h).1)
          have hbs := hideP (Nat.lt_of_lt_of_le hbw.out hb1'.out.size)
          have hR2 := hideP (hR1'.out.of_block (w' := W2) (bb.out.block bm hbs.out) (bb.out.block _ hrs.out))
          have hb2 := hideP (but_ext hb1'.out bb.out)
          have hK2 := hideP (hE1.out.of_block (w' := W2) (hb2.out.block kn hkw.out (by have := hkw.out; have := hkb.out.1; omega)))
          have RW2 := hideP (show Row W2 g 84 _ from (hb2.out.block g hgw.out (by have := hgw.out; have := hkb.out.2; omega)).trans RW.out)
          have hm2 := hideP (show W2.rangeLeft bm wq.heap.size < wr.rangeLeft bm wq.heap.size by rw [rangeLeft_same (bb.out.block bm hbs.out) (bb.out.block _ hrs.out)]; exact hlt1'.out)
          clear bb hb1' hR1' hlt1' hg1' hRW hbW hrs hbs hrun' RW hEm c0
          by_cases hin : du ∈ ks
          · have hin' := hideP hin
            have hlk := hideP (Ents.look_in hK2.out keyD Try.underlying85 hkk.out (kents_in ((mem_kset ks du).2 hin)) false)
            clear hin
            go_wp2_with (first
              | (refine wpList_load_row rfl 25 (.tmp 9) rfl e rfl 25 (du.map b8).toArray (0, 0) _ d2.out Try.underlying25 rfl hds.out ?_)
              | (at_lookup; refine wpList_look rfl _ _ 85 false rfl (.map (some kn)) (.agg (du.map b8).toArray) (.bool true) rfl rfl hlk.out ?_))
            go_roundw
            case rel =>
              refine ⟨p, _, ⟨hR2.out, fun t ht => ?_, hb2.out⟩⟩
              rw [hp.out t ht]
              constructor
              · rintro (h | h)
                · exact .inl h
                · by_cases e1 : sum9 t = du
                  · exact .inl (e1 ▸ hin'.out)
                  · exact .inr ⟨h, fun e2 => e1 (dg_inj e2)⟩
              · exact fun h => h.imp id fun h => h.1
            case measure => exact hm2.out
          · have hin' := hideP hin
            have hlk := hideP (Ents.look_out hK2.out keyD Try.underlying85 (zeroBool _) hkk.out (kents_out (fun h => hin ((mem_kset ks du).1 h))) false)
            clear hin
            have c0 := (Row.cell RW2.out 0).trans rfl
            go_upto_region 12 with (first
              | (refine wpList_load_row rfl 25 (.tmp 9) rfl e rfl 25 (du.map b8).toArray (0, 0) _ d2.out Try.underlying25 rfl hds.out ?_)
              | (at_lookup; refine wpList_look rfl _ _ 85 false rfl (.map (some kn)) (.agg (du.map b8).toArray) (.bool false) rfl rfl hlk.out ?_))
            refine wp_region_eager 5 [(true, 0), (true, 1), (true, 2), (true, 3), (true, 4)] (by kernel_rfl) (by kernel_rfl) ?_
            simp only [pick, List.map_cons, List.map_nil, nthO_zero, nthO_succ]
            repeat (first
              | (refine wpPlan_skipK (by rfl) (fun K hK => ?_); go_simp; refine hK _ ?_; clear hK K)
              | (refine wpPlan_valK (by rfl) (fun K hK => ?_); refine ⟨.agg (du.map b8).toArray, fun W hW => exec_load_mid 25 (.tmp 9) rfl e 0 rfl (du.map b8) _ (Row.range (Row.ext d2.out hW.drew_left)) Try.underlying25 rfl hsz.out, ?_⟩; go_simp; refine hK _ ?_; clear hK K)
              | (refine wpPlan_valK (by rfl) (fun K hK => ?_); apply Exists.intro; refine ⟨fun W hW => ?_, ?_⟩; (focus (have hs0 := hW.cell c0; go_simp; (try rfl); done)); go_simp; refine hK _ ?_; clear hK K))
            refine wpPlan_nil (fun W3 hW0 => ?_)
            simp only [List.drop_succ_cons, List.drop_zero, List.drop_nil]
            have x3 := hideP hW0.drew_left
            have hbs := hideP (Nat.lt_of_lt_of_le hbw.out hb2.out.size)
            have hrs := hideP (show wq.heap.size < W2.heap.size by
              obtain ⟨es, clock, since, seen, c0, _, _, _, _, h, _⟩ := hR2.out
              exact (Array.getElem?_eq_some_iff.1 h).1)
            have hR3 := hideP (hR2.out.of_block (w' := W3) (x3.out.block bm hbs.out) (x3.out.block _ hrs.out))
            have hm3 := hideP (rangeLeft_same (x3.out.block bm hbs.out) (x3.out.block _ hrs.out))
            clear hW0
            have hq : ∀ z ∈ entsOf A c (L.filter p), (fun z : Value × Value => @decide (z.1 ≠ dg du) (Classical.propDecidable _)) z = true ↔ z.1 ≠ dg du := fun z _ => by simp
            obtain ⟨o4, hdel, hR4, hm4⟩ := Rng.del hR3.out keyD Try.underlying82 hkk.out 3 _ hq (fun h => h.2 rfl)
            rw [entsOf_filter A c L p du _ hq] at hR4
            have hdel' := hideP hdel
            have hR4' := hideP hR4
            have hm4' := hideP hm4
            have hq4 := hideP (show But (fun q => q = bm ∨ wq.heap.size ≤ q) wq (ChangeMaps.setBlock W3 bm o4) from (hb2.out.trans (But.of_ext x3.out)).trans (But.setBlock _ _ _ (.inl rfl)))
            clear hq hdel hR4 hm4
            go_wp2_with (refine wpList_del rfl _ _ 82 25 rfl (.map (some bm)) (.agg (du.map b8).toArray) (ChangeMaps.setBlock W3 bm o4) rfl rfl hdel'.out ?_; go_frame)
            go_roundw
            case rel =>
              refine ⟨_, _, ⟨hR4'.out, fun t ht => ?_, hq4.out⟩⟩
              simp only [Bool.and_eq_true, decide_eq_true_eq]
              rw [hp.out t ht]
              constructor
              · rintro ⟨h | h, h2⟩
                · exact .inl h
                · exact .inr ⟨h, fun e2 => h2 (dg_inj e2)⟩
              · rintro (h | h)
                · exact ⟨.inl h, fun e1 => hin'.out (e1 ▸ h)⟩
                · exact ⟨.inr h.1, fun e1 => h.2 (by rw [e1])⟩
            case measure => have h1 := hm2.out; have h2 := hm3.out; have h3 := hm4'.out; omega
end Go.Proofs.Ytjdbpeblbejllaa
