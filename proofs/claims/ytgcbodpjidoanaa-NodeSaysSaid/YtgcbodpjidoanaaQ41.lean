/- Contracts of page's Put, whole, and Clash. Contracts of node.Put and node.Get, where the node may be. -/
import Derived.Test.YtgcbodpjidoanaaQ38
import Derived.Test.YtgcbodpjidoanaaQ40
set_option linter.unusedVariables false
set_option linter.unusedSimpArgs false
namespace Go.Proofs.Ytgcbodpjidoanaa
open Go.RowKit
/-- the texts behind a Put -/
def putL (L : List (List Nat)) (t : List Nat) : List (List Nat) := if L.any (fun u => sum9 u == sum9 t) then L else L ++ [t]
/-- the clash behind a Put -/
def putC (L : List (List Nat)) (C : Option (List Nat × List Nat)) (t : List Nat) : Option (List Nat × List Nat) :=
  match C with
  | some p => some p
  | none => match L.find? (fun u => sum9 u == sum9 t) with
    | some u => if u = t then none else some (u, t)
    | none => none
theorem pput_any (g : Nat) (S : Nat → Prop) (L : List (List Nat)) (C : Option (List Nat × List Nat)) (At : Option Addr) (t : List Nat) (ct : Nat) (w : World) (h : PSt w S g L C) (hA : Arr w w.heap.size At t.length (u8s t)) (ht : IsB t) (hn : t.length ≤ 100000000) :
    Calls Try.prog 157 #[.pointer (some ⟨g, 0, none⟩), .slice At t.length ct] w fun e w' => ∃ S', e = .returned (.agg (pageD t).toArray) ∧ But S w w' ∧ (∀ b, S' b → S b ∨ w.heap.size ≤ b) ∧ PSt w' S' g (putL L t) (putC L C t) := by
  rcases hf : L.find? (fun u => sum9 u == sum9 t) with _ | u
  · have h1 := List.find?_eq_none.1 hf
    have e1 : putL L t = L ++ [t] := by
      unfold putL
      rw [if_neg]
      intro h2
      obtain ⟨u, hu, hs⟩ := List.any_eq_true.1 h2
      exact h1 u hu hs
    have e2 : putC L C t = C := by
      unfold putC
      rcases C with _ | p
      · simp [hf]
      · rfl
    rw [e1, e2]
    exact pput_out g S L C At t ct w h hA ht hn fun u hu hs => h1 u hu (by simpa using hs)
  · have hu : u ∈ L := List.mem_of_find?_eq_some hf
    have hs : sum9 u = sum9 t := by simpa using List.find?_some hf
    have e1 : putL L t = L := by
      unfold putL
      rw [if_pos (List.any_eq_true.2 ⟨u, hu, by simpa using hs⟩)]
    rw [e1]
    rcases C with _ | p
    · by_cases he : u = t
      · have e2 : putC L none t = none := by simp only [putC, hf]; rw [if_pos he]
        rw [e2]
        exact pput_same g S L At t ct w h hA ht hn u hu hs he
      · have e2 : putC L none t = some (u, t) := by simp only [putC, hf]; rw [if_neg he]
        rw [e2]
        exact pput_clash g S L At t ct w h hA ht hn u hu hs he
    · exact pput_some g S L p At t ct w h hA ht hn u hu hs
end Go.Proofs.Ytgcbodpjidoanaa
namespace Go.Proofs.Ytgcbodpjidoanaa
open Go.RowKit
theorem PSt.low {w : World} {S : Nat → Prop} {g : Nat} {L : List (List Nat)} {C : Option (List Nat × List Nat)} (h : PSt w S g L C) {b : Nat} (hb : w.heap.size ≤ b) : ¬ S b := fun hs => by have := h.fresh b hs; omega
theorem nsay_le (n : NodeD) (p : NodeP) (D : Nat) (w : World) (hn : NodeOk n) (hm : NodeMem w w.heap.size n p) (hr : nodeR n (D : Int) = true) (ht : NodeRt n D) (hs : (sayN n).size ≤ 1048576) :
    Calls Try.prog 26 #[.agg (nodeC n p).toArray, .int .i64 (D : Int)] w fun e w' => ∃ q, e = .returned (.tuple #[.agg (kidC (sayN n) q).toArray, .int .i64 0]) ∧ KidN (fun b => b < w.heap.size) w' (sayN n, q) ∧ Below w.heap.size w w' := by
  refine (nsay_ok n p D w hn hm hr ht).mono ?_
  rintro e w' ⟨b, ⟨h, _⟩ | ⟨_, q, h1, h2⟩⟩
  · omega
  · exact ⟨q, h1, h2, b⟩
theorem KidN.mem {S : Nat → Prop} {w : World} {k : KidD} {q : KidP} (h : KidN S w (k, q)) : KidMem w w.heap.size k q := ⟨h.l.arr, h.h.arr, h.k.arr⟩
set_option maxRecDepth 100000 in
set_option maxHeartbeats 2000000 in
theorem nput_ok (g : Nat) (St : Nat → Prop) (L : List (List Nat)) (CC : Option (List Nat × List Nat)) (n : NodeD) (p : NodeP) (D : Nat) (w : World) (hP : PSt w St g L CC) (hn : NodeOk n) (hm : NodeMem w w.heap.size n p) (hr : nodeR n (D : Int) = true) (ht : NodeRt n D) (hs : (sayN n).size ≤ 1048576) :
    Calls Try.prog 81 #[.pointer (some ⟨g, 0, none⟩), .agg (nodeC n p).toArray, .int .i64 (D : Int)] w fun e w' => ∃ q S', e = .returned (.tuple #[.agg (kidC (sayN n) q).toArray, .int .i64 0]) ∧ KidN (fun b => b < w.heap.size ∨ S' b) w' (sayN n, q) ∧ But St w w' ∧ (∀ b, S' b → St b ∨ w.heap.size ≤ b) ∧ PSt w' S' g (putL L (nodeB n)) (putC L CC (nodeB n)) := by
  have hSay := hideP (fun W (hW : Below w.heap.size w W) => nsay_le n p D W hn (hm.after hW) hr ht hs)
  have hEn := hideP (fun W (hW : Below w.heap.size w W) => nencode_ok n p D W hn (hm.after hW) hr)
  have hcl := hideP (fun q => (sayN_ok ht hn).cells q)
  have hNB := hideP (nodeB_isB ht hn)
  have hNL := hideP (nodeB_len ht hn)
  have hPP := hideP hP
  obtain ⟨C, hC⟩ : ∃ C, C = nodeC n p := ⟨_, rfl⟩
  have t3 := hideP (show (Try.prog.info? 27).map (·.size) = some C.toArray.size by rw [hC]; kernel_rfl)
  obtain ⟨NB, eNB⟩ : ∃ b, b = nodeB n := ⟨_, rfl⟩
  obtain ⟨nb, enb⟩ : ∃ b, b = NB.length := ⟨_, rfl⟩
  obtain ⟨KS, eKS⟩ : ∃ b, b = sayN n := ⟨_, rfl⟩
  rw [← hC] at hSay hEn ⊢
  rw [← eNB] at hEn hNB hNL ⊢
  rw [← enb] at hEn hNL
  rw [← eKS] at hSay hcl ⊢
  have ENb := hideP enb
  clear hn hm hr ht hs hC eNB enb hP
  obtain ⟨v0, hv0⟩ : ∃ v, v = w.alloc (.cells C.toArray 27) := ⟨_, rfl⟩
  obtain ⟨z, hz⟩ : ∃ g, g = w.heap.size := ⟨_, rfl⟩
  obtain ⟨v1, hv1⟩ : ∃ v, v = v0.alloc (.cells kidL13.toArray 43) := ⟨_, rfl⟩
  obtain ⟨r, hr0⟩ : ∃ g, g = z + 1 := ⟨_, rfl⟩
  have Z := hideP (show Row v1 z 27 C by rw [hv1]; exact Row.alloc (by rw [hv0, hz]; exact Row.new w _ _) _)
  have R := hideP (show Row v1 r 43 kidL13 by rw [hv1]; exact Row.new' v0 _ _ _ (by rw [hv0, hr0, hz]; simp))
  have B := hideP (show Below w.heap.size w v1 by rw [hv1]; exact bstep (by rw [hv0]; exact below_new _ _) (below_new _ _))
  have hwr := hideP (show w.heap.size ≤ r by rw [hr0, hz]; omega)
  have hrv := hideP (Row.lt R.out)
  have Hv0 := hideP hv0; have Hv1 := hideP hv1; have Hz := hideP hz; have Hr := hideP hr0
  clear hv0 hv1 hz hr0
  go_enter Try.func81, Try.ntmps81
  go_upto_region 1 with fail
  rw [← Hz.out, ← Hv0.out, ← Hr.out, show (v0.alloc (Obj.cells #[.int .u8 0, .int .u8 0, .int .u8 0, .int .u8 0, .int .u8 0, .int .u8 0, .int .u8 0, .int .u8 0, .int .u8 0, .int .u8 0, .int .u8 0, .int .u8 0, .int .u8 0, .int .u8 0, .int .u8 0, .int .u8 0, .int .u8 0, .int .u8 0, .int .u8 0, .int .u8 0, .int .u8 0, .int .u8 0, .int .u8 0, .int .u8 0, .int .u8 0, .int .u8 0, .int .u8 0, .int .u8 0, .int .u8 0, .int .u8 0, .int .u8 0, .int .u8 0, .slice none 0 0, .slice none 0 0, .int .i64 0, .int .i64 0, .slice none 0 0] 43)) = v1 from Hv1.out.symm]
  clear Hv0 Hv1
  go_upto_region 2 with (first
    | (refine wpList_load_row rfl 27 (.tmp 4) rfl z rfl 27 C.toArray (0, 0) _ Z.out Try.underlying27 rfl t3.out ?_)
    | (go_at_call 26; refine (hSay.out _ B.out).mono ?_; rintro e_ w1 ⟨q, rfl, k_, b_⟩; have KN := hideP k_; have Z1 := hideP (Row.after Z.out b_); have R1 := hideP (Row.after R.out b_); have B1 := hideP (bstep B.out b_); have hv1s := hideP b_.size; clear b_ k_; obtain ⟨KC, hKC⟩ : ∃ C, C = kidC KS q := ⟨_, rfl⟩; have hl37 := hideP (show KC.length = 37 by rw [hKC]; exact hcl.out q); have tK := hideP (show (Try.prog.info? 43).map (·.size) = some KC.toArray.size by rw [List.size_toArray]; exact size_k37 hl37.out); have tso := hideP (show kidL13.toArray.size = KC.toArray.size by rw [List.size_toArray, List.size_toArray, hl37.out]; rfl); have tone := hideP (show KC.toArray.all (·.oneCell') = true by rw [hKC]; exact kidC_one _ _); rw [← hKC]; have HKC := hideP hKC; clear hKC)
    | (refine wpList_store_row rfl 43 (.tmp 8) (.tmp 16) rfl w1.heap.size KC.toArray rfl rfl 43 kidL13.toArray (Row.new w1 43 kidL13) tK.out tso.out tone.out ?_))
  try simp only [Act.put]
  obtain ⟨x, hx⟩ : ∃ x, x = w1.heap.size := ⟨_, rfl⟩
  obtain ⟨v2, hv2⟩ : ∃ v, v = (w1.alloc (.cells kidL13.toArray 43)).setRow x KC.toArray := ⟨_, rfl⟩
  rw [← hx, ← hv2]
  have hb2 : Below w1.heap.size w1 v2 := by rw [hv2, hx]; exact below_setRow' (below_new w1 _) (Nat.le_refl _) _
  have X := hideP (show Row v2 x 43 KC by rw [hv2, hx]; exact Row.setRow (Row.new w1 43 kidL13) KC)
  have hwx := hideP (show w.heap.size ≤ x by rw [hx]; exact B1.out.size)
  replace KN := hideP (kid_moves _ (fun b => b < v1.heap.size) _ _ _ KN.out (But.of_below (S := fun b => b < v1.heap.size) hb2) fun _ _ h => h)
  have Z2 := hideP (Row.after Z1.out hb2)
  have R2 := hideP (Row.after R1.out hb2)
  have B2 := hideP (bstep B1.out hb2)
  have hv12 := hideP (show v1.heap.size ≤ v2.heap.size from Nat.le_trans hv1s.out hb2.size)
  clear hx hv2 hb2 Z1 R1 B1 Z R hv1s
  have hkl := hideP (show KidN (fun b => b < v1.heap.size ∨ v2.heap.size ≤ b) v2 (KS, q) from ⟨fun h => by obtain ⟨b, o, e, h1, h2, h3⟩ := KN.out.l h; exact ⟨b, o, e, h1, fun hh => by omega, h3⟩, fun h => by obtain ⟨b, o, e, h1, h2, h3⟩ := KN.out.h h; exact ⟨b, o, e, h1, fun hh => by omega, h3⟩, fun h => by obtain ⟨b, o, e, h1, h2, h3⟩ := KN.out.k h; exact ⟨b, o, e, h1, fun hh => by omega, h3⟩⟩)
  clear KN
  go_upto_region 5 with (first
    | (refine wpList_load_row rfl 27 (.tmp 4) rfl z rfl 27 C.toArray (0, 0) _ Z2.out Try.underlying27 rfl t3.out ?_)
    | (go_at_call 92; refine (hEn.out _ B2.out).mono ?_; rintro e_ w3 ⟨RB, cB, rfl, o_, b_⟩; have O3 := hideP o_.arr; have hv23 := hideP b_.size; have X3 := hideP (Row.after X.out b_); have R3 := hideP (Row.after R2.out b_); have B3 := hideP (bstep B2.out b_); have K3 := hideP (kid_moves _ (fun b => b < v1.heap.size ∨ w3.heap.size ≤ b) _ _ _ hkl.out (But.of_below (S := fun b => b < v1.heap.size ∨ v2.heap.size ≤ b) b_) (fun b hb hn hs => hs.elim (fun h => hn (.inl h)) (fun h => by have := b_.size; omega))); clear o_ b_))
  have hput := pput_any g St L CC RB NB cB w3 (hPP.out.after B3.out) O3.out hNB.out (by rw [← ENb.out]; have := hNL.out; omega)
  rw [← ENb.out] at hput
  have HPut := hideP hput
  clear hput X R2 B2 hkl Z2
  have sz3 := hideP B3.out.size
  have sz13 := hideP (show v1.heap.size ≤ w3.heap.size by have := hv12.out; have := hv23.out; omega)
  go_wp2_with (first
    | (go_at_call 157; refine HPut.out.mono ?_; rintro e_ w4 ⟨S', rfl, b_, s_, p_⟩; have P4 := hideP p_; have X4 := hideP (row_but2 b_ X3.out (hPP.out.low hwx.out)); have R4 := hideP (row_but2 b_ R3.out (hPP.out.low hwr.out)); have B4 := hideP (show But St w w4 from (But.of_below B3.out).trans b_); have S4 := hideP (show ∀ b, S' b → St b ∨ w.heap.size ≤ b from fun b hb => (s_ b hb).imp id fun h => Nat.le_trans sz3.out h); have K4 := hideP (kid_moves (fun b => b < v1.heap.size ∨ w3.heap.size ≤ b) (fun b => b < v1.heap.size ∨ S' b) _ _ _ K3.out (b_.mono fun b hb => .inl (Nat.lt_of_lt_of_le (hPP.out.fresh b hb) B.out.size)) (fun b hb hn hs => hs.elim (fun h => hn (.inl h)) (fun h => (s_ b h).elim (fun h => hn (.inl (Nat.lt_of_lt_of_le (hPP.out.fresh b h) B.out.size))) (fun h => hn (.inr h))))); have nR := hideP (show ¬ S' r from fun hs => (s_ r hs).elim (hPP.out.low hwr.out) fun h => by have := sz13.out; have := hrv.out; omega); clear b_ s_ p_)
    | (refine wpList_load_row rfl 43 (.tmp 8) rfl x rfl 43 KC.toArray (0, 0) _ X4.out Try.underlying43 rfl tK.out ?_)
    | (refine wpList_store_row rfl 43 (.tmp 6) (.tmp 31) rfl r KC.toArray rfl rfl 43 kidL13.toArray R4.out tK.out tso.out tone.out ?_))
  have bR : But St w (w4.setRow r KC.toArray) := ⟨by have := B4.out.size; simpa [World.setRow] using this, fun k hk hn => (setRow_other w4 r k KC.toArray (by have := hwr.out; omega)).trans (B4.out.block k hk hn), B4.out.os, B4.out.tape, B4.out.output⟩
  have tl := hideP (size_k37 hl37.out)
  refine ret_rowt rfl rfl rfl (Row.setRow R4.out KC) Try.underlying43 tl.out rfl ⟨q, S', by rw [HKC.out]; rfl, ?_, bR, S4.out, P4.out.keep (fun b hb => setRow_other w4 r b KC.toArray (fun e => nR.out (e ▸ hb))) (by simp [World.setRow])⟩
  exact kid_moves (fun b => b < v1.heap.size ∨ S' b) _ _ _ _ K4.out (But.setRow w4 r _ (.inl hrv.out)) fun b hb hn hs => hn (hs.imp (fun h => Nat.lt_of_lt_of_le h B.out.size) id)
set_option maxRecDepth 100000 in
set_option maxHeartbeats 2000000 in
theorem nget_in (g : Nat) (St : Nat → Prop) (L : List (List Nat)) (CC : Option (List Nat × List Nat)) (n : NodeD) (q : KidP) (D : Nat) (w : World) (hP : PSt w St g L CC) (hu : nodeB n ∈ L) (hn : NodeOk n) (hm : KidMem w w.heap.size (sayN n) q) (hr : nodeR n (D : Int) = true) (ht : NodeRt n D) (hs : (sayN n).size ≤ 1048576) :
    Calls Try.prog 82 #[.pointer (some ⟨g, 0, none⟩), .agg (kidC (sayN n) q).toArray, .int .i64 (D : Int)] w fun e w' => ∃ p, e = .returned (.tuple #[.agg (nodeC n p).toArray, .int .i64 0]) ∧ NodeMem w' w'.heap.size n p ∧ Below w.heap.size w w' := by
  have hGet0 := fun W (hW : Below w.heap.size w W) => pget_in g St L CC (nodeB n) (sayN n).sum W (hP.after hW) hu rfl
  unfold dg at hGet0
  have hNB0 := nodeB_isB ht hn
  have hNL0 := nodeB_len ht hn
  have hDec0 := fun A c W (hA : Arr W W.heap.size A (nodeB n).length (u8s (nodeB n))) => (ndecode_any A (nodeB n) (nodeB n).length c (D : Int) W rfl hA hNB0 (by omega)).mono (R' := fun e w' => ∃ p, e = .returned (.tuple #[.agg (nodeC n p).toArray, .int .i64 0]) ∧ (∀ V, But (fun b => b < W.heap.size) w' V → NodeMem V V.heap.size n p) ∧ Below W.heap.size W w') (by
    rintro e w' ⟨b, ⟨h, _⟩ | ⟨n', p, h, h1, h2⟩⟩
    · rw [readN_app hn hr] at h; cases h
    · rw [readN_app hn hr] at h; injection h with h; subst h; exact ⟨p, h1, h2, b⟩)
  have hSay0 := hideP (fun p W (hW : NodeMem W W.heap.size n p) => nsay_le n p D W hn hW hr ht hs)
  have hok := sayN_ok ht hn
  have hSame0 := hideP (fun q' W (hW : Below w.heap.size w W) (h' : KidMem W W.heap.size (sayN n) q') => nsame_any (sayN n) (sayN n) q' q W hok hok h' (hm.after hW))
  have hcl := hideP (fun q => hok.cells q)
  have ls := hideP (size_d32 hok.s)
  obtain ⟨KS, eKS⟩ : ∃ b, b = sayN n := ⟨_, rfl⟩
  obtain ⟨NB, eNB⟩ : ∃ b, b = nodeB n := ⟨_, rfl⟩
  obtain ⟨nb, enb⟩ : ∃ b, b = NB.length := ⟨_, rfl⟩
  rw [← eKS] at hGet0 hSay0 hSame0 hcl hok ls ⊢
  rw [← eNB, ← enb] at hGet0 hDec0
  have ENb := hideP enb
  obtain ⟨KC, hKC⟩ : ∃ C, C = kidC KS q := ⟨_, rfl⟩
  have hl37 := hideP (show KC.length = 37 by rw [hKC]; exact hcl.out q)
  have tK := hideP (show (Try.prog.info? 43).map (·.size) = some KC.toArray.size by rw [List.size_toArray]; exact size_k37 hl37.out)
  have tKl := hideP (size_k37 hl37.out)
  rw [← hKC]
  have HKC := hideP hKC
  have hGet := hideP hGet0; have hDec := hideP hDec0
  have hOK := hideP hok
  clear hn hm hr ht hs eNB enb eKS hP hGet0 hDec0 hNB0 hNL0 hKC hok hu
  obtain ⟨v0, hv0⟩ : ∃ v, v = w.alloc (.cells KC.toArray 43) := ⟨_, rfl⟩
  obtain ⟨z, hz⟩ : ∃ g, g = w.heap.size := ⟨_, rfl⟩
  obtain ⟨v1, hv1⟩ : ∃ v, v = v0.alloc (.cells (nodeV 0 none 0 0 none 0 0).toArray 27) := ⟨_, rfl⟩
  obtain ⟨r, hr0⟩ : ∃ g, g = z + 1 := ⟨_, rfl⟩
  have Z := hideP (show Row v1 z 43 KC by rw [hv1]; exact Row.alloc (by rw [hv0, hz]; exact Row.new w _ _) _)
  have R := hideP (show Row v1 r 27 (nodeV 0 none 0 0 none 0 0) by rw [hv1]; exact Row.new' v0 _ _ _ (by rw [hv0, hr0, hz]; simp))
  have B := hideP (show Below w.heap.size w v1 by rw [hv1]; exact bstep (by rw [hv0]; exact below_new _ _) (below_new _ _))
  have hwr := hideP (show w.heap.size ≤ r by rw [hr0, hz]; omega)
  have Hv0 := hideP hv0; have Hv1 := hideP hv1; have Hz := hideP hz; have Hr := hideP hr0
  have KSm := hideP (show v1.rangeAt z 0 (KS.sum.map b8) from kid_sum hOK.out (p := q) (by rw [← HKC.out]; exact Row.range Z.out))
  clear hv0 hv1 hz hr0
  go_enter Try.func82, Try.ntmps82
  go_upto_region 1 with fail
  rw [← Hz.out, ← Hv0.out, ← Hr.out, show (v0.alloc (.cells #[.int .u8 0, .slice none 0 0, .slice none 0 0] 27)) = v1 from Hv1.out.symm]
  clear Hv0 Hv1
  have n3 := hideP (show (Try.prog.info? 27).map (·.size) = some 3 by kernel_rfl)
  go_upto_region 4 with (first
    | (refine wpList_load_mid rfl 37 (.tmp 15) rfl z 0 rfl (KS.sum.map b8) _ KSm.out Try.underlying37 rfl ls.out ?_)
    | (go_at_call 158; refine (hGet.out _ B.out).mono ?_; rintro e_ w1 ⟨RB, cB, rfl, b_, o_⟩; have Z1 := hideP (Row.after Z.out b_); have R1 := hideP (Row.after R.out b_); have B1 := hideP (bstep B.out b_); have O1 := hideP o_.arr; have hrw := hideP (Row.lt R1.out); clear b_ o_))
  clear Z R B KSm
  have hDec1 := hideP (hDec.out RB cB w1 (by rw [ENb.out]; exact O1.out))
  go_upto_region 7 with (first
    | (go_at_call 15; refine hDec1.out.mono ?_; rintro e_ w2 ⟨p, rfl, m_, b_⟩; have M2 := hideP m_; have Z2 := hideP (Row.after Z1.out b_); have R2 := hideP (Row.after R1.out b_); have B2 := hideP (bstep B1.out b_); have s12 := hideP b_.size; clear b_ m_; obtain ⟨C, hC⟩ : ∃ C, C = nodeC n p := ⟨_, rfl⟩; have l3 := hideP (show C.length = 3 by rw [hC]; rfl); have tC := hideP (show (Try.prog.info? 27).map (·.size) = some C.toArray.size by rw [List.size_toArray, l3.out]; exact n3.out); have tCl := hideP (show (Try.prog.info? 27).map (·.size) = some C.length by rw [l3.out]; exact n3.out); have tso := hideP (show (nodeV 0 none 0 0 none 0 0).toArray.size = C.toArray.size by rw [List.size_toArray, List.size_toArray, l3.out]; rfl); have tone := hideP (show C.toArray.all (·.oneCell') = true by rw [hC]; unfold nodeC; simp [Value.oneCell']); rw [← hC]; have HC := hideP hC; clear hC)
    | (refine wpList_store_row rfl 27 (.tmp 10) (.tmp 27) rfl w2.heap.size C.toArray rfl rfl 27 (nodeV 0 none 0 0 none 0 0).toArray (Row.new w2 27 (nodeV 0 none 0 0 none 0 0)) tC.out tso.out tone.out ?_))
  try simp only [Act.put]
  obtain ⟨y, hy⟩ : ∃ x, x = w2.heap.size := ⟨_, rfl⟩
  obtain ⟨v3, hv3⟩ : ∃ v, v = (w2.alloc (.cells #[.int .u8 0, .slice none 0 0, .slice none 0 0] 27)).setRow y C.toArray := ⟨_, rfl⟩
  rw [← hy, ← hv3]
  have hb3 : Below w2.heap.size w2 v3 := by rw [hv3, hy]; exact below_setRow' (below_new w2 _) (Nat.le_refl _) _
  have Y3 := hideP (show Row v3 y 27 C by rw [hv3, hy]; exact Row.setRow (Row.new w2 27 (nodeV 0 none 0 0 none 0 0)) C)
  have M3 := hideP (fun V (hV : But (fun b => b < w1.heap.size) v3 V) => M2.out V ((But.of_below hb3).trans hV))
  have Z3 := hideP (Row.after Z2.out hb3)
  have R3 := hideP (Row.after R2.out hb3)
  have B3 := hideP (bstep B2.out hb3)
  clear hy hv3 hb3 Z1 R1 M2 Z2 R2 B2
  have hSay := hSay0.out p v3 (M3.out v3 (But.refl _))
  rw [← HC.out] at hSay
  have HSay := hideP hSay
  clear hSay
  go_upto_region 8 with (first
    | (refine wpList_load_row rfl 27 (.tmp 10) rfl y rfl 27 C.toArray (0, 0) _ Y3.out Try.underlying27 rfl tC.out ?_)
    | (go_at_call 26; refine HSay.out.mono ?_; rintro e_ w4 ⟨q2, rfl, k_, b_⟩; have K4 := hideP k_; have Y4 := hideP (Row.after Y3.out b_); have Z4 := hideP (Row.after Z3.out b_); have R4 := hideP (Row.after R3.out b_); have B4 := hideP (bstep B3.out b_); have M4 := hideP (fun V (hV : But (fun b => b < w1.heap.size) w4 V) => M3.out V ((But.of_below b_).trans hV)); clear b_ k_; obtain ⟨KD, hKD⟩ : ∃ C, C = kidC KS q2 := ⟨_, rfl⟩; have hD37 := hideP (show KD.length = 37 by rw [hKD]; exact hcl.out q2); have tD := hideP (show (Try.prog.info? 43).map (·.size) = some KD.toArray.size by rw [List.size_toArray]; exact size_k37 hD37.out); have tDl := hideP (size_k37 hD37.out); have dso := hideP (show kidL13.toArray.size = KD.toArray.size by rw [List.size_toArray, List.size_toArray, hD37.out]; rfl); have done_ := hideP (show KD.toArray.all (·.oneCell') = true by rw [hKD]; exact kidC_one _ _); rw [← hKD]; have HKD := hideP hKD; clear hKD)
    | (refine wpList_store_row rfl 43 (.tmp 11) (.tmp 36) rfl w4.heap.size KD.toArray rfl rfl 43 kidL13.toArray (Row.new w4 43 kidL13) tD.out dso.out done_.out ?_))
  try simp only [Act.put]
  obtain ⟨x, hx⟩ : ∃ x, x = w4.heap.size := ⟨_, rfl⟩
  obtain ⟨v5, hv5⟩ : ∃ v, v = (w4.alloc (.cells kidL13.toArray 43)).setRow x KD.toArray := ⟨_, rfl⟩
  rw [← hx, ← hv5]
  have hb5 : Below w4.heap.size w4 v5 := by rw [hv5, hx]; exact below_setRow' (below_new w4 _) (Nat.le_refl _) _
  have X5 := hideP (show Row v5 x 43 KD by rw [hv5, hx]; exact Row.setRow (Row.new w4 43 kidL13) KD)
  have hK5 := (KidN.mem K4.out).after hb5
  have M5 := hideP (fun V (hV : But (fun b => b < w1.heap.size) v5 V) => M4.out V ((But.of_below hb5).trans hV))
  have Y5 := hideP (Row.after Y4.out hb5)
  have Z5 := hideP (Row.after Z4.out hb5)
  have R5 := hideP (Row.after R4.out hb5)
  have B5 := hideP (bstep B4.out hb5)
  have hSm := (hSame0.out q2 v5 B5.out hK5).mono (R' := fun e w' => e = .returned (.bool true) ∧ Below v5.heap.size v5 w') (fun e w' h => ⟨by rw [h.1]; simp, h.2⟩)
  rw [← HKD.out, ← HKC.out] at hSm
  have HSm := hideP hSm
  clear hx hv5 hb5 hK5 hSm K4 M4 Y4 Z4 R4 B4 M3 Z3 R3 B3 Y3 HSay
  go_wp2_with (first
    | (refine wpList_loadG rfl 43 (.tmp 11) rfl x 0 rfl KD _ (Row.range X5.out) Try.underlying43 rfl tDl.out ?_)
    | (refine wpList_loadG rfl 43 (.tmp 4) rfl z 0 rfl KC _ (Row.range Z5.out) Try.underlying43 rfl tKl.out ?_)
    | (go_at_call 22; refine HSm.out.mono ?_; rintro e_ w6 ⟨rfl, b_⟩; have Y6 := hideP (Row.after Y5.out b_); have R6 := hideP (Row.after R5.out b_); have B6 := hideP (bstep B5.out b_); have M6 := hideP (fun V (hV : But (fun b => b < w1.heap.size) w6 V) => M5.out V ((But.of_below b_).trans hV)); clear b_)
    | (refine wpList_load_row rfl 27 (.tmp 10) rfl y rfl 27 C.toArray (0, 0) _ Y6.out Try.underlying27 rfl tC.out ?_)
    | (refine wpList_store_row rfl 27 (.tmp 6) (.tmp 47) rfl r C.toArray rfl rfl 27 (nodeV 0 none 0 0 none 0 0).toArray R6.out tC.out tso.out tone.out ?_))
  refine ret_rowt rfl rfl rfl (Row.setRow R6.out C) Try.underlying27 tCl.out rfl ⟨p, by rw [HC.out]; rfl, M6.out _ (But.setRow _ r _ hrw.out), below_setRow' B6.out hwr.out _⟩
end Go.Proofs.Ytgcbodpjidoanaa
