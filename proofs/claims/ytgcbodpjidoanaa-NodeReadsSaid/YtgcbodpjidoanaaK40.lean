/- Contracts of page's Put, whole, and Clash. Contracts of node.Put and node.Get, where the node may be. Contract of the reference's Right of nodes. -/
import Derived.Test.YtgcbodpjidoanaaK28
import Derived.Test.YtgcbodpjidoanaaK37
import Derived.Test.YtgcbodpjidoanaaK39
set_option linter.unusedVariables false
set_option linter.unusedSimpArgs false
namespace Go.Proofs.Ytgcbodpjidoanaa
open Go.RowKit
/-- the texts behind a Put -/
def putL (L : List (List Nat)) (t : List Nat) : List (List Nat) := if L.any (fun u => sum9 u == sum9 t) then L else L ++ [t]
/-- the clash behind a Put -/
def putC (L : List (List Nat)) (C : Option (List Nat × List Nat)) (t : List Nat) : Option (List Nat × List Nat) :=
  match C with
  | some p => some p
  | none => match L.find? (fun u => sum9 u == sum9 t) with
    | some u => if u = t then none else some (u, t)
    | none => none
theorem pput_any (g : Nat) (S : Nat → Prop) (L : List (List Nat)) (C : Option (List Nat × List Nat)) (At : Option Addr) (t : List Nat) (ct : Nat) (w : World) (h : PSt w S g L C) (hA : Arr w w.heap.size At t.length (u8s t)) (ht : IsB t) (hn : t.length ≤ 100000000) :
    Calls Try.prog 157 #[.pointer (some ⟨g, 0, none⟩), .slice At t.length ct] w fun e w' => ∃ S', e = .returned (.agg (pageD t).toArray) ∧ But S w w' ∧ (∀ b, S' b → S b ∨ w.heap.size ≤ b) ∧ PSt w' S' g (putL L t) (putC L C t) := by
  rcases hf : L.find? (fun u => sum9 u == sum9 t) with _ | u
  · have h1 := List.find?_eq_none.1 hf
    have e1 : putL L t = L ++ [t] := by
      unfold putL
      rw [if_neg]
      intro h2
      obtain ⟨u, hu, hs⟩ := List.any_eq_true.1 h2
      exact h1 u hu hs
    have e2 : putC L C t = C := by
      unfold putC
      rcases C with _ | p
      · simp [hf]
      · rfl
    rw [e1, e2]
    exact pput_out g S L C At t ct w h hA ht hn fun u hu hs => h1 u hu (by simpa using hs)
  · have hu : u ∈ L := List.mem_of_find?_eq_some hf
    have hs : sum9 u = sum9 t := by simpa using List.find?_some hf
    have e1 : putL L t = L := by
      unfold putL
      rw [if_pos (List.any_eq_true.2 ⟨u, hu, by simpa using hs⟩)]
    rw [e1]
    rcases C with _ | p
    · by_cases he : u = t
      · have e2 : putC L none t = none := by simp only [putC, hf]; rw [if_pos he]
        rw [e2]
        exact pput_same g S L At t ct w h hA ht hn u hu hs he
      · have e2 : putC L none t = some (u, t) := by simp only [putC, hf]; rw [if_neg he]
        rw [e2]
        exact pput_clash g S L At t ct w h hA ht hn u hu hs he
    · exact pput_some g S L p At t ct w h hA ht hn u hu hs
end Go.Proofs.Ytgcbodpjidoanaa
namespace Go.Proofs.Ytgcbodpjidoanaa
open Go.RowKit
theorem PSt.low {w : World} {S : Nat → Prop} {g : Nat} {L : List (List Nat)} {C : Option (List Nat × List Nat)} (h : PSt w S g L C) {b : Nat} (hb : w.heap.size ≤ b) : ¬ S b := fun hs => by have := h.fresh b hs; omega
theorem nsay_le (n : NodeD) (p : NodeP) (D : Nat) (w : World) (hn : NodeOk n) (hm : NodeMem w w.heap.size n p) (hr : nodeR n (D : Int) = true) (ht : NodeRt n D) (hs : (sayN n).size ≤ 1048576) :
    Calls Try.prog 26 #[.agg (nodeC n p).toArray, .int .i64 (D : Int)] w fun e w' => ∃ q, e = .returned (.tuple #[.agg (kidC (sayN n) q).toArray, .int .i64 0]) ∧ KidN (fun b => b < w.heap.size) w' (sayN n, q) ∧ Below w.heap.size w w' := by
  refine (nsay_ok n p D w hn hm hr ht).mono ?_
  rintro e w' ⟨b, ⟨h, _⟩ | ⟨_, q, h1, h2⟩⟩
  · omega
  · exact ⟨q, h1, h2, b⟩
theorem KidN.mem {S : Nat → Prop} {w : World} {k : KidD} {q : KidP} (h : KidN S w (k, q)) : KidMem w w.heap.size k q := ⟨h.l.arr, h.h.arr, h.k.arr⟩
set_option maxRecDepth 100000 in
set_option maxHeartbeats 2000000 in
theorem nput_ok (g : Nat) (St : Nat → Prop) (L : List (List Nat)) (CC : Option (List Nat × List Nat)) (n : NodeD) (p : NodeP) (D : Nat) (w : World) (hP : PSt w St g L CC) (hn : NodeOk n) (hm : NodeMem w w.heap.size n p) (hr : nodeR n (D : Int) = true) (ht : NodeRt n D) (hs : (sayN n).size ≤ 1048576) :
    Calls Try.prog 81 #[.pointer (some ⟨g, 0, none⟩), .agg (nodeC n p).toArray, .int .i64 (D : Int)] w fun e w' => ∃ q S', e = .returned (.tuple #[.agg (kidC (sayN n) q).toArray, .int .i64 0]) ∧ KidN (fun b => b < w.heap.size ∨ S' b) w' (sayN n, q) ∧ But St w w' ∧ (∀ b, S' b → St b ∨ w.heap.size ≤ b) ∧ PSt w' S' g (putL L (nodeB n)) (putC L CC (nodeB n)) := by
  have hSay := hideP (fun W (hW : Below w.heap.size w W) => nsay_le n p D W hn (hm.after hW) hr ht hs)
  have hEn := hideP (fun W (hW : Below w.heap.size w W) => nencode_ok n p D W hn (hm.after hW) hr)
  have hcl := hideP (fun q => (sayN_ok ht hn).cells q)
  have hNB := hideP (nodeB_isB ht hn)
  have hNL := hideP (nodeB_len ht hn)
  have hPP := hideP hP
  obtain ⟨C, hC⟩ : ∃ C, C = nodeC n p := ⟨_, rfl⟩
  have t3 := hideP (show (Try.prog.info? 27).map (·.size) = some C.toArray.size by rw [hC]; kernel_rfl)
  obtain ⟨NB, eNB⟩ : ∃ b, b = nodeB n := ⟨_, rfl⟩
  obtain ⟨nb, enb⟩ : ∃ b, b = NB.length := ⟨_, rfl⟩
  obtain ⟨KS, eKS⟩ : ∃ b, b = sayN n := ⟨_, rfl⟩
  rw [← hC] at hSay hEn ⊢
  rw [← eNB] at hEn hNB hNL ⊢
  rw [← enb] at hEn hNL
  rw [← eKS] at hSay hcl ⊢
  have ENb := hideP enb
  clear hn hm hr ht hs hC eNB enb hP
  obtain ⟨v0, hv0⟩ : ∃ v, v = w.alloc (.cells C.toArray 27) := ⟨_, rfl⟩
  obtain ⟨z, hz⟩ : ∃ g, g = w.heap.size := ⟨_, rfl⟩
  obtain ⟨v1, hv1⟩ : ∃ v, v = v0.alloc (.cells kidL13.toArray 43) := ⟨_, rfl⟩
  obtain ⟨r, hr0⟩ : ∃ g, g = z + 1 := ⟨_, rfl⟩
  have Z := hideP (show Row v1 z 27 C by rw [hv1]; exact Row.alloc (by rw [hv0, hz]; exact Row.new w _ _) _)
  have R := hideP (show Row v1 r 43 kidL13 by rw [hv1]; exact Row.new' v0 _ _ _ (by rw [hv0, hr0, hz]; simp))
  have B := hideP (show Below w.heap.size w v1 by rw [hv1]; exact bstep (by rw [hv0]; exact below_new _ _) (below_new _ _))
  have hwr := hideP (show w.heap.size ≤ r by rw [hr0, hz]; omega)
  have hrv := hideP (Row.lt R.out)
  have Hv0 := hideP hv0; have Hv1 := hideP hv1; have Hz := hideP hz; have Hr := hideP hr0
  clear hv0 hv1 hz hr0
  go_enter Try.func81, Try.ntmps81
  go_upto_region 1 with fail
  rw [← Hz.out, ← Hv0.out, ← Hr.out, show (v0.alloc (Obj.cells #[.int .u8 0, .int .u8 0, .int .u8 0, .int .u8 0, .int .u8 0, .int .u8 0, .int .u8 0, .int .u8 0, .int .u8 0, .int .u8 0, .int .u8 0, .int .u8 0, .int .u8 0, .int .u8 0, .int .u8 0, .int .u8 0, .int .u8 0, .int .u8 0, .int .u8 0, .int .u8 0, .int .u8 0, .int .u8 0, .int .u8 0, .int .u8 0, .int .u8 0, .int .u8 0, .int .u8 0, .int .u8 0, .int .u8 0, .int .u8 0, .int .u8 0, .int .u8 0, .slice none 0 0, .slice none 0 0, .int .i64 0, .int .i64 0, .slice none 0 0] 43)) = v1 from Hv1.out.symm]
  clear Hv0 Hv1
  go_upto_region 2 with (first
    | (refine wpList_load_row rfl 27 (.tmp 4) rfl z rfl 27 C.toArray (0, 0) _ Z.out Try.underlying27 rfl t3.out ?_)
    | (go_at_call 26; refine (hSay.out _ B.out).mono ?_; rintro e_ w1 ⟨q, rfl, k_, b_⟩; have KN := hideP k_; have Z1 := hideP (Row.after Z.out b_); have R1 := hideP (Row.after R.out b_); have B1 := hideP (bstep B.out b_); have hv1s := hideP b_.size; clear b_ k_; obtain ⟨KC, hKC⟩ : ∃ C, C = kidC KS q := ⟨_, rfl⟩; have hl37 := hideP (show KC.length = 37 by rw [hKC]; exact hcl.out q); have tK := hideP (show (Try.prog.info? 43).map (·.size) = some KC.toArray.size by rw [List.size_toArray]; exact size_k37 hl37.out); have tso := hideP (show kidL13.toArray.size = KC.toArray.size by rw [List.size_toArray, List.size_toArray, hl37.out]; rfl); have tone := hideP (show KC.toArray.all (·.oneCell') = true by rw [hKC]; exact kidC_one _ _); rw [← hKC]; have HKC := hideP hKC; clear hKC)
    | (refine wpList_store_row rfl 43 (.tmp 8) (.tmp 16) rfl w1.heap.size KC.toArray rfl rfl 43 kidL13.toArray (Row.new w1 43 kidL13) tK.out tso.out tone.out ?_))
  try simp only [Act.put]
  obtain ⟨x, hx⟩ : ∃ x, x = w1.heap.size := ⟨_, rfl⟩
  obtain ⟨v2, hv2⟩ : ∃ v, v = (w1.alloc (.cells kidL13.toArray 43)).setRow x KC.toArray := ⟨_, rfl⟩
  rw [← hx, ← hv2]
  have hb2 : Below w1.heap.size w1 v2 := by rw [hv2, hx]; exact below_setRow' (below_new w1 _) (Nat.le_refl _) _
  have X := hideP (show Row v2 x 43 KC by rw [hv2, hx]; exact Row.setRow (Row.new w1 43 kidL13) KC)
  have hwx := hideP (show w.heap.size ≤ x by rw [hx]; exact B1.out.size)
  replace KN := hideP (kid_moves _ (fun b => b < v1.heap.size) _ _ _ KN.out (But.of_below (S := fun b => b < v1.heap.size) hb2) fun _ _ h => h)
  have Z2 := hideP (Row.after Z1.out hb2)
  have R2 := hideP (Row.after R1.out hb2)
  have B2 := hideP (bstep B1.out hb2)
  have hv12 := hideP (show v1.heap.size ≤ v2.heap.size from Nat.le_trans hv1s.out hb2.size)
  clear hx hv2 hb2 Z1 R1 B1 Z R hv1s
  have hkl := hideP (show KidN (fun b => b < v1.heap.size ∨ v2.heap.size ≤ b) v2 (KS, q) from ⟨fun h => by obtain ⟨b, o, e, h1, h2, h3⟩ := KN.out.l h; exact ⟨b, o, e, h1, fun hh => by omega, h3⟩, fun h => by obtain ⟨b, o, e, h1, h2, h3⟩ := KN.out.h h; exact ⟨b, o, e, h1, fun hh => by omega, h3⟩, fun h => by obtain ⟨b, o, e, h1, h2, h3⟩ := KN.out.k h; exact ⟨b, o, e, h1, fun hh => by omega, h3⟩⟩)
  clear KN
  go_upto_region 5 with (first
    | (refine wpList_load_row rfl 27 (.tmp 4) rfl z rfl 27 C.toArray (0, 0) _ Z2.out Try.underlying27 rfl t3.out ?_)
    | (go_at_call 92; refine (hEn.out _ B2.out).mono ?_; rintro e_ w3 ⟨RB, cB, rfl, o_, b_⟩; have O3 := hideP o_.arr; have hv23 := hideP b_.size; have X3 := hideP (Row.after X.out b_); have R3 := hideP (Row.after R2.out b_); have B3 := hideP (bstep B2.out b_); have K3 := hideP (kid_moves _ (fun b => b < v1.heap.size ∨ w3.heap.size ≤ b) _ _ _ hkl.out (But.of_below (S := fun b => b < v1.heap.size ∨ v2.heap.size ≤ b) b_) (fun b hb hn hs => hs.elim (fun h => hn (.inl h)) (fun h => by have := b_.size; omega))); clear o_ b_))
  have hput := pput_any g St L CC RB NB cB w3 (hPP.out.after B3.out) O3.out hNB.out (by rw [← ENb.out]; have := hNL.out; omega)
  rw [← ENb.out] at hput
  have HPut := hideP hput
  clear hput X R2 B2 hkl Z2
  have sz3 := hideP B3.out.size
  have sz13 := hideP (show v1.heap.size ≤ w3.heap.size by have := hv12.out; have := hv23.out; omega)
  go_wp2_with (first
    | (go_at_call 157; refine HPut.out.mono ?_; rintro e_ w4 ⟨S', rfl, b_, s_, p_⟩; have P4 := hideP p_; have X4 := hideP (row_but2 b_ X3.out (hPP.out.low hwx.out)); have R4 := hideP (row_but2 b_ R3.out (hPP.out.low hwr.out)); have B4 := hideP (show But St w w4 from (But.of_below B3.out).trans b_); have S4 := hideP (show ∀ b, S' b → St b ∨ w.heap.size ≤ b from fun b hb => (s_ b hb).imp id fun h => Nat.le_trans sz3.out h); have K4 := hideP (kid_moves (fun b => b < v1.heap.size ∨ w3.heap.size ≤ b) (fun b => b < v1.heap.size ∨ S' b) _ _ _ K3.out (b_.mono fun b hb => .inl (Nat.lt_of_lt_of_le (hPP.out.fresh b hb) B.out.size)) (fun b hb hn hs => hs.elim (fun h => hn (.inl h)) (fun h => (s_ b h).elim (fun h => hn (.inl (Nat.lt_of_lt_of_le (hPP.out.fresh b h) B.out.size))) (fun h => hn (.inr h))))); have nR := hideP (show ¬ S' r from fun hs => (s_ r hs).elim (hPP.out.low hwr.out) fun h => by have := sz13.out; have := hrv.out; omega); clear b_ s_ p_)
    | (refine wpList_load_row rfl 43 (.tmp 8) rfl x rfl 43 KC.toArray (0, 0) _ X4.out Try.underlying43 rfl tK.out ?_)
    | (refine wpList_store_row rfl 43 (.tmp 6) (.tmp 31) rfl r KC.toArray rfl rfl 43 kidL13.toArray R4.out tK.out tso.out tone.out ?_))
  have bR : But St w (w4.setRow r KC.toArray) := ⟨by have := B4.out.size; simpa [World.setRow] using this, fun k hk hn => (setRow_other w4 r k KC.toArray (by have := hwr.out; omega)).trans (B4.out.block k hk hn), B4.out.os, B4.out.tape, B4.out.output⟩
  have tl := hideP (size_k37 hl37.out)
  refine ret_rowt rfl rfl rfl (Row.setRow R4.out KC) Try.underlying43 tl.out rfl ⟨q, S', by rw [HKC.out]; rfl, ?_, bR, S4.out, P4.out.keep (fun b hb => setRow_other w4 r b KC.toArray (fun e => nR.out (e ▸ hb))) (by simp [World.setRow])⟩
  exact kid_moves (fun b => b < v1.heap.size ∨ S' b) _ _ _ _ K4.out (But.setRow w4 r _ (.inl hrv.out)) fun b hb hn hs => hn (hs.imp (fun h => Nat.lt_of_lt_of_le h B.out.size) id)
set_option maxRecDepth 100000 in
set_option maxHeartbeats 2000000 in
theorem nget_in (g : Nat) (St : Nat → Prop) (L : List (List Nat)) (CC : Option (List Nat × List Nat)) (n : NodeD) (q : KidP) (D : Nat) (w : World) (hP : PSt w St g L CC) (hu : nodeB n ∈ L) (hn : NodeOk n) (hm : KidMem w w.heap.size (sayN n) q) (hr : nodeR n (D : Int) = true) (ht : NodeRt n D) (hs : (sayN n).size ≤ 1048576) :
    Calls Try.prog 82 #[.pointer (some ⟨g, 0, none⟩), .agg (kidC (sayN n) q).toArray, .int .i64 (D : Int)] w fun e w' => ∃ p, e = .returned (.tuple #[.agg (nodeC n p).toArray, .int .i64 0]) ∧ NodeMem w' w'.heap.size n p ∧ Below w.heap.size w w' := by
  have hGet0 := fun W (hW : Below w.heap.size w W) => pget_in g St L CC (nodeB n) (sayN n).sum W (hP.after hW) hu rfl
  unfold dg at hGet0
  have hNB0 := nodeB_isB ht hn
  have hNL0 := nodeB_len ht hn
  have hDec0 := fun A c W (hA : Arr W W.heap.size A (nodeB n).length (u8s (nodeB n))) => (ndecode_any A (nodeB n) (nodeB n).length c (D : Int) W rfl hA hNB0 (by omega)).mono (R' := fun e w' => ∃ p, e = .returned (.tuple #[.agg (nodeC n p).toArray, .int .i64 0]) ∧ (∀ V, But (fun b => b < W.heap.size) w' V → NodeMem V V.heap.size n p) ∧ Below W.heap.size W w') (by
    rintro e w' ⟨b, ⟨h, _⟩ | ⟨n', p, h, h1, h2⟩⟩
    · rw [readN_app hn hr] at h; cases h
    · rw [readN_app hn hr] at h; injection h with h; subst h; exact ⟨p, h1, h2, b⟩)
  have hSay0 := hideP (fun p W (hW : NodeMem W W.heap.size n p) => nsay_le n p D W hn hW hr ht hs)
  have hok := sayN_ok ht hn
  have hSame0 := hideP (fun q' W (hW : Below w.heap.size w W) (h' : KidMem W W.heap.size (sayN n) q') => nsame_any (sayN n) (sayN n) q' q W hok hok h' (hm.after hW))
  have hcl := hideP (fun q => hok.cells q)
  have ls := hideP (size_d32 hok.s)
  obtain ⟨KS, eKS⟩ : ∃ b, b = sayN n := ⟨_, rfl⟩
  obtain ⟨NB, eNB⟩ : ∃ b, b = nodeB n := ⟨_, rfl⟩
  obtain ⟨nb, enb⟩ : ∃ b, b = NB.length := ⟨_, rfl⟩
  rw [← eKS] at hGet0 hSay0 hSame0 hcl hok ls ⊢
  rw [← eNB, ← enb] at hGet0 hDec0
  have ENb := hideP enb
  obtain ⟨KC, hKC⟩ : ∃ C, C = kidC KS q := ⟨_, rfl⟩
  have hl37 := hideP (show KC.length = 37 by rw [hKC]; exact hcl.out q)
  have tK := hideP (show (Try.prog.info? 43).map (·.size) = some KC.toArray.size by rw [List.size_toArray]; exact size_k37 hl37.out)
  have tKl := hideP (size_k37 hl37.out)
  rw [← hKC]
  have HKC := hideP hKC
  have hGet := hideP hGet0; have hDec := hideP hDec0
  have hOK := hideP hok
  clear hn hm hr ht hs eNB enb eKS hP hGet0 hDec0 hNB0 hNL0 hKC hok hu
  obtain ⟨v0, hv0⟩ : ∃ v, v = w.alloc (.cells KC.toArray 43) := ⟨_, rfl⟩
  obtain ⟨z, hz⟩ : ∃ g, g = w.heap.size := ⟨_, rfl⟩
  obtain ⟨v1, hv1⟩ : ∃ v, v = v0.alloc (.cells (nodeV 0 none 0 0 none 0 0).toArray 27) := ⟨_, rfl⟩
  obtain ⟨r, hr0⟩ : ∃ g, g = z + 1 := ⟨_, rfl⟩
  have Z := hideP (show Row v1 z 43 KC by rw [hv1]; exact Row.alloc (by rw [hv0, hz]; exact Row.new w _ _) _)
  have R := hideP (show Row v1 r 27 (nodeV 0 none 0 0 none 0 0) by rw [hv1]; exact Row.new' v0 _ _ _ (by rw [hv0, hr0, hz]; simp))
  have B := hideP (show Below w.heap.size w v1 by rw [hv1]; exact bstep (by rw [hv0]; exact below_new _ _) (below_new _ _))
  have hwr := hideP (show w.heap.size ≤ r by rw [hr0, hz]; omega)
  have Hv0 := hideP hv0; have Hv1 := hideP hv1; have Hz := hideP hz; have Hr := hideP hr0
  have KSm := hideP (show v1.rangeAt z 0 (KS.sum.map b8) from kid_sum hOK.out (p := q) (by rw [← HKC.out]; exact Row.range Z.out))
  clear hv0 hv1 hz hr0
  go_enter Try.func82, Try.ntmps82
  go_upto_region 1 with fail
  rw [← Hz.out, ← Hv0.out, ← Hr.out, show (v0.alloc (.cells #[.int .u8 0, .slice none 0 0, .slice none 0 0] 27)) = v1 from Hv1.out.symm]
  clear Hv0 Hv1
  have n3 := hideP (show (Try.prog.info? 27).map (·.size) = some 3 by kernel_rfl)
  go_upto_region 4 with (first
    | (refine wpList_load_mid rfl 37 (.tmp 15) rfl z 0 rfl (KS.sum.map b8) _ KSm.out Try.underlying37 rfl ls.out ?_)
    | (go_at_call 158; refine (hGet.out _ B.out).mono ?_; rintro e_ w1 ⟨RB, cB, rfl, b_, o_⟩; have Z1 := hideP (Row.after Z.out b_); have R1 := hideP (Row.after R.out b_); have B1 := hideP (bstep B.out b_); have O1 := hideP o_.arr; have hrw := hideP (Row.lt R1.out); clear b_ o_))
  clear Z R B KSm
  have hDec1 := hideP (hDec.out RB cB w1 (by rw [ENb.out]; exact O1.out))
  go_upto_region 7 with (first
    | (go_at_call 15; refine hDec1.out.mono ?_; rintro e_ w2 ⟨p, rfl, m_, b_⟩; have M2 := hideP m_; have Z2 := hideP (Row.after Z1.out b_); have R2 := hideP (Row.after R1.out b_); have B2 := hideP (bstep B1.out b_); have s12 := hideP b_.size; clear b_ m_; obtain ⟨C, hC⟩ : ∃ C, C = nodeC n p := ⟨_, rfl⟩; have l3 := hideP (show C.length = 3 by rw [hC]; rfl); have tC := hideP (show (Try.prog.info? 27).map (·.size) = some C.toArray.size by rw [List.size_toArray, l3.out]; exact n3.out); have tCl := hideP (show (Try.prog.info? 27).map (·.size) = some C.length by rw [l3.out]; exact n3.out); have tso := hideP (show (nodeV 0 none 0 0 none 0 0).toArray.size = C.toArray.size by rw [List.size_toArray, List.size_toArray, l3.out]; rfl); have tone := hideP (show C.toArray.all (·.oneCell') = true by rw [hC]; unfold nodeC; simp [Value.oneCell']); rw [← hC]; have HC := hideP hC; clear hC)
    | (refine wpList_store_row rfl 27 (.tmp 10) (.tmp 27) rfl w2.heap.size C.toArray rfl rfl 27 (nodeV 0 none 0 0 none 0 0).toArray (Row.new w2 27 (nodeV 0 none 0 0 none 0 0)) tC.out tso.out tone.out ?_))
  try simp only [Act.put]
  obtain ⟨y, hy⟩ : ∃ x, x = w2.heap.size := ⟨_, rfl⟩
  obtain ⟨v3, hv3⟩ : ∃ v, v = (w2.alloc (.cells #[.int .u8 0, .slice none 0 0, .slice none 0 0] 27)).setRow y C.toArray := ⟨_, rfl⟩
  rw [← hy, ← hv3]
  have hb3 : Below w2.heap.size w2 v3 := by rw [hv3, hy]; exact below_setRow' (below_new w2 _) (Nat.le_refl _) _
  have Y3 := hideP (show Row v3 y 27 C by rw [hv3, hy]; exact Row.setRow (Row.new w2 27 (nodeV 0 none 0 0 none 0 0)) C)
  have M3 := hideP (fun V (hV : But (fun b => b < w1.heap.size) v3 V) => M2.out V ((But.of_below hb3).trans hV))
  have Z3 := hideP (Row.after Z2.out hb3)
  have R3 := hideP (Row.after R2.out hb3)
  have B3 := hideP (bstep B2.out hb3)
  clear hy hv3 hb3 Z1 R1 M2 Z2 R2 B2
  have hSay := hSay0.out p v3 (M3.out v3 (But.refl _))
  rw [← HC.out] at hSay
  have HSay := hideP hSay
  clear hSay
  go_upto_region 8 with (first
    | (refine wpList_load_row rfl 27 (.tmp 10) rfl y rfl 27 C.toArray (0, 0) _ Y3.out Try.underlying27 rfl tC.out ?_)
    | (go_at_call 26; refine HSay.out.mono ?_; rintro e_ w4 ⟨q2, rfl, k_, b_⟩; have K4 := hideP k_; have Y4 := hideP (Row.after Y3.out b_); have Z4 := hideP (Row.after Z3.out b_); have R4 := hideP (Row.after R3.out b_); have B4 := hideP (bstep B3.out b_); have M4 := hideP (fun V (hV : But (fun b => b < w1.heap.size) w4 V) => M3.out V ((But.of_below b_).trans hV)); clear b_ k_; obtain ⟨KD, hKD⟩ : ∃ C, C = kidC KS q2 := ⟨_, rfl⟩; have hD37 := hideP (show KD.length = 37 by rw [hKD]; exact hcl.out q2); have tD := hideP (show (Try.prog.info? 43).map (·.size) = some KD.toArray.size by rw [List.size_toArray]; exact size_k37 hD37.out); have tDl := hideP (size_k37 hD37.out); have dso := hideP (show kidL13.toArray.size = KD.toArray.size by rw [List.size_toArray, List.size_toArray, hD37.out]; rfl); have done_ := hideP (show KD.toArray.all (·.oneCell') = true by rw [hKD]; exact kidC_one _ _); rw [← hKD]; have HKD := hideP hKD; clear hKD)
    | (refine wpList_store_row rfl 43 (.tmp 11) (.tmp 36) rfl w4.heap.size KD.toArray rfl rfl 43 kidL13.toArray (Row.new w4 43 kidL13) tD.out dso.out done_.out ?_))
  try simp only [Act.put]
  obtain ⟨x, hx⟩ : ∃ x, x = w4.heap.size := ⟨_, rfl⟩
  obtain ⟨v5, hv5⟩ : ∃ v, v = (w4.alloc (.cells kidL13.toArray 43)).setRow x KD.toArray := ⟨_, rfl⟩
  rw [← hx, ← hv5]
  have hb5 : Below w4.heap.size w4 v5 := by rw [hv5, hx]; exact below_setRow' (below_new w4 _) (Nat.le_refl _) _
  have X5 := hideP (show Row v5 x 43 KD by rw [hv5, hx]; exact Row.setRow (Row.new w4 43 kidL13) KD)
  have hK5 := (KidN.mem K4.out).after hb5
  have M5 := hideP (fun V (hV : But (fun b => b < w1.heap.size) v5 V) => M4.out V ((But.of_below hb5).trans hV))
  have Y5 := hideP (Row.after Y4.out hb5)
  have Z5 := hideP (Row.after Z4.out hb5)
  have R5 := hideP (Row.after R4.out hb5)
  have B5 := hideP (bstep B4.out hb5)
  have hSm := (hSame0.out q2 v5 B5.out hK5).mono (R' := fun e w' => e = .returned (.bool true) ∧ Below v5.heap.size v5 w') (fun e w' h => ⟨by rw [h.1]; simp, h.2⟩)
  rw [← HKD.out, ← HKC.out] at hSm
  have HSm := hideP hSm
  clear hx hv5 hb5 hK5 hSm K4 M4 Y4 Z4 R4 B4 M3 Z3 R3 B3 Y3 HSay
  go_wp2_with (first
    | (refine wpList_loadG rfl 43 (.tmp 11) rfl x 0 rfl KD _ (Row.range X5.out) Try.underlying43 rfl tDl.out ?_)
    | (refine wpList_loadG rfl 43 (.tmp 4) rfl z 0 rfl KC _ (Row.range Z5.out) Try.underlying43 rfl tKl.out ?_)
    | (go_at_call 22; refine HSm.out.mono ?_; rintro e_ w6 ⟨rfl, b_⟩; have Y6 := hideP (Row.after Y5.out b_); have R6 := hideP (Row.after R5.out b_); have B6 := hideP (bstep B5.out b_); have M6 := hideP (fun V (hV : But (fun b => b < w1.heap.size) w6 V) => M5.out V ((But.of_below b_).trans hV)); clear b_)
    | (refine wpList_load_row rfl 27 (.tmp 10) rfl y rfl 27 C.toArray (0, 0) _ Y6.out Try.underlying27 rfl tC.out ?_)
    | (refine wpList_store_row rfl 27 (.tmp 6) (.tmp 47) rfl r C.toArray rfl rfl 27 (nodeV 0 none 0 0 none 0 0).toArray R6.out tC.out tso.out tone.out ?_))
  refine ret_rowt rfl rfl rfl (Row.setRow R6.out C) Try.underlying27 tCl.out rfl ⟨p, by rw [HC.out]; rfl, M6.out _ (But.setRow _ r _ hrw.out), below_setRow' B6.out hwr.out _⟩
end Go.Proofs.Ytgcbodpjidoanaa
namespace Go.Proofs.Ytgcbodpjidoanaa
open Go.RowKit
theorem wrap_succ {i n : Nat} (h : i < n) (hn : n ≤ 1000000) : wrap64 ((i : Int) + 1) = (i : Int) + 1 := IntWalk.wrap64_in _ (by omega)
theorem take_all_succ {α : Type} [Inhabited α] (l : List α) (f : α → Bool) (i : Nat) (hi : i < l.length) : (l.take (i + 1)).all f = ((l.take i).all f && f (l.getD i default)) := by
  rw [List.take_add_one, List.all_append, List.getElem?_eq_getElem hi]
  simp [List.getD, List.getElem?_eq_getElem hi]
theorem all_false_at {α : Type} [Inhabited α] (l : List α) (f : α → Bool) (i : Nat) (hi : i < l.length) (h : f (l.getD i default) = false) : l.all f = false := by
  rw [List.all_eq_false]
  refine ⟨l.getD i default, ?_, fun e => by rw [h] at e; cases e⟩
  simp only [List.getD, List.getElem?_eq_getElem hi, Option.getD_some]
  exact List.getElem_mem hi
theorem take_all_len {α : Type} (l : List α) (f : α → Bool) {n : Nat} (h : n = l.length) : (l.take n).all f = l.all f := by rw [h, List.take_length]
set_option maxRecDepth 100000 in
set_option maxHeartbeats 8000000 in
theorem rnright_any (n : NodeD) (p : NodeP) (d : Int) (w : World) (hn : NodeOk n) (hm : NodeMem w w.heap.size n p) :
    Calls Try.prog 27 #[.agg (nodeC n p).toArray, .int .i64 d] w fun e w' => e = .returned (.bool (nodeR n d)) ∧ Below w.heap.size w w' := by
  have hKR := hideP (fun i W (hi : i < n.kids.length) (hW : Below w.heap.size w W) => rnkidright_any (n.kids.getD i default) (p.kp i) d W (hn.kid i hi) ((hm.after hW).kid i hi))
  have hKE := hideP (fun i W (hi : i < n.kids.length) (hW : Below w.heap.size w W) => rnempty_any (n.kids.getD i default) (p.kp i) W (hn.kid i hi) ((hm.after hW).kid i hi))
  have hM := hideP hm
  have hN := hideP hn
  obtain ⟨nr, f1⟩ : ∃ b, b = n.rows.length := ⟨_, rfl⟩
  obtain ⟨nk, f2⟩ : ∃ b, b = n.kids.length := ⟨_, rfl⟩
  obtain ⟨kd, f3⟩ : ∃ b, b = n.kind := ⟨_, rfl⟩
  obtain ⟨RS, f4⟩ : ∃ b, b = nodeR n d := ⟨_, rfl⟩
  have F1 := hideP f1; have F2 := hideP f2; have F4 := hideP f4
  have hRm := hideP (fun b1 b2 b3 b4 b5 (e1 : b1 = n.rows.all (fun e => decide ((e.row.length : Int) = d))) (e2 : b2 = n.kids.all (fun k => kidR k d)) (e3 : b3 = n.kids.all (fun k => decide (k.key.length = 0))) (e4 : b4 = n.rows.all (fun e => e.live)) (e5 : b5 = n.kids.all (fun k => decide ((k.key.length : Int) = d) && !decide (k = kidZ))) =>
    show RS = (decide (1 ≤ d) && (decide (d ≤ 8) && (b1 && (b2 && (if kd = 1 then decide (nr = 1) && (decide (nk = 2) && b3) else if kd = 2 then decide (1 ≤ nr) && (decide (nr ≤ 4) && (decide (nk = 0) && b4)) else decide (kd = 3) && (decide (nr = 0) && (decide (2 ≤ nk) && (decide (nk ≤ 4) && b5)))))))) by rw [f4, e1, e2, e3, e4, e5, f1, f2, f3]; rfl)
  rw [← f4]
  unfold nodeC
  rw [← f1, ← f2, ← f3]
  have hkd := hideP (show kd < 256 by rw [f3]; exact hn.kind)
  clear f1 f2 f3 f4 hn hm
  obtain ⟨v, hv⟩ : ∃ v, v = w.alloc (.cells #[.int .u8 (kd : Nat), .slice p.rA nr p.rc, .slice p.kA nk p.kc] 27) := ⟨_, rfl⟩
  obtain ⟨g, hg⟩ : ∃ g, g = w.heap.size := ⟨_, rfl⟩
  have T0 := hideP (show Row v g 27 [.int .u8 (kd : Nat), .slice p.rA nr p.rc, .slice p.kA nk p.kc] by rw [hv, hg]; exact Row.new w _ _)
  have B0 := hideP (show Below w.heap.size w v by rw [hv]; exact below_new _ _)
  have Hv := hideP hv
  clear hv
  obtain ⟨rA, hrA⟩ : ∃ a, a = p.rA := ⟨_, rfl⟩
  obtain ⟨kA, hkA⟩ : ∃ a, a = p.kA := ⟨_, rfl⟩
  have HrA := hideP hrA; have HkA := hideP hkA
  rw [← hrA, ← hkA] at T0 Hv ⊢
  clear hrA hkA
  go_enter Try.func27, Try.ntmps27
  go_upto_region 1 with fail
  rw [← Hv.out, ← hg]
  clear hg Hv
  by_cases q1 : 1 ≤ d
  case neg =>
    have i1 : decide (d < 1) = true := by simp; omega
    have hr := hideP (show RS = false by rw [hRm.out _ _ _ _ _ rfl rfl rfl rfl rfl]; simp [q1])
    clear q1
    go_wp2_with fail
    go_ret
    exact ⟨by rw [hr.out]; rfl, B0.out⟩
  have i1 : decide (d < 1) = false := by simp; omega
  by_cases q2 : d ≤ 8
  case neg =>
    have i2 : decide (8 < d) = true := by simp; omega
    have hr := hideP (show RS = false by rw [hRm.out _ _ _ _ _ rfl rfl rfl rfl rfl]; simp [q2])
    clear q1 q2
    go_wp2_with fail
    go_ret
    exact ⟨by rw [hr.out]; rfl, B0.out⟩
  have i2 : decide (8 < d) = false := by simp; omega
  have hR2 := hideP (fun b1 b2 b3 b4 b5 e1 e2 e3 e4 e5 => show RS = (b1 && (b2 && (if kd = 1 then decide (nr = 1) && (decide (nk = 2) && b3) else if kd = 2 then decide (1 ≤ nr) && (decide (nr ≤ 4) && (decide (nk = 0) && b4)) else decide (kd = 3) && (decide (nr = 0) && (decide (2 ≤ nk) && (decide (nk ≤ 4) && b5)))))) by rw [hRm.out b1 b2 b3 b4 b5 e1 e2 e3 e4 e5]; simp [q1, q2])
  clear q1 q2 hRm
  go_upto_region 4 with fail
  clear i1 i2
  go_wp2_with fail
  go_loopw [8, 5] (fun v8 v5 wr => ∃ (i : Nat) (q5 : Bool), i ≤ nr ∧ v8 = .int .i64 (i : Nat) ∧ v5 = .bool q5 ∧ Hid (q5 = (n.rows.take i).all (fun e => e.live) ∧ (n.rows.take i).all (fun e => decide ((e.row.length : Int) = d)) = true ∧ v = wr)) (fun v8 _ _ => nr - (intOf v8).toNat)
  case atStart => exact ⟨0, true, Nat.zero_le _, rfl, rfl, rfl, rfl, rfl⟩
  case round =>
    obtain ⟨i, q5, hi, rfl, rfl, hV⟩ := hrel
    obtain ⟨hq5, hal, rfl⟩ := hV.out
    have Hq5 := hideP hq5; have Hal := hideP hal
    clear hV hq5 hal
    obtain ⟨c0, c1, c2⟩ := nrow3 T0.out
    by_cases hlt : i < nr
    · have i1 : (i : Int) < (nr : Int) := by omega
      have m2 : wrap64 ((i : Int) + 1) = (i : Int) + 1 := wrap_succ hlt (by rw [F1.out]; exact hN.out.rows)
      have hil : i < n.rows.length := by have := F1.out; omega
      obtain ⟨b0, off, hA, hB0, hc⟩ := hM.out.rows (by omega)
      rw [← HrA.out] at hA
      subst hA
      have h1 := take_all_succ n.rows (fun e => e.live) i hil
      have h2 := take_all_succ n.rows (fun e => decide ((e.row.length : Int) = d)) i hil
      have h3 := fun h => all_false_at n.rows (fun e => decide ((e.row.length : Int) = d)) i hil h
      have hce := hc i hil
      dsimp only at hce
      obtain ⟨e, he⟩ : ∃ e, e = n.rows.getD i default := ⟨_, rfl⟩
      obtain ⟨⟨A1, cA⟩, hp⟩ : ∃ e, e = p.rp i := ⟨_, rfl⟩
      rw [← he] at h1 h2 h3 hce
      rw [← hp] at hce
      have k0 : v.cell? ⟨b0, off + i * 2, none⟩ = some (.slice A1 e.row.length cA) := (B0.out.cell (p := ⟨b0, off + i * 2, none⟩) hB0).trans (hce 0 _ rfl)
      have k1 : v.cell? ⟨b0, off + i * 2 + 1, none⟩ = some (.bool e.live) := (B0.out.cell (p := ⟨b0, off + i * 2 + 1, none⟩) hB0).trans (hce 1 _ rfl)
      obtain ⟨m, hm⟩ : ∃ m, m = e.row.length := ⟨_, rfl⟩
      obtain ⟨lv, hlv⟩ : ∃ m, m = e.live := ⟨_, rfl⟩
      rw [← hm] at h2 h3 k0
      rw [← hlv] at h1 k1
      rw [← Hq5.out] at h1
      rw [Hal.out, Bool.true_and] at h2
      have H1 := hideP h1; have H2 := hideP h2; have H3 := hideP h3
      clear he hp hm hlv h1 h2 h3 hc hce hil
      by_cases hmd : (m : Int) = d
      · have e1 : ((m : Int) != d) = false := by simp [hmd]
        have H4 := hideP (H2.out.trans (decide_eq_true hmd))
        clear hmd
        rcases q5 with _ | _
        · go_wp2_with fail
          go_roundw
          case rel => exact ⟨i + 1, false, by omega, by go_num, rfl, H1.out.symm, H4.out, by first | rfl | trivial⟩
          case measure => rw [m2]; simp [intOf]; omega
        · go_wp2_with fail
          go_roundw
          case rel => exact ⟨i + 1, lv, by omega, by go_num, rfl, by rw [H1.out]; rfl, H4.out, by first | rfl | trivial⟩
          case measure => rw [m2]; simp [intOf]; omega
      · have e1 : ((m : Int) != d) = true := by simp [hmd]
        have hr := hideP (show RS = false by rw [hR2.out _ _ _ _ _ rfl rfl rfl rfl rfl, H3.out (decide_eq_false hmd)]; rfl)
        clear hmd
        go_wp2_with fail
        go_ret
        exact ⟨by rw [hr.out]; rfl, B0.out⟩
    · obtain rfl : i = nr := by omega
      have i1 : ¬ ((i : Int) < (i : Int)) := by omega
      have Hb1 := hideP (Hal.out.symm.trans (take_all_len n.rows (fun e => decide ((e.row.length : Int) = d)) F1.out))
      have Hb4 := hideP (Hq5.out.trans (take_all_len n.rows (fun e => e.live) F1.out))
      clear Hq5 Hal
      go_upto_region 11 with fail
      clear c0 c1 c2 i1
      go_loopw [9, 6, 7] (fun v9 v6 v7 wr => ∃ (j : Nat) (q6 q7 : Bool), j ≤ nk ∧ v9 = .int .i64 (j : Nat) ∧ v6 = .bool q6 ∧ v7 = .bool q7 ∧ Hid (q6 = (n.kids.take j).all (fun k => decide ((k.key.length : Int) = d) && !decide (k = kidZ)) ∧ q7 = (n.kids.take j).all (fun k => decide (k.key.length = 0)) ∧ (n.kids.take j).all (fun k => kidR k d) = true ∧ Below w.heap.size w wr ∧ Row wr g 27 [.int .u8 (kd : Nat), .slice rA i p.rc, .slice kA nk p.kc])) (fun v9 _ _ _ => nk - (intOf v9).toNat)
      case atStart => exact ⟨0, true, true, Nat.zero_le _, rfl, rfl, rfl, rfl, rfl, rfl, B0.out, T0.out⟩
      case round =>
        obtain ⟨j, q6, q7, hj, rfl, rfl, rfl, hV⟩ := hrel
        have B1 := hideP hV.out.2.2.2.1
        have T1 := hideP hV.out.2.2.2.2
        obtain ⟨c0, c1, c2⟩ := nrow3 T1.out
        by_cases hlt : j < nk
        · have i1 : (j : Int) < (nk : Int) := by omega
          have m2 : wrap64 ((j : Int) + 1) = (j : Int) + 1 := wrap_succ hlt (by rw [F2.out]; exact hN.out.kids)
          have hjl : j < n.kids.length := by have := F2.out; omega
          obtain ⟨b0, off, hA, hB0, hc⟩ := hM.out.kids (by omega)
          rw [← HkA.out] at hA
          subst hA
          have h1 := take_all_succ n.kids (fun k => decide ((k.key.length : Int) = d) && !decide (k = kidZ)) j hjl
          have h2 := take_all_succ n.kids (fun k => decide (k.key.length = 0)) j hjl
          have h3 := take_all_succ n.kids (fun k => kidR k d) j hjl
          have h4 := fun h => all_false_at n.kids (fun k => kidR k d) j hjl h
          rw [← hV.out.1] at h1
          rw [← hV.out.2.1] at h2
          rw [hV.out.2.2.1, Bool.true_and] at h3
          clear hV
          have hkr := fun W hW => hKR.out j W hjl hW
          have hke := fun W hW => hKE.out j W hjl hW
          have hok := hN.out.kid j hjl
          have hrg := fun W (hW : Below w.heap.size w W) => show W.rangeAt b0 (off + j * 37) (kidC (n.kids.getD j default) (p.kp j)) from fun x y hxy => (hW.cell (p := ⟨b0, off + j * 37 + x, none⟩) hB0).trans (hc j hjl x y hxy)
          obtain ⟨k, hk⟩ : ∃ e, e = n.kids.getD j default := ⟨_, rfl⟩
          obtain ⟨pk, hpk⟩ : ∃ e, e = p.kp j := ⟨_, rfl⟩
          rw [← hk] at h1 h2 h3 h4 hkr hke hok hrg
          rw [← hpk] at hkr hke hrg
          have hky := fun W (hW : Below w.heap.size w W) => show W.cell? ⟨b0, off + j * 37 + 36, none⟩ = some (.slice pk.kA k.key.length pk.kc) from kid_at hok (hrg W hW) 4 rfl
          have hs := hideP (size_k37 (hok.cells pk))
          obtain ⟨R, e1⟩ : ∃ x, x = kidR k d := ⟨_, rfl⟩
          obtain ⟨E, e2⟩ : ∃ x, x = decide (k = kidZ) := ⟨_, rfl⟩
          obtain ⟨C, e3⟩ : ∃ x, x = kidC k pk := ⟨_, rfl⟩
          obtain ⟨m, e4⟩ : ∃ x, x = k.key.length := ⟨_, rfl⟩
          rw [← e1] at h3 h4 hkr
          rw [← e2] at h1 hke
          rw [← e3] at hkr hke hrg hs
          rw [← e4] at h1 h2 hky
          have g1 : decide ((m : Int) = d) = ((m : Int) == d) := by rw [Bool.eq_iff_iff]; simp
          have g2 : decide (m = 0) = ((m : Int) == 0) := by rw [Bool.eq_iff_iff]; simp
          rw [g1] at h1
          rw [g2] at h2
          obtain ⟨le, e5⟩ : ∃ x, x = ((m : Int) == d) := ⟨_, rfl⟩
          obtain ⟨lz, e6⟩ : ∃ x, x = ((m : Int) == 0) := ⟨_, rfl⟩
          rw [← e5] at h1
          rw [← e6] at h2
          have G1 := hideP e5.symm; have G2 := hideP e6.symm
          have H1 := hideP h1; have H2 := hideP h2; have H3 := hideP h3; have H4 := hideP h4
          have hkr := hideP hkr; have hke := hideP hke; have hrg := hideP hrg; have hky := hideP hky
          clear e1 e2 e3 e4 e5 e6 h1 h2 h3 h4 hk hpk hc hok hjl g1 g2
          rcases R with _ | _
          · have hr := hideP (show RS = false by rw [hR2.out true _ _ _ _ Hb1.out rfl rfl rfl rfl, H4.out rfl]; rfl)
            go_wp2_with (first
              | (refine wpList_load_mid rfl 43 (.tmp 51) rfl b0 (off + j * 37) rfl C _ (hrg.out wr B1.out) Try.underlying43 rfl hs.out ?_)
              | (go_at_call 21; refine (hkr.out wr B1.out).mono ?_; rintro e w2 ⟨rfl, b_⟩; have B2 := hideP (bstep B1.out b_); clear b_))
            go_ret
            exact ⟨by rw [hr.out]; rfl, B2.out⟩
          go_upto_region 15 with (first
            | (refine wpList_load_mid rfl 43 (.tmp 51) rfl b0 (off + j * 37) rfl C _ (hrg.out wr B1.out) Try.underlying43 rfl hs.out ?_)
            | (go_at_call 21; refine (hkr.out wr B1.out).mono ?_; rintro e w2 ⟨rfl, b_⟩; have B2 := hideP (bstep B1.out b_); have T2 := hideP (Row.after T1.out b_); clear b_))
          clear c0 c1 c2
          obtain ⟨c0, c1, c2⟩ := nrow3 T2.out
          have ck := hky.out w2 B2.out
          have gg1 := G1.out
          have gg2 := G2.out
          rcases q6 with _ | _
          · rcases q7 with _ | _
            · go_wp2_with fail
              go_roundw
              case rel => exact ⟨j + 1, false, false, by omega, by go_num, rfl, rfl, H1.out.symm, H2.out.symm, H3.out, B2.out, T2.out⟩
              case measure => rw [m2]; simp [intOf]; omega
            · go_wp2_with fail
              go_roundw
              case rel => exact ⟨j + 1, false, lz, by omega, by go_num, rfl, rfl, H1.out.symm, by rw [H2.out]; rfl, H3.out, B2.out, T2.out⟩
              case measure => rw [m2]; simp [intOf]; omega
          · rcases le with _ | _
            · rcases q7 with _ | _
              · go_wp2_with fail
                go_roundw
                case rel => exact ⟨j + 1, false, false, by omega, by go_num, rfl, rfl, H1.out.symm, H2.out.symm, H3.out, B2.out, T2.out⟩
                case measure => rw [m2]; simp [intOf]; omega
              · go_wp2_with fail
                go_roundw
                case rel => exact ⟨j + 1, false, lz, by omega, by go_num, rfl, rfl, H1.out.symm, by rw [H2.out]; rfl, H3.out, B2.out, T2.out⟩
                case measure => rw [m2]; simp [intOf]; omega
            · go_upto_region 16 with (first
                | (refine wpList_loadG rfl 43 (.tmp 72) rfl b0 (off + j * 37) rfl C _ (hrg.out w2 B2.out) Try.underlying43 rfl hs.out ?_)
                | (go_at_call 25; refine (hke.out w2 B2.out).mono ?_; rintro e w3 ⟨rfl, b_⟩; have B3 := hideP (bstep B2.out b_); have T3 := hideP (Row.after T2.out b_); clear b_))
              clear c0 c1 c2 ck
              obtain ⟨c0, c1, c2⟩ := nrow3 T3.out
              have ck := hky.out w3 B3.out
              rcases q7 with _ | _
              · go_wp2_with fail
                go_roundw
                case rel => exact ⟨j + 1, !E, false, by omega, by go_num, rfl, rfl, by rw [H1.out]; rfl, H2.out.symm, H3.out, B3.out, T3.out⟩
                case measure => rw [m2]; simp [intOf]; omega
              · go_wp2_with fail
                go_roundw
                case rel => exact ⟨j + 1, !E, lz, by omega, by go_num, rfl, rfl, by rw [H1.out]; rfl, by rw [H2.out]; rfl, H3.out, B3.out, T3.out⟩
                case measure => rw [m2]; simp [intOf]; omega
        · obtain rfl : j = nk := by omega
          have i1 : ¬ ((j : Int) < (j : Int)) := by omega
          have Hb5 := hV.out.1.trans (take_all_len n.kids (fun k => decide ((k.key.length : Int) = d) && !decide (k = kidZ)) F2.out)
          have Hb3 := hV.out.2.1.trans (take_all_len n.kids (fun k => decide (k.key.length = 0)) F2.out)
          have Hb2 := hV.out.2.2.1.symm.trans (take_all_len n.kids (fun k => kidR k d) F2.out)
          have hR3 := hideP (show RS = (if kd = 1 then decide (i = 1) && (decide (j = 2) && q7) else if kd = 2 then decide (1 ≤ i) && (decide (i ≤ 4) && (decide (j = 0) && q5)) else decide (kd = 3) && (decide (i = 0) && (decide (2 ≤ j) && (decide (j ≤ 4) && q6)))) by rw [hR2.out true true q7 q5 q6 Hb1.out Hb2 Hb3 Hb4.out Hb5]; rfl)
          clear hV Hb5 Hb3 Hb2 Hb1 Hb4 hR2 hj hlt
          have hB := B1.out
          clear B1 T1 B0 T0
          go_upto_region 17 with fail
          clear i1
          by_cases k1 : kd = 1
          · have hr := hideP (show RS = (decide (i = 1) && (decide (j = 2) && q7)) by rw [hR3.out]; simp [k1])
            clear hR3 hkd
            subst k1
            by_cases r1 : i = 1
            · have j1 : ((i : Int) == 1) = true := by simp [r1]
              by_cases r2 : j = 2
              · have j2 : ((j : Int) == 2) = true := by simp [r2]
                have hr2 := hideP (show RS = q7 by rw [hr.out]; simp [r1, r2])
                clear r1 r2 hr
                go_wp2_with fail
                go_ret
                exact ⟨by rw [hr2.out]; rfl, hB⟩
              · have j2 : ((j : Int) == 2) = false := by simp; omega
                have hr2 := hideP (show RS = false by rw [hr.out]; simp [r2])
                clear r1 r2 hr
                go_wp2_with fail
                go_ret
                exact ⟨by rw [hr2.out]; rfl, hB⟩
            · have j1 : ((i : Int) == 1) = false := by simp; omega
              have hr2 := hideP (show RS = false by rw [hr.out]; simp [r1])
              clear r1 hr
              go_wp2_with fail
              go_ret
              exact ⟨by rw [hr2.out]; rfl, hB⟩
          have u1 : ((kd : Int) == 1) = false := by simp; omega
          by_cases k2 : kd = 2
          · have hr := hideP (show RS = (decide (1 ≤ i) && (decide (i ≤ 4) && (decide (j = 0) && q5))) by rw [hR3.out]; simp [k2])
            clear hR3 hkd k1 u1
            subst k2
            by_cases r1 : 1 ≤ i
            · have j1 : decide ((0 : Int) < (i : Int)) = true := by simp; omega
              have j1' : (0 : Int) < (i : Int) := by omega
              have j1'' : 0 < i := by omega
              by_cases r2 : i ≤ 4
              · have j2 : decide ((i : Int) < 5) = true := by simp; omega
                have j2' : (i : Int) < 5 := by omega
                by_cases r3 : j = 0
                · have j3 : ((j : Int) == 0) = true := by simp [r3]
                  have hr2 := hideP (show RS = q5 by rw [hr.out]; simp [r1, r2, r3])
                  clear r1 r2 r3 hr
                  go_wp2_with fail
                  go_ret
                  exact ⟨by rw [hr2.out]; rfl, hB⟩
                · have j3 : ((j : Int) == 0) = false := by simp; omega
                  have hr2 := hideP (show RS = false by rw [hr.out]; simp [r3])
                  clear r1 r2 r3 hr
                  go_wp2_with fail
                  go_ret
                  exact ⟨by rw [hr2.out]; rfl, hB⟩
              · have j2 : decide ((i : Int) < 5) = false := by simp; omega
                have j2' : ¬ (i : Int) < 5 := by omega
                have hr2 := hideP (show RS = false by rw [hr.out]; simp [r2])
                clear r1 r2 hr
                go_wp2_with fail
                go_ret
                exact ⟨by rw [hr2.out]; rfl, hB⟩
            · have j1 : decide ((0 : Int) < (i : Int)) = false := by simp; omega
              have j1' : ¬ (0 : Int) < (i : Int) := by omega
              have j1'' : ¬ 0 < i := by omega
              have hr2 := hideP (show RS = false by rw [hr.out]; simp [r1])
              clear r1 hr
              go_wp2_with fail
              go_ret
              exact ⟨by rw [hr2.out]; rfl, hB⟩
          have u2 : ((kd : Int) == 2) = false := by simp; omega
          by_cases k3 : kd = 3
          · have hr := hideP (show RS = (decide (i = 0) && (decide (2 ≤ j) && (decide (j ≤ 4) && q6))) by rw [hR3.out]; simp [k3])
            clear hR3 hkd k1 u1 k2 u2
            subst k3
            by_cases r1 : i = 0
            · have j1 : ((i : Int) == 0) = true := by simp [r1]
              by_cases r2 : 2 ≤ j
              · have j2 : decide ((1 : Int) < (j : Int)) = true := by simp; omega
                have j2' : (1 : Int) < (j : Int) := by omega
                have j2'' : 1 < j := by omega
                by_cases r3 : j ≤ 4
                · have j3 : decide ((j : Int) < 5) = true := by simp; omega
                  have j3' : (j : Int) < 5 := by omega
                  have hr2 := hideP (show RS = q6 by rw [hr.out]; simp [r1, r2, r3])
                  clear r1 r2 r3 hr
                  go_wp2_with fail
                  go_ret
                  exact ⟨by rw [hr2.out]; rfl, hB⟩
                · have j3 : decide ((j : Int) < 5) = false := by simp; omega
                  have j3' : ¬ (j : Int) < 5 := by omega
                  have hr2 := hideP (show RS = false by rw [hr.out]; simp [r3])
                  clear r1 r2 r3 hr
                  go_wp2_with fail
                  go_ret
                  exact ⟨by rw [hr2.out]; rfl, hB⟩
              · have j2 : decide ((1 : Int) < (j : Int)) = false := by simp; omega
                have j2' : ¬ (1 : Int) < (j : Int) := by omega
                have j2'' : ¬ 1 < j := by omega
                have hr2 := hideP (show RS = false by rw [hr.out]; simp [r2])
                clear r1 r2 hr
                go_wp2_with fail
                go_ret
                exact ⟨by rw [hr2.out]; rfl, hB⟩
            · have j1 : ((i : Int) == 0) = false := by simp; omega
              have hr2 := hideP (show RS = false by rw [hr.out]; simp [r1])
              clear r1 hr
              go_wp2_with fail
              go_ret
              exact ⟨by rw [hr2.out]; rfl, hB⟩
          have u3 : ((kd : Int) == 3) = false := by simp; omega
          have hr := hideP (show RS = false by rw [hR3.out]; simp [k1, k2, k3])
          clear k1 k2 k3 hR3 hkd
          go_wp2_with fail
          go_ret
          exact ⟨by rw [hr.out]; rfl, hB⟩
end Go.Proofs.Ytgcbodpjidoanaa
