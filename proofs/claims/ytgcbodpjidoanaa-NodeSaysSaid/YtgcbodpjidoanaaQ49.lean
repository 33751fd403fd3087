/- The walk of NodeSays. -/
import Derived.Test.YtgcbodpjidoanaaQ44
import Derived.Test.YtgcbodpjidoanaaQ46
import Derived.Test.YtgcbodpjidoanaaQ48
set_option linter.unusedVariables false
set_option linter.unusedSimpArgs false
namespace Go.Proofs.Ytgcbodpjidoanaa
open Go.RowKit
theorem fold_part (X C D : List Value) (h : X.length = C.length) : C.zipIdx.foldl (fun cs (x : Value × Nat) => cs.setIfInBounds x.2 x.1) (X ++ D).toArray = (C ++ D).toArray := by
  apply Array.ext_getElem?
  intro j
  rw [foldset_all C 0 _ j rfl (by simp; omega)]
  simp only [Nat.zero_add, Nat.zero_le, true_and, Nat.sub_zero, List.getElem?_toArray]
  split
  · rename_i hj; rw [List.getElem?_append_left hj]
  · rename_i hj; rw [List.getElem?_append_right (by omega), List.getElem?_append_right (by omega), h]
theorem fold_shift (m : Nat) : ∀ (C : List Value) (k : Nat) (B : Array Value), (C.zipIdx k).foldl (fun cs (x : Value × Nat) => cs.setIfInBounds (m + x.2) x.1) B = (C.zipIdx (m + k)).foldl (fun cs (x : Value × Nat) => cs.setIfInBounds x.2 x.1) B
  | [], k, B => rfl
  | c :: C, k, B => by
    rw [List.zipIdx_cons, List.zipIdx_cons, List.foldl_cons, List.foldl_cons, fold_shift m C (k + 1), Nat.add_assoc]
theorem fold_rest (A X C : List Value) (h : X.length = C.length) : C.zipIdx.foldl (fun cs (x : Value × Nat) => cs.setIfInBounds (A.length + x.2) x.1) (A ++ X).toArray = (A ++ C).toArray := by
  rw [fold_shift]
  apply Array.ext_getElem?
  intro j
  rw [foldset_all C _ _ j rfl (by simp; omega)]
  simp only [List.getElem?_toArray, Nat.add_zero]
  split
  · rename_i hj; rw [List.getElem?_append_right (by omega)]
  · rename_i hj
    by_cases h1 : j < A.length
    · rw [List.getElem?_append_left h1, List.getElem?_append_left h1]
    · rw [List.getElem?_eq_none (by simp; omega), List.getElem?_eq_none (by simp; omega)]
theorem row_split {w : World} {g t : Nat} {a b : List Value} (h : Row w g t (a ++ b)) : w.rangeAt g 0 a ∧ w.rangeAt g a.length b := by
  refine ⟨fun j v hv => ?_, fun j v hv => ?_⟩
  · rw [Nat.zero_add, Row.cell h, List.getElem?_append_left (List.getElem?_eq_some_iff.1 hv).1]; exact hv
  · rw [Row.cell h, List.getElem?_append_right (by omega), Nat.add_sub_cancel_left]; exact hv
def twoK (a b : KidD) : NodeD := ⟨0, [], [a, b]⟩
def twoKP (g : Nat) (p q : KidP) : NodeP := ⟨none, 0, fun _ => default, some ⟨g, 0, none⟩, 2, fun i => if i = 0 then p else q⟩
theorem twoK_mem {w : World} {g : Nat} {a b : KidD} {p q : KidP} (h : Row w g 43 (kidC a p ++ kidC b q)) (ha : a.sum.length = 32) (ma : KidMem w w.heap.size a p) (mb : KidMem w w.heap.size b q) : NodeMem w w.heap.size (twoK a b) (twoKP g p q) := by
  have l := (show (kidC a p).length = 37 by simp [kidC, kidT, ha])
  obtain ⟨h1, h2⟩ := row_split h
  rw [l] at h2
  refine ⟨fun hn => absurd hn (by simp [twoK]), fun i hi => absurd hi (by simp [twoK]), fun _ => ⟨g, 0, rfl, Row.lt h, fun i hi => ?_⟩, fun i hi => ?_⟩
  · have : i = 0 ∨ i = 1 := by simp [twoK] at hi; omega
    rcases this with rfl | rfl
    · exact h1
    · exact h2
  · have : i = 0 ∨ i = 1 := by simp [twoK] at hi; omega
    rcases this with rfl | rfl
    · exact ma
    · exact mb
theorem twoK_small {a b : KidD} (h : Small (twoK a b)) : (a.lo.length ≤ 50 ∧ a.hi.length ≤ 50 ∧ a.key.length ≤ 50) ∧ b.lo.length ≤ 50 ∧ b.hi.length ≤ 50 ∧ b.key.length ≤ 50 :=
  ⟨h.2.2.2 0 (by simp [twoK]), h.2.2.2 1 (by simp [twoK])⟩
set_option maxRecDepth 100000 in
set_option maxHeartbeats 4000000 in
theorem nodesays_big (n : NodeD) (p : NodeP) (a b : KidD) (pa pb : KidP) (d : Int) (w : World) (hn : NodeIn n) (hm : NodeMem w w.heap.size n p) (hsa : a.sum.length = 32) (hsb : b.sum.length = 32) (hma : KidMem w w.heap.size a pa) (hmb : KidMem w w.heap.size b pb)
    (hbig : ¬ (Small n ∧ Small (twoK a b))) :
    Calls Try.prog 4 #[.agg (nodeC n p).toArray, .int .i64 d, .agg (kidC a pa).toArray, .agg (kidC b pb).toArray] w fun e w' => e = .returned (.bool true) ∧ Below w.heap.size w w' := by
  have hGr := fun W (hW : Below w.heap.size w W) => great10_any n p W (fun i hi => (hn.kid i hi).s) (hm.after hW)
  have HBig := hideP hbig
  clear hbig
  obtain ⟨N, hN⟩ : ∃ C, C = nodeC n p := ⟨_, rfl⟩
  obtain ⟨CA, hCA⟩ : ∃ C, C = kidC a pa := ⟨_, rfl⟩
  obtain ⟨CB, hCB⟩ : ∃ C, C = kidC b pb := ⟨_, rfl⟩
  have tN := hideP (show (Try.prog.info? 27).map (·.size) = some N.toArray.size by rw [hN]; kernel_rfl)
  have tNl := hideP (show (Try.prog.info? 27).map (·.size) = some N.length by rw [hN]; kernel_rfl)
  have lA := (show CA.length = 37 by rw [hCA]; simp [kidC, kidT, hsa])
  have lB := (show CB.length = 37 by rw [hCB]; simp [kidC, kidT, hsb])
  have tA := hideP (size_k37 lA)
  have tB := hideP (size_k37 lB)
  have LA := hideP lA; have LB := hideP lB
  obtain ⟨v1, hv1⟩ : ∃ v, v = w.alloc (.cells N.toArray 27) := ⟨_, rfl⟩
  obtain ⟨v2, hv2⟩ : ∃ v, v = v1.alloc (.cells CA.toArray 43) := ⟨_, rfl⟩
  obtain ⟨v3, hv3⟩ : ∃ v, v = v2.alloc (.cells CB.toArray 43) := ⟨_, rfl⟩
  obtain ⟨z1, hz1⟩ : ∃ z, z = w.heap.size := ⟨_, rfl⟩
  obtain ⟨z2, hz2⟩ : ∃ z, z = z1 + 1 := ⟨_, rfl⟩
  obtain ⟨z3, hz3⟩ : ∃ z, z = z2 + 1 := ⟨_, rfl⟩
  have R1 := hideP (show Row v3 z1 27 N by rw [hv3, hv2, hv1, hz1]; exact Row.alloc (Row.alloc (Row.new w _ _) _) _)
  have R2 := hideP (show Row v3 z2 43 CA by rw [hv3, hv2]; exact Row.alloc (Row.new' v1 _ _ _ (by rw [hv1, hz2, hz1]; simp)) _)
  have R3 := hideP (show Row v3 z3 43 CB by rw [hv3]; exact Row.new' v2 _ _ _ (by rw [hv2, hv1, hz3, hz2, hz1]; simp))
  have B3 := hideP (show Below w.heap.size w v3 by rw [hv3, hv2, hv1]; exact ((below_new _ _).alloc (by simp) _).alloc (by simp; omega) _)
  rw [← hN] at hGr
  rw [← hN, ← hCA, ← hCB]
  have HN := hideP hN; have HCA := hideP hCA; have HCB := hideP hCB
  have Hv1 := hideP hv1; have Hv2 := hideP hv2; have Hv3 := hideP hv3; have Hz1 := hideP hz1; have Hz2 := hideP hz2; have Hz3 := hideP hz3
  have HGr := hideP hGr
  clear hN hCA hCB hv1 hv2 hv3 hz1 hz2 hz3 hGr lA lB
  go_enter Try.func4, Try.ntmps4
  go_upto_region 1 with fail
  rw [← Hz1.out, ← Hz2.out, ← Hz3.out, ← Hv1.out, ← Hv2.out, ← Hv3.out]
  go_upto_region 3 with (go_at_call 14; refine (alive10 v3).mono ?_; rintro e_ w1 ⟨rfl, b_⟩; have B4 := hideP (bstep B3.out b_); replace R1 := hideP (Row.after R1.out b_); replace R2 := hideP (Row.after R2.out b_); replace R3 := hideP (Row.after R3.out b_); clear b_)
  clear Hv1 Hv2 Hv3 B3
  have hf1 := (show CA.zipIdx.foldl (fun cs (x : Value × Nat) => cs.setIfInBounds x.2 x.1) #[.int .u8 0, .int .u8 0, .int .u8 0, .int .u8 0, .int .u8 0, .int .u8 0, .int .u8 0, .int .u8 0, .int .u8 0, .int .u8 0, .int .u8 0, .int .u8 0, .int .u8 0, .int .u8 0, .int .u8 0, .int .u8 0, .int .u8 0, .int .u8 0, .int .u8 0, .int .u8 0, .int .u8 0, .int .u8 0, .int .u8 0, .int .u8 0, .int .u8 0, .int .u8 0, .int .u8 0, .int .u8 0, .int .u8 0, .int .u8 0, .int .u8 0, .int .u8 0, .slice none 0 0, .slice none 0 0, .int .i64 0, .int .i64 0, .slice none 0 0, .int .u8 0, .int .u8 0, .int .u8 0, .int .u8 0, .int .u8 0, .int .u8 0, .int .u8 0, .int .u8 0, .int .u8 0, .int .u8 0, .int .u8 0, .int .u8 0, .int .u8 0, .int .u8 0, .int .u8 0, .int .u8 0, .int .u8 0, .int .u8 0, .int .u8 0, .int .u8 0, .int .u8 0, .int .u8 0, .int .u8 0, .int .u8 0, .int .u8 0, .int .u8 0, .int .u8 0, .int .u8 0, .int .u8 0, .int .u8 0, .int .u8 0, .int .u8 0, .slice none 0 0, .slice none 0 0, .int .i64 0, .int .i64 0, .slice none 0 0] = (CA ++ kidL13).toArray from fold_part kidL13 CA kidL13 (by rw [LA.out]; rfl))
  have l1 := LA.out; have l2 := LB.out
  have hf2 := (show CB.zipIdx.foldl (fun cs (x : Value × Nat) => cs.setIfInBounds (37 + x.2) x.1) (CA ++ kidL13).toArray = (CA ++ CB).toArray by have := fold_rest CA kidL13 CB (by rw [LB.out]; rfl); rwa [LA.out] at this)
  have hg2 := hideP (fun W (hW : Below w.heap.size w W) => show Calls Try.prog 19 #[.agg #[.int .u8 0, .slice none 0 0, .slice (some ⟨W.heap.size, 0, none⟩) 2 2]] (W.alloc (.cells (CA ++ CB).toArray 43)) (GreatGot (W.alloc (.cells (CA ++ CB).toArray 43)) (twoK a b)) by
    have hb := below_new W (.cells (CA ++ CB).toArray 43)
    have hr := Row.new W 43 (CA ++ CB)
    rw [HCA.out, HCB.out] at hr hb ⊢
    exact great10_any (twoK a b) (twoKP W.heap.size pa pb) _ (fun i hi => by
      have : i = 0 ∨ i = 1 := by simp [twoK] at hi; omega
      rcases this with rfl | rfl
      · exact hsa
      · exact hsb) (twoK_mem hr hsa ((hma.after hW).after hb) ((hmb.after hW).after hb)))
  go_wp2_with (first
    | (refine wpList_load_row rfl 27 (.tmp 4) rfl z1 (by kernel_rfl) 27 N.toArray (0, 0) _ R1.out Try.underlying27 rfl tN.out ?_)
    | (refine wpList_loadG rfl 43 (.tmp 6) rfl z2 0 rfl CA _ (Row.range R2.out) Try.underlying43 rfl tA.out ?_)
    | (refine wpList_loadG rfl 43 (.tmp 7) rfl z3 0 rfl CB _ (Row.range R3.out) Try.underlying43 rfl tB.out ?_)
    | (go_at_call 19; refine (HGr.out _ B4.out).mono ?_; rintro e_ w2 ⟨q, rfl, b_, s_⟩; have S1 := hideP s_; have B5 := hideP (bstep B4.out b_); replace R2 := hideP (Row.after R2.out b_); replace R3 := hideP (Row.after R3.out b_); clear b_ s_ HGr; rcases q with _ | _)
    | (go_at_call 19; refine (hg2.out w2 B5.out).mono ?_; rintro e_ w3 ⟨q, rfl, b_, s_⟩; obtain rfl : q = true := (show ∀ q : Bool, (q = false → Small (twoK a b)) → q = true from fun q h => match q, h with | true, _ => rfl | false, h => absurd ⟨by first | exact S1.out rfl | exact S1.out trivial, h rfl⟩ HBig.out) q s_; have B6 := hideP (bstep (bstep B5.out (below_new _ _)) b_); clear b_ s_))
  · go_ret
    exact ⟨rfl, B6.out⟩
  · go_ret
    exact ⟨rfl, B5.out⟩
set_option maxRecDepth 100000 in
set_option maxHeartbeats 8000000 in
theorem nodesays_from (n : NodeD) (p : NodeP) (a b : KidD) (pa pb : KidP) (d : Int) (w : World) (hn : NodeOk n) (hm : NodeMem w w.heap.size n p) (ha : KidOk a) (hb : KidOk b) (hma : KidMem w w.heap.size a pa) (hmb : KidMem w w.heap.size b pb)
    (K0 : KidD) (er : Int) (right ok : Bool) (hK : KidOk K0)
    (hSay0 : ∀ W, Below w.heap.size w W → Calls Try.prog 26 #[.agg (nodeC n p).toArray, .int .i64 d] W fun e w' => ∃ q, e = .returned (.tuple #[.agg (kidC K0 q).toArray, .int .i64 er]) ∧ KidMem w' w'.heap.size K0 q ∧ Below W.heap.size W w')
    (hRt : nodeR n d = right)
    (hRS0 : right = true → ∀ W, Below w.heap.size w W → Calls Try.prog 28 #[.agg (nodeC n p).toArray] W fun e w' => ∃ q, e = .returned (.tuple #[.agg (kidC K0 q).toArray, .bool ok]) ∧ KidMem w' w'.heap.size K0 q ∧ Below W.heap.size W w')
    (h0 : right = false → er = 1 ∧ K0 = kidZ) (h1 : right = true → (er = 0 ∧ ok = true) ∨ (er = 1 ∧ ok = false)) :
    Calls Try.prog 4 #[.agg (nodeC n p).toArray, .int .i64 d, .agg (kidC a pa).toArray, .agg (kidC b pb).toArray] w fun e w' => e = .returned (.bool true) ∧ Below w.heap.size w w' := by
  have hGr := fun W (hW : Below w.heap.size w W) => great10_any n p W (fun i hi => (hn.kid i hi).s) (hm.after hW)
  have hsa := ha.s
  have hsb := hb.s
  have hRig := fun W (hW : Below w.heap.size w W) => rnright_any n p d W hn (hm.after hW)
  rw [hRt] at hRig
  have hKA := hideP (fun W (hW : Below w.heap.size w W) => nkidright_any a pa d W ha (hma.after hW))
  have hKB := hideP (fun W (hW : Below w.heap.size w W) => rnkidright_any a pa d W ha (hma.after hW))
  have hSA := hideP (fun W (hW : Below w.heap.size w W) => nsame_any a b pa pb W ha hb (hma.after hW) (hmb.after hW))
  have hSB := hideP (fun W (hW : Below w.heap.size w W) => rnsame_any a b pa pb W ha hb (hma.after hW) (hmb.after hW))
  have hEA := hideP (fun W (hW : Below w.heap.size w W) => nempty_any a pa W ha (hma.after hW))
  have hEB := hideP (fun W (hW : Below w.heap.size w W) => rnempty_any a pa W ha (hma.after hW))
  obtain ⟨X1, e1⟩ : ∃ X, X = kidR a d := ⟨_, rfl⟩
  obtain ⟨X2, e2⟩ : ∃ X, X = decide (a = b) := ⟨_, rfl⟩
  obtain ⟨X3, e3⟩ : ∃ X, X = decide (a = kidZ) := ⟨_, rfl⟩
  rw [← e1] at hKA hKB
  rw [← e2] at hSA hSB
  rw [← e3] at hEA hEB
  have hSay := hideP hSay0; have hRS := hideP hRS0; have H0 := hideP h0; have H1 := hideP h1; have HK := hideP hK; have hRg := hideP hRig
  have HEK := hideP (fun q W (h : KidMem W W.heap.size K0 q) => nempty_any K0 q W hK h)
  have HSK := hideP (fun q q' W (h : KidMem W W.heap.size K0 q) (h' : KidMem W W.heap.size K0 q') => rnsame_any K0 K0 q q' W hK hK h h')
  have hcl := hideP (fun q => hK.cells q)
  clear e1 e2 e3 hSay0 hRS0 h0 h1 hK hRig hRt
  obtain ⟨N, hN⟩ : ∃ C, C = nodeC n p := ⟨_, rfl⟩
  obtain ⟨CA, hCA⟩ : ∃ C, C = kidC a pa := ⟨_, rfl⟩
  obtain ⟨CB, hCB⟩ : ∃ C, C = kidC b pb := ⟨_, rfl⟩
  have tN := hideP (show (Try.prog.info? 27).map (·.size) = some N.toArray.size by rw [hN]; kernel_rfl)
  have tNl := hideP (show (Try.prog.info? 27).map (·.size) = some N.length by rw [hN]; kernel_rfl)
  have lA := (show CA.length = 37 by rw [hCA]; simp [kidC, kidT, hsa])
  have lB := (show CB.length = 37 by rw [hCB]; simp [kidC, kidT, hsb])
  have tA := hideP (size_k37 lA)
  have tB := hideP (size_k37 lB)
  have LA := hideP lA; have LB := hideP lB
  obtain ⟨v1, hv1⟩ : ∃ v, v = w.alloc (.cells N.toArray 27) := ⟨_, rfl⟩
  obtain ⟨v2, hv2⟩ : ∃ v, v = v1.alloc (.cells CA.toArray 43) := ⟨_, rfl⟩
  obtain ⟨v3, hv3⟩ : ∃ v, v = v2.alloc (.cells CB.toArray 43) := ⟨_, rfl⟩
  obtain ⟨z1, hz1⟩ : ∃ z, z = w.heap.size := ⟨_, rfl⟩
  obtain ⟨z2, hz2⟩ : ∃ z, z = z1 + 1 := ⟨_, rfl⟩
  obtain ⟨z3, hz3⟩ : ∃ z, z = z2 + 1 := ⟨_, rfl⟩
  have R1 := hideP (show Row v3 z1 27 N by rw [hv3, hv2, hv1, hz1]; exact Row.alloc (Row.alloc (Row.new w _ _) _) _)
  have R2 := hideP (show Row v3 z2 43 CA by rw [hv3, hv2]; exact Row.alloc (Row.new' v1 _ _ _ (by rw [hv1, hz2, hz1]; simp)) _)
  have R3 := hideP (show Row v3 z3 43 CB by rw [hv3]; exact Row.new' v2 _ _ _ (by rw [hv2, hv1, hz3, hz2, hz1]; simp))
  have B3 := hideP (show Below w.heap.size w v3 by rw [hv3, hv2, hv1]; exact ((below_new _ _).alloc (by simp) _).alloc (by simp; omega) _)
  rw [← hN] at hGr
  rw [← hN, ← hCA, ← hCB]
  have HN := hideP hN; have HCA := hideP hCA; have HCB := hideP hCB
  have Hv1 := hideP hv1; have Hv2 := hideP hv2; have Hv3 := hideP hv3; have Hz1 := hideP hz1; have Hz2 := hideP hz2; have Hz3 := hideP hz3
  have HGr := hideP hGr
  clear hN hCA hCB hv1 hv2 hv3 hz1 hz2 hz3 hGr lA lB
  go_enter Try.func4, Try.ntmps4
  go_upto_region 1 with fail
  rw [← Hz1.out, ← Hz2.out, ← Hz3.out, ← Hv1.out, ← Hv2.out, ← Hv3.out]
  go_upto_region 3 with (go_at_call 14; refine (alive10 v3).mono ?_; rintro e_ w1 ⟨rfl, b_⟩; have B4 := hideP (bstep B3.out b_); replace R1 := hideP (Row.after R1.out b_); replace R2 := hideP (Row.after R2.out b_); replace R3 := hideP (Row.after R3.out b_); clear b_)
  clear Hv1 Hv2 Hv3 B3
  rw [← HN.out] at hSay hRS hRg
  rw [← HCA.out] at hKA hKB hSA hSB hEA hEB
  rw [← HCB.out] at hSA hSB
  have hf1 := (show CA.zipIdx.foldl (fun cs (x : Value × Nat) => cs.setIfInBounds x.2 x.1) #[.int .u8 0, .int .u8 0, .int .u8 0, .int .u8 0, .int .u8 0, .int .u8 0, .int .u8 0, .int .u8 0, .int .u8 0, .int .u8 0, .int .u8 0, .int .u8 0, .int .u8 0, .int .u8 0, .int .u8 0, .int .u8 0, .int .u8 0, .int .u8 0, .int .u8 0, .int .u8 0, .int .u8 0, .int .u8 0, .int .u8 0, .int .u8 0, .int .u8 0, .int .u8 0, .int .u8 0, .int .u8 0, .int .u8 0, .int .u8 0, .int .u8 0, .int .u8 0, .slice none 0 0, .slice none 0 0, .int .i64 0, .int .i64 0, .slice none 0 0, .int .u8 0, .int .u8 0, .int .u8 0, .int .u8 0, .int .u8 0, .int .u8 0, .int .u8 0, .int .u8 0, .int .u8 0, .int .u8 0, .int .u8 0, .int .u8 0, .int .u8 0, .int .u8 0, .int .u8 0, .int .u8 0, .int .u8 0, .int .u8 0, .int .u8 0, .int .u8 0, .int .u8 0, .int .u8 0, .int .u8 0, .int .u8 0, .int .u8 0, .int .u8 0, .int .u8 0, .int .u8 0, .int .u8 0, .int .u8 0, .int .u8 0, .int .u8 0, .slice none 0 0, .slice none 0 0, .int .i64 0, .int .i64 0, .slice none 0 0] = (CA ++ kidL13).toArray from fold_part kidL13 CA kidL13 (by rw [LA.out]; rfl))
  have l1 := LA.out; have l2 := LB.out
  have hf2 := (show CB.zipIdx.foldl (fun cs (x : Value × Nat) => cs.setIfInBounds (37 + x.2) x.1) (CA ++ kidL13).toArray = (CA ++ CB).toArray by have := fold_rest CA kidL13 CB (by rw [LB.out]; rfl); rwa [LA.out] at this)
  have hg2 := hideP (fun W (hW : Below w.heap.size w W) => show Calls Try.prog 19 #[.agg #[.int .u8 0, .slice none 0 0, .slice (some ⟨W.heap.size, 0, none⟩) 2 2]] (W.alloc (.cells (CA ++ CB).toArray 43)) (GreatGot (W.alloc (.cells (CA ++ CB).toArray 43)) (twoK a b)) by
    have hb := below_new W (.cells (CA ++ CB).toArray 43)
    have hr := Row.new W 43 (CA ++ CB)
    rw [HCA.out, HCB.out] at hr hb ⊢
    exact great10_any (twoK a b) (twoKP W.heap.size pa pb) _ (fun i hi => by
      have : i = 0 ∨ i = 1 := by simp [twoK] at hi; omega
      rcases this with rfl | rfl
      · exact hsa
      · exact hsb) (twoK_mem hr hsa ((hma.after hW).after hb) ((hmb.after hW).after hb)))
  clear hn hm ha hb
  go_upto_region 5 with (first
    | (refine wpList_load_row rfl 27 (.tmp 4) rfl z1 (by kernel_rfl) 27 N.toArray (0, 0) _ R1.out Try.underlying27 rfl tN.out ?_)
    | (refine wpList_loadG rfl 43 (.tmp 6) rfl z2 0 rfl CA _ (Row.range R2.out) Try.underlying43 rfl tA.out ?_)
    | (refine wpList_loadG rfl 43 (.tmp 7) rfl z3 0 rfl CB _ (Row.range R3.out) Try.underlying43 rfl tB.out ?_)
    | (go_at_call 19; refine (HGr.out _ B4.out).mono ?_; rintro e_ w2 ⟨q, rfl, b_, s_⟩; have B5 := hideP (bstep B4.out b_); replace R1 := hideP (Row.after R1.out b_); replace R2 := hideP (Row.after R2.out b_); replace R3 := hideP (Row.after R3.out b_); clear b_ s_ HGr; rcases q with _ | _)
    | (go_at_call 19; refine (hg2.out w2 B5.out).mono ?_; rintro e_ w3 ⟨q, rfl, b_, s_⟩; have b2_ := bstep (below_new w2 (.cells (CA ++ CB).toArray 43)) b_; have B6 := hideP (bstep B5.out b2_); replace R1 := hideP (Row.after R1.out b2_); replace R2 := hideP (Row.after R2.out b2_); replace R3 := hideP (Row.after R3.out b2_); clear b_ s_ b2_ hf1 hf2; rcases q with _ | _))
  rotate_left 1
  · go_ret
    exact ⟨rfl, B6.out⟩
  · go_ret
    exact ⟨rfl, B5.out⟩
  clear hg2 B4 B5
  have l1' := LA.out
  refine wp_region_fork 23 (.q 0 (.q 1 (.q 3 (.q 4 (.l 2 (.l 5 (.q 6 (.q 7 (.q 8 (.q 9 (.q 11 (.q 12 (.l 10 (.l 13 (.q 14 (.q 15 (.q 16 (.q 17 (.q 19 (.l 18 (.l 20 (.q 21 (.q 22 .nil))))))))))))))))))))))) (by kernel_rfl) (by kernel_rfl) ?_
  simp only [pickT, nthO_zero, nthO_succ]
  refine wpT_valK (by rfl) (fun K hK => ?_)
  refine ⟨.agg CA.toArray, fun W hW => exec_load_mid 43 (.tmp 6) rfl z2 0 rfl CA _ (Row.range (Row.ext R2.out ((Ext.refl w3).trans (hW.drew_left)))) Try.underlying43 rfl tA.out, ?_⟩
  go_simp
  refine hK _ ?_
  clear hK K
  iterate 1 (refine wpT_valK (by rfl) (fun K hK => ?_); apply Exists.intro; refine ⟨fun W hW => ?_, ?_⟩; (focus (go_simp; (try rfl); done)); go_simp; refine hK _ ?_; clear hK K)
  refine wpT_valK (by rfl) (fun K hK => ?_)
  refine ⟨.agg CA.toArray, fun W hW => exec_load_mid 43 (.tmp 6) rfl z2 0 rfl CA _ (Row.range (Row.ext R2.out ((Ext.refl w3).trans (hW.drew_left)))) Try.underlying43 rfl tA.out, ?_⟩
  go_simp
  refine hK _ ?_
  clear hK K
  iterate 1 (refine wpT_valK (by rfl) (fun K hK => ?_); apply Exists.intro; refine ⟨fun W hW => ?_, ?_⟩; (focus (go_simp; (try rfl); done)); go_simp; refine hK _ ?_; clear hK K)
  have hKA2 := hideP (fun W (hW : Below w3.heap.size w3 W) => hKA.out W (bstep B6.out hW))
  have hKB2 := hideP (fun W (hW : Below w3.heap.size w3 W) => hKB.out W (bstep B6.out hW))
  have hSA2 := hideP (fun W (hW : Below w3.heap.size w3 W) => hSA.out W (bstep B6.out hW))
  have hSB2 := hideP (fun W (hW : Below w3.heap.size w3 W) => hSB.out W (bstep B6.out hW))
  have hEA2 := hideP (fun W (hW : Below w3.heap.size w3 W) => hEA.out W (bstep B6.out hW))
  have hEB2 := hideP (fun W (hW : Below w3.heap.size w3 W) => hEB.out W (bstep B6.out hW))
  clear hKA hKB hSA hSB hEA hEB
  refine wpT_loudK 20 #[.agg CA.toArray, .int .i64 d] (by rfl) (fun W' => by go_simp) (fun W1_ hW1 => (hKA2.out W1_ ((Ext.refl w3).trans (hW1.drew_left)).below).mono ?_)
  rintro e W2_ ⟨rfl, hb_⟩
  refine ⟨_, rfl, Ext.of_below hb_, fun K hK => ?_⟩
  go_simp
  refine hK _ ?_
  clear hK K
  have x1 := hideP ((Ext.refl w3).trans ((hW1.drew_left).trans (Ext.of_below hb_)))
  clear hW1 hb_
  refine wpT_loudK 21 #[.agg CA.toArray, .int .i64 d] (by rfl) (fun W' => by go_simp) (fun W1_ hW1 => (hKB2.out W1_ ((x1.out).trans (hW1.trans (Ext.refl _))).below).mono ?_)
  rintro e W2_ ⟨rfl, hb_⟩
  refine ⟨_, rfl, Ext.of_below hb_, fun K hK => ?_⟩
  go_simp
  refine hK _ ?_
  clear hK K
  have x2 := hideP ((x1.out).trans ((hW1.trans (Ext.refl _)).trans (Ext.of_below hb_)))
  clear hW1 hb_
  iterate 2 (refine wpT_valK (by rfl) (fun K hK => ?_); apply Exists.intro; refine ⟨fun W hW => ?_, ?_⟩; (focus (go_simp; (try rfl); done)); go_simp; refine hK _ ?_; clear hK K)
  refine wpT_valK (by rfl) (fun K hK => ?_)
  refine ⟨.agg CA.toArray, fun W hW => exec_load_mid 43 (.tmp 6) rfl z2 0 rfl CA _ (Row.range (Row.ext R2.out ((x2.out).trans (hW.trans (Ext.refl _))))) Try.underlying43 rfl tA.out, ?_⟩
  go_simp
  refine hK _ ?_
  clear hK K
  refine wpT_valK (by rfl) (fun K hK => ?_)
  refine ⟨.agg CB.toArray, fun W hW => exec_load_mid 43 (.tmp 7) rfl z3 0 rfl CB _ (Row.range (Row.ext R3.out ((x2.out).trans (hW.trans (Ext.refl _))))) Try.underlying43 rfl tB.out, ?_⟩
  go_simp
  refine hK _ ?_
  clear hK K
  refine wpT_valK (by rfl) (fun K hK => ?_)
  refine ⟨.agg CA.toArray, fun W hW => exec_load_mid 43 (.tmp 6) rfl z2 0 rfl CA _ (Row.range (Row.ext R2.out ((x2.out).trans (hW.trans (Ext.refl _))))) Try.underlying43 rfl tA.out, ?_⟩
  go_simp
  refine hK _ ?_
  clear hK K
  refine wpT_valK (by rfl) (fun K hK => ?_)
  refine ⟨.agg CB.toArray, fun W hW => exec_load_mid 43 (.tmp 7) rfl z3 0 rfl CB _ (Row.range (Row.ext R3.out ((x2.out).trans (hW.trans (Ext.refl _))))) Try.underlying43 rfl tB.out, ?_⟩
  go_simp
  refine hK _ ?_
  clear hK K
  refine wpT_loudK 22 #[.agg CA.toArray, .agg CB.toArray] (by rfl) (fun W' => by go_simp) (fun W1_ hW1 => (hSA2.out W1_ ((x2.out).trans (hW1.trans (Ext.refl _))).below).mono ?_)
  rintro e W2_ ⟨rfl, hb_⟩
  refine ⟨_, rfl, Ext.of_below hb_, fun K hK => ?_⟩
  go_simp
  refine hK _ ?_
  clear hK K
  have x3 := hideP ((x2.out).trans ((hW1.trans (Ext.refl _)).trans (Ext.of_below hb_)))
  clear hW1 hb_
  refine wpT_loudK 23 #[.agg CA.toArray, .agg CB.toArray] (by rfl) (fun W' => by go_simp) (fun W1_ hW1 => (hSB2.out W1_ ((x3.out).trans (hW1.trans (Ext.refl _))).below).mono ?_)
  rintro e W2_ ⟨rfl, hb_⟩
  refine ⟨_, rfl, Ext.of_below hb_, fun K hK => ?_⟩
  go_simp
  refine hK _ ?_
  clear hK K
  have x4 := hideP ((x3.out).trans ((hW1.trans (Ext.refl _)).trans (Ext.of_below hb_)))
  clear hW1 hb_
  iterate 3 (refine wpT_valK (by rfl) (fun K hK => ?_); apply Exists.intro; refine ⟨fun W hW => ?_, ?_⟩; (focus (go_simp; (try rfl); done)); go_simp; refine hK _ ?_; clear hK K)
  refine wpT_valK (by rfl) (fun K hK => ?_)
  refine ⟨.agg CA.toArray, fun W hW => exec_load_mid 43 (.tmp 6) rfl z2 0 rfl CA _ (Row.range (Row.ext R2.out ((x4.out).trans (hW.trans (Ext.refl _))))) Try.underlying43 rfl tA.out, ?_⟩
  go_simp
  refine hK _ ?_
  clear hK K
  refine wpT_valK (by rfl) (fun K hK => ?_)
  refine ⟨.agg CA.toArray, fun W hW => exec_load_mid 43 (.tmp 6) rfl z2 0 rfl CA _ (Row.range (Row.ext R2.out ((x4.out).trans (hW.trans (Ext.refl _))))) Try.underlying43 rfl tA.out, ?_⟩
  go_simp
  refine hK _ ?_
  clear hK K
  refine wpT_loudK 24 #[.agg CA.toArray] (by rfl) (fun W' => by go_simp) (fun W1_ hW1 => (hEA2.out W1_ ((x4.out).trans (hW1.trans (Ext.refl _))).below).mono ?_)
  rintro e W2_ ⟨rfl, hb_⟩
  refine ⟨_, rfl, Ext.of_below hb_, fun K hK => ?_⟩
  go_simp
  refine hK _ ?_
  clear hK K
  have x5 := hideP ((x4.out).trans ((hW1.trans (Ext.refl _)).trans (Ext.of_below hb_)))
  clear hW1 hb_
  refine wpT_loudK 25 #[.agg CA.toArray] (by rfl) (fun W' => by go_simp) (fun W1_ hW1 => (hEB2.out W1_ ((x5.out).trans (hW1.trans (Ext.refl _))).below).mono ?_)
  rintro e W2_ ⟨rfl, hb_⟩
  refine ⟨_, rfl, Ext.of_below hb_, fun K hK => ?_⟩
  go_simp
  refine hK _ ?_
  clear hK K
  have x6 := hideP ((x5.out).trans ((hW1.trans (Ext.refl _)).trans (Ext.of_below hb_)))
  clear hW1 hb_
  iterate 2 (refine wpT_valK (by rfl) (fun K hK => ?_); apply Exists.intro; refine ⟨fun W hW => ?_, ?_⟩; (focus (go_simp; (try rfl); done)); go_simp; refine hK _ ?_; clear hK K)
  refine wpT_nil (fun W7 hW7 => ?_)
  simp only [List.drop_succ_cons, List.drop_zero, List.drop_nil]
  have x7 := hideP (x6.out.trans hW7)
  replace R1 := hideP (Row.ext R1.out x7.out)
  have B7 := hideP (below_ext B6.out x7.out)
  clear hW7 x1 x2 x3 x4 x5 x6 x7 R2 R3 B6 hKA2 hKB2 hSA2 hSB2 hEA2 hEB2 tA tB LA LB
  have kL := hideP size_kLA
  go_upto_region 8 with (first
    | (refine wpList_load_row rfl 27 (.tmp 4) rfl z1 (by kernel_rfl) 27 N.toArray (0, 0) _ R1.out Try.underlying27 rfl tN.out ?_)
    | (go_at_call 26; refine (hSay.out _ B7.out).mono ?_; rintro e_ w8 ⟨q1, rfl, k_, b_⟩; have K8 := hideP k_; have R8 := hideP (Row.after R1.out b_); have B8 := hideP (bstep B7.out b_); clear k_ b_; obtain ⟨KC, hKC⟩ : ∃ C, C = kidC K0 q1 := ⟨_, rfl⟩; have hl37 := hideP (show KC.length = 37 by rw [hKC]; exact hcl.out q1); have tK := hideP (show (Try.prog.info? 43).map (·.size) = some KC.toArray.size by rw [List.size_toArray]; exact size_k37 hl37.out); have tso := hideP (show kidL13.toArray.size = KC.toArray.size by rw [List.size_toArray, List.size_toArray, hl37.out]; rfl); have tone := hideP (show KC.toArray.all (·.oneCell') = true by rw [hKC]; exact kidC_one _ _); rw [← hKC]; have HKC := hideP hKC; clear hKC)
    | (refine wpList_store_row rfl 43 (.tmp 9) (.tmp 51) rfl w8.heap.size KC.toArray (by kernel_rfl) (by kernel_rfl) 43 kidL13.toArray (Row.new w8 43 kidL13) tK.out tso.out tone.out ?_))
  try simp only [Act.put]
  obtain ⟨x, hx⟩ : ∃ x, x = w8.heap.size := ⟨_, rfl⟩
  obtain ⟨v9, hv9⟩ : ∃ v, v = (w8.alloc (.cells kidL13.toArray 43)).setRow x KC.toArray := ⟨_, rfl⟩
  rw [← hx, ← hv9]
  have hb9 : Below w8.heap.size w8 v9 := by rw [hv9, hx]; exact below_setRow' (below_new w8 _) (Nat.le_refl _) _
  have X := hideP (show Row v9 x 43 KC by rw [hv9, hx]; exact Row.setRow (Row.new w8 43 kidL13) KC)
  have K9 := hideP (K8.out.after hb9)
  have R9 := hideP (Row.after R8.out hb9)
  have B9 := hideP (bstep B8.out hb9)
  have tKl := hideP (size_k37 hl37.out)
  clear hx hv9 hb9 K8 R8 B8 R1 B7 hSay
  rcases right with _ | _
  · obtain ⟨rfl, rfl⟩ := H0.out rfl
    have hE := hideP (fun W (hW : Below v9.heap.size v9 W) => show Calls Try.prog 24 #[.agg KC.toArray] W fun e w' => e = .returned (.bool true) ∧ Below W.heap.size W w' by
      rw [HKC.out]
      exact (HEK.out q1 W (K9.out.after hW)).mono (fun e w' h => ⟨by rw [h.1]; simp, h.2⟩))
    clear HEK HSK hRS H1
    go_wp2_with (first
      | (refine wpList_load_row rfl 27 (.tmp 4) rfl z1 (by kernel_rfl) 27 N.toArray (0, 0) _ R9.out Try.underlying27 rfl tN.out ?_)
      | (go_at_call 27; refine (hRg.out _ B9.out).mono ?_; rintro e_ w10 ⟨rfl, b_⟩; have X10 := hideP (Row.after X.out b_); have B10 := hideP b_; clear b_)
      | (refine wpList_loadG rfl 43 (.tmp 9) rfl x 0 rfl KC _ (Row.range X10.out) Try.underlying43 rfl tKl.out ?_)
      | (go_at_call 24; refine (hE.out w10 B10.out).mono ?_; rintro e_ w11 ⟨rfl, b_⟩; have B11 := hideP (bstep (bstep B9.out B10.out) b_); clear b_))
    go_ret
    exact ⟨rfl, B11.out⟩
  · have hRS2 := hideP (hRS.out rfl)
    go_upto_region 11 with (first
      | (refine wpList_load_row rfl 27 (.tmp 4) rfl z1 (by kernel_rfl) 27 N.toArray (0, 0) _ R9.out Try.underlying27 rfl tN.out ?_)
      | (go_at_call 27; refine (hRg.out _ B9.out).mono ?_; rintro e_ w10 ⟨rfl, b_⟩; replace X := hideP (Row.after X.out b_); have K10 := hideP (K9.out.after b_); replace R9 := hideP (Row.after R9.out b_); have B10 := hideP (bstep B9.out b_); clear b_)
      | (go_at_call 28; refine (hRS2.out _ B10.out).mono ?_; rintro e_ w11 ⟨q2, rfl, k_, b_⟩; have K11 := hideP k_; replace X := hideP (Row.after X.out b_); have L11 := hideP (K10.out.after b_); have B11 := hideP (bstep B10.out b_); clear k_ b_; obtain ⟨KD, hKD⟩ : ∃ C, C = kidC K0 q2 := ⟨_, rfl⟩; have hD37 := hideP (show KD.length = 37 by rw [hKD]; exact hcl.out q2); have tD := hideP (show (Try.prog.info? 43).map (·.size) = some KD.toArray.size by rw [List.size_toArray]; exact size_k37 hD37.out); have dso := hideP (show kidL13.toArray.size = KD.toArray.size by rw [List.size_toArray, List.size_toArray, hD37.out]; rfl); have done_ := hideP (show KD.toArray.all (·.oneCell') = true by rw [hKD]; exact kidC_one _ _); rw [← hKD]; have HKD := hideP hKD; clear hKD)
      | (refine wpList_store_row rfl 43 (.tmp 11) (.tmp 66) rfl w11.heap.size KD.toArray (by kernel_rfl) (by kernel_rfl) 43 kidL13.toArray (Row.new w11 43 kidL13) tD.out dso.out done_.out ?_))
    try simp only [Act.put]
    obtain ⟨y, hy⟩ : ∃ x, x = w11.heap.size := ⟨_, rfl⟩
    obtain ⟨v12, hv12⟩ : ∃ v, v = (w11.alloc (.cells kidL13.toArray 43)).setRow y KD.toArray := ⟨_, rfl⟩
    rw [← hy, ← hv12]
    have hb12 : Below w11.heap.size w11 v12 := by rw [hv12, hy]; exact below_setRow' (below_new w11 _) (Nat.le_refl _) _
    have Y := hideP (show Row v12 y 43 KD by rw [hv12, hy]; exact Row.setRow (Row.new w11 43 kidL13) KD)
    replace X := hideP (Row.after X.out hb12)
    have hS := hideP (show Calls Try.prog 23 #[.agg KC.toArray, .agg KD.toArray] v12 fun e w' => e = .returned (.bool true) ∧ Below v12.heap.size v12 w' by
      rw [HKC.out, HKD.out]
      exact (HSK.out q1 q2 v12 (L11.out.after hb12) (K11.out.after hb12)).mono (fun e w' h => ⟨by rw [h.1]; simp, h.2⟩))
    have B12 := hideP (bstep B11.out hb12)
    have tDl := hideP (size_k37 hD37.out)
    clear hy hv12 hb12 HEK HSK K11 L11 B11 K10 hRS2 hRS H0
    rcases (by first | exact H1.out rfl | exact H1.out trivial : (er = 0 ∧ ok = true) ∨ (er = 1 ∧ ok = false)) with ⟨rfl, rfl⟩ | ⟨rfl, rfl⟩
    · skip
      clear H1
      go_wp2_with (first
        | (refine wpList_load_row rfl 43 (.tmp 9) rfl x (by kernel_rfl) 43 KC.toArray (0, 0) _ X.out Try.underlying43 rfl tK.out ?_)
        | (refine wpList_load_row rfl 43 (.tmp 11) rfl y (by kernel_rfl) 43 KD.toArray (0, 0) _ Y.out Try.underlying43 rfl tD.out ?_)
        | (go_at_call 23; refine hS.out.mono ?_; rintro e_ w13 ⟨rfl, b_⟩; have B13 := hideP (bstep B12.out b_); clear b_))
      go_ret
      exact ⟨rfl, B13.out⟩
    · skip
      clear H1
      go_wp2_with (first
        | (refine wpList_load_row rfl 43 (.tmp 9) rfl x (by kernel_rfl) 43 KC.toArray (0, 0) _ X.out Try.underlying43 rfl tK.out ?_)
        | (refine wpList_load_row rfl 43 (.tmp 11) rfl y (by kernel_rfl) 43 KD.toArray (0, 0) _ Y.out Try.underlying43 rfl tD.out ?_)
        | (go_at_call 23; refine hS.out.mono ?_; rintro e_ w13 ⟨rfl, b_⟩; have B13 := hideP (bstep B12.out b_); clear b_))
      go_ret
      exact ⟨rfl, B13.out⟩
theorem walk_NodeSays (n : NodeD) (p : NodeP) (d : Int) (a : KidD) (pa : KidP) (b : KidD) (pb : KidP) (w : World) (hm : NodeMem w w.heap.size n p) (hn : NodeIn n) (hd : -9223372036854775808 ≤ d ∧ d ≤ 9223372036854775807) (hma : KidMem w w.heap.size a pa) (ha : KidIn a) (hmb : KidMem w w.heap.size b pb) (hb : KidIn b) :
    Calls Try.prog 4 #[.agg (nodeC n p).toArray, .int .i64 d, .agg (kidC a pa).toArray, .agg (kidC b pb).toArray] w fun e w' => e = .returned (.bool true) ∧ Below w.heap.size w w' := by
  by_cases hs : Small n ∧ Small (twoK a b)
  · obtain ⟨h1, h2⟩ := hs
    have hok := hn.ok h1.1 h1.2.1 h1.2.2.1 h1.2.2.2
    obtain ⟨⟨a1, a2, a3⟩, b1, b2, b3⟩ := twoK_small h2
    have hka := ha.ok (Nat.le_trans a1 (by decide)) (Nat.le_trans a2 (by decide)) (Nat.le_trans a3 (by decide))
    have hkb := hb.ok (Nat.le_trans b1 (by decide)) (Nat.le_trans b2 (by decide)) (Nat.le_trans b3 (by decide))
    rcases hr : nodeR n d with _ | _
    · refine nodesays_from n p a b pa pb d w hok hm hka hkb hma hmb kidZ 1 false false kidZ_ok (fun W hW => ?_) hr (fun h => by cases h) (fun _ => ⟨rfl, rfl⟩) (fun h => by cases h)
      refine (nsay_no n p d W hok (hm.after hW) hr).mono ?_
      rintro e w' ⟨rfl, b_⟩
      exact ⟨kidPZ, rfl, kidZ_mem _ _, b_⟩
    · obtain ⟨D, rfl, ht⟩ := nodeR_rt hr
      by_cases hz : (sayN n).size ≤ 1048576
      · refine nodesays_from n p a b pa pb D w hok hm hka hkb hma hmb (sayN n) 0 true true (sayN_ok ht hok) (fun W hW => ?_) hr (fun _ W hW => ?_) (fun h => by cases h) (fun _ => .inl ⟨rfl, rfl⟩)
        · refine (nsay_ok n p D W hok (hm.after hW) hr ht).mono ?_
          rintro e w' ⟨b_, ⟨h, _⟩ | ⟨_, q, rfl, k⟩⟩
          · omega
          · exact ⟨q, rfl, k.mem, b_⟩
        · refine (rnsay_ok n p D W hok (hm.after hW) hr ht).mono ?_
          rintro e w' ⟨b_, ⟨h, _⟩ | ⟨_, q, rfl, k⟩⟩
          · omega
          · exact ⟨q, rfl, k, b_⟩
      · refine nodesays_from n p a b pa pb D w hok hm hka hkb hma hmb kidZ 1 true false kidZ_ok (fun W hW => ?_) hr (fun _ W hW => ?_) (fun h => by cases h) (fun _ => .inr ⟨rfl, rfl⟩)
        · refine (nsay_ok n p D W hok (hm.after hW) hr ht).mono ?_
          rintro e w' ⟨b_, ⟨_, rfl⟩ | ⟨h, _⟩⟩
          · exact ⟨kidPZ, rfl, kidZ_mem _ _, b_⟩
          · omega
        · refine (rnsay_ok n p D W hok (hm.after hW) hr ht).mono ?_
          rintro e w' ⟨b_, ⟨_, rfl⟩ | ⟨h, _⟩⟩
          · exact ⟨kidPZ, rfl, kidZ_mem _ _, b_⟩
          · omega
  · exact nodesays_big n p a b pa pb d w hn hm ha.s hb.s hma hmb hs
end Go.Proofs.Ytgcbodpjidoanaa
