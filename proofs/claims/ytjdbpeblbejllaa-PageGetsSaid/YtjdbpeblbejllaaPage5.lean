/- Contracts of page's Put, whole, and Clash. -/
import Derived.Test.YtjdbpeblbejllaaPage4
set_option linter.unusedVariables false
set_option linter.unusedSimpArgs false
namespace Go.Proofs.Ytjdbpeblbejllaa
open Go.RowKit
/-- the texts behind a Put -/
def putL (L : List (List Nat)) (t : List Nat) : List (List Nat) := if L.any (fun u => sum9 u == sum9 t) then L else L ++ [t]
/-- the clash behind a Put -/
def putC (L : List (List Nat)) (C : Option (List Nat × List Nat)) (t : List Nat) : Option (List Nat × List Nat) :=
  match C with
  | some p => some p
  | none => match L.find? (fun u => sum9 u == sum9 t) with
    | some u => if u = t then none else some (u, t)
    | none => none
theorem pput_any (g : Nat) (S : Nat → Prop) (L : List (List Nat)) (C : Option (List Nat × List Nat)) (At : Option Addr) (t : List Nat) (ct : Nat) (w : World) (h : PSt w S g L C) (hA : Arr w w.heap.size At t.length (u8s t)) (ht : IsB t) (hn : t.length ≤ 100000000) :
    Calls Try.prog 17 #[.pointer (some ⟨g, 0, none⟩), .slice At t.length ct] w fun e w' => ∃ S', e = .returned (.agg (pageD t).toArray) ∧ But S w w' ∧ (∀ b, S' b → S b ∨ w.heap.size ≤ b) ∧ PSt w' S' g (putL L t) (putC L C t) := by
  rcases hf : L.find? (fun u => sum9 u == sum9 t) with _ | u
  · have h1 := List.find?_eq_none.1 hf
    have e1 : putL L t = L ++ [t] := by
      unfold putL
      rw [if_neg]
      intro h2
      obtain ⟨u, hu, hs⟩ := List.any_eq_true.1 h2
      exact h1 u hu hs
    have e2 : putC L C t = C := by
      unfold putC
      rcases C with _ | p
      · simp [hf]
      · rfl
    rw [e1, e2]
    exact pput_out g S L C At t ct w h hA ht hn fun u hu hs => h1 u hu (by simpa using hs)
  · have hu : u ∈ L := List.mem_of_find?_eq_some hf
    have hs : sum9 u = sum9 t := by simpa using List.find?_some hf
    have e1 : putL L t = L := by
      unfold putL
      rw [if_pos (List.any_eq_true.2 ⟨u, hu, by simpa using hs⟩)]
    rw [e1]
    rcases C with _ | p
    · by_cases he : u = t
      · have e2 : putC L none t = none := by simp only [putC, hf]; rw [if_pos he]
        rw [e2]
        exact pput_same g S L At t ct w h hA ht hn u hu hs he
      · have e2 : putC L none t = some (u, t) := by simp only [putC, hf]; rw [if_neg he]
        rw [e2]
        exact pput_clash g S L At t ct w h hA ht hn u hu hs he
    · exact pput_some g S L p At t ct w h hA ht hn u hu hs
set_option maxRecDepth 100000 in
theorem pclash_any (g : Nat) (S : Nat → Prop) (L : List (List Nat)) (C : Option (List Nat × List Nat)) (w : World) (h : PSt w S g L C) :
    Calls Try.prog 19 #[.pointer (some ⟨g, 0, none⟩)] w fun e w' => ∃ (x y : List Nat) (R R' : Option Addr) (d d' : Nat), e = .returned (.tuple #[.slice R x.length d, .slice R' y.length d', .bool C.isSome]) ∧ Below w.heap.size w w' ∧
      Arr w' w'.heap.size R x.length (u8s x) ∧ Arr w' w'.heap.size R' y.length (u8s y) ∧ IsB x ∧ IsB y ∧ x.length ≤ 100000000 ∧ y.length ≤ 100000000 ∧ (C = none → x = [] ∧ y = []) ∧ (∀ p, C = some p → p = (x, y) ∧ sum9 x = sum9 y ∧ x ≠ y) := by
  obtain ⟨bm, A, c, a, b, ca, cb, x, y, h1, h2, h3, h4, h5, h6, h7, h8, h9, h10⟩ := h
  have c1 := (Row.cell h1 1).trans rfl
  have c2 := (Row.cell h1 2).trans rfl
  have c3 := (Row.cell h1 3).trans rfl
  obtain ⟨z, hz⟩ : ∃ z, z = C.isSome := ⟨_, rfl⟩
  rw [← hz] at c3 ⊢
  have ha := hideP h7.arr
  have hb := hideP h8.arr
  have hr := hideP h10
  have hxn := hideP h10.2.2.1
  have hyn := hideP h10.2.2.2.1
  clear h1 h2 h3 h4 h5 h6 h7 h8 h9 h10 hz
  go_enter Try.func19, Try.ntmps19
  go_upto_region 1 with fail
  refine wp_region_fork 17 (.q 0 (.q 1 (.q 2 (.q 3 (.q 5 (.q 6 (.q 7 (.q 8 (.q 10 (.q 11 (.q 12 (.q 13 (.l 4 (.l 9 (.q 14 (.q 15 (.q 16 .nil))))))))))))))))) (by kernel_rfl) (by kernel_rfl) ?_
  simp only [pickT, nthO_zero, nthO_succ]
  iterate 12 (refine wpT_valK (by rfl) (fun K hK => ?_); apply Exists.intro; refine ⟨fun W' hW => ?_, ?_⟩; (focus (have hs0 := hW.cell c1; have hs1 := hW.cell c2; have hs2 := hW.cell c3; go_simp; (try rfl); done)); go_simp; refine hK _ ?_; clear hK K)
  refine wpT_loudK 47 #[.slice a x.length ca] (by rfl) (fun W' => by go_simp) (fun W1 hW1 => (bclone_any a x ca W1 (ha.out.ext hW1.drew_left) (by have := hxn.out; omega)).mono ?_)
  rintro e W2 ⟨R, d, rfl, ho, hb2⟩
  refine ⟨_, rfl, Ext.of_below hb2, fun K hK => ?_⟩
  go_simp
  refine hK _ ?_
  clear hK K
  have e2 := hideP (hW1.drew_left.trans (Ext.of_below hb2))
  refine wpT_loudK 47 #[.slice b y.length cb] (by rfl) (fun W' => by go_simp) (fun W3 hW3 => (bclone_any b y cb W3 (hb.out.ext (e2.out.trans hW3)) (by have := hyn.out; omega)).mono ?_)
  rintro e W4 ⟨R', d', rfl, ho', hb4⟩
  refine ⟨_, rfl, Ext.of_below hb4, fun K hK => ?_⟩
  go_simp
  refine hK _ ?_
  clear hK K
  iterate 3 (refine wpT_valK (by rfl) (fun K hK => ?_); apply Exists.intro; refine ⟨fun W' hW => ?_, ?_⟩; (focus (go_simp; (try rfl); done)); go_simp; refine hK _ ?_; clear hK K)
  refine wpT_nil (fun W5 hW5 => ?_)
  simp only [List.drop_succ_cons, List.drop_zero, List.drop_nil]
  have x5 := hideP (((e2.out.trans hW3).trans (Ext.of_below hb4)).trans hW5)
  have o5 := hideP (ho.ext ((hW3.trans (Ext.of_below hb4)).trans hW5))
  have p5 := hideP (ho'.ext hW5)
  clear hW5 hW3 hb4 ho ho' hW1 hb2 c1 c2 c3
  go_wp2
  refine bodyPost_ret (v := .tuple #[.slice R x.length d, .slice R' y.length d', .bool z]) (by simp [results, Try.results19, go_sem]) rfl ⟨x, y, R, R', d, d', rfl, x5.out.below, o5.out.arr, p5.out.arr, ?_⟩
  exact hr.out
end Go.Proofs.Ytjdbpeblbejllaa
