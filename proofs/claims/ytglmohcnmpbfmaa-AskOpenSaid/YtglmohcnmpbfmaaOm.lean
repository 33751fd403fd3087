/- Boxes and orders: the contracts of the old kind, as ones of the new. -/
import Derived.Test.YtglmohcnmpbfmaaOl
import Derived.Test.YtglmohcnmpbfmaaObC
set_option linter.unusedVariables false
set_option linter.unusedSimpArgs false
namespace Go.Proofs.Ytglmohcnmpbfmaa
open Go.RowKit
theorem boxright_ok (b : BoxD) (d : Int) : ACall Try.prog 95 [agD (boxL b), exI .i64 d] [] (exB (rightB b.lo b.hi d)) [] := by
  refine acall_old (enters_of Try.func95 rfl rfl) fun C vs hN hl hv => ?_
  match vs, hl with
  | [x, y], _ =>
    obtain ⟨A, c, A', c', e, _, _, h1, h2⟩ := box_get hN (hv 0 (by simp))
    have e2 := rv_ex_inv (hv 1 (by simp))
    replace e : x = _ := e
    replace e2 : y = _ := e2
    subst e e2
    exact right_any A A' b.lo b.hi c c' d C.W h1 h2
theorem rboxright_ok (b : BoxD) (d : Int) : ACall Try.prog 34 [agD (boxL b), exI .i64 d] [] (exB (rightB b.lo b.hi d)) [] := by
  refine acall_old (enters_of Try.func34 rfl rfl) fun C vs hN hl hv => ?_
  match vs, hl with
  | [x, y], _ =>
    obtain ⟨A, c, A', c', e, _, _, h1, h2⟩ := box_get hN (hv 0 (by simp))
    have e2 := rv_ex_inv (hv 1 (by simp))
    replace e : x = _ := e
    replace e2 : y = _ := e2
    subst e e2
    exact rbright_any A A' b.lo b.hi c c' d C.W h1 h2
theorem has_ok (b : BoxD) (p : List Int) : ACall Try.prog 100 [agD (boxL b), .d (i64L p)] [] (exB (hasB b.lo b.hi p)) [] := by
  refine acall_old (enters_of Try.func100 rfl rfl) fun C vs hN hl hv => ?_
  match vs, hl with
  | [x, y], _ =>
    obtain ⟨A, c, A', c', e, _, _, h1, h2⟩ := box_get hN (hv 0 (by simp))
    obtain ⟨P, k, e2, _, h3⟩ := arr_row hN (hv 1 (by simp))
    replace e : x = _ := e
    replace e2 : y = _ := e2
    subst e e2
    exact has_any A A' P b.lo b.hi p c c' k C.W h1 h2 h3
theorem rhas_ok (b : BoxD) (p : List Int) (hp : p.length ≤ 9223372036854775807) : ACall Try.prog 14 [agD (boxL b), .d (i64L p)] [] (exB (hasB b.lo b.hi p)) [] := by
  refine acall_old (enters_of Try.func14 rfl rfl) fun C vs hN hl hv => ?_
  match vs, hl with
  | [x, y], _ =>
    obtain ⟨A, c, A', c', e, _, _, h1, h2⟩ := box_get hN (hv 0 (by simp))
    obtain ⟨P, k, e2, _, h3⟩ := arr_row hN (hv 1 (by simp))
    replace e : x = _ := e
    replace e2 : y = _ := e2
    subst e e2
    exact rhas_any A A' P b.lo b.hi p c c' k C.W h1 h2 h3 hp
theorem meets_ok (a b : BoxD) : ACall Try.prog 102 [agD (boxL a), agD (boxL b)] [] (exB (meetsB a.lo a.hi b.lo b.hi)) [] := by
  refine acall_old (enters_of Try.func102 rfl rfl) fun C vs hN hl hv => ?_
  match vs, hl with
  | [x, y], _ =>
    obtain ⟨A, c, A', c', e, _, _, h1, h2⟩ := box_get hN (hv 0 (by simp))
    obtain ⟨B, d, B', d', e2, _, _, h3, h4⟩ := box_get hN (hv 1 (by simp))
    replace e : x = _ := e
    replace e2 : y = _ := e2
    subst e e2
    exact meets_any A A' B B' a.lo a.hi b.lo b.hi c c' d d' C.W h1 h2 h3 h4
theorem holds_ok (a b : BoxD) : ACall Try.prog 103 [agD (boxL a), agD (boxL b)] [] (exB (holdsB a.lo a.hi b.lo b.hi)) [] := by
  refine acall_old (enters_of Try.func103 rfl rfl) fun C vs hN hl hv => ?_
  match vs, hl with
  | [x, y], _ =>
    obtain ⟨A, c, A', c', e, _, _, h1, h2⟩ := box_get hN (hv 0 (by simp))
    obtain ⟨B, d, B', d', e2, _, _, h3, h4⟩ := box_get hN (hv 1 (by simp))
    replace e : x = _ := e
    replace e2 : y = _ := e2
    subst e e2
    exact holds_any A A' B B' a.lo a.hi b.lo b.hi c c' d d' C.W h1 h2 h3 h4
theorem ord_ok (o : OrdD) (d : Int) (hd : I64 d) : ACall Try.prog 96 [agD (ordL o), exI .i64 d] [] (exB (ordB o.k o.col o.at_.length d)) [] := by
  refine acall_old (enters_of Try.func96 rfl rfl) fun C vs hN hl hv => ?_
  match vs, hl with
  | [x, y], _ =>
    obtain ⟨A, c, e, _, h1⟩ := ord_get hN (hv 0 (by simp))
    have e2 := rv_ex_inv (hv 1 (by simp))
    replace e : x = _ := e
    replace e2 : y = _ := e2
    subst e e2
    exact ord_any o.k o.col A o.at_.length c d C.W hd
theorem rord_ok (o : OrdD) (d : Int) (hd : I64 d) : ACall Try.prog 97 [agD (ordL o), exI .i64 d] [] (exB (ordB o.k o.col o.at_.length d)) [] := by
  refine acall_old (enters_of Try.func97 rfl rfl) fun C vs hN hl hv => ?_
  match vs, hl with
  | [x, y], _ =>
    obtain ⟨A, c, e, _, h1⟩ := ord_get hN (hv 0 (by simp))
    have e2 := rv_ex_inv (hv 1 (by simp))
    replace e : x = _ := e
    replace e2 : y = _ := e2
    subst e e2
    exact rord_any o.k o.col A o.at_.length c d C.W hd
theorem ahead_ok (o : OrdD) (p q : List Int) (ha : IsI o.at_) (hp : IsI p) (hq : IsI q) (hn : p.length ≤ 9223372036854775807) (hm : q.length ≤ 9223372036854775807) : ACall Try.prog 127 [agD (ordL o), .d (i64L p), .d (i64L q)] [] (exB (aheadO o.k o.col o.at_ p q)) [] := by
  refine acall_old (enters_of Try.func127 rfl rfl) fun C vs hN hl hv => ?_
  match vs, hl with
  | [x, y, z], _ =>
    obtain ⟨A, c, e, hc, h1⟩ := ord_get hN (hv 0 (by simp))
    obtain ⟨P, k, e2, hk, h2⟩ := arr_row hN (hv 1 (by simp))
    obtain ⟨Q, j, e3, hj, h3⟩ := arr_row hN (hv 2 (by simp))
    replace e : x = _ := e
    replace e2 : y = _ := e2
    replace e3 : z = _ := e3
    subst e e2 e3
    exact aheadO_any o.k o.col A P Q o.at_ p q c k j C.W h1 h2 h3 ha hp hq hn hm hk hj
theorem rahead_ok (o : OrdD) (p q : List Int) (ha : IsI o.at_) (hp : IsI p) (hq : IsI q) (hn : p.length ≤ 9223372036854775807) (hm : q.length ≤ 9223372036854775807) : ACall Try.prog 38 [agD (ordL o), .d (i64L p), .d (i64L q)] [] (exB (aheadO o.k o.col o.at_ p q)) [] := by
  refine acall_old (enters_of Try.func38 rfl rfl) fun C vs hN hl hv => ?_
  match vs, hl with
  | [x, y, z], _ =>
    obtain ⟨A, c, e, hc, h1⟩ := ord_get hN (hv 0 (by simp))
    obtain ⟨P, k, e2, hk, h2⟩ := arr_row hN (hv 1 (by simp))
    obtain ⟨Q, j, e3, hj, h3⟩ := arr_row hN (hv 2 (by simp))
    replace e : x = _ := e
    replace e2 : y = _ := e2
    replace e3 : z = _ := e3
    subst e e2 e3
    exact raheadO_any o.k o.col A P Q o.at_ p q c k j C.W h1 h2 h3 ha hp hq hn hm hk hj
theorem beyond_ok (o : OrdD) (b : BoxD) (p : List Int) (ha : IsI o.at_) (il : IsI b.lo) (ih : IsI b.hi) (hp : IsI p) (hn : p.length ≤ 9223372036854775807) (hm : b.lo.length ≤ 9223372036854775807) : ACall Try.prog 106 [agD (ordL o), agD (boxL b), .d (i64L p)] [] (exB (beyondB o.k o.col o.at_ b.lo b.hi p)) [] := by
  refine acall_old (enters_of Try.func106 rfl rfl) fun C vs hN hl hv => ?_
  match vs, hl with
  | [x, y, z], _ =>
    obtain ⟨A, c, e, hc, h1⟩ := ord_get hN (hv 0 (by simp))
    obtain ⟨B, d, B', d', e2, q1, q2, h2, h3⟩ := box_get hN (hv 1 (by simp))
    obtain ⟨Q, j, e3, hj, h4⟩ := arr_row hN (hv 2 (by simp))
    replace e : x = _ := e
    replace e2 : y = _ := e2
    replace e3 : z = _ := e3
    subst e e2 e3
    exact beyond_any o.k o.col A B B' Q o.at_ b.lo b.hi p c d d' j C.W h1 h2 h3 h4 ha il ih hp hn hm hj q1 q2
end Go.Proofs.Ytglmohcnmpbfmaa
