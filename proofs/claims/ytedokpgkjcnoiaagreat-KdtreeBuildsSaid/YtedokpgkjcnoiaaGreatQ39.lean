/- node.Put, node.Get, in the new way: as the plain law tells them. slices.SortFunc of rows: the kit's contract, told of rows of one's own. slices.Compare of rows, the orders of the k-d tree: contracts of the old kind. -/
import Derived.Shelf.SlSortCmp.Whole1
import Derived.Test.YtedokpgkjcnoiaaGreatProg
import Derived.KernelRfl
import Derived.Test.YtedokpgkjcnoiaaGreatQ16
import Derived.Test.YtedokpgkjcnoiaaGreatQ19
import Derived.Test.YtedokpgkjcnoiaaGreatQ22
import Derived.Test.YtedokpgkjcnoiaaGreatQ28
import Derived.Test.YtedokpgkjcnoiaaGreatQ29
import Derived.Test.YtedokpgkjcnoiaaGreatQ30
import Derived.Test.YtedokpgkjcnoiaaGreatQ38
set_option linter.unusedVariables false
set_option linter.unusedSimpArgs false
namespace Go.Proofs.YtedokpgkjcnoiaaGreat
open Go.RowKit
open Kd (nPut nGet)
set_option maxRecDepth 100000
set_option maxHeartbeats 4000000
def resK (R : Sto × KidD × Int) : AV := .tup [agD (kidL R.2.1), exI .i64 R.2.2]
theorem decN_eq {d : Int} {b : List Nat} (hB : Pl.IsB b) : decN d b = Pl.readN d b := by
 have hn := Pl.rNode_ok d hB
 unfold decN
 by_cases h : Pl.rEnd (Pl.rNode d b).2.1 (Pl.rNode d b).2.2 = 0 ∧ Pl.nodeR (Pl.rNode d b).1 d = true
 ·have e : Pl.readN d b = some (Pl.rNode d b).1 := if_pos h
  rw [e, if_pos ⟨h.1, by rw [nodeR_eq hn]; exact h.2, ((Pl.readN_inv hB e).1).symm⟩]
 ·have e : Pl.readN d b = none := if_neg h
  rw [e, if_neg (fun q => h ⟨q.1, by rw [← nodeR_eq hn]; exact q.2.1⟩)]
theorem nput_ok (s : Sto) (hs : StoOk s) (n : NodeD) (d : Int) (h : Pl.NodeOk n) : ACall Tryz.prog 96 [.ptr 900 0 0 0, agD (nodeL n), exI .i64 d] (stoH 900 901 s) (resK (nPut s n d)) (stoH 900 901 (nPut s n d).1) := by
 unfold nPut
 cases hr : Pl.nodeR n d with
 | false =>
  have q := nsay_no n d h hr
  rw [if_neg (fun z => by cases z.1)]
  refine acall_on (mu := []) [] [] mixed Tryz.func96 rfl rfl rfl ?_
  conv => whnf
  repeat' ((first
  | refine ob ?_
  | refine ⟨_, _, _, .gen [] _ _ _ rfl (q) rfl rfl rfl rfl rfl, ?_⟩
  | ((refine ⟨_, _, _, .gen [] _ _ _ rfl (.arg ?harg (q)) rfl rfl rfl rfl rfl, ?_⟩); case harg => (repeat' (first | exact sm | apply And.intro))) | (refine And.intro (fun hq => ?_) (fun hq => ?_) <;> first | exact cl1 | ((try simp only [bl] at hq); (try dsimp only at hq); first | exact cl2 | skip))
  | refine fun hq => ?_ | refine ob2 ?_ | fail) <;> conv => whnf)
  all_goals (repeat' (first | exact sm | apply And.intro))
 | true =>
  have q := nsay_ok n d h hr
  obtain ⟨D, rfl, hrt⟩ := Pl.nodeR_rt hr
  by_cases hz : (Pl.sayN n).size ≤ 1048576
  ·rw [if_pos ⟨rfl, hz⟩]
   rw [if_pos hz] at q
   have q2 := nencode_ok n D (nodeS_of h) (by rw [nodeR_eq h]; exact hr) (nodeW_of h hrt)
   have q3 := cppput s hs (Pl.nodeB n) (Pl.nodeB_isB hrt h) (by have := Pl.nodeB_len hrt h; omega)
   refine acall_on (mu := []) [] [] mixed Tryz.func96 rfl rfl rfl ?_
   conv => whnf
   repeat' ((first
   | refine ob ?_
   | refine ⟨_, _, _, .gen [] _ _ _ rfl (q) rfl rfl rfl rfl rfl, ?_⟩
   | refine ⟨_, _, _, .gen [] _ _ _ rfl (q2) rfl rfl rfl rfl rfl, ?_⟩
   | refine ⟨_, _, _, .gen [901,900] _ _ _ rfl (q3) rfl rfl rfl rfl rfl, ?_⟩
   | ((refine ⟨_, _, _, .gen [] _ _ _ rfl (.arg ?harg (q)) rfl rfl rfl rfl rfl, ?_⟩); case harg => (repeat' (first | exact sm | apply And.intro)))
   | ((refine ⟨_, _, _, .gen [] _ _ _ rfl (.arg ?harg (q2)) rfl rfl rfl rfl rfl, ?_⟩); case harg => (repeat' (first | exact sm | apply And.intro)))
   | ((refine ⟨_, _, _, .gen [901,900] _ _ _ rfl (.arg ?harg (q3)) rfl rfl rfl rfl rfl, ?_⟩); case harg => (repeat' (first | exact sm | apply And.intro))) | (refine And.intro (fun hq => ?_) (fun hq => ?_) <;> first | exact cl1 | ((try simp only [bl] at hq); (try dsimp only at hq); first | exact cl2 | skip))
   | refine fun hq => ?_ | refine ob2 ?_ | fail) <;> conv => whnf)
   all_goals (repeat' (first | exact sm | apply And.intro))
  ·rw [if_neg (fun z => hz z.2)]
   rw [if_neg hz] at q
   refine acall_on (mu := []) [] [] mixed Tryz.func96 rfl rfl rfl ?_
   conv => whnf
   repeat' ((first
   | refine ob ?_
   | refine ⟨_, _, _, .gen [] _ _ _ rfl (q) rfl rfl rfl rfl rfl, ?_⟩
   | ((refine ⟨_, _, _, .gen [] _ _ _ rfl (.arg ?harg (q)) rfl rfl rfl rfl rfl, ?_⟩); case harg => (repeat' (first | exact sm | apply And.intro))) | (refine And.intro (fun hq => ?_) (fun hq => ?_) <;> first | exact cl1 | ((try simp only [bl] at hq); (try dsimp only at hq); first | exact cl2 | skip))
   | refine fun hq => ?_ | refine ob2 ?_ | fail) <;> conv => whnf)
   all_goals (repeat' (first | exact sm | apply And.intro))
def nodeZ : List DV := [.v (.int .u8 0), .v (.slice none 0 0), .v (.slice none 0 0)]
def resG : Option NodeD → AV
 | some n => .tup [agD (nodeL n), exI .i64 0]
 | none => .tup [agD nodeZ, exI .i64 21]
theorem nget_ok (s : Sto) (hs : StoOk s) (k : KidD) (d : Int) (h : Pl.KidOk k) : ACall Tryz.prog 31 [.ptr 900 0 0 0, agD (kidL k), exI .i64 d] (stoH 900 901 s) (resG (nGet s k d)) (stoH 900 901 s) := by
 have q1 := cppget s hs k.sum h.s h.sB
 unfold nGet
 cases hg : s.get k.sum with
 | none =>
  rw [hg] at q1
  refine acall_on (mu := []) [] [] mixed Tryz.func31 rfl rfl rfl ?_
  conv => whnf
  repeat' ((first
  | refine ob ?_
  | refine ⟨_, _, _, .gen [901,900] _ _ _ rfl (q1) rfl rfl rfl rfl rfl, ?_⟩
  | ((refine ⟨_, _, _, .gen [901,900] _ _ _ rfl (.arg ?harg (q1)) rfl rfl rfl rfl rfl, ?_⟩); case harg => (repeat' (first | exact sm | apply And.intro))) | (refine And.intro (fun hq => ?_) (fun hq => ?_) <;> first | exact cl1 | ((try simp only [bl] at hq); (try dsimp only at hq); first | exact cl2 | skip))
  | refine fun hq => ?_ | refine ob2 ?_ | fail) <;> conv => whnf)
  all_goals (repeat' (first | exact sm | apply And.intro))
 | some b =>
  rw [hg] at q1
  obtain ⟨hm, _⟩ := Sto.get_some hg
  obtain ⟨hB, hl⟩ := hs.b b hm
  have q2 := ndecode_any d b hB (by omega)
  rw [decN_eq hB] at q2
  dsimp only
  cases hd : Pl.readN d b with
  | none =>
   rw [hd] at q2
   refine acall_on (mu := []) [] [] mixed Tryz.func31 rfl rfl rfl ?_
   conv => whnf
   repeat' ((first
   | refine ob ?_
   | refine ⟨_, _, _, .gen [901,900] _ _ _ rfl (q1) rfl rfl rfl rfl rfl, ?_⟩
   | refine ⟨_, _, _, .gen [] _ _ _ rfl (q2) rfl rfl rfl rfl rfl, ?_⟩
   | ((refine ⟨_, _, _, .gen [901,900] _ _ _ rfl (.arg ?harg (q1)) rfl rfl rfl rfl rfl, ?_⟩); case harg => (repeat' (first | exact sm | apply And.intro)))
   | ((refine ⟨_, _, _, .gen [] _ _ _ rfl (.arg ?harg (q2)) rfl rfl rfl rfl rfl, ?_⟩); case harg => (repeat' (first | exact sm | apply And.intro))) | (refine And.intro (fun hq => ?_) (fun hq => ?_) <;> first | exact cl1 | ((try simp only [bl] at hq); (try dsimp only at hq); first | exact cl2 | skip))
   | refine fun hq => ?_ | refine ob2 ?_ | fail) <;> conv => whnf)
   all_goals (repeat' (first | exact sm | apply And.intro))
  | some n =>
   rw [hd] at q2
   dsimp only
   obtain ⟨hb, hr, hn⟩ := Pl.readN_inv hB hd
   obtain ⟨D, rfl, hrt⟩ := Pl.nodeR_rt hr
   have q3 := nsay_ok n D hn hr
   have ho := Pl.sayN_ok hrt hn
   have q4 := nsame_any (Pl.sayN n) k ⟨ho.lo, ho.hi, ho.key⟩
   rw [kidS_eq ho.s h.s] at q4
   by_cases hz : (Pl.sayN n).size ≤ 1048576
   ·rw [if_pos hz] at q3
    by_cases he : Pl.sayN n = k
    ·rw [if_pos ⟨hz, he⟩]
     rw [decide_eq_true he] at q4
     refine acall_on (mu := []) [] [] mixed Tryz.func31 rfl rfl rfl ?_
     conv => whnf
     repeat' ((first
     | refine ob ?_
     | refine ⟨_, _, _, .gen [901,900] _ _ _ rfl (q1) rfl rfl rfl rfl rfl, ?_⟩
     | refine ⟨_, _, _, .gen [] _ _ _ rfl (q2) rfl rfl rfl rfl rfl, ?_⟩
     | refine ⟨_, _, _, .gen [] _ _ _ rfl (q3) rfl rfl rfl rfl rfl, ?_⟩
     | refine ⟨_, _, _, .flat _ _ rfl (q4) rfl, ?_⟩
     | ((refine ⟨_, _, _, .gen [901,900] _ _ _ rfl (.arg ?harg (q1)) rfl rfl rfl rfl rfl, ?_⟩); case harg => (repeat' (first | exact sm | apply And.intro)))
     | ((refine ⟨_, _, _, .gen [] _ _ _ rfl (.arg ?harg (q2)) rfl rfl rfl rfl rfl, ?_⟩); case harg => (repeat' (first | exact sm | apply And.intro)))
     | ((refine ⟨_, _, _, .gen [] _ _ _ rfl (.arg ?harg (q3)) rfl rfl rfl rfl rfl, ?_⟩); case harg => (repeat' (first | exact sm | apply And.intro)))
     | ((refine ⟨_, _, _, .flat _ _ rfl (.arg ?harg (q4)) rfl, ?_⟩); case harg => (repeat' (first | exact sm | apply And.intro))) | (refine And.intro (fun hq => ?_) (fun hq => ?_) <;> first | exact cl1 | ((try simp only [bl] at hq); (try dsimp only at hq); first | exact cl2 | skip))
     | refine fun hq => ?_ | refine ob2 ?_ | fail) <;> conv => whnf)
     all_goals (repeat' (first | exact sm | apply And.intro))
    ·rw [if_neg (fun z => he z.2)]
     rw [decide_eq_false he] at q4
     refine acall_on (mu := []) [] [] mixed Tryz.func31 rfl rfl rfl ?_
     conv => whnf
     repeat' ((first
     | refine ob ?_
     | refine ⟨_, _, _, .gen [901,900] _ _ _ rfl (q1) rfl rfl rfl rfl rfl, ?_⟩
     | refine ⟨_, _, _, .gen [] _ _ _ rfl (q2) rfl rfl rfl rfl rfl, ?_⟩
     | refine ⟨_, _, _, .gen [] _ _ _ rfl (q3) rfl rfl rfl rfl rfl, ?_⟩
     | refine ⟨_, _, _, .flat _ _ rfl (q4) rfl, ?_⟩
     | ((refine ⟨_, _, _, .gen [901,900] _ _ _ rfl (.arg ?harg (q1)) rfl rfl rfl rfl rfl, ?_⟩); case harg => (repeat' (first | exact sm | apply And.intro)))
     | ((refine ⟨_, _, _, .gen [] _ _ _ rfl (.arg ?harg (q2)) rfl rfl rfl rfl rfl, ?_⟩); case harg => (repeat' (first | exact sm | apply And.intro)))
     | ((refine ⟨_, _, _, .gen [] _ _ _ rfl (.arg ?harg (q3)) rfl rfl rfl rfl rfl, ?_⟩); case harg => (repeat' (first | exact sm | apply And.intro)))
     | ((refine ⟨_, _, _, .flat _ _ rfl (.arg ?harg (q4)) rfl, ?_⟩); case harg => (repeat' (first | exact sm | apply And.intro))) | (refine And.intro (fun hq => ?_) (fun hq => ?_) <;> first | exact cl1 | ((try simp only [bl] at hq); (try dsimp only at hq); first | exact cl2 | skip))
     | refine fun hq => ?_ | refine ob2 ?_ | fail) <;> conv => whnf)
     all_goals (repeat' (first | exact sm | apply And.intro))
   ·rw [if_neg hz] at q3
    rw [if_neg (fun z => hz z.1)]
    refine acall_on (mu := []) [] [] mixed Tryz.func31 rfl rfl rfl ?_
    conv => whnf
    repeat' ((first
    | refine ob ?_
    | refine ⟨_, _, _, .gen [901,900] _ _ _ rfl (q1) rfl rfl rfl rfl rfl, ?_⟩
    | refine ⟨_, _, _, .gen [] _ _ _ rfl (q2) rfl rfl rfl rfl rfl, ?_⟩
    | refine ⟨_, _, _, .gen [] _ _ _ rfl (q3) rfl rfl rfl rfl rfl, ?_⟩
    | refine ⟨_, _, _, .flat _ _ rfl (q4) rfl, ?_⟩
    | ((refine ⟨_, _, _, .gen [901,900] _ _ _ rfl (.arg ?harg (q1)) rfl rfl rfl rfl rfl, ?_⟩); case harg => (repeat' (first | exact sm | apply And.intro)))
    | ((refine ⟨_, _, _, .gen [] _ _ _ rfl (.arg ?harg (q2)) rfl rfl rfl rfl rfl, ?_⟩); case harg => (repeat' (first | exact sm | apply And.intro)))
    | ((refine ⟨_, _, _, .gen [] _ _ _ rfl (.arg ?harg (q3)) rfl rfl rfl rfl rfl, ?_⟩); case harg => (repeat' (first | exact sm | apply And.intro)))
    | ((refine ⟨_, _, _, .flat _ _ rfl (.arg ?harg (q4)) rfl, ?_⟩); case harg => (repeat' (first | exact sm | apply And.intro))) | (refine And.intro (fun hq => ?_) (fun hq => ?_) <;> first | exact cl1 | ((try simp only [bl] at hq); (try dsimp only at hq); first | exact cl2 | skip))
    | refine fun hq => ?_ | refine ob2 ?_ | fail) <;> conv => whnf)
    all_goals (repeat' (first | exact sm | apply And.intro))
end Go.Proofs.YtedokpgkjcnoiaaGreat
namespace Go.Proofs.YtedokpgkjcnoiaaGreat
open Go.RowKit Go.Sort Go.Shelf
open Go.Proofs (SlLaysF.n6 CmpLays1 ltOf)
abbrev Rw := List Int
structure Lies (w : World) (blk d : Nat) (x : Value × Rw) : Prop where
 len : x.2.length = d
 val : ∃ A c, x.1 = .slice A x.2.length c ∧ (0 < x.2.length → ∃ b off, A = some ⟨b, off, none⟩ ∧ b < w.heap.size ∧ b ≠ blk ∧ ∀ i, i < x.2.length → w.cell? ⟨b, off + i, none⟩ = some (i64s x.2 i))
theorem Lies.arr {w W : World} {blk d : Nat} {x : Value × Rw} (h : Lies w blk d x) (hW : ∀ k, k < w.heap.size → k ≠ blk → W.heap[k]? = w.heap[k]?) : ∃ A c, x.1 = .slice A x.2.length c ∧ Arr W w.heap.size A x.2.length (i64s x.2) := by
 obtain ⟨A, c, e, h1⟩ := h.val
 refine ⟨A, c, e, fun hn => ?_⟩
 obtain ⟨b, off, rfl, hb, hne, hc⟩ := h1 hn
 exact ⟨b, off, rfl, hb, fun i hi => (World.cell?_of_block (w := w) (a := ⟨b, off + i, none⟩) (hW b hb hne)).trans (hc i hi)⟩
theorem sortWorld_other {α : Type} [Inhabited α] (enc : α → Value) (w : World) (blk off m : Nat) (dk : Array α) (os : Array Obj) (k : Nat) (hk : k < w.heap.size) (hne : k ≠ blk) : (Go.Proofs.sortWorld enc w blk off m dk os).heap[k]? = w.heap[k]? := by
 unfold Go.Proofs.sortWorld
 rw [heap_grow_old _ _ (by unfold putRow mapBlock Sort.ahead; simpa using hk)]
 unfold putRow mapBlock Sort.ahead
 simp only [Array.getElem?_modify]
 rw [if_neg (fun q => hne q.symm)]
section
variable {P : Program} {ρ : Ren}
theorem sort_core (Ly : SlLaysF.n6 P ρ) (lt : Rw → Rw → Bool) (d : Nat) (H : Kd.Tot lt (fun r => r.length = d)) (g : Nat) (cb : Array Value) (eg : ∀ args w, (callFunc g args).run P w = .ok (.enter g args) w)
    (w : World) (blk cap : Nat) (rows : List (Value × Rw)) (hne : rows ≠ []) (hb : blk < w.heap.size) (hsz : rows.length ≤ 2000000) (good : ∀ x ∈ rows, Lies w blk d x)
    (cur : Array Value) (ty : TypeId) (hheap : w.heap[blk]? = some (.cells cur ty (0, 0))) (hcur : ∀ j, j < rows.length → cur[j]? = some (rows.getD j (.bool false, [])).1)
    (hcmp : ∀ W : World, (∀ k, k < w.heap.size → k ≠ blk → W.heap[k]? = w.heap[k]?) → ∀ x y, Lies w blk d x → Lies w blk d y → Calls P g (#[x.1, y.1] ++ cb) W fun e w' => e = .returned (.int .i64 (Kd.cmpL lt x.2 y.2)) ∧ ∃ q, w' = W.drewN q) :
    Calls P (ρ.f 6) #[.slice (some ⟨blk, 0, none⟩) rows.length cap, .func (.func g) #[] cb] w fun e w' => e = .returned (.tuple #[]) ∧ ∃ (rows' : List (Value × Rw)) (cur' : Array Value), rows'.Perm rows ∧ rows'.map Prod.snd = Kd.isort lt (rows.map Prod.snd) ∧
      w'.heap[blk]? = some (.cells cur' ty (0, 0)) ∧ cur'.size = cur.size ∧ (∀ j, j < rows.length → cur'[j]? = some (rows'.getD j (.bool false, [])).1) ∧
      w.heap.size ≤ w'.heap.size ∧ (∀ k, k < w.heap.size → k ≠ blk → w'.heap[k]? = w.heap[k]?) ∧ w'.os = w.os ∧ w'.tape = w.tape ∧ w'.output = w.output := by
  obtain ⟨x0, hx0⟩ := List.exists_mem_of_ne_nil rows hne
  let α := { x : Value × Rw // Lies w blk d x }
  letI : Inhabited α := ⟨⟨x0, good x0 hx0⟩⟩
  let enc : α → Value := fun x => x.1.1
  let cf : α → α → Int := fun x y => Kd.cmpL lt x.1.2 y.1.2
  let ds : Array α := (rows.attach.map fun x => (⟨x.1, good x.1 x.2⟩ : α)).toArray
  have hds : ds.toList.map Subtype.val = rows := by
    show ((rows.attach.map fun x => (⟨x.1, good x.1 x.2⟩ : α)).toArray.toList).map Subtype.val = rows
    rw [List.map_map]
    exact List.attach_map_subtype_val rows
  have hsize : ds.size = rows.length := by simp [ds]
  have hget : ∀ (D : Array α) j, j < D.size → (D.toList.map Subtype.val).getD j (.bool false, []) = (D[j]!).1 := fun D j hj => by
    rw [List.getD_eq_getElem?_getD, List.getElem?_map, getElem!_pos D j hj]
    simp [hj]
  have hO : SWO (ltOf cf) := by
    have e : ∀ x y : α, ltOf cf x y = lt x.1.2 y.1.2 := fun x y => by
      show decide (Kd.cmpL lt x.1.2 y.1.2 < 0) = _
      rw [Bool.eq_iff_iff, decide_eq_true_iff, Kd.cmpL_neg]
    refine ⟨fun x => ?_, fun x y z => ?_, fun x y z => ?_⟩
    · rw [e]; exact H.ir _
    · rw [e, e, e]; exact H.tr _ _ _ x.2.len y.2.len z.2.len
    · rw [e, e, e]
      intro h1 h2
      cases q : lt x.1.2 z.1.2 with
      | false => rfl
      | true =>
        cases r : lt y.1.2 x.1.2 with
        | true => have := H.tr _ _ _ y.2.len x.2.len z.2.len r q; rw [h2] at this; cases this
        | false => have := H.tot _ _ x.2.len y.2.len h1 r; rw [this, h2] at q; cases q
  have hC : CmpLays1 P g cb enc cf blk 0 ds.size w := fun m os dk _ x y => (hcmp _ (fun k hk hne => sortWorld_other enc w blk 0 m dk os k hk hne) x.1 y.1 x.2 y.2).mono fun e w' ⟨he, q, hq⟩ => ⟨he, q, #[], by rw [hq, grow_empty]⟩
  have hHo : Holds enc w blk 0 ds := fun j hj => by
    have h1 := hcur j (by omega)
    have h2 := hget ds j hj
    rw [hds] at h2
    rw [h2] at h1
    refine ⟨?_, ?_⟩
    · unfold World.cell?
      simp only [hheap, Option.isSome_none, Nat.zero_add]
      exact h1
    · unfold World.frozen?
      simp [hheap]
  have h1 : OneCell enc := fun x => by
    obtain ⟨A, c, e, _⟩ := x.2.val
    show x.1.1.oneCell' = true
    rw [e]; rfl
  have := Go.Proofs.Any.slices_SortFunc Ly enc h1 cf hO g cb blk 0 cap ds w eg hC hHo hb (by omega)
  rw [hsize] at this
  refine this.mono ?_
  rintro e w' ⟨rfl, d', n, os, hp, hs, rfl⟩
  obtain ⟨p1, p2, p3⟩ := hp
  have ez : ∀ D : Array α, D.size = rows.length → D.extract 0 rows.length = D := fun D hD => by rw [← hD]; simp
  rw [ez d' (by omega), ez ds hsize] at p3
  have perm : (d'.toList.map Subtype.val).Perm rows := by rw [← hds]; exact p3.map _
  refine ⟨rfl, d'.toList.map Subtype.val, putCells enc 0 d' cur, perm, ?_, ?_, ?_, fun j hj => ?_, ?_, fun k hk hne => sortWorld_other enc w blk 0 n d' os k hk hne, rfl, rfl, rfl⟩
  · refine Kd.isort_one H (fun y hy => ?_) ?_ (perm.map _)
    · obtain ⟨x, hx, rfl⟩ := List.mem_map.1 hy
      exact (good x hx).len
    · unfold Kd.Sd
      rw [List.map_map, List.pairwise_map]
      rw [List.pairwise_iff_getElem]
      intro i j hi hj hij
      have hi' : i < d'.size := by simpa using hi
      have hj' : j < d'.size := by simpa using hj
      have := hs i j (Nat.zero_le _) hij (by omega)
      rw [getElem!_pos d' i hi', getElem!_pos d' j hj'] at this
      have e : ltOf cf d'[j] d'[i] = lt d'[j].1.2 d'[i].1.2 := by
        show decide (Kd.cmpL lt _ _ < 0) = _
        rw [Bool.eq_iff_iff, decide_eq_true_iff, Kd.cmpL_neg]
      rw [e] at this
      simpa using this
  · unfold Go.Proofs.sortWorld
    rw [heap_grow_old _ _ (by unfold putRow mapBlock Sort.ahead; simpa using hb)]
    unfold putRow mapBlock Sort.ahead
    simp only [Array.getElem?_modify, if_true]
    rw [hheap]; rfl
  · simp [putCells]
  · have hc := hcur j hj
    have hjc : j < cur.size := by
      rcases Nat.lt_or_ge j cur.size with q | q
      · exact q
      · rw [Array.getElem?_eq_none q] at hc; cases hc
    unfold putCells
    rw [Array.getElem?_mapIdx, hc, Option.map_some, if_pos ⟨Nat.zero_le _, by omega⟩, hget d' j (by omega)]
    simp [enc]
  · unfold Go.Proofs.sortWorld
    rw [size_grow]
    unfold putRow mapBlock Sort.ahead
    simp
end
end Go.Proofs.YtedokpgkjcnoiaaGreat
namespace Go.Proofs.YtedokpgkjcnoiaaGreat
open Go.RowKit
set_option maxRecDepth 100000 in
theorem ocmp_int (x y : Int) (w : World) : Calls Tryz.prog 63 #[.int .i64 x, .int .i64 y] w fun e w' => e = .returned (.int .i64 (if x < y then -1 else if y < x then 1 else 0)) ∧ w' = w := by
 rcases Int.lt_trichotomy x y with h | h | h
 ·have t1 : decide (x < y) = true := decide_eq_true h
  have hr := hideP (show (if x < y then (-1 : Int) else if y < x then 1 else 0) = -1 from if_pos h)
  go_enter Tryz.func63, Tryz.ntmps63
  go_wp2
  go_ret
  exact ⟨rfl, rfl⟩
 ·subst h
  have hr := hideP (show (if x < x then (-1 : Int) else if x < x then 1 else 0) = 0 by rw [if_neg (by omega), if_neg (by omega)])
  go_enter Tryz.func63, Tryz.ntmps63
  go_wp2
  go_ret
  exact ⟨rfl, rfl⟩
 ·have t1 : decide (x < y) = false := decide_eq_false (by omega)
  have t2 : decide (x > y) = true := decide_eq_true h
  have hr := hideP (show (if x < y then (-1 : Int) else if y < x then 1 else 0) = 1 by rw [if_neg (by omega), if_pos h])
  go_enter Tryz.func63, Tryz.ntmps63
  go_wp2
  go_ret
  exact ⟨rfl, rfl⟩
theorem lex_at : ∀ (i : Nat) (l m : List Int), l.take i = m.take i → i < l.length → i < m.length → l.getD i 0 < m.getD i 0 → Kd.lexLt l m = true
 | 0, x :: l, y :: m, _, _, _, h => by
  simp only [List.getD_cons_zero] at h
  simp [Kd.lexLt, h]
 | i + 1, x :: l, y :: m, h, h1, h2, h3 => by
  simp only [List.take_succ_cons, List.cons.injEq] at h
  simp only [List.getD_cons_succ] at h3
  have := lex_at i l m h.2 (by simpa using h1) (by simpa using h2) h3
  simp [Kd.lexLt, h.1, this]
 | i, [], m, _, h1, _, _ => by simp at h1
 | i, _ :: _, [], _, _, h2, _ => by simp at h2
theorem cmp_at {l m : List Int} {i : Nat} (h : l.take i = m.take i) (h1 : i < l.length) (h2 : i < m.length) (hne : l.getD i 0 ≠ m.getD i 0) : Kd.cmpL Kd.lexLt l m = if l.getD i 0 < m.getD i 0 then -1 else 1 := by
 unfold Kd.cmpL
 rcases Int.lt_or_gt_of_ne hne with q | q
 ·rw [if_pos (lex_at i l m h h1 h2 q), if_pos q]
 ·have k := lex_at i m l h.symm h2 h1 q
  have : Kd.lexLt l m = false := by
   cases e : Kd.lexLt l m with
   | false => rfl
   | true => have := Kd.lexLt_tr _ _ _ e k; rw [Kd.lexLt_ir] at this; cases this
  rw [this, if_neg (by decide), if_pos k, if_neg (by omega)]
theorem cmp_self (l : List Int) : Kd.cmpL Kd.lexLt l l = 0 := by
 unfold Kd.cmpL
 rw [Kd.lexLt_ir, if_neg (by decide), if_neg (by decide)]
theorem take_up {l m : List Int} {k : Nat} (h : l.take k = m.take k) (h1 : k < l.length) (h2 : k < m.length) (e : l.getD k 0 = m.getD k 0) : l.take (k + 1) = m.take (k + 1) := by
 rw [List.take_add_one, List.take_add_one, h, List.getElem?_eq_getElem h1, List.getElem?_eq_getElem h2]
 rw [List.getD_eq_getElem?_getD, List.getD_eq_getElem?_getD, List.getElem?_eq_getElem h1, List.getElem?_eq_getElem h2] at e
 have e : l[k] = m[k] := e
 rw [e]
set_option maxRecDepth 100000 in
set_option maxHeartbeats 1000000 in
theorem ocompare (A B : Option Addr) (l m : List Int) (c d Z : Nat) (w : World) (hA : Arr w Z A l.length (i64s l)) (hB : Arr w Z B m.length (i64s m)) (hlm : m.length = l.length) (h1 : l.length ≤ 1000000) :
    Calls Tryz.prog 36 #[.slice A l.length c, .slice B m.length d] w fun e w' => e = .returned (.int .i64 (Kd.cmpL Kd.lexLt l m)) ∧ w' = w := by
  obtain ⟨RS, hRS⟩ : ∃ RS, RS = Kd.cmpL Kd.lexLt l m := ⟨_, rfl⟩
  rw [← hRS]
  have hneg : ∀ i, l.take i = m.take i → i < l.length → l.getD i 0 < m.getD i 0 → RS = -1 := fun i h h2 h3 => by rw [hRS, cmp_at h h2 (by omega) (by omega), if_pos h3]
  have hpos : ∀ i, l.take i = m.take i → i < l.length → m.getD i 0 < l.getD i 0 → RS = 1 := fun i h h2 h3 => by rw [hRS, cmp_at h h2 (by omega) (by omega), if_neg (by omega)]
  have hzero : l.take l.length = m.take l.length → RS = 0 := fun h => by
    have : l = m := by rw [List.take_length, List.take_of_length_le (by omega)] at h; exact h
    rw [hRS, this, cmp_self]
  have hup : ∀ k, l.take k = m.take k → k < l.length → l.getD k 0 = m.getD k 0 → l.take (k + 1) = m.take (k + 1) := fun k h h2 h3 => take_up h h2 (by omega) h3
  rw [hlm] at hB ⊢
  obtain ⟨n, hn⟩ : ∃ n, n = l.length := ⟨_, rfl⟩
  rw [← hn] at hA hB h1 hneg hpos hzero hup ⊢
  clear hRS hlm hn
  have HhA := hideP hA; have HhB := hideP hB; have Hhneg := hideP hneg; have Hhpos := hideP hpos; have Hhzero := hideP hzero; have Hhup := hideP hup; clear hA hB hneg hpos hzero hup
  go_enter Tryz.func36, Tryz.ntmps36
  go_wp2_with fail
  go_loopw [11] (fun v11 wr => ∃ i : Nat, i ≤ n ∧ v11 = .int .i64 (i : Nat) ∧ Hid (l.take i = m.take i ∧ wr = w)) (fun v11 _ => n - (intOf v11).toNat)
  case atStart => exact ⟨0, Nat.zero_le _, rfl, rfl, rfl⟩
  case round =>
    obtain ⟨i, hi, rfl, hV⟩ := hrel
    by_cases hlt : i < n
    · have i1 : (i : Int) < (n : Int) := by omega
      have i2 : ¬ ((n : Int) ≤ (i : Int)) := by omega
      obtain ⟨b0, off, rfl, hB0, hc⟩ := HhA.out (by omega)
      obtain ⟨b1, of1, rfl, hB1, hd⟩ := HhB.out (by omega)
      have c0 := hc i hlt
      have c1 := hd i hlt
      rw [← hV.out.2] at c0 c1
      unfold i64s at c0 c1
      have k1 := hideP (Hhneg.out i hV.out.1 hlt)
      have k2 := hideP (Hhpos.out i hV.out.1 hlt)
      have k3 := hideP (Hhup.out i hV.out.1 hlt)
      obtain ⟨x, hx⟩ : ∃ x, x = l.getD i 0 := ⟨_, rfl⟩
      obtain ⟨y, hy⟩ : ∃ x, x = m.getD i 0 := ⟨_, rfl⟩
      rw [← hx] at c0 k1 k2 k3
      rw [← hy] at c1 k1 k2 k3
      clear hx hy hc hd
      rcases Int.lt_trichotomy x y with q | q | q
      · have r := hideP (k1.out q)
        have e1 : (if x < y then (-1 : Int) else if y < x then 1 else 0) = -1 := if_pos q
        have cc := ocmp_int x y
        rw [e1] at cc
        have Hcc := hideP cc
        clear q k1 k2 k3 e1 cc
        go_wp2_with (go_at_call 63; refine (Hcc.out _).mono ?_; rintro e w' ⟨rfl, rfl⟩)
        go_ret
        exact ⟨by rw [r.out]; rfl, hV.out.2⟩
      · have r := hideP (k3.out q)
        have e1 : (if x < y then (-1 : Int) else if y < x then 1 else 0) = 0 := by rw [if_neg (by omega), if_neg (by omega)]
        have cc := ocmp_int x y
        rw [e1] at cc
        have Hcc := hideP cc
        clear q k1 k2 k3 e1 cc
        go_wp2_with (go_at_call 63; refine (Hcc.out _).mono ?_; rintro e w' ⟨rfl, rfl⟩)
        go_roundw
        case rel => exact ⟨i + 1, by omega, by go_num, r.out, hV.out.2⟩
        case measure => simp [intOf]; omega
      · have r := hideP (k2.out q)
        have e1 : (if x < y then (-1 : Int) else if y < x then 1 else 0) = 1 := by rw [if_neg (by omega), if_pos q]
        have cc := ocmp_int x y
        rw [e1] at cc
        have Hcc := hideP cc
        clear q k1 k2 k3 e1 cc
        go_wp2_with (go_at_call 63; refine (Hcc.out _).mono ?_; rintro e w' ⟨rfl, rfl⟩)
        go_ret
        exact ⟨by rw [r.out]; rfl, hV.out.2⟩
    · obtain rfl : n = i := by omega
      have i1 : ¬ ((n : Int) < (n : Int)) := by omega
      have r := hideP (Hhzero.out hV.out.1)
      go_wp2_with fail
      go_ret
      exact ⟨by rw [r.out]; rfl, hV.out.2⟩
theorem cmp_ltAt (a : Nat) (l m : List Int) : Kd.cmpL (Kd.ltAt a) l m = if l.getD a 0 < m.getD a 0 then -1 else if m.getD a 0 < l.getD a 0 then 1 else Kd.cmpL Kd.lexLt l m := by
 unfold Kd.cmpL Kd.ltAt
 generalize l.getD a 0 = x
 generalize m.getD a 0 = y
 simp only [Bool.or_eq_true, Bool.and_eq_true, decide_eq_true_eq]
 rcases Int.lt_trichotomy x y with q | q | q
 ·rw [if_pos (.inl q), if_pos q]
 ·subst q
  simp
 ·rw [if_neg (by omega), if_pos (.inl q), if_neg (by omega), if_pos q]
set_option maxRecDepth 100000 in
set_option maxHeartbeats 1000000 in
theorem oorder (A B : Option Addr) (l m : List Int) (c d Z g o a : Nat) (w : World) (hA : Arr w Z A l.length (i64s l)) (hB : Arr w Z B m.length (i64s m)) (hlm : m.length = l.length) (h1 : l.length ≤ 1000000) (ha : a < l.length) (hc : w.cell? ⟨g, o, none⟩ = some (.int .i64 (a : Nat))) :
    Calls Tryz.prog 95 #[.slice A l.length c, .slice B m.length d, .pointer (some ⟨g, o, none⟩)] w fun e w' => e = .returned (.int .i64 (Kd.cmpL (Kd.ltAt a) l m)) ∧ ∃ q, w' = w.drewN q := by
  have hcm := fun w hA hB => ocompare A B l m c d Z w hA hB hlm h1
  obtain ⟨RS, hRS⟩ : ∃ RS, RS = Kd.cmpL (Kd.ltAt a) l m := ⟨_, rfl⟩
  obtain ⟨R2, hR2⟩ : ∃ RS, RS = Kd.cmpL Kd.lexLt l m := ⟨_, rfl⟩
  have hr := cmp_ltAt a l m
  rw [← hRS, ← hR2] at hr
  rw [← hRS]
  rw [← hR2] at hcm
  obtain ⟨b0, off, rfl, hB0, hc0⟩ := hA (by omega)
  obtain ⟨b1, of1, rfl, hB1, hc1⟩ := hB (by omega)
  have c0 := hc0 a ha
  have c1 := hc1 a (by omega)
  unfold i64s at c0 c1
  rw [hlm] at hcm hB ⊢
  obtain ⟨n, hn⟩ : ∃ n, n = l.length := ⟨_, rfl⟩
  rw [← hn] at hA hB hcm ha ⊢
  obtain ⟨x, hx⟩ : ∃ x, x = l.getD a 0 := ⟨_, rfl⟩
  obtain ⟨y, hy⟩ : ∃ x, x = m.getD a 0 := ⟨_, rfl⟩
  rw [← hx] at c0 hr
  rw [← hy] at c1 hr
  clear hx hy hlm hn hc0 hc1 hRS hR2
  have a1 : (a : Int) < (n : Int) := by omega
  have cc := ocmp_int x y
  have HhA := hideP hA; have HhB := hideP hB; have Hhcm := hideP hcm; clear hA hB hcm
  rcases Int.lt_trichotomy x y with q | q | q
  · have e1 : (if x < y then (-1 : Int) else if y < x then 1 else 0) = -1 := if_pos q
    rw [e1] at cc
    have r := hideP (show RS = -1 by rw [hr, if_pos q])
    have Hcc := hideP cc
    clear q e1 hr cc
    go_enter Tryz.func95, Tryz.ntmps95
    go_wp2_with fail
    go_quiet (first | (go_at_call 63; exact Calls.quiet_of_same (Hcc.out _)))
    go_wp2_with fail
    go_ret
    exact ⟨by rw [r.out]; rfl, _, rfl⟩
  · have e1 : (if x < y then (-1 : Int) else if y < x then 1 else 0) = 0 := by rw [if_neg (by omega), if_neg (by omega)]
    rw [e1] at cc
    have r := hideP (show RS = R2 by rw [hr, if_neg (by omega), if_neg (by omega)])
    have Hcc := hideP cc
    clear q e1 hr cc
    go_enter Tryz.func95, Tryz.ntmps95
    go_wp2_with fail
    go_quiet (first | (go_at_call 63; exact Calls.quiet_of_same (Hcc.out _)))
    have z1 := hideP (show Arr (w.drewN nq) Z (some ⟨b0, off, none⟩) n (i64s l) from HhA.out)
    have z2 := hideP (show Arr (w.drewN nq) Z (some ⟨b1, of1, none⟩) n (i64s m) from HhB.out)
    go_wp2_with (go_at_call 36; refine (Hhcm.out _ z1.out z2.out).mono ?_; rintro e w' ⟨rfl, rfl⟩)
    go_ret
    exact ⟨by rw [r.out]; rfl, _, rfl⟩
  · have e1 : (if x < y then (-1 : Int) else if y < x then 1 else 0) = 1 := by rw [if_neg (by omega), if_pos q]
    rw [e1] at cc
    have r := hideP (show RS = 1 by rw [hr, if_neg (by omega), if_pos q])
    have Hcc := hideP cc
    clear q e1 hr cc
    go_enter Tryz.func95, Tryz.ntmps95
    go_wp2_with fail
    go_quiet (first | (go_at_call 63; exact Calls.quiet_of_same (Hcc.out _)))
    go_wp2_with fail
    go_ret
    exact ⟨by rw [r.out]; rfl, _, rfl⟩
end Go.Proofs.YtedokpgkjcnoiaaGreat
