/- node.every at entries and kids. Nodes, as data and in memory; the closures of node.Right. -/
import Derived.Test.YtgcbodpjidoanaaQ19
import Derived.Test.YtgcbodpjidoanaaQ26
set_option linter.unusedVariables false
set_option linter.unusedSimpArgs false
namespace Go.Proofs.Ytgcbodpjidoanaa
open Go.RowKit

set_option maxRecDepth 100000 in
set_option maxHeartbeats 1000000 in
theorem enix_any (A : Option Addr) (n c s : Nat) (cs : Nat → List Value) (p : Nat → Bool) (fv : Value) (fn : Nat) (caps : Array Value) (hfv : fv = .func (.func fn) #[] caps) (w : World) (hA : ArrC w w.heap.size A n 2 cs) (hlen : ∀ i, i < n → (cs i).length = 2) (hn : n ≤ 1000000000)
    (henter : ∀ args W, (callFunc fn args).run Try.prog W = .ok (.enter fn args) W)
    (hside : ∀ (i : Nat) (W : World), i < n → Below w.heap.size w W → Calls Try.prog fn (#[.agg (cs i).toArray] ++ caps) W fun e W' => e = .returned (.bool (p i)) ∧ Below W.heap.size W W') :
    Calls Try.prog 256 #[.slice A n c, fv] w fun e w' => ((∃ k : Nat, e = .returned (.int .i64 k) ∧ k < n ∧ p k = true ∧ anyTo p k = false) ∨ (e = .returned (.int .i64 (-1)) ∧ anyTo p n = false)) ∧ Below w.heap.size w w' := by
  subst hfv
  have HS := hideP hside
  have hsz := hideP (show (Try.prog.info? 56).map (·.size) = some 2 by kernel_rfl)
  have HhA := hideP hA; have Hhlen := hideP hlen; clear hA hlen
  clear hside
  go_enter Try.func256, Try.ntmps256
  go_wp2_with fail
  go_loopw [8] (fun v8 wr => ∃ k : Nat, k ≤ n ∧ v8 = .int .i64 (k : Nat) ∧ Hid (anyTo p k = false ∧ Below w.heap.size w wr)) (fun v8 _ => n - (intOf v8).toNat)
  case atStart => exact ⟨0, Nat.zero_le _, rfl, rfl, Below.refl _ _⟩
  case round =>
    obtain ⟨k, hk, rfl, hV⟩ := hrel
    by_cases hlt : k < n
    · have i1 : (k : Int) < (n : Int) := by omega
      obtain ⟨b0, off, hA, hB0, hc⟩ := HhA.out (by omega)
      subst hA
      have hr := hideP (show wr.rangeAt b0 (off + k * 2) (cs k) from fun j v hv => (hV.out.2.cell (p := ⟨b0, off + k * 2 + j, none⟩) hB0).trans (hc k hlt j v hv))
      have hS := hideP (HS.out k wr hlt hV.out.2)
      have hL := Hhlen.out k hlt
      obtain ⟨C, hC⟩ : ∃ C, C = cs k := ⟨_, rfl⟩
      obtain ⟨q, hq⟩ : ∃ q, q = p k := ⟨_, rfl⟩
      rw [← hC] at hr hL
      rw [← hC, ← hq] at hS
      have Hq := hideP hq
      have HL := hideP (hsz.out.trans (congrArg some hL.symm))
      clear hC hq hc hL
      go_wp2_with (refine wpList_load_mid rfl 56 (.tmp 14) rfl b0 (off + k * 2) rfl C _ hr.out Try.underlying56 rfl HL.out ?_)
      refine hS.out.mono ?_
      rintro e w1 ⟨rfl, b1⟩
      have B1 := hideP (hV.out.2.trans (b1.mono hV.out.2.size))
      clear b1
      rcases q with _ | _
      · have hf := hideP (show anyTo p (k + 1) = false by rw [anyTo_succ, hV.out.1, ← Hq.out]; rfl)
        go_wp2_with fail
        go_roundw
        case rel => exact ⟨k + 1, by omega, by go_num, hf.out, B1.out⟩
        case measure => simp [intOf]; omega
      · go_wp2_with fail
        go_ret
        exact ⟨.inl ⟨k, rfl, hlt, Hq.out.symm, hV.out.1⟩, B1.out⟩
    · have hkn : k = n := by omega
      subst hkn
      have i1 : ¬ ((k : Int) < (k : Int)) := by omega
      go_wp2_with fail
      go_ret
      exact ⟨.inr ⟨rfl, hV.out.1⟩, hV.out.2⟩
set_option maxRecDepth 100000 in
set_option maxHeartbeats 1000000 in
theorem enco_any (A : Option Addr) (n c s : Nat) (cs : Nat → List Value) (p : Nat → Bool) (fv : Value) (fn : Nat) (caps : Array Value) (hfv : fv = .func (.func fn) #[] caps) (w : World) (hA : ArrC w w.heap.size A n 2 cs) (hlen : ∀ i, i < n → (cs i).length = 2) (hn : n ≤ 1000000000)
    (henter : ∀ args W, (callFunc fn args).run Try.prog W = .ok (.enter fn args) W)
    (hside : ∀ (i : Nat) (W : World), i < n → Below w.heap.size w W → Calls Try.prog fn (#[.agg (cs i).toArray] ++ caps) W fun e W' => e = .returned (.bool (p i)) ∧ Below W.heap.size W W') :
    Calls Try.prog 221 #[.slice A n c, fv] w fun e w' => e = .returned (.bool (anyTo p n)) ∧ Below w.heap.size w w' := by
  subst hfv
  have hT := hideP (enix_any A n c s cs p _ fn caps rfl w hA hlen hn henter hside)
  clear hA hlen henter hside
  go_enter Try.func221, Try.ntmps221
  go_wp2_with (go_at_call 256; refine hT.out.mono ?_; rintro e1 w1 ⟨(⟨k, rfl, hk, hx, _⟩ | ⟨rfl, hx⟩), b1⟩ <;> have Hx := hideP hx <;> have B1 := hideP b1 <;> clear hx b1)
  · go_ret
    exact ⟨ret_bool (anyTo_true hk Hx.out).symm, B1.out⟩
  · go_ret
    exact ⟨ret_bool Hx.out.symm, B1.out⟩
set_option maxRecDepth 100000 in
set_option maxHeartbeats 1000000 in
theorem kdix_any (A : Option Addr) (n c s : Nat) (cs : Nat → List Value) (p : Nat → Bool) (fv : Value) (fn : Nat) (caps : Array Value) (hfv : fv = .func (.func fn) #[] caps) (w : World) (hA : ArrC w w.heap.size A n 37 cs) (hlen : ∀ i, i < n → (cs i).length = 37) (hn : n ≤ 1000000000)
    (henter : ∀ args W, (callFunc fn args).run Try.prog W = .ok (.enter fn args) W)
    (hside : ∀ (i : Nat) (W : World), i < n → Below w.heap.size w W → Calls Try.prog fn (#[.agg (cs i).toArray] ++ caps) W fun e W' => e = .returned (.bool (p i)) ∧ Below W.heap.size W W') :
    Calls Try.prog 257 #[.slice A n c, fv] w fun e w' => ((∃ k : Nat, e = .returned (.int .i64 k) ∧ k < n ∧ p k = true ∧ anyTo p k = false) ∨ (e = .returned (.int .i64 (-1)) ∧ anyTo p n = false)) ∧ Below w.heap.size w w' := by
  subst hfv
  have HS := hideP hside
  have hsz := hideP (show (Try.prog.info? 43).map (·.size) = some 37 by kernel_rfl)
  have HhA := hideP hA; have Hhlen := hideP hlen; clear hA hlen
  clear hside
  go_enter Try.func257, Try.ntmps257
  go_wp2_with fail
  go_loopw [8] (fun v8 wr => ∃ k : Nat, k ≤ n ∧ v8 = .int .i64 (k : Nat) ∧ Hid (anyTo p k = false ∧ Below w.heap.size w wr)) (fun v8 _ => n - (intOf v8).toNat)
  case atStart => exact ⟨0, Nat.zero_le _, rfl, rfl, Below.refl _ _⟩
  case round =>
    obtain ⟨k, hk, rfl, hV⟩ := hrel
    by_cases hlt : k < n
    · have i1 : (k : Int) < (n : Int) := by omega
      obtain ⟨b0, off, hA, hB0, hc⟩ := HhA.out (by omega)
      subst hA
      have hr := hideP (show wr.rangeAt b0 (off + k * 37) (cs k) from fun j v hv => (hV.out.2.cell (p := ⟨b0, off + k * 37 + j, none⟩) hB0).trans (hc k hlt j v hv))
      have hS := hideP (HS.out k wr hlt hV.out.2)
      have hL := Hhlen.out k hlt
      obtain ⟨C, hC⟩ : ∃ C, C = cs k := ⟨_, rfl⟩
      obtain ⟨q, hq⟩ : ∃ q, q = p k := ⟨_, rfl⟩
      rw [← hC] at hr hL
      rw [← hC, ← hq] at hS
      have Hq := hideP hq
      have HL := hideP (hsz.out.trans (congrArg some hL.symm))
      clear hC hq hc hL
      go_wp2_with (refine wpList_load_mid rfl 43 (.tmp 14) rfl b0 (off + k * 37) rfl C _ hr.out Try.underlying43 rfl HL.out ?_)
      refine hS.out.mono ?_
      rintro e w1 ⟨rfl, b1⟩
      have B1 := hideP (hV.out.2.trans (b1.mono hV.out.2.size))
      clear b1
      rcases q with _ | _
      · have hf := hideP (show anyTo p (k + 1) = false by rw [anyTo_succ, hV.out.1, ← Hq.out]; rfl)
        go_wp2_with fail
        go_roundw
        case rel => exact ⟨k + 1, by omega, by go_num, hf.out, B1.out⟩
        case measure => simp [intOf]; omega
      · go_wp2_with fail
        go_ret
        exact ⟨.inl ⟨k, rfl, hlt, Hq.out.symm, hV.out.1⟩, B1.out⟩
    · have hkn : k = n := by omega
      subst hkn
      have i1 : ¬ ((k : Int) < (k : Int)) := by omega
      go_wp2_with fail
      go_ret
      exact ⟨.inr ⟨rfl, hV.out.1⟩, hV.out.2⟩
set_option maxRecDepth 100000 in
set_option maxHeartbeats 1000000 in
theorem kdco_any (A : Option Addr) (n c s : Nat) (cs : Nat → List Value) (p : Nat → Bool) (fv : Value) (fn : Nat) (caps : Array Value) (hfv : fv = .func (.func fn) #[] caps) (w : World) (hA : ArrC w w.heap.size A n 37 cs) (hlen : ∀ i, i < n → (cs i).length = 37) (hn : n ≤ 1000000000)
    (henter : ∀ args W, (callFunc fn args).run Try.prog W = .ok (.enter fn args) W)
    (hside : ∀ (i : Nat) (W : World), i < n → Below w.heap.size w W → Calls Try.prog fn (#[.agg (cs i).toArray] ++ caps) W fun e W' => e = .returned (.bool (p i)) ∧ Below W.heap.size W W') :
    Calls Try.prog 223 #[.slice A n c, fv] w fun e w' => e = .returned (.bool (anyTo p n)) ∧ Below w.heap.size w w' := by
  subst hfv
  have hT := hideP (kdix_any A n c s cs p _ fn caps rfl w hA hlen hn henter hside)
  clear hA hlen henter hside
  go_enter Try.func223, Try.ntmps223
  go_wp2_with (go_at_call 257; refine hT.out.mono ?_; rintro e1 w1 ⟨(⟨k, rfl, hk, hx, _⟩ | ⟨rfl, hx⟩), b1⟩ <;> have Hx := hideP hx <;> have B1 := hideP b1 <;> clear hx b1)
  · go_ret
    exact ⟨ret_bool (anyTo_true hk Hx.out).symm, B1.out⟩
  · go_ret
    exact ⟨ret_bool Hx.out.symm, B1.out⟩
set_option maxRecDepth 100000 in
set_option maxHeartbeats 1000000 in
theorem eveone_any (C : List Value) (hC : C.length = 2) (b : Bool) (g : Nat) (fv : Value) (fn : Nat) (caps : Array Value) (hfv : fv = .func (.func fn) #[] caps) (w : World) (hcell : w.cell? ⟨g, 0, none⟩ = some fv)
    (henter : ∀ args W, (callFunc fn args).run Try.prog W = .ok (.enter fn args) W)
    (hside : ∀ (W : World), Below w.heap.size w W → Calls Try.prog fn (#[.agg C.toArray] ++ caps) W fun e W' => e = .returned (.bool b) ∧ Below W.heap.size W W') :
    Calls Try.prog 222 (#[.agg C.toArray] ++ #[.pointer (some ⟨g, 0, none⟩)]) w fun e w' => e = .returned (.bool (!b)) ∧ Below w.heap.size w w' := by
  subst hfv
  have hb := hideP (below_new w (.cells C.toArray 56))
  have r0 := hideP (Row.new w 56 C)
  have hs := hideP (show (Try.prog.info? 56).map (·.size) = some C.length by rw [hC]; kernel_rfl)
  have HS := hideP (hside _ hb.out)
  have hc : (w.alloc (.cells C.toArray 56)).cell? ⟨g, 0, none⟩ = some (.func (.func fn) #[] caps) := (Ext.alloc w _).cell hcell
  obtain ⟨v, hv⟩ : ∃ v, v = w.alloc (.cells C.toArray 56) := ⟨_, rfl⟩
  rw [← hv] at hb r0 HS hc
  have Hv := hideP hv
  have Hc := hideP hc
  clear hside hcell hC hv hc
  go_enter Try.func222, Try.ntmps222
  go_upto_region 1 with fail
  rw [← Hv.out]
  have hc := Hc.out
  go_wp2_with (refine wpList_load_row rfl 56 (.tmp 2) rfl w.heap.size rfl 56 C.toArray (0, 0) _ r0.out Try.underlying56 rfl hs.out ?_)
  refine HS.out.mono ?_
  rintro e w1 ⟨rfl, b1⟩
  have B1 := hideP (bstep hb.out b1)
  clear b1
  go_wp2_with fail
  go_ret
  exact ⟨rfl, B1.out⟩
set_option maxRecDepth 100000 in
set_option maxHeartbeats 1000000 in
theorem evente_any (A : Option Addr) (n c : Nat) (cs : Nat → List Value) (p : Nat → Bool) (fv : Value) (fn : Nat) (caps : Array Value) (hfv : fv = .func (.func fn) #[] caps) (w : World) (hA : ArrC w w.heap.size A n 2 cs) (hlen : ∀ i, i < n → (cs i).length = 2) (hn : n ≤ 1000000000)
    (henter : ∀ args W, (callFunc fn args).run Try.prog W = .ok (.enter fn args) W)
    (hside : ∀ (i : Nat) (W : World), i < n → Below w.heap.size w W → Calls Try.prog fn (#[.agg (cs i).toArray] ++ caps) W fun e W' => e = .returned (.bool (p i)) ∧ Below W.heap.size W W') :
    Calls Try.prog 165 #[.slice A n c, fv] w fun e w' => e = .returned (.bool (!anyTo (fun i => !p i) n)) ∧ Below w.heap.size w w' := by
  subst hfv
  have hb := hideP (below_new w (.cells #[.func (.func fn) #[] caps] 232))
  have hone := One.new w 232 (.func (.func fn) #[] caps)
  obtain ⟨v, hv⟩ : ∃ v, v = w.alloc (.cells #[.func (.func fn) #[] caps] 232) := ⟨_, rfl⟩
  obtain ⟨g, hg⟩ : ∃ g, g = w.heap.size := ⟨_, rfl⟩
  rw [← hv] at hb
  rw [← hv, ← hg] at hone
  have hT := hideP (enco_any A n c 2 cs (fun i => !p i) _ 222 #[.pointer (some ⟨g, 0, none⟩)] rfl v (hA.after hb.out) hlen hn (enter_fn Try.func222 rfl rfl) (fun i W hi hW => eveone_any (cs i) (hlen i hi) (p i) g _ fn caps rfl W ((Ext.of_below hW).cell hone.c0) henter (fun W' hW' => hside i W' hi (bstep (bstep hb.out hW) hW'))))
  have Hv := hideP hv
  have Hg := hideP hg
  clear hside hone hv hg hA hlen henter
  go_enter Try.func165, Try.ntmps165
  go_upto_region 1 with fail
  rw [← Hv.out, ← Hg.out]
  go_wp2_with (go_at_call 221; refine hT.out.mono ?_; rintro e w1 ⟨rfl, b1⟩; have B1 := hideP (bstep hb.out b1); clear b1)
  go_ret
  exact ⟨rfl, B1.out⟩
set_option maxRecDepth 100000 in
set_option maxHeartbeats 1000000 in
theorem evkone_any (C : List Value) (hC : C.length = 37) (b : Bool) (g : Nat) (fv : Value) (fn : Nat) (caps : Array Value) (hfv : fv = .func (.func fn) #[] caps) (w : World) (hcell : w.cell? ⟨g, 0, none⟩ = some fv)
    (henter : ∀ args W, (callFunc fn args).run Try.prog W = .ok (.enter fn args) W)
    (hside : ∀ (W : World), Below w.heap.size w W → Calls Try.prog fn (#[.agg C.toArray] ++ caps) W fun e W' => e = .returned (.bool b) ∧ Below W.heap.size W W') :
    Calls Try.prog 224 (#[.agg C.toArray] ++ #[.pointer (some ⟨g, 0, none⟩)]) w fun e w' => e = .returned (.bool (!b)) ∧ Below w.heap.size w w' := by
  subst hfv
  have hb := hideP (below_new w (.cells C.toArray 43))
  have r0 := hideP (Row.new w 43 C)
  have hs := hideP (show (Try.prog.info? 43).map (·.size) = some C.length by rw [hC]; kernel_rfl)
  have HS := hideP (hside _ hb.out)
  have hc : (w.alloc (.cells C.toArray 43)).cell? ⟨g, 0, none⟩ = some (.func (.func fn) #[] caps) := (Ext.alloc w _).cell hcell
  obtain ⟨v, hv⟩ : ∃ v, v = w.alloc (.cells C.toArray 43) := ⟨_, rfl⟩
  rw [← hv] at hb r0 HS hc
  have Hv := hideP hv
  have Hc := hideP hc
  clear hside hcell hC hv hc
  go_enter Try.func224, Try.ntmps224
  go_upto_region 1 with fail
  rw [← Hv.out]
  have hc := Hc.out
  go_wp2_with (refine wpList_load_row rfl 43 (.tmp 2) rfl w.heap.size rfl 43 C.toArray (0, 0) _ r0.out Try.underlying43 rfl hs.out ?_)
  refine HS.out.mono ?_
  rintro e w1 ⟨rfl, b1⟩
  have B1 := hideP (bstep hb.out b1)
  clear b1
  go_wp2_with fail
  go_ret
  exact ⟨rfl, B1.out⟩
set_option maxRecDepth 100000 in
set_option maxHeartbeats 1000000 in
theorem evkid_any (A : Option Addr) (n c : Nat) (cs : Nat → List Value) (p : Nat → Bool) (fv : Value) (fn : Nat) (caps : Array Value) (hfv : fv = .func (.func fn) #[] caps) (w : World) (hA : ArrC w w.heap.size A n 37 cs) (hlen : ∀ i, i < n → (cs i).length = 37) (hn : n ≤ 1000000000)
    (henter : ∀ args W, (callFunc fn args).run Try.prog W = .ok (.enter fn args) W)
    (hside : ∀ (i : Nat) (W : World), i < n → Below w.heap.size w W → Calls Try.prog fn (#[.agg (cs i).toArray] ++ caps) W fun e W' => e = .returned (.bool (p i)) ∧ Below W.heap.size W W') :
    Calls Try.prog 167 #[.slice A n c, fv] w fun e w' => e = .returned (.bool (!anyTo (fun i => !p i) n)) ∧ Below w.heap.size w w' := by
  subst hfv
  have hb := hideP (below_new w (.cells #[.func (.func fn) #[] caps] 47))
  have hone := One.new w 47 (.func (.func fn) #[] caps)
  obtain ⟨v, hv⟩ : ∃ v, v = w.alloc (.cells #[.func (.func fn) #[] caps] 47) := ⟨_, rfl⟩
  obtain ⟨g, hg⟩ : ∃ g, g = w.heap.size := ⟨_, rfl⟩
  rw [← hv] at hb
  rw [← hv, ← hg] at hone
  have hT := hideP (kdco_any A n c 37 cs (fun i => !p i) _ 224 #[.pointer (some ⟨g, 0, none⟩)] rfl v (hA.after hb.out) hlen hn (enter_fn Try.func224 rfl rfl) (fun i W hi hW => evkone_any (cs i) (hlen i hi) (p i) g _ fn caps rfl W ((Ext.of_below hW).cell hone.c0) henter (fun W' hW' => hside i W' hi (bstep (bstep hb.out hW) hW'))))
  have Hv := hideP hv
  have Hg := hideP hg
  clear hside hone hv hg hA hlen henter
  go_enter Try.func167, Try.ntmps167
  go_upto_region 1 with fail
  rw [← Hv.out, ← Hg.out]
  go_wp2_with (go_at_call 223; refine hT.out.mono ?_; rintro e w1 ⟨rfl, b1⟩; have B1 := hideP (bstep hb.out b1); clear b1)
  go_ret
  exact ⟨rfl, B1.out⟩
end Go.Proofs.Ytgcbodpjidoanaa
namespace Go.Proofs.Ytgcbodpjidoanaa
open Go.RowKit
/-- a guarded load that is wanted, at the list of a region's operations -/
theorem wpList_loadG {P : Program} {ops : Array Oper} {rest : List Oper} {op : Oper} {a : Act} {w : World} {Q : Exit → Act → World → Prop} (hw : Region.wanted op (yielded ops a.tmps) = true) (ty : TypeId) (x : Operand) (ho : op.op = .load ty x)
    (b o : Nat) (hx : a.eval x = .pointer (some ⟨b, o, none⟩)) (cs : List Value) (d : TypeDesc) (hc : w.rangeAt b o cs)
    (hu : P.underlying ty = some d) (hd : d.isRow = true) (hi : (P.info? ty).map (·.size) = some cs.length)
    (h : wpList P ops Q rest (a.put op.dst (.agg cs.toArray)) w) : wpList P ops Q (op :: rest) a w := by
  unfold wpList
  rw [if_pos hw]
  exact .inl (wp_load_mid ty x ho b o hx cs d hc hu hd hi h)
structure EntD where
  row : List Int
  live : Bool
deriving DecidableEq, Inhabited
abbrev EntP := Option Addr × Nat
def entC (e : EntD) (p : EntP) : List Value := [.slice p.1 e.row.length p.2, .bool e.live]
structure NodeD where
  kind : Nat
  rows : List EntD
  kids : List KidD
deriving DecidableEq, Inhabited
structure NodeP where
  rA : Option Addr
  rc : Nat
  rp : Nat → EntP
  kA : Option Addr
  kc : Nat
  kp : Nat → KidP
def nodeC (n : NodeD) (p : NodeP) : List Value := [.int .u8 (n.kind : Nat), .slice p.rA n.rows.length p.rc, .slice p.kA n.kids.length p.kc]
structure NodeMem (w : World) (B : Nat) (n : NodeD) (p : NodeP) : Prop where
  rows : ArrC w B p.rA n.rows.length 2 (fun i => entC (n.rows.getD i default) (p.rp i))
  row : ∀ i, i < n.rows.length → Arr w B (p.rp i).1 (n.rows.getD i default).row.length (i64s (n.rows.getD i default).row)
  kids : ArrC w B p.kA n.kids.length 37 (fun i => kidC (n.kids.getD i default) (p.kp i))
  kid : ∀ i, i < n.kids.length → KidMem w B (n.kids.getD i default) (p.kp i)
structure NodeOk (n : NodeD) : Prop where
  kind : n.kind < 256
  row : ∀ i, i < n.rows.length → IsI (n.rows.getD i default).row ∧ (n.rows.getD i default).row.length ≤ 1000000
  kid : ∀ i, i < n.kids.length → KidOk (n.kids.getD i default)
  rows : n.rows.length ≤ 1000000
  kids : n.kids.length ≤ 1000000
section
variable {w w' : World} {B B' : Nat} {n : NodeD} {p : NodeP}
theorem NodeMem.below (h : NodeMem w B n p) (hb : Below B w w') : NodeMem w' B n p := ⟨h.rows.below hb, fun i hi => (h.row i hi).below hb, h.kids.below hb, fun i hi => (h.kid i hi).below hb⟩
theorem NodeMem.more (h : NodeMem w B n p) (hB : B ≤ B') : NodeMem w B' n p := ⟨h.rows.more hB, fun i hi => (h.row i hi).more hB, h.kids.more hB, fun i hi => (h.kid i hi).more hB⟩
theorem NodeMem.after (h : NodeMem w w.heap.size n p) (hb : Below w.heap.size w w') : NodeMem w' w'.heap.size n p := (h.below hb).more hb.size
end
theorem anyTo_allg {α : Type} [Inhabited α] (l : List α) (f : α → Bool) : (!anyTo (fun i => !f (l.getD i default)) l.length) = l.all f := by
  have h : ∀ k, k ≤ l.length → anyTo (fun i => !f (l.getD i default)) k = !((l.take k).all f) := by
    intro k
    induction k with
    | zero => intro _; rfl
    | succ k ih =>
      intro hk
      rw [anyTo_succ, ih (by omega), List.take_add_one, List.all_append, List.getElem?_eq_getElem (by omega)]
      simp [List.getD, List.getElem?_eq_getElem (show k < l.length by omega), Bool.not_and]
  rw [h l.length (Nat.le_refl _), List.take_length, Bool.not_not]
/-- which kind's node may it be? -/
def kindR (n : NodeD) (d : Int) : Bool :=
  if n.kind = 1 then decide (n.rows.length = 1) && (decide (n.kids.length = 2) && n.kids.all (fun k => decide (k.key.length = 0)))
  else if n.kind = 2 then decide (1 ≤ n.rows.length) && (decide (n.rows.length ≤ 4) && (decide (n.kids.length = 0) && n.rows.all (fun e => e.live)))
  else decide (n.kind = 3) && (decide (n.rows.length = 0) && (decide (2 ≤ n.kids.length) && (decide (n.kids.length ≤ 4) && n.kids.all (fun k => decide ((k.key.length : Int) = d) && !decide (k = kidZ)))))
def nodeR (n : NodeD) (d : Int) : Bool :=
  decide (1 ≤ d) && (decide (d ≤ 8) && (n.rows.all (fun e => decide ((e.row.length : Int) = d)) && (n.kids.all (fun k => kidR k d) && kindR n d)))
set_option maxRecDepth 100000 in
set_option maxHeartbeats 1000000 in
theorem nr1_any (e : EntD) (p : EntP) (d : Int) (g : Nat) (w : World) (hc : w.cell? ⟨g, 0, none⟩ = some (.int .i64 d)) :
    Calls Try.prog 166 (#[.agg (entC e p).toArray] ++ #[.pointer (some ⟨g, 0, none⟩)]) w fun e' w' => e' = .returned (.bool (decide ((e.row.length : Int) = d))) ∧ Below w.heap.size w w' := by
  obtain ⟨A, c⟩ := p
  unfold entC
  have hr := hideP (show decide ((e.row.length : Int) = d) = ((e.row.length : Int) == d) by rw [Bool.eq_iff_iff]; simp)
  obtain ⟨n, hn⟩ : ∃ n, n = e.row.length := ⟨_, rfl⟩
  obtain ⟨b, hb⟩ : ∃ n, n = e.live := ⟨_, rfl⟩
  rw [← hn] at hr ⊢
  rw [← hb, hr.out]
  have hW := hideP (below_new w (.cells #[.slice A n c, .bool b] 56))
  have h2 : (w.alloc (.cells #[.slice A n c, .bool b] 56)).cell? ⟨g, 0, none⟩ = some (.int .i64 d) := (Ext.alloc w _).cell hc
  clear hn hb hr hc
  go_enter Try.func166, Try.ntmps166
  go_wp2_with fail
  go_ret
  exact ⟨rfl, hW.out⟩
set_option maxRecDepth 100000 in
set_option maxHeartbeats 1000000 in
theorem nr4_any (e : EntD) (p : EntP) (w : World) :
    Calls Try.prog 170 (#[.agg (entC e p).toArray] ++ #[]) w fun e' w' => e' = .returned (.bool e.live) ∧ Below w.heap.size w w' := by
  obtain ⟨A, c⟩ := p
  unfold entC
  obtain ⟨n, hn⟩ : ∃ n, n = e.row.length := ⟨_, rfl⟩
  obtain ⟨b, hb⟩ : ∃ n, n = e.live := ⟨_, rfl⟩
  rw [← hn, ← hb]
  have hW := hideP (below_new w (.cells #[.slice A n c, .bool b] 56))
  clear hn hb
  go_enter Try.func170, Try.ntmps170
  go_wp2_with fail
  go_ret
  exact ⟨rfl, hW.out⟩
set_option maxRecDepth 100000 in
set_option maxHeartbeats 1000000 in
theorem nr2_any (k : KidD) (p : KidP) (d : Int) (g : Nat) (w : World) (hk : KidOk k) (hm : KidMem w w.heap.size k p) (hc : w.cell? ⟨g, 0, none⟩ = some (.int .i64 d)) :
    Calls Try.prog 168 (#[.agg (kidC k p).toArray] ++ #[.pointer (some ⟨g, 0, none⟩)]) w fun e' w' => e' = .returned (.bool (kidR k d)) ∧ Below w.heap.size w w' := by
  have hs := hideP (size_k37 (hk.cells p))
  obtain ⟨v, hv⟩ : ∃ v, v = w.alloc (.cells (kidC k p).toArray 43) := ⟨_, rfl⟩
  obtain ⟨z, hz⟩ : ∃ g, g = w.heap.size := ⟨_, rfl⟩
  have X := hideP (show Row v z 43 (kidC k p) by rw [hv, hz]; exact Row.new w 43 (kidC k p))
  have B := hideP (show Below w.heap.size w v by rw [hv]; exact below_new _ _)
  have x4 := hideP (show v.cell? ⟨z, 36, none⟩ = some (.slice p.kA k.key.length p.kc) from kid_at hk (Row.range X.out) 4 rfl)
  have hT := hideP (nkidright_any k p d v hk (hm.after B.out))
  have hd := hideP (show v.cell? ⟨g, 0, none⟩ = some (.int .i64 d) by rw [hv]; exact (Ext.alloc w _).cell hc)
  obtain ⟨C, hC⟩ : ∃ C, C = kidC k p := ⟨_, rfl⟩
  obtain ⟨R, hR⟩ : ∃ C, C = kidR k d := ⟨_, rfl⟩
  rw [← hC] at hv hs X hT ⊢
  rw [← hR] at hT ⊢
  clear hC hR hm hk hc x4
  have Hv := hideP hv
  clear hv
  go_enter Try.func168, Try.ntmps168
  go_upto_region 1 with fail
  rw [← Hv.out, ← hz]
  clear hz Hv
  have hd2 := hd.out
  go_wp2_with (first
    | (refine wpList_load_row rfl 43 (.tmp 2) rfl z rfl 43 C.toArray (0, 0) _ X.out Try.underlying43 rfl hs.out ?_)
    | (go_at_call 20; refine hT.out.mono ?_; rintro e w1 ⟨rfl, b_⟩; have B1 := hideP (bstep B.out b_); clear b_))
  go_ret
  exact ⟨rfl, B1.out⟩
set_option maxRecDepth 100000 in
set_option maxHeartbeats 1000000 in
theorem nr3_any (k : KidD) (p : KidP) (w : World) (hk : KidOk k) :
    Calls Try.prog 169 (#[.agg (kidC k p).toArray] ++ #[]) w fun e' w' => e' = .returned (.bool (decide (k.key.length = 0))) ∧ Below w.heap.size w w' := by
  have hs := hideP (size_k37 (hk.cells p))
  obtain ⟨v, hv⟩ : ∃ v, v = w.alloc (.cells (kidC k p).toArray 43) := ⟨_, rfl⟩
  obtain ⟨z, hz⟩ : ∃ g, g = w.heap.size := ⟨_, rfl⟩
  have X := hideP (show Row v z 43 (kidC k p) by rw [hv, hz]; exact Row.new w 43 (kidC k p))
  have B := hideP (show Below w.heap.size w v by rw [hv]; exact below_new _ _)
  have x4 := hideP (show v.cell? ⟨z, 36, none⟩ = some (.slice p.kA k.key.length p.kc) from kid_at hk (Row.range X.out) 4 rfl)
  have hr := hideP (show decide (k.key.length = 0) = ((k.key.length : Int) == 0) by rw [Bool.eq_iff_iff]; simp)
  obtain ⟨C, hC⟩ : ∃ C, C = kidC k p := ⟨_, rfl⟩
  obtain ⟨n, hn⟩ : ∃ C, C = k.key.length := ⟨_, rfl⟩
  rw [← hC] at hv hs X ⊢
  rw [← hn] at x4 hr ⊢
  rw [hr.out]
  clear hC hn hk hr
  have Hv := hideP hv
  clear hv
  go_enter Try.func169, Try.ntmps169
  go_upto_region 1 with fail
  rw [← Hv.out, ← hz]
  clear hz Hv
  have y4 := x4.out
  go_wp2_with fail
  go_ret
  exact ⟨rfl, B.out⟩
set_option maxRecDepth 100000 in
set_option maxHeartbeats 1000000 in
theorem nr5_any (k : KidD) (p : KidP) (d : Int) (g : Nat) (w : World) (hk : KidOk k) (hm : KidMem w w.heap.size k p) (hc : w.cell? ⟨g, 0, none⟩ = some (.int .i64 d)) :
    Calls Try.prog 171 (#[.agg (kidC k p).toArray] ++ #[.pointer (some ⟨g, 0, none⟩)]) w fun e' w' => e' = .returned (.bool (decide ((k.key.length : Int) = d) && !decide (k = kidZ))) ∧ Below w.heap.size w w' := by
  have hs := hideP (size_k37 (hk.cells p))
  obtain ⟨v, hv⟩ : ∃ v, v = w.alloc (.cells (kidC k p).toArray 43) := ⟨_, rfl⟩
  obtain ⟨z, hz⟩ : ∃ g, g = w.heap.size := ⟨_, rfl⟩
  have X := hideP (show Row v z 43 (kidC k p) by rw [hv, hz]; exact Row.new w 43 (kidC k p))
  have B := hideP (show Below w.heap.size w v by rw [hv]; exact below_new _ _)
  have x4 := hideP (show v.cell? ⟨z, 36, none⟩ = some (.slice p.kA k.key.length p.kc) from kid_at hk (Row.range X.out) 4 rfl)
  have hT := hideP (nempty_any k p v hk (hm.after B.out))
  have hd := hideP (show v.cell? ⟨g, 0, none⟩ = some (.int .i64 d) by rw [hv]; exact (Ext.alloc w _).cell hc)
  have hr := hideP (show decide ((k.key.length : Int) = d) = ((k.key.length : Int) == d) by rw [Bool.eq_iff_iff]; simp)
  obtain ⟨C, hC⟩ : ∃ C, C = kidC k p := ⟨_, rfl⟩
  obtain ⟨n, hn⟩ : ∃ C, C = k.key.length := ⟨_, rfl⟩
  obtain ⟨E, hE⟩ : ∃ E, E = decide (k = kidZ) := ⟨_, rfl⟩
  rw [← hC] at hv hs X hT ⊢
  rw [← hn] at x4 hr ⊢
  rw [← hE] at hT ⊢
  rw [hr.out]
  clear hC hn hk hr hE hm hc
  obtain ⟨q, hq⟩ : ∃ q, q = ((n : Int) == d) := ⟨_, rfl⟩
  rw [← hq]
  have hq' := hideP hq.symm
  clear hq
  have Hv := hideP hv
  clear hv
  go_enter Try.func171, Try.ntmps171
  go_upto_region 1 with fail
  rw [← Hv.out, ← hz]
  clear hz Hv
  have y4 := x4.out
  have hd2 := hd.out
  have hq2 := hq'.out
  rcases q with _ | _
  · go_wp2_with fail
    go_ret
    exact ⟨rfl, B.out⟩
  · go_wp2_with (first
      | (refine wpList_loadG rfl 43 (.tmp 2) rfl z 0 rfl C _ (Row.range X.out) Try.underlying43 rfl hs.out ?_)
      | (go_at_call 24; refine hT.out.mono ?_; rintro e w1 ⟨rfl, b_⟩; have B1 := hideP (bstep B.out b_); clear b_))
    go_ret
    exact ⟨rfl, B1.out⟩
end Go.Proofs.Ytgcbodpjidoanaa
