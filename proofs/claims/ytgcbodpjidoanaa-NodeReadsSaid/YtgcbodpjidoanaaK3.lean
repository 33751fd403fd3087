/- Contracts of package dist: isPoint, total, Between, ToBox. -/
import Derived.Laws.ResultCell
import Derived.Test.YtgcbodpjidoanaaK2
set_option linter.unusedVariables false
set_option linter.unusedSimpArgs false
namespace Go.Proofs.Ytgcbodpjidoanaa
open Go.RowKit

def isPt (n : Nat) : Bool := decide (1 ≤ n) && decide (n ≤ 8)
theorem isPoint_any (A : Option Addr) (n c : Nat) (w : World) : Calls Try.prog 266 #[.slice A n c] w fun e w' => e = .returned (.bool (isPt n)) ∧ w = w' := by
  unfold isPt
  by_cases h : 1 ≤ n
  · have t : decide ((1 : Int) ≤ n) = true := by simp; omega
    go_enter Try.func266, Try.ntmps266
    go_wp2
    go_ret
    exact ⟨by simp [h]; omega, rfl⟩
  · have t : decide ((1 : Int) ≤ n) = false := by simp; omega
    go_enter Try.func266, Try.ntmps266
    go_wp2
    go_ret
    exact ⟨by simp [h], rfl⟩

theorem info_u64' : (Try.prog.info? 184).map (fun i => (i.zero, i.size, i.bytes)) = some (some (.int .u64 0), 1, 8) := by kernel_rfl

theorem run_enter {f : FuncId} {fn : Func} (hf : Try.prog.funcs[f]? = some fn) (hn : (fn.name == "runtime.NumGoroutine") = false) (hb : fn.body.isNone = false) (args : Array Value) (w : World) : (callFunc f args).run Try.prog w = .ok (.enter f args) w := by
  have h1 : (fn.name = "runtime.NumGoroutine") = False := by simpa using hn
  simp [callFunc, hf, h1, hb, program, Sem.run]
  intro h; simp [h] at hb

/-- what the sides say, from 0 on -/
def sides (f : Nat → Nat) (k : Nat) : List Nat := (List.range k).map f

theorem total_any (n : Nat) (fv : Value) (fn : Nat) (caps : Array Value) (hfv : fv = .func (.func fn) #[] caps) (f : Nat → Nat) (hf : ∀ i, i < n → f i < 18446744073709551616) (w : World) (hn : n ≤ 1000000)
    (henter : ∀ args W, (callFunc fn args).run Try.prog W = .ok (.enter fn args) W)
    (hside : ∀ (i : Nat) (W : World), i < n → Below w.heap.size w W → Calls Try.prog fn (#[.int .i64 i] ++ caps) W fun e W' => e = .returned (.int .u64 (f i)) ∧ ∃ nq, W.drewN nq = W') :
    Calls Try.prog 267 #[.int .i64 n, fv] w fun e w' => e = .returned (dv ((sides f n).sum % 340282366920938463463374607431768211456)) ∧ Below w.heap.size w w' := by
  subst hfv
  have HS := hideP hside; have HF := hideP hf
  clear hside hf
  go_enter Try.func267, Try.ntmps267
  go_wp2
  obtain ⟨g, hg⟩ : ∃ g, g = w.heap.size := ⟨_, rfl⟩
  obtain ⟨w0, hw0⟩ : ∃ w0, w0 = w.alloc (Obj.cells #[.int .u64 0, .int .u64 0] 186) := ⟨_, rfl⟩
  have r0 : Two w0 g 186 (.int .u64 (0 : Nat)) (.int .u64 (0 : Nat)) := by rw [hw0, hg]; exact heap_alloc_new _ _
  have rb : Below w.heap.size w w0 := by rw [hw0]; exact (Below.refl _ _).alloc (Nat.le_refl _) _
  rw [← hw0, ← hg]
  clear hw0
  have HG := hideP hg
  clear hg
  obtain ⟨i0, hi0, hz0, hz1, hz2⟩ := info_parts info_u64'
  have hown0 : w0.ownsRow (g + 1) 184 1 (.slice none 0 0) 0 [] := World.ownsRow_nil _ _ _ _
  go_loopw [5, 8] (fun v5 v8 wr => ∃ (k s : Nat) (R : Option Addr), k ≤ n ∧ v8 = .int .i64 k ∧ v5 = .slice R k s ∧
    Hid (wr.ownsRow (g + 1) 184 1 (.slice R k s) k ((sides f k).map fun (x : Nat) => Value.int .u64 x) ∧ Two wr g 186 (.int .u64 (0 : Nat)) (.int .u64 (0 : Nat)) ∧ Below w.heap.size w wr)) (fun _ v8 _ => n - (intOf v8).toNat)
  case atStart => exact ⟨0, 0, none, by omega, rfl, rfl, hown0, r0, rb⟩
  case round =>
    obtain ⟨k, s, R, hk, rfl, rfl, hW⟩ := hrel
    clear r0 rb hown0
    by_cases hlt : k < n
    · have t : decide ((k : Int) < n) = true := by simp; omega
      go_wp2_with fail
      refine (HS.out k wr hlt hW.out.2.2).mono ?_
      rintro e w1 ⟨rfl, nq, hw1⟩
      have hown : w1.ownsRow (g + 1) 184 1 (.slice R k s) k ((sides f k).map fun (x : Nat) => Value.int .u64 x) := by rw [← hw1]; exact hW.out.1
      have htwo : Two w1 g 186 (.int .u64 (0 : Nat)) (.int .u64 (0 : Nat)) := by rw [← hw1]; exact hW.out.2.1
      have hbel : Below w.heap.size w w1 := by rw [← hw1]; exact below_drewN hW.out.2.2 _
      clear hw1 hW
      have hx := HF.out k hlt
      obtain ⟨x, ex⟩ : ∃ x, x = f k := ⟨_, rfl⟩
      rw [← ex] at hx ⊢
      have EX := hideP ex; have HB := hideP hbel; have HT := hideP htwo
      clear ex hbel htwo
      have hg1 : g + 1 ≤ w1.heap.size := by have := HT.out.lt; omega
      go_wp2_with (at_builtin; refine wpList_append_cells _ rfl (.tmp 11) (.tmp 15) 295 rfl (g + 1) 184 i0 _ 1 8 Try.underlying295 hi0 hz0 hz1 hz2 rfl (by decide) (.slice R k s) k ((sides f k).map fun (x : Nat) => Value.int .u64 x) rfl hown _ 1 rfl rfl (by simp [Value.oneCell']) (by omega) (by unfold maxLen; omega) (by omega) hg1 ?_; intro g3 c3 w3 hown3 hg3 hat3)
      go_roundw
      case rel => 
        refine ⟨k + 1, c3, some ⟨g3, 0, none⟩, by omega, by go_num, rfl, ?_, ?_, ?_⟩
        · have : (sides f (k + 1)).map (fun (x : Nat) => Value.int .u64 x) = (sides f k).map (fun (x : Nat) => Value.int .u64 x) ++ [.int .u64 x] := by
            rw [EX.out]; simp [sides, List.range_succ]
          rw [this]
          simpa using hown3
        · exact HT.out.below (below_own hown hg3 (Nat.le_refl _) hg1) (by omega)
        · have := HG.out
          exact HB.out.trans ((below_own hown hg3 (by omega) HB.out.size))
      case measure => simp [intOf]; omega
    · have t : decide ((k : Int) < n) = false := by simp; omega
      have e : k = n := by omega
      have hA : Arr wr wr.heap.size R (sides f k).length (u64s (sides f k)) := by
        have hl : (sides f k).length = k := by simp [sides]
        rw [hl]
        refine Arr.of_own hW.out.1 fun i hi => ?_
        unfold u64s
        simp [List.getD, sides, List.getElem?_map, List.getElem?_range hi]
      have hl : k = (sides f k).length := by simp [sides]
      have hsum := dist_sum R (sides f k) s wr hA (fun i => by
        by_cases hi : i < k
        · have := HF.out i (by omega)
          simp [sides, List.getD, List.getElem?_map, List.getElem?_range hi]; exact this
        · rw [getD_out _ _ _ (by simp [sides]; omega)]; omega) (by rw [← hl]; omega)
      rw [← hl] at hsum
      have HSUM := hideP hsum
      have E := hideP e
      clear hsum hA hl e
      go_wp2_with fail
      refine HSUM.out.mono ?_
      unfold dv dvp
      rintro e1 w1 ⟨rfl, hb1⟩
      have r1 := hW.out.2.1.below hb1 (hW.out.2.1.lt)
      have hbel := hW.out.2.2.trans (hb1.mono hW.out.2.2.size)
      have f0 := r1.fz 0
      have f1 := r1.fz 1
      have p0 := r1.c0
      have p1 := r1.c1
      obtain ⟨u, hu⟩ : ∃ u, u = (sides f k).sum % 340282366920938463463374607431768211456 / 18446744073709551616 := ⟨_, rfl⟩
      obtain ⟨v, hv⟩ : ∃ v, v = (sides f k).sum % 340282366920938463463374607431768211456 % 18446744073709551616 := ⟨_, rfl⟩
      have hu' : (sides f n).sum % 340282366920938463463374607431768211456 / 18446744073709551616 = u := by rw [hu, E.out]
      have hv' : (sides f n).sum % 340282366920938463463374607431768211456 % 18446744073709551616 = v := by rw [hv, E.out]
      rw [← hu, ← hv]
      have HU := hideP hu'; have HV := hideP hv'
      clear hu hv hu' hv'
      have R1 := hideP r1; have HB := hideP hbel
      clear r1 hbel hb1
      go_wp2
      refine ret_dist rfl rfl (R1.out.set2 _ _) rfl ?_
      refine ⟨?_, ?_⟩
      · unfold dv dvp; rw [HU.out, HV.out]
      · have := HG.out
        exact (HB.out.setCell (p := ⟨g, 0, none⟩) (by simp; omega) _).setCell (p := ⟨g, 1, none⟩) (by simp; omega) _

def IsI' (l : List Int) : Prop := ∀ i, I64 (l.getD i 0)
theorem apart_quiet (a b : Int) (w : World) (ha : I64 a) (hb : I64 b) : Calls Try.prog 271 #[.int .i64 a, .int .i64 b] w fun e w' => e = .returned (.int .u64 (apart a b)) ∧ w' = w :=
  (apart_any a b w ha hb).mono fun _ _ h => ⟨h.1, h.2.symm⟩
theorem between1 (i : Nat) (g1 g2 : Nat) (A B : Option Addr) (p q : List Int) (n m c d : Nat) (w : World) (h1 : w.cell? ⟨g1, 0, none⟩ = some (.slice A n c)) (h2 : w.cell? ⟨g2, 0, none⟩ = some (.slice B m d))
    (hA : Arr w w.heap.size A n (i64s p)) (hB : Arr w w.heap.size B m (i64s q)) (hp : IsI p) (hq : IsI q) (hi : i < n) (hi' : i < m) :
    Calls Try.prog 270 (#[.int .i64 i] ++ #[.pointer (some ⟨g1, 0, none⟩), .pointer (some ⟨g2, 0, none⟩)]) w fun e w' => e = .returned (.int .u64 (apart (p.getD i 0) (q.getD i 0))) ∧ ∃ nq, w.drewN nq = w' := by
  obtain ⟨b, off, rfl, hb, hc⟩ := hA (by omega)
  obtain ⟨b', off', rfl, hb', hc'⟩ := hB (by omega)
  have k1 := hc i hi
  have k2 := hc' i hi'
  have z1 := hp i
  have z2 := hq i
  unfold i64s at k1 k2
  obtain ⟨x, ex⟩ : ∃ x, x = p.getD i 0 := ⟨_, rfl⟩
  obtain ⟨y, ey⟩ : ∃ y, y = q.getD i 0 := ⟨_, rfl⟩
  rw [← ex] at k1 z1 ⊢
  rw [← ey] at k2 z2 ⊢
  have hxy := apart_lt z1 z2
  have Z1 : I64 x := z1
  have Z2 : I64 y := z2
  have i0 : (0 : Int) ≤ (i : Int) := by omega
  have i1 : (i : Int) < (n : Int) := by omega
  have i2 : (i : Int) < (m : Int) := by omega
  clear hc hc' hA hB hp hq ex ey
  go_enter Try.func270, Try.ntmps270
  go_wp2
  go_quiet (first | (go_at_call 271; exact Calls.quiet_of_same (apart_quiet x y _ Z1 Z2)))
  go_wp2
  go_ret
  exact ⟨rfl, ⟨_, rfl⟩⟩

theorem sides_le (f : Nat → Nat) (n : Nat) (hf : ∀ i, i < n → f i < 18446744073709551616) : (sides f n).sum ≤ n * 18446744073709551615 := by
  induction n with
  | zero => simp [sides]
  | succ n ih =>
    have h1 := ih (fun i hi => hf i (by omega))
    have h2 := hf n (by omega)
    have h3 : (sides f (n + 1)).sum = (sides f n).sum + f n := by simp [sides, List.range_succ]
    omega
/-- the distance of two points of n numbers -/
def dpt (p q : List Int) (n : Nat) : Nat := (sides (fun i => apart (p.getD i 0) (q.getD i 0)) n).sum
def dbox (p lo hi : List Int) (n : Nat) : Nat := (sides (fun i => gap (p.getD i 0) (lo.getD i 0) (hi.getD i 0)) n).sum
theorem dpt_lt (p q : List Int) (n : Nat) (hp : IsI p) (hq : IsI q) (hn : n ≤ 8) : dpt p q n < 147573952589676412928 := by
  have := sides_le (fun i => apart (p.getD i 0) (q.getD i 0)) n (fun i _ => apart_lt (hp i) (hq i))
  unfold dpt; omega
theorem dbox_lt (p lo hi : List Int) (n : Nat) (hp : IsI p) (hq : IsI lo) (hr : IsI hi) (hn : n ≤ 8) : dbox p lo hi n < 147573952589676412928 := by
  have := sides_le (fun i => gap (p.getD i 0) (lo.getD i 0) (hi.getD i 0)) n (fun i _ => gap_lt (hp i) (hq i) (hr i))
  unfold dbox; omega

/-- the end of a function whose results are a distance in a variable and an error -/
theorem ret_dist2 {fn : Func} {p u : Tmp} {a : Act} {w : World} {R : Ending → World → Prop} (h : fn.results = #[.cell p 186, .tmp u]) {g : Nat} {x y v : Value}
    (hp : a.tmps.getD p undef = .pointer (some ⟨g, 0, none⟩)) (hu : a.tmps.getD u undef = v) (hg : w.heap[g]? = some (.cells #[x, y] 186 (0, 0))) (hd : a.defers = []) (hR : R (.returned (.tuple #[.agg #[x, y], v])) w) : bodyPost Try.prog fn R .ret a w := by
  refine bodyPost_ret (v := .tuple #[.agg #[x, y], v]) ?_ hd hR
  rw [results_cell_tmp h, hp, hu]
  simp [asAddr, run_loadVar_row w g 186 186 #[x, y] (0, 0) _ hg Try.underlying186 rfl (by kernel_rfl)]

set_option maxHeartbeats 1000000 in
theorem between_in (A B : Option Addr) (p q : List Int) (n c d : Nat) (w : World) (hA : Arr w w.heap.size A n (i64s p)) (hB : Arr w w.heap.size B n (i64s q)) (hp : IsI p) (hq : IsI q) (h1 : 1 ≤ n) (h8 : n ≤ 8) :
    Calls Try.prog 239 #[.slice A n c, .slice B n d] w fun e w' => e = .returned (.tuple #[dv (dpt p q n), .int .i64 0]) ∧ Below w.heap.size w w' := by
  have HP := hideP hp; have HQ := hideP hq
  have hpt : isPt n = true := by unfold isPt; simp; omega
  have hD := dpt_lt p q n hp hq h8
  obtain ⟨D, eD⟩ : ∃ D, D = dpt p q n := ⟨_, rfl⟩
  have eD' : (sides (fun i => apart (p.getD i 0) (q.getD i 0)) n).sum % 340282366920938463463374607431768211456 = D := by
    rw [eD]; exact Nat.mod_eq_of_lt (by unfold dpt at hD; omega)
  rw [← eD]
  have HA := hideP hA; have HB := hideP hB
  have ED := hideP eD'
  clear hp hq hD eD eD' hA hB
  go_enter Try.func239, Try.ntmps239
  go_wp2_with fail
  obtain ⟨w1, hw1⟩ : ∃ w1, w1 = ((w.alloc (Obj.cells #[Value.slice A n c] 39)).alloc (Obj.cells #[Value.slice B n d] 39)).alloc (Obj.cells #[.int .u64 0, .int .u64 0] 186) := ⟨_, rfl⟩
  have c1 : One w1 w.heap.size 39 (.slice A n c) := by rw [hw1]; exact ((One.new _ _ _).alloc _).alloc _
  have c2 : One w1 (w.heap.size + 1) 39 (.slice B n d) := by rw [hw1]; exact (One.new' _ _ _ _ (by simp)).alloc _
  have c3 : Two w1 (w.heap.size + 1 + 1) 186 (.int .u64 (0 : Nat)) (.int .u64 (0 : Nat)) := by rw [hw1]; exact Two.new' _ _ _ _ _ (by simp)
  have cb : Below w.heap.size w w1 := by rw [hw1]; exact (((Below.refl _ _).alloc (Nat.le_refl _) _).alloc (by simp) _).alloc (by simp; omega) _
  rw [← hw1]
  clear hw1
  have C1 := hideP c1; have C2 := hideP c2; have C3 := hideP c3; have CB := hideP cb
  have k1 := c1.c0
  have k2 := c2.c0
  clear c1 c2 c3 cb
  refine (isPoint_any A n c w1).mono ?_
  rintro e w' ⟨rfl, rfl⟩
  rw [hpt]
  go_wp2_with fail
  refine (total_any n _ 270 #[.pointer (some ⟨w.heap.size, 0, none⟩), .pointer (some ⟨w.heap.size + 1, 0, none⟩)] rfl (fun i => apart (p.getD i 0) (q.getD i 0)) (fun i _ => apart_lt (HP.out i) (HQ.out i)) w1 (by omega) (run_enter Try.func270 rfl rfl) (fun i W hi hW => ?_)).mono ?_
  · exact between1 i _ _ A B p q n n c d W (C1.out.after hW).c0 (C2.out.after hW).c0 ((HA.out.after CB.out).after hW) ((HB.out.after CB.out).after hW) HP.out HQ.out hi hi
  rw [ED.out]
  unfold dv dvp
  rintro e w2 ⟨rfl, hb2⟩
  clear k1 k2
  have r1 := C3.out.after hb2
  have rb := CB.out.trans (hb2.mono CB.out.size)
  have f0 := r1.fz 0
  have f1 := r1.fz 1
  have p0 := r1.c0
  have p1 := r1.c1
  have R1 := hideP r1; have RB := hideP rb
  clear r1 rb hb2
  go_wp2
  refine ret_dist2 rfl rfl rfl (R1.out.set2 _ _) rfl ?_
  refine ⟨rfl, ?_⟩
  exact (RB.out.setCell (p := ⟨_, 0, none⟩) (by simp; omega) _).setCell (p := ⟨_, 1, none⟩) (by simp; omega) _

theorem between_no (A B : Option Addr) (n m c d : Nat) (w : World) (h : (isPt n && decide (m = n)) = false) :
    Calls Try.prog 239 #[.slice A n c, .slice B m d] w fun e w' => e = .returned (.tuple #[dv 0, .int .i64 1]) ∧ Below w.heap.size w w' := by
  by_cases hp : isPt n = true
  · have t : ((m : Int) != (n : Int)) = true := by rw [hp] at h; simp at h ⊢; omega
    go_enter Try.func239, Try.ntmps239
    go_wp2_with fail
    refine (isPoint_any A n c _).mono ?_
    rintro e w' ⟨rfl, rfl⟩
    rw [hp]
    go_wp2
    refine ret_dist2 rfl rfl rfl (Two.new' _ _ _ _ (w.heap.size + 1 + 1) (by simp)) rfl ?_
    exact ⟨rfl, (((Below.refl _ _).alloc (Nat.le_refl _) _).alloc (by simp) _).alloc (by simp; omega) _⟩
  · have hp : isPt n = false := by simpa using hp
    clear h
    go_enter Try.func239, Try.ntmps239
    go_wp2_with fail
    refine (isPoint_any A n c _).mono ?_
    rintro e w' ⟨rfl, rfl⟩
    rw [hp]
    go_wp2
    refine ret_dist2 rfl rfl rfl (Two.new' _ _ _ _ (w.heap.size + 1 + 1) (by simp)) rfl ?_
    exact ⟨rfl, (((Below.refl _ _).alloc (Nat.le_refl _) _).alloc (by simp) _).alloc (by simp; omega) _⟩

theorem gap_quiet (x lo hi : Int) (w : World) (hx : I64 x) (hl : I64 lo) (hh : I64 hi) : Calls Try.prog 269 #[.int .i64 x, .int .i64 lo, .int .i64 hi] w fun e w' => e = .returned (.int .u64 (gap x lo hi)) ∧ w' = w :=
  (gap_any x lo hi w hx hl hh).mono fun _ _ h => ⟨h.1, h.2.symm⟩
theorem toBox1 (i : Nat) (g1 g2 : Nat) (A L H : Option Addr) (p lo hi : List Int) (n m k c d s : Nat) (w : World) (h1 : w.cell? ⟨g1, 0, none⟩ = some (.slice A n c)) (h2 : w.cell? ⟨g2, 0, none⟩ = some (.slice L m d)) (h3 : w.cell? ⟨g2, 1, none⟩ = some (.slice H k s))
    (hA : Arr w w.heap.size A n (i64s p)) (hL : Arr w w.heap.size L m (i64s lo)) (hH : Arr w w.heap.size H k (i64s hi)) (hp : IsI p) (hl : IsI lo) (hh : IsI hi) (hi1 : i < n) (hi2 : i < m) (hi3 : i < k) :
    Calls Try.prog 268 (#[.int .i64 i] ++ #[.pointer (some ⟨g1, 0, none⟩), .pointer (some ⟨g2, 0, none⟩)]) w fun e w' => e = .returned (.int .u64 (gap (p.getD i 0) (lo.getD i 0) (hi.getD i 0))) ∧ ∃ nq, w.drewN nq = w' := by
  obtain ⟨b, off, rfl, hb, hc⟩ := hA (by omega)
  obtain ⟨b', off', rfl, hb', hc'⟩ := hL (by omega)
  obtain ⟨b'', off'', rfl, hb'', hc''⟩ := hH (by omega)
  have k1 := hc i hi1
  have k2 := hc' i hi2
  have k3 := hc'' i hi3
  have z1 := hp i
  have z2 := hl i
  have z3 := hh i
  unfold i64s at k1 k2 k3
  obtain ⟨x, ex⟩ : ∃ x, x = p.getD i 0 := ⟨_, rfl⟩
  obtain ⟨y, ey⟩ : ∃ y, y = lo.getD i 0 := ⟨_, rfl⟩
  obtain ⟨z, ez⟩ : ∃ z, z = hi.getD i 0 := ⟨_, rfl⟩
  rw [← ex] at k1 z1 ⊢
  rw [← ey] at k2 z2 ⊢
  rw [← ez] at k3 z3 ⊢
  have hxy := gap_lt z1 z2 z3
  have Z1 : I64 x := z1
  have Z2 : I64 y := z2
  have Z3 : I64 z := z3
  have i0 : (0 : Int) ≤ (i : Int) := by omega
  have i1 : (i : Int) < (n : Int) := by omega
  have i2 : (i : Int) < (m : Int) := by omega
  have i3 : (i : Int) < (k : Int) := by omega
  clear hc hc' hc'' hA hL hH hp hl hh ex ey ez
  go_enter Try.func268, Try.ntmps268
  go_wp2
  go_quiet (first | (go_at_call 269; exact Calls.quiet_of_same (gap_quiet x y z _ Z1 Z2 Z3)))
  go_wp2
  go_ret
  exact ⟨rfl, ⟨_, rfl⟩⟩

set_option maxHeartbeats 1000000 in
theorem toBox_in (A L H : Option Addr) (p lo hi : List Int) (n c d s : Nat) (w : World) (hA : Arr w w.heap.size A n (i64s p)) (hL : Arr w w.heap.size L n (i64s lo)) (hH : Arr w w.heap.size H n (i64s hi)) (hp : IsI p) (hl : IsI lo) (hh : IsI hi) (h1 : 1 ≤ n) (h8 : n ≤ 8) :
    Calls Try.prog 238 #[.slice A n c, .agg #[.slice L n d, .slice H n s]] w fun e w' => e = .returned (.tuple #[dv (dbox p lo hi n), .int .i64 0]) ∧ Below w.heap.size w w' := by
  have HP := hideP hp; have HL := hideP hl; have HH := hideP hh
  have hpt : isPt n = true := by unfold isPt; simp; omega
  have hD := dbox_lt p lo hi n hp hl hh h8
  obtain ⟨D, eD⟩ : ∃ D, D = dbox p lo hi n := ⟨_, rfl⟩
  have eD' : (sides (fun i => gap (p.getD i 0) (lo.getD i 0) (hi.getD i 0)) n).sum % 340282366920938463463374607431768211456 = D := by
    rw [eD]; exact Nat.mod_eq_of_lt (by unfold dbox at hD; omega)
  rw [← eD]
  have HA := hideP hA; have AL := hideP hL; have AH := hideP hH
  have ED := hideP eD'
  clear hp hl hh hD eD eD' hA hL hH
  go_enter Try.func238, Try.ntmps238
  go_wp2_with fail
  obtain ⟨w1, hw1⟩ : ∃ w1, w1 = ((w.alloc (Obj.cells #[Value.slice A n c] 39)).alloc (Obj.cells #[Value.slice L n d, Value.slice H n s] 41)).alloc (Obj.cells #[.int .u64 0, .int .u64 0] 186) := ⟨_, rfl⟩
  have c1 : One w1 w.heap.size 39 (.slice A n c) := by rw [hw1]; exact ((One.new _ _ _).alloc _).alloc _
  have c2 : Two w1 (w.heap.size + 1) 41 (.slice L n d) (.slice H n s) := by rw [hw1]; exact (Two.new' _ _ _ _ _ (by simp)).alloc _
  have c3 : Two w1 (w.heap.size + 1 + 1) 186 (.int .u64 (0 : Nat)) (.int .u64 (0 : Nat)) := by rw [hw1]; exact Two.new' _ _ _ _ _ (by simp)
  have cb : Below w.heap.size w w1 := by rw [hw1]; exact (((Below.refl _ _).alloc (Nat.le_refl _) _).alloc (by simp) _).alloc (by simp; omega) _
  rw [← hw1]
  clear hw1
  have C1 := hideP c1; have C2 := hideP c2; have C3 := hideP c3; have CB := hideP cb
  have k1 := c1.c0
  have k2 := c2.c0
  have k3 := c2.c1
  clear c1 c2 c3 cb
  refine (isPoint_any A n c w1).mono ?_
  rintro e w' ⟨rfl, rfl⟩
  rw [hpt]
  go_wp2_with fail
  refine (total_any n _ 268 #[.pointer (some ⟨w.heap.size, 0, none⟩), .pointer (some ⟨w.heap.size + 1, 0, none⟩)] rfl (fun i => gap (p.getD i 0) (lo.getD i 0) (hi.getD i 0)) (fun i _ => gap_lt (HP.out i) (HL.out i) (HH.out i)) w1 (by omega) (run_enter Try.func268 rfl rfl) (fun i W hi hW => ?_)).mono ?_
  · exact toBox1 i _ _ A L H p lo _ n n n c d s W (C1.out.after hW).c0 (C2.out.after hW).c0 (C2.out.after hW).c1 ((HA.out.after CB.out).after hW) ((AL.out.after CB.out).after hW) ((AH.out.after CB.out).after hW) HP.out HL.out HH.out hi hi hi
  rw [ED.out]
  unfold dv dvp
  rintro e w2 ⟨rfl, hb2⟩
  clear k1 k2 k3
  have r1 := C3.out.after hb2
  have rb := CB.out.trans (hb2.mono CB.out.size)
  have f0 := r1.fz 0
  have f1 := r1.fz 1
  have p0 := r1.c0
  have p1 := r1.c1
  have R1 := hideP r1; have RB := hideP rb
  clear r1 rb hb2
  go_wp2
  refine ret_dist2 rfl rfl rfl (R1.out.set2 _ _) rfl ?_
  refine ⟨rfl, ?_⟩
  exact (RB.out.setCell (p := ⟨_, 0, none⟩) (by simp; omega) _).setCell (p := ⟨_, 1, none⟩) (by simp; omega) _

set_option maxHeartbeats 1000000 in
theorem toBox_no (A L H : Option Addr) (n m k c d s : Nat) (w : World) (h : (isPt n && decide (m = n) && decide (k = n)) = false) :
    Calls Try.prog 238 #[.slice A n c, .agg #[.slice L m d, .slice H k s]] w fun e w' => e = .returned (.tuple #[dv 0, .int .i64 1]) ∧ Below w.heap.size w w' := by
  by_cases hp : isPt n = true
  · by_cases hm : m = n
    · have t : ((m : Int) != (n : Int)) = false := by simp; omega
      have t' : ((k : Int) != (n : Int)) = true := by rw [hp] at h; simp at h ⊢; omega
      have HM := hideP hm; clear hm
      go_enter Try.func238, Try.ntmps238
      go_wp2_with fail
      refine (isPoint_any A n c _).mono ?_
      rintro e w' ⟨rfl, rfl⟩
      rw [hp]
      go_wp2
      refine ret_dist2 rfl rfl rfl (Two.new' _ _ _ _ (w.heap.size + 1 + 1) (by simp)) rfl ?_
      exact ⟨rfl, (((Below.refl _ _).alloc (Nat.le_refl _) _).alloc (by simp) _).alloc (by simp; omega) _⟩
    · have t : ((m : Int) != (n : Int)) = true := by simp; omega
      clear h
      go_enter Try.func238, Try.ntmps238
      go_wp2_with fail
      refine (isPoint_any A n c _).mono ?_
      rintro e w' ⟨rfl, rfl⟩
      rw [hp]
      go_wp2
      refine ret_dist2 rfl rfl rfl (Two.new' _ _ _ _ (w.heap.size + 1 + 1) (by simp)) rfl ?_
      exact ⟨rfl, (((Below.refl _ _).alloc (Nat.le_refl _) _).alloc (by simp) _).alloc (by simp; omega) _⟩
  · have hp : isPt n = false := by simpa using hp
    clear h
    go_enter Try.func238, Try.ntmps238
    go_wp2_with fail
    refine (isPoint_any A n c _).mono ?_
    rintro e w' ⟨rfl, rfl⟩
    rw [hp]
    go_wp2
    refine ret_dist2 rfl rfl rfl (Two.new' _ _ _ _ (w.heap.size + 1 + 1) (by simp)) rfl ?_
    exact ⟨rfl, (((Below.refl _ _).alloc (Nat.le_refl _) _).alloc (by simp) _).alloc (by simp; omega) _⟩
end Go.Proofs.Ytgcbodpjidoanaa
