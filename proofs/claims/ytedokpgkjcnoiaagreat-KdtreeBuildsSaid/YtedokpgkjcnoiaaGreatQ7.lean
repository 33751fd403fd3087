/- What an operation does, seen from afar: windows into rows and variables of one's own; copy. No program in sight. A map's block as the list of its entries, in the order in which they lie: look-up, store, delete, length, range; no program in sight. -/
import Derived.Maps.RangeWalk
import Derived.Maps.OwnOps
import Derived.Maps.OwnSet
import Derived.WalkKit
import Derived.WalkSpells
import Derived.WalkLawsBesides
import Derived.Test.YtedokpgkjcnoiaaGreatQ6
set_option linter.unusedVariables false
set_option linter.unusedSimpArgs false
namespace Go.Proofs.YtedokpgkjcnoiaaGreat
open Go.RowKit
section
variable {P : Program} {C : Cx}
def aSliceO (P : Program) (H : OH) (T : TypeId) (x : AV) (lo hi : Option AV) : Option Rs :=
 match P.underlying T, x with
 | some (.slice e), .own o g => match look H o, P.info? e with
  | some (.row ty sz g' fz n f), some ie => match bdA 0 lo, bdA n hi, Nat.beq g' g, Nat.beq ie.size sz with
   | some l, some h, true, true => some ⟨[0 ≤ l, l ≤ h, h ≤ n, 0 < n], .val (.win o g l.toNat sz (h.toNat - l.toNat))⟩
   | _, _, _, _ => none
  | _, _ => none
 | some (.array len e), .ptr o g i j => match P.info? e, bdA 0 lo, bdA len hi with
  | some ie, some l, some h => match curG H o g, Nat.beq i 0, Nat.beq j 0 with
   | true, true, true => some ⟨[0 ≤ l, l ≤ h, h ≤ len], .val (.win o g l.toNat ie.size (h.toNat - l.toNat))⟩
   | _, _, _ => none
  | _, _, _ => none
 | _, _ => none
theorem aSliceO_ok (G : Gam C) {T : TypeId} {x : AV} {lo hi : Option AV} {v : Value} {vl vh : Option Value} {r : Rs} (hx : Rv C x v) (hlo : OptR C lo vl) (hhi : OptR C hi vh) (h : aSliceO P C.H T x lo hi = some r) (hl : allP r.obl) :
    Does P C (do pure (.value (← Instr.sliceAt T v vl vh none))) r.eff := by
  unfold aSliceO at h
  split at h
  · rename_i e o g hu
    split at h
    · rename_i ty sz g' fz n f ie ho hi'
      split at h
      · rename_i l q el eh hg hs
        obtain rfl := Option.some.inj h
        obtain rfl := (beq_nat_iff _ _).1 hs
        obtain rfl := (beq_nat_iff _ _).1 hg
        obtain ⟨h0, h1, h2, h3, _⟩ := hl
        have hsz : (sizeOf e).run P C.W = .ok ie.size C.W := by simp [sizeOf, typeInfo, hi']
        have hv := own_val G hx ho rfl (by simp only [curG, ho, Ob.gen]; exact Nat.beq_refl _)
        obtain ⟨us, q1, q2, q4, q3⟩ := G.ok o _ ho
        rcases q1.2 with ⟨_, rfl⟩ | ⟨b, cap, cur, qv, _, hh, hnc, _⟩
        · omega
        · have hb := run_bounds (P := P) (W := C.W) (b := true) hlo hhi el eh h0 h1 h2 hnc
          rw [hv, qv]
          refine does_val G (v := .slice (if cap = l.toNat then some ⟨b, 0, none⟩ else (some (⟨b, 0, none⟩ : Addr)).map (·.add (l.toNat * ie.size))) (q.toNat - l.toNat) (cap - l.toNat)) ?_ ?_
          · simp only [Instr.sliceAt, Instr.slice, Sem.run_bind, run_underlying hu, Result.andThen_ok, hb, hsz, Sem.run_pure]
          · refine ⟨_, ho, Nat.le_refl _, fun _ => ⟨b, n, cap, _, _, qv, by omega, rfl, fun hn => ?_⟩⟩
            rw [if_neg (by omega), Option.map_some, Addr.add_mid, Nat.zero_add]
      · cases h
    · cases h
  · rename_i len e o g i j hu
    split at h
    · rename_i ie l q hi' el eh
      split at h
      · rename_i hc hi0 hj0
        obtain rfl := Option.some.inj h
        obtain rfl := (beq_nat_iff _ _).1 hi0
        obtain rfl := (beq_nat_iff _ _).1 hj0
        obtain ⟨h0, h1, h2, _⟩ := hl
        have hsz : (sizeOf e).run P C.W = .ok ie.size C.W := by simp [sizeOf, typeInfo, hi']
        obtain ⟨ob, b, n, c, k1, k2, k3, rfl⟩ := ptr_cur hx hc
        have hb := run_bounds (P := P) (W := C.W) (b := false) hlo hhi el eh h0 h1 h2 (Nat.le_refl len)
        have e0 : 0 * ob.sz.1 + 0 = 0 := by simp
        rw [e0]
        refine does_val G (v := .slice (some (if len = l.toNat then ⟨b, 0, none⟩ else (⟨b, 0, none⟩ : Addr).add (l.toNat * ie.size))) (q.toNat - l.toNat) (len - l.toNat)) ?_ ?_
        · simp only [Instr.sliceAt, Sem.run_bind, run_underlying hu, Result.andThen_ok, Instr.sureAddr, Sem.run_pure, hb, hsz]
        · refine ⟨ob, k1, by omega, fun _ => ⟨b, n, c, _, _, k3, by omega, rfl, fun hn => ?_⟩⟩
          rw [if_neg (by omega), Addr.add_mid, Nat.zero_add]
      · cases h
    · cases h
  · cases h
/-- a byte of a text -/
def aIndexS (P : Program) (T : TypeId) (x ix : AV) : Option Rs := match P.underlying T, x, ix with
 | some .string, .d (.v (.string s)), .d (.v (.int _ z)) => some ⟨[0 ≤ z, z < s.size], .val (exI .u8 (s.data.toList.getD z.toNat 0).toNat)⟩
 | _, _, _ => none
theorem aIndexS_ok (G : Gam C) {T : TypeId} {x ix : AV} {v vi : Value} {r : Rs} (hx : Rv C x v) (hi : Rv C ix vi) (h : aIndexS P T x ix = some r) (hl : allP r.obl) :
    Does P C (do pure (.value (← Instr.index T v vi))) r.eff := by
  unfold aIndexS at h
  split at h
  · rename_i s k z hu
    obtain rfl := rv_ex_inv hx
    obtain rfl := rv_ex_inv hi
    obtain rfl := Option.some.inj h
    obtain ⟨q0, q1, _⟩ := hl
    have hlt : z.toNat < s.size := by omega
    have e : s[z.toNat]? = some (s.data.toList.getD z.toNat 0) := by
      rw [getElem?_pos s z.toNat hlt]
      congr 1
      rw [List.getD_eq_getElem?_getD, List.getElem?_eq_getElem (by simpa using hlt)]
      rfl
    refine does_ex G ?_
    simp only [Instr.index, asIntOf, Sem.run_bind, Sem.run_pure, Result.andThen_ok, run_underlying hu, if_pos q0, e]
  · cases h
/-- an element behind a window -/
def aIndexW (P : Program) (H : OH) (T : TypeId) (x ix : AV) : Option Rs := match P.underlying T, ix, x with
 | some (.slice e), .d (.v (.int k z)), .win o g a sz n => match P.info? e, look H o with
  | some ti, some (.box _ _) => match Nat.beq g 0, Nat.beq sz ti.size with
   | true, true => some ⟨[0 ≤ z, z < n], .val (.ptr o g 0 ((a + z.toNat) * sz))⟩
   | _, _ => none
  | some ti, some (.row _ sz' g' _ _ _) => match Nat.beq g g', Nat.beq sz ti.size, Nat.beq sz sz' with
   | true, true, true => some ⟨[0 ≤ z, z < n], .val (.ptr o g (a + z.toNat) 0)⟩
   | _, _, _ => none
  | _, _ => none
 | _, _, _ => none
theorem aIndexW_ok (G : Gam C) {T : TypeId} {x ix : AV} {v vi : Value} {r : Rs} (hx : Rv C x v) (hi : Rv C ix vi) (h : aIndexW P C.H T x ix = some r) (hl : allP r.obl) :
    Does P C (do pure (.value (← Instr.indexAt T v vi))) r.eff := by
  unfold aIndexW at h
  split at h
  · rename_i e k z o g a sz n hu
    obtain rfl := rv_ex_inv hi
    obtain ⟨ob, h1, h2, h3⟩ := hx
    split at h
    · rename_i ti ty cs hti ho
      rw [h1] at ho
      obtain rfl := Option.some.inj ho
      split at h
      · rename_i hg hs
        obtain rfl := Option.some.inj h
        obtain rfl := (beq_nat_iff _ _).1 hg
        obtain rfl := (beq_nat_iff _ _).1 hs
        obtain ⟨q0, q1, _⟩ := hl
        obtain ⟨b, N, c, A, c', e1, hn, rfl, hA⟩ := h3 rfl
        rw [hA (by omega)]
        refine does_val G (v := .pointer (some ⟨b, a * ti.size + z.toNat * ti.size, none⟩)) (by simp only [Sem.run_bind, run_indexAt_sl hu hti q0 q1, Result.andThen_ok, Sem.run_pure]) ⟨_, h1, Nat.le_refl _, fun _ => ⟨b, N, c, e1, ?_⟩⟩
        rw [Nat.zero_mul, Nat.zero_add, Nat.add_mul]
      · cases h
    · rename_i ti ty sz' g' fz n' f hti ho
      rw [h1] at ho
      obtain rfl := Option.some.inj ho
      split at h
      · rename_i hg hs hs2
        obtain rfl := Option.some.inj h
        obtain rfl := (beq_nat_iff _ _).1 hg
        obtain rfl := (beq_nat_iff _ _).1 hs
        have hs2 := (beq_nat_iff _ _).1 hs2
        obtain ⟨q0, q1, _⟩ := hl
        obtain ⟨b, N, c, A, c', e1, hn, rfl, hA⟩ := h3 rfl
        rw [hA (by omega)]
        refine does_val G (v := .pointer (some ⟨b, a * ti.size + z.toNat * ti.size, none⟩)) (by simp only [Sem.run_bind, run_indexAt_sl hu hti q0 q1, Result.andThen_ok, Sem.run_pure]) ⟨_, h1, Nat.le_refl _, fun _ => ⟨b, N, c, e1, ?_⟩⟩
        show _ = Value.pointer (some ⟨b, (a + z.toNat) * sz' + 0, none⟩)
        rw [← hs2, Nat.add_zero, Nat.add_mul]
      · cases h
    · cases h
  · cases h
/-! ### copy -/
theorem run_copyA {W : World} {T T' ty e : TypeId} {ie : TypeInfo} (hu : P.underlying T = some (.slice e)) (hi : P.info? e = some ie) {A A2 : Option Addr} {n m c c2 b off t : Nat} {cur : Array Value} {news : List Value}
    (hA : 0 < n → A = some ⟨b, off, none⟩) (hl : news.length = m * ie.size) (h1 : ∀ u ∈ news, u.oneCell' = true) (hs : m = 0 ∨ ∃ b off, A2 = some ⟨b, off, none⟩ ∧ ∀ j, j < m * ie.size → W.cell? ⟨b, off + j, none⟩ = some (news.getD j undef))
    (hh : W.heap[b]? = some (.cells cur t (0, 0))) (hf : off + Nat.min m n * ie.size ≤ cur.size) :
    (Builtin.copy_ #[T, T'] ty #[.slice A n c, .slice A2 m c2]).run P W = .ok (.int .i64 (Nat.min m n : Nat)) (W.setCells b off (news.take (Nat.min m n * ie.size))) := by
  obtain ⟨k, hk⟩ : ∃ k, k = Nat.min m n := ⟨_, rfl⟩
  have km : k ≤ m := by rw [hk]; exact Nat.min_le_left _ _
  have kn : k ≤ n := by rw [hk]; exact Nat.min_le_right _ _
  rw [← hk] at hf ⊢
  have hlt : (news.take (k * ie.size)).length = k * ie.size := by
    rw [List.length_take, hl]
    have : k * ie.size ≤ m * ie.size := Nat.mul_le_mul_right _ km
    omega
  have hfc : (Builtin.firstCells ie.size k (.slice A2 m c2)).run P W = .ok (news.take (k * ie.size)).toArray W := by
    rcases Nat.eq_zero_or_pos k with q | q
    · subst q
      cases A2 with
      | none => simp [Builtin.firstCells]
      | some a =>
        have := run_firstCells_some (P := P) (w := W) ie.size 0 a m c2 [] (by simp) (fun j v h => by cases h)
        simpa using this
    · rcases hs with hs | ⟨b2, off2, rfl, hc⟩
      · omega
      · exact run_firstCells_some (P := P) (w := W) ie.size k ⟨b2, off2, none⟩ m c2 _ hlt fun j v hj => by
          rw [Addr.add_mid]
          have hj' := (List.getElem?_eq_some_iff.1 hj).1
          rw [hlt] at hj'
          have : k * ie.size ≤ m * ie.size := Nat.mul_le_mul_right _ km
          rw [hc j (by omega), ← hj, List.getElem?_take, if_pos hj', List.getD_eq_getElem?_getD, List.getElem?_eq_getElem (by omega)]; rfl
  have hst : A ≠ none → (storeCells ⟨b, off, none⟩ (news.take (k * ie.size))).run P W = .ok () (W.setCells b off (news.take (k * ie.size))) := fun _ => by
    have := run_storeCells_cells (P := P) b off (news.take (k * ie.size)) 0 W (fun j hj => by
        rw [hlt] at hj
        rw [Nat.add_zero, cell_of_row W b _ cur t (0, 0) hh]
        simp; omega) (fun j hj => frozen_of_row W b _ cur t hh) (fun u hu => h1 u (List.mem_of_mem_take hu))
    simpa using this
  rcases Nat.eq_zero_or_pos n with q | q
  · have k0 : k = 0 := by omega
    subst k0
    have e0 : news.take (0 * ie.size) = [] := by simp
    rw [e0] at hfc ⊢
    cases A with
    | none => simp [Builtin.copy_, run_underlying hu, Builtin.lenOf, sizeOf, typeInfo, hi, ← hk, hfc, goInt]; rfl
    | some a => simp [Builtin.copy_, run_underlying hu, Builtin.lenOf, sizeOf, typeInfo, hi, ← hk, hfc, goInt, storeCells]; rfl
  · rw [hA q] at hst ⊢
    simp [Builtin.copy_, run_underlying hu, Builtin.lenOf, sizeOf, typeInfo, hi, ← hk, hfc, goInt, hst]
/-- k elements of one cell, from i on -/
def rngF (f : Nat → List DV) : Nat → Nat → List DV
 | 0, _ => []
 | k + 1, i => (f i).getD 0 default :: rngF f k (i + 1)
abbrev rng1 (f : Nat → List DV) (k : Nat) : List DV := rngF f k 0
theorem rngF_len (f : Nat → List DV) : ∀ k i, (rngF f k i).length = k
 | 0, _ => rfl
 | k + 1, i => by simp [rngF, rngF_len f k]
theorem rng1_len (f : Nat → List DV) (k : Nat) : (rng1 f k).length = k := rngF_len f k 0
theorem rngF_get (f : Nat → List DV) : ∀ (k s i : Nat), i < k → (rngF f k s).getD i default = (f (s + i)).getD 0 default
 | 0, s, i, h => by omega
 | k + 1, s, 0, h => rfl
 | k + 1, s, i + 1, h => by
  have := rngF_get f k (s + 1) i (by omega)
  rw [show s + (i + 1) = s + 1 + i by omega, ← this]
  simp [rngF]
theorem rng1_get (f : Nat → List DV) (k i : Nat) (h : i < k) : (rng1 f k).getD i default = (f i).getD 0 default := by rw [rngF_get f k 0 i h, Nat.zero_add]
def mapD : List DV → List AV
 | [] => []
 | a :: r => .d a :: mapD r
theorem mapD_eq : ∀ l : List DV, mapD l = l.map .d
 | [] => rfl
 | a :: r => by simp [mapD, mapD_eq r]
/-- k elements of g laid over f from a on -/
def ovl (a k : Nat) (g f : Nat → List DV) (i : Nat) : List DV := match Nat.ble a i, Nat.blt i (a + k) with
 | true, true => g (i - a)
 | _, _ => f i
theorem ovl_eq (a k : Nat) (g f : Nat → List DV) (i : Nat) : ovl a k g f i = if a ≤ i ∧ i < a + k then g (i - a) else f i := by
 unfold ovl
 split
 ·rename_i h1 h2
  rw [if_pos ⟨Nat.le_of_ble_eq_true h1, (blt_iff _ _).1 h2⟩]
 ·rename_i h
  rw [if_neg fun q => h (Nat.ble_eq_true_of_le q.1) ((blt_iff _ _).2 q.2)]
def aCopy (P : Program) (H : OH) (T : TypeId) (d x : AV) : Option Rs :=
 match P.underlying T, d with
 | some (.slice e), .win o g a sz n => match P.info? e with
  | some ie => match srcX ie.size H x, look H o with
   | some (sz', m, f2), some (.box ty ds) => match Nat.beq g 0, Nat.beq sz 1, Nat.beq ie.size 1, Nat.beq sz' 1, Nat.ble (a + Nat.min m n) ds.length with
    | true, true, true, true, true => some ⟨[], .put o (.box ty (spl ds a (mapD (rng1 f2 (Nat.min m n))))) (exI .i64 (Nat.min m n : Nat))⟩
    | _, _, _, _, _ => none
   | some (sz', m, f2), some (.row ty sz'' g' false N f) => match Nat.beq g g', Nat.beq sz sz'', Nat.beq ie.size sz'', Nat.beq sz' sz'' with
    | true, true, true, true => some ⟨[a + Nat.min m n ≤ N], .put o (.row ty sz'' g' false N (ovl a (Nat.min m n) f2 f)) (exI .i64 (Nat.min m n : Nat))⟩
    | _, _, _, _ => none
   | _, _ => none
  | none => none
 | _, _ => none
theorem aCopy_ok (G : Gam C) {T T' ty : TypeId} {d x : AV} {vd vx : Value} {r : Rs} (hd : Rv C d vd) (hx : Rv C x vx) (h : aCopy P C.H T d x = some r) (hl : allP r.obl) :
    Does P C (do pure (.value (← Builtin.copy_ #[T, T'] ty #[vd, vx]))) r.eff := by
  unfold aCopy at h
  split at h
  · rename_i e o g a sz n hu
    split at h
    · rename_i ie hi
      obtain ⟨ob, h1, h2, h3⟩ := hd
      split at h
      · -- a variable
        rename_i sz' m f2 ty' ds hsrc ho
        rw [h1] at ho
        obtain rfl := Option.some.inj ho
        split at h
        · rename_i k1 k2 k3 k4 k5
          obtain rfl := Option.some.inj h
          obtain rfl := (beq_nat_iff _ _).1 k1
          obtain rfl := (beq_nat_iff _ _).1 k2
          have k3' := (beq_nat_iff _ _).1 k3
          obtain rfl := (beq_nat_iff _ _).1 k4
          have hle := Nat.le_of_ble_eq_true k5
          obtain ⟨b, N, c, A, c', e1, hnc, rfl, hA⟩ := h3 rfl
          obtain ⟨b', us, e2, hh, rr⟩ := G.ok o _ h1
          have hb : b = b' ∧ N = 1 ∧ c = 1 := by rw [e1] at e2; injection e2 with q r s; injection q with q; injection q; exact ⟨‹_›, r, s⟩
          obtain ⟨rfl, rfl, rfl⟩ := hb
          obtain ⟨A2, c2, news, rfl, q1, q2, q3, q4, q5⟩ := srcX_spec G hx hsrc
          obtain ⟨k, hk⟩ : ∃ k, k = Nat.min m n := ⟨_, rfl⟩
          have km : k ≤ m := by rw [hk]; exact Nat.min_le_left _ _
          have q1' : news.length = m := by rw [q1, Nat.mul_one]
          have hA' : 0 < n → A = some ⟨b, a, none⟩ := fun h => by rw [hA h, Nat.mul_one]
          have hrun := run_copyA (P := P) (W := C.W) (T := T) (T' := T') (ty := ty) (c := c') (c2 := c2) hu hi hA' (by rw [k3']; exact q1) q3 (by rw [k3']; exact q5) hh (by rw [k3', Nat.mul_one]; simp [← rr.1]; exact hle)
          simp only [k3', Nat.mul_one] at hrun
          rw [← hk] at hrun hle ⊢
          obtain ⟨ns, hns⟩ : ∃ ns, ns = news.take k := ⟨_, rfl⟩
          rw [← hns] at hrun
          have nl : ns.length = k := by rw [hns, List.length_take]; omega
          have ml : (mapD (rng1 f2 k)).length = k := by rw [mapD_eq]; simp [rng1_len]
          obtain ⟨w1, w2, w3, w4⟩ := world_setCells b ns a C.W
          have hown : (C.vl o).ownBlock = some b := by rw [e1]; rfl
          obtain ⟨hF, hG⟩ := G.turn (o := o) (b' := .box ty' (spl ds a (mapD (rng1 f2 k)))) (W' := C.W.setCells b a ns) (vo := C.vl o) (Nat.le_of_eq w1.symm) w2 w3 w4
            (fun k hk hne => heap_setCells_other b _ _ _ k (fun e => hne _ h1 rfl (by rw [hown, e])))
            (fun k hk => .inr ⟨_, h1, rfl, hk⟩) (fun ob hob => by rw [h1] at hob; obtain rfl := Option.some.inj hob; exact .inl ⟨rfl, (congrArg (fun n => (n, false)) (spl_len _ _ _)), rfl⟩)
            (fun hF => ⟨b, spl us a ns, by show updV C.vl o (C.vl o) o = _; rw [updV_same, e1], by
                have := heap_setCells b ns a C.W us.toArray ty' hh (by rw [nl]; simp [← rr.1]; omega)
                exact this, by rw [spl_len, spl_len]; exact rr.1, fun q hq => by
                rw [spl_len] at hq
                rw [spl_getD _ _ _ _ _ (by rw [ml]; exact hle), spl_getD _ _ _ _ _ (by rw [nl, ← rr.1]; exact hle), nl, ml]
                by_cases hin : a ≤ q ∧ q < a + k
                · rw [if_pos hin, if_pos hin]
                  have hj : q - a < k := by omega
                  have := (q4 (q - a) 0 (by omega) (by omega)).fr hF
                  rw [Nat.mul_one, Nat.add_zero] at this
                  have z1 : ns.getD (q - a) undef = news.getD (q - a) undef := by rw [hns]; simp [List.getD_eq_getElem?_getD, List.getElem?_take, hj]
                  have z2 : (mapD (rng1 f2 k)).getD (q - a) .any = .d ((f2 (q - a)).getD 0 default) := by
                    rw [mapD_eq, show ((rng1 f2 k).map AV.d).getD (q - a) .any = .d ((rng1 f2 k).getD (q - a) default) by
                      simp [List.getD_eq_getElem?_getD, List.getElem?_map, List.getElem?_eq_getElem (show q - a < (rng1 f2 k).length by rw [rng1_len]; exact hj)], rng1_get f2 k _ hj]
                  rw [z1, z2]
                  exact this
                · rw [if_neg hin, if_neg hin]; exact (rr.2 q hq).fr hF⟩)
          refine ⟨_, C.put o (.box ty' (spl ds a (mapD (rng1 f2 k)))) (C.W.setCells b a ns) (C.vl o), .inl ?_, rv_ex _, rfl, rfl, hF, hG⟩
          simp only [Sem.run_bind, hrun, Result.andThen_ok, Sem.run_pure]
          rfl
        · cases h
      · -- a row
        rename_i sz' m f2 ty' sz'' g' N f hsrc ho
        rw [h1] at ho
        obtain rfl := Option.some.inj ho
        split at h
        · rename_i k1 k2 k3 k4
          obtain rfl := Option.some.inj h
          obtain rfl := (beq_nat_iff _ _).1 k1
          obtain rfl := (beq_nat_iff _ _).1 k2
          have k3' := (beq_nat_iff _ _).1 k3
          obtain rfl := (beq_nat_iff _ _).1 k4
          have hle : a + Nat.min m n ≤ N := hl.1
          obtain ⟨b, N', c, A, c', e1, hnc', rfl, hA⟩ := h3 rfl
          obtain ⟨us, p1, p2, p4, p3⟩ := G.ok o _ h1
          obtain ⟨A2, c2, news, rfl, q1, q2, q3, q4, q5⟩ := srcX_spec G hx hsrc
          rcases p1.2 with ⟨q, rfl⟩ | ⟨b', cap, cur, q, hb0, hh, hnc, hcm, hcs, ht⟩
          · rw [e1] at q; cases q
          rw [e1] at q
          obtain ⟨rfl, rfl, rfl⟩ : b = b' ∧ N' = N ∧ c = cap := by injection q with q r s; injection q with q; injection q; exact ⟨‹_›, r, s⟩
          obtain ⟨k, hk⟩ : ∃ k, k = Nat.min m n := ⟨_, rfl⟩
          have km : k ≤ m := by rw [hk]; exact Nat.min_le_left _ _
          have hus : us.length = N' * sz' := p1.1
          have hrow : (a + k) * sz' ≤ N' * sz' := Nat.mul_le_mul_right _ (by rw [hk]; exact hle)
          have hcap : N' * sz' ≤ c * sz' := Nat.mul_le_mul_right _ hnc
          rw [Nat.add_mul] at hrow
          have hkm : k * sz' ≤ m * sz' := Nat.mul_le_mul_right _ km
          have hrun := run_copyA (P := P) (W := C.W) (T := T) (T' := T') (ty := ty) (c := c') (c2 := c2) hu hi hA (by rw [k3']; exact q1) q3 (by rw [k3']; exact q5) hh (by rw [k3', ← hk, hcs]; omega)
          rw [k3'] at hrun
          rw [← hk] at hrun hle ⊢
          obtain ⟨ns, hns⟩ : ∃ ns, ns = news.take (k * sz') := ⟨_, rfl⟩
          rw [← hns] at hrun
          have nl : ns.length = k * sz' := by rw [hns, List.length_take]; omega
          have ng : ∀ j, j < k * sz' → ns.getD j undef = news.getD j undef := fun j hj => by rw [hns]; simp [List.getD_eq_getElem?_getD, List.getElem?_take, hj]
          have hfit : a * sz' + ns.length ≤ cur.size := by rw [nl, hcs]; omega
          obtain ⟨w1, w2, w3, w4⟩ := world_setCells b ns (a * sz') C.W
          have hown : (C.vl o).ownBlock = some b := by rw [e1]; rfl
          obtain ⟨hF, hG⟩ := G.turn (o := o) (b' := .row ty' sz' g false N' (ovl a k f2 f)) (W' := C.W.setCells b (a * sz') ns) (vo := C.vl o) (Nat.le_of_eq w1.symm) w2 w3 w4
            (fun k hk hne => heap_setCells_other b _ _ _ k (fun e => hne _ h1 rfl (by rw [hown, e])))
            (fun k hk => .inr ⟨_, h1, rfl, hk⟩) (fun ob hob => by rw [h1] at hob; obtain rfl := Option.some.inj hob; exact .inl ⟨rfl, rfl, rfl⟩)
            (fun hF => ⟨spl us (a * sz') ns, ⟨by rw [spl_len]; exact hus, .inr ⟨b, c, (spl cur.toList (a * sz') ns).toArray, by show updV C.vl o (C.vl o) o = _; rw [updV_same, e1], hb0,
                heap_setCells b _ _ _ cur ty' hh hfit, hnc, hcm, by simp [spl_len, hcs], by
                  refine List.ext_getElem? fun q => ?_
                  rw [List.getElem?_take, spl_get us _ _ _ (by rw [nl, hus]; omega)]
                  by_cases hq : q < N' * sz'
                  · rw [if_pos hq, spl_get cur.toList _ _ _ (by simpa using hfit)]
                    have := congrArg (fun l => l[q]?) ht
                    simp only [List.getElem?_take, if_pos hq] at this
                    rw [this]
                  · rw [if_neg hq, if_neg (by rw [nl]; omega), List.getElem?_eq_none (by omega)]⟩⟩, fun i hi => by
                rw [ovl_eq]
                split
                · rename_i e; exact q2 _ (by omega)
                · exact p2 i hi, fun u hu => by
                obtain ⟨q, hq, rfl⟩ := List.getElem_of_mem hu
                have e := spl_get us (a * sz') ns q (by rw [nl, hus]; omega)
                rw [List.getElem?_eq_getElem hq] at e
                split at e
                · obtain ⟨_, e⟩ := List.getElem?_eq_some_iff.1 e.symm; rw [← e]; exact q3 _ (List.mem_of_mem_take (by rw [← hns]; exact List.getElem_mem _))
                · obtain ⟨_, e⟩ := List.getElem?_eq_some_iff.1 e.symm; rw [← e]; exact p4 _ (List.getElem_mem _), fun i j hi hj => by
                rw [ovl_eq, spl_getD _ _ _ _ _ (by rw [nl, hus]; omega), nl]
                by_cases e : a ≤ i ∧ i < a + k
                · obtain ⟨t, rfl⟩ : ∃ t, i = a + t := ⟨i - a, by omega⟩
                  have ht' : t < k := by omega
                  have := idx_lt (n := k) ht' hj
                  rw [if_pos e, if_pos (by rw [Nat.add_mul]; omega), show (a + t) * sz' + j - a * sz' = t * sz' + j by rw [Nat.add_mul]; omega, ng _ this, Nat.add_sub_cancel_left]
                  exact (q4 t j (by omega) hj).fr hF
                · rw [if_neg e, if_neg ?_]
                  · exact (p3 i j hi hj).fr hF
                  · rintro ⟨z1, z2⟩
                    apply e
                    constructor
                    · rcases Nat.lt_or_ge i a with y | y
                      · have : (i + 1) * sz' ≤ a * sz' := Nat.mul_le_mul_right _ (by omega)
                        rw [Nat.succ_mul] at this; omega
                      · exact y
                    · rcases Nat.lt_or_ge i (a + k) with y | y
                      · exact y
                      · have : (a + k) * sz' ≤ i * sz' := Nat.mul_le_mul_right _ y
                        rw [Nat.add_mul] at this; omega⟩)
          refine ⟨_, C.put o (.row ty' sz' g false N' (ovl a k f2 f)) (C.W.setCells b (a * sz') ns) (C.vl o), .inl ?_, rv_ex _, rfl, rfl, hF, hG⟩
          simp only [Sem.run_bind, hrun, Result.andThen_ok, Sem.run_pure]
          rfl
        · cases h
      · cases h
    · cases h
  · cases h
end
end Go.Proofs.YtedokpgkjcnoiaaGreat
namespace Go.Proofs.YtedokpgkjcnoiaaGreat
open Go.Maps (Keyed)
open Go.ChangeMaps
open Go.MapKept

/-- block b is a map with just these entries (key, element), in this order -/
def Ents (P : Program) (k : TypeId) (w : World) (b : Nat) (L : List (Value × Value)) : Prop :=
 ∃ es clock, w.heap[b]? = some (.map es clock) ∧ Stamped es clock ∧ es.toList.map (fun e => (e.key, e.val)) = L ∧ ∀ x ∈ es.toList, ∃ l, keyOf P k x.key = some l
/-- .. and block r an iterator over it; the entries whose keys are 'left' are still to come -/
def Rng (P : Program) (k : TypeId) (w : World) (b r : Nat) (L : List (Value × Value)) (left : Value → Prop) : Prop :=
 ∃ es clock since seen c0, w.heap[b]? = some (.map es clock) ∧ Stamped es clock ∧ es.toList.map (fun e => (e.key, e.val)) = L ∧ (∀ x ∈ es.toList, ∃ l, keyOf P k x.key = some l) ∧
  w.heap[r]? = some (.mapIter (some b) since seen c0) ∧ (∀ x ∈ es.toList, x.born < since) ∧ since ≤ c0 ∧ since ≤ clock ∧
  (∀ x ∈ es.toList, left x.key ↔ seen.contains x.born = false) ∧ (∀ v, left v → ∃ x ∈ es.toList, x.key = v)

section
variable {P : Program} {k : TypeId} {w w' : World} {b r : Nat} {L : List (Value × Value)} {left : Value → Prop}

theorem Ents.made (w : World) (P : Program) (k : TypeId) : Ents P k (w.alloc (.map #[] 0)) w.heap.size [] :=
 ⟨#[], 0, (MapKept.heap_alloc w _).1, stamped_empty 0, rfl, fun x hx => by simp at hx⟩
theorem Ents.lt (h : Ents P k w b L) : b < w.heap.size := by
 obtain ⟨es, clock, hb, _⟩ := h
 exact (Array.getElem?_eq_some_iff.1 hb).1
theorem Ents.of_block (h : Ents P k w b L) (e : w'.heap[b]? = w.heap[b]?) : Ents P k w' b L := by
 obtain ⟨es, clock, hb, r⟩ := h
 exact ⟨es, clock, e.trans hb, r⟩
theorem Ents.nodup (h : Ents P k w b L) : (L.map Prod.fst).Nodup := by
 obtain ⟨es, clock, _, hs, rfl, _⟩ := h
 rw [List.map_map]
 exact hs.2.2
theorem Ents.look_in (h : Ents P k w b L) (K : Keyed P k) {t e : TypeId} (ht : P.underlying t = some (.map k e)) {key val : Value} {kl : Lit} (hkey : keyOf P k key = some kl) (hm : (key, val) ∈ L) (c : Bool) :
    (Instr.lookup t (.map (some b)) key c).run P w = .ok (if c then .tuple #[val, .bool true] else val) w := by
  obtain ⟨es, clock, hb, hs, rfl, hk⟩ := h
  obtain ⟨e1, he1, he2⟩ := List.mem_map.1 hm
  simp only [Prod.mk.injEq] at he2
  rcases K.find w hkey es.toList hk with ⟨h1, h2⟩ | ⟨j, e0, h1, h2, h3⟩
  · exact absurd he2.1 (h2 e1 he1)
  · have e01 : e0 = e1 := entry_eq_of_key ((stamped_iff es clock).1 hs).2.2 (List.mem_of_getElem? h2) he1 (h3.trans he2.1.symm)
    subst e01
    simp [Instr.lookup, run_underlying ht, MapKept.run_getObj_map hb, K.check w _ hkey, h1, Result.andThen, he2.2]

theorem Ents.look_out (h : Ents P k w b L) (K : Keyed P k) {t e : TypeId} (ht : P.underlying t = some (.map k e)) {z : Value} (hz : (zeroValue e).run P w = .ok z w) {key : Value} {kl : Lit} (hkey : keyOf P k key = some kl) (hm : ∀ x ∈ L, x.1 ≠ key) (c : Bool) :
    (Instr.lookup t (.map (some b)) key c).run P w = .ok (if c then .tuple #[z, .bool false] else z) w := by
  obtain ⟨es, clock, hb, hs, rfl, hk⟩ := h
  rcases K.find w hkey es.toList hk with ⟨h1, h2⟩ | ⟨j, e0, h1, h2, h3⟩
  · simp [Instr.lookup, run_underlying ht, MapKept.run_getObj_map hb, K.check w _ hkey, h1, hz, Result.andThen]
  · exact absurd h3 (hm _ (List.mem_map.2 ⟨e0, List.mem_of_getElem? h2, rfl⟩))

theorem Ents.put_out (h : Ents P k w b L) (K : Keyed P k) {t e : TypeId} (ht : P.underlying t = some (.map k e)) {key val : Value} {kl : Lit} (hkey : keyOf P k key = some kl) (hm : ∀ x ∈ L, x.1 ≠ key) :
    ∃ o, (Instr.mapUpdate t (.map (some b)) key val).run P w = .ok () (setBlock w b o) ∧ Ents P k (setBlock w b o) b (L ++ [(key, val)]) := by
  obtain ⟨es, clock, hb, hs, rfl, hk⟩ := h
  rcases K.find w hkey es.toList hk with ⟨h1, h2⟩ | ⟨j, e0, h1, h2, h3⟩
  · refine ⟨.map (es.push ⟨key, val, clock⟩) (clock + 1), ?_, es.push ⟨key, val, clock⟩, clock + 1, heap_setBlock_same hb _, stamped_push hs h2, by simp, fun x hx => ?_⟩
    · simp [Instr.mapUpdate, run_underlying ht, MapKept.run_getObj_map hb, K.check w false hkey, h1, MapKept.run_setObj_map _ hb, Result.andThen, setBlock]
    · simp only [Array.toList_push, List.mem_append, List.mem_singleton] at hx
      rcases hx with hx | rfl
      · exact hk x hx
      · exact ⟨kl, hkey⟩
  · exact absurd h3 (hm _ (List.mem_map.2 ⟨e0, List.mem_of_getElem? h2, rfl⟩))

/-- a store of what is there -/
theorem Ents.put_same (h : Ents P k w b L) (K : Keyed P k) {t e : TypeId} (ht : P.underlying t = some (.map k e)) {key val : Value} {kl : Lit} (hkey : keyOf P k key = some kl) (hm : (key, val) ∈ L) :
    ∃ o, (Instr.mapUpdate t (.map (some b)) key val).run P w = .ok () (setBlock w b o) ∧ Ents P k (setBlock w b o) b L := by
  obtain ⟨es, clock, hb, hs, rfl, hk⟩ := h
  obtain ⟨e1, he1, he2⟩ := List.mem_map.1 hm
  simp only [Prod.mk.injEq] at he2
  rcases K.find w hkey es.toList hk with ⟨h1, h2⟩ | ⟨j, e0, h1, h2, h3⟩
  · exact absurd he2.1 (h2 e1 he1)
  · have e01 : e0 = e1 := entry_eq_of_key ((stamped_iff es clock).1 hs).2.2 (List.mem_of_getElem? h2) he1 (h3.trans he2.1.symm)
    subst e01
    have hj : es[j]? = some e0 := by simpa using h2
    have hsame : es.modify j (fun e' => { e' with key := key, val := val }) = es := by
      apply Array.ext_getElem?
      intro i
      rw [Array.getElem?_modify]
      split
      · rename_i hi; subst hi
        rw [hj]
        obtain ⟨k0, v0, b0⟩ := e0
        simp only at he2
        obtain ⟨rfl, rfl⟩ := he2
        rfl
      · rfl
    refine ⟨.map es clock, ?_, es, clock, heap_setBlock_same hb _, hs, rfl, hk⟩
    have := hsame
    simp [Instr.mapUpdate, run_underlying ht, MapKept.run_getObj_map hb, K.check w false hkey, h1, hj, h3, K.stays w hkey, MapKept.run_setObj_map _ hb, Result.andThen, setBlock, hsame]

theorem erase_eq_filter {α β : Type} (f : α → β) : ∀ (l : List α) (j : Nat) (e : α), l[j]? = some e → (l.map f).Nodup → ∀ q : α → Bool, (∀ x ∈ l, q x = true ↔ f x ≠ f e) → l.eraseIdx j = l.filter q
 | [], j, e, h, _, _, _ => by simp at h
 | a :: l, 0, e, h, hn, q, hq => by
  simp only [List.getElem?_cons_zero, Option.some.injEq] at h
  subst h
  rw [List.map_cons, List.nodup_cons] at hn
  have h0 : q a = false := by
   cases hc : q a
   ·rfl
   ·exact absurd rfl ((hq a (by simp)).1 hc)
  rw [List.eraseIdx_cons_zero, List.filter_cons, h0]
  simp only [Bool.false_eq_true, if_false]
  refine (List.filter_eq_self.2 fun x hx => (hq x (by simp [hx])).2 fun e1 => hn.1 (e1 ▸ List.mem_map.2 ⟨x, hx, rfl⟩)).symm
 | a :: l, j + 1, e, h, hn, q, hq => by
  simp only [List.getElem?_cons_succ] at h
  rw [List.map_cons, List.nodup_cons] at hn
  have h1 : q a = true := (hq a (by simp)).2 fun e1 => hn.1 (e1 ▸ List.mem_map.2 ⟨e, List.mem_of_getElem? h, rfl⟩)
  rw [List.eraseIdx_cons_succ, List.filter_cons, if_pos h1, erase_eq_filter f l j e h hn.2 q fun x hx => hq x (by simp [hx])]

theorem Ents.len (h : Ents P k w b L) {t e : TypeId} (ht : P.underlying t = some (.map k e)) (ty : TypeId) : (Builtin.len_ #[t] ty #[.map (some b)]).run P w = .ok (.int .i64 L.length) w := by
 obtain ⟨es, clock, hb, hs, rfl, hk⟩ := h
 simp [Builtin.len_, run_underlying ht, MapKept.run_getObj_map hb, Result.andThen, goInt]

theorem Rng.ne (h : Rng P k w b r L left) : r ≠ b := by
 obtain ⟨es, clock, since, seen, c0, hb, _, _, _, hr, _⟩ := h
 rintro rfl
 rw [hb] at hr
 cases hr
theorem Rng.of_block (h : Rng P k w b r L left) (e : w'.heap[b]? = w.heap[b]?) (e' : w'.heap[r]? = w.heap[r]?) : Rng P k w' b r L left := by
 obtain ⟨es, clock, since, seen, c0, hb, hs, hL, hk, hr, x⟩ := h
 exact ⟨es, clock, since, seen, c0, e.trans hb, hs, hL, hk, e'.trans hr, x⟩
/-- delete, outside of a range -/
theorem Ents.del (h : Ents P k w b L) (K : Keyed P k) {t e : TypeId} (ht : P.underlying t = some (.map k e)) {key : Value} {kl : Lit} (hkey : keyOf P k key = some kl) (ty : TypeId) (q : Value × Value → Bool) (hq : ∀ x ∈ L, q x = true ↔ x.1 ≠ key) :
    ∃ o, (Builtin.delete_ #[t, k] ty #[.map (some b), key]).run P w = .ok (.tuple #[]) (setBlock w b o) ∧ Ents P k (setBlock w b o) b (L.filter q) := by
  obtain ⟨es, clock, hb, hs, rfl, hk⟩ := h
  rcases K.find w hkey es.toList hk with ⟨h1, h2⟩ | ⟨j, e0, h1, h2, h3⟩
  · refine ⟨.map es clock, ?_, es, clock, heap_setBlock_same hb _, hs, ?_, hk⟩
    · simp [Builtin.delete_, run_underlying ht, MapKept.run_getObj_map hb, K.check w _ hkey, h1, MapKept.run_setObj_map _ hb, Result.andThen, setBlock]
    · refine (List.filter_eq_self.2 fun x hx => (hq x hx).2 ?_).symm
      obtain ⟨e1, he1, rfl⟩ := List.mem_map.1 hx
      exact h2 e1 he1
  · have hjs : j < es.size := by simpa using (List.getElem?_eq_some_iff.1 h2).1
    have hsub : (es.eraseIdxIfInBounds j).toList = es.toList.eraseIdx j := by
      unfold Array.eraseIdxIfInBounds
      rw [dif_pos hjs]
      simp
    refine ⟨.map (es.eraseIdxIfInBounds j) clock, ?_, es.eraseIdxIfInBounds j, clock, heap_setBlock_same hb _, stamped_erase hs j, ?_, fun x hx => ?_⟩
    · simp [Builtin.delete_, run_underlying ht, MapKept.run_getObj_map hb, K.check w _ hkey, h1, MapKept.run_setObj_map _ hb, Result.andThen, setBlock]
    · rw [hsub, List.filter_map]
      congr 1
      refine erase_eq_filter (fun e : MapEntry => e.key) es.toList j e0 h2 hs.2.2 _ fun x hx => ?_
      rw [h3]
      exact hq _ (List.mem_map.2 ⟨x, hx, rfl⟩)
    · rw [hsub] at hx
      exact hk x ((List.eraseIdx_sublist _ _).subset hx)
/-- delete of a key that has come, inside a range -/
theorem Rng.del (h : Rng P k w b r L left) (K : Keyed P k) {t e : TypeId} (ht : P.underlying t = some (.map k e)) {key : Value} {kl : Lit} (hkey : keyOf P k key = some kl) (ty : TypeId) (q : Value × Value → Bool) (hq : ∀ x ∈ L, q x = true ↔ x.1 ≠ key) (hl : ¬ left key) :
    ∃ o, (Builtin.delete_ #[t, k] ty #[.map (some b), key]).run P w = .ok (.tuple #[]) (setBlock w b o) ∧ Rng P k (setBlock w b o) b r (L.filter q) left ∧ (setBlock w b o).rangeLeft b r ≤ w.rangeLeft b r := by
  have hne := h.ne
  obtain ⟨es, clock, since, seen, c0, hb, hs, rfl, hk, hr, hold, hsc, hsk, hl1, hl2⟩ := h
  have hr' : ∀ o, (setBlock w b o).heap[r]? = some (.mapIter (some b) since seen c0) := fun o => (heap_setBlock_other hb o hne).trans hr
  rcases K.find w hkey es.toList hk with ⟨h1, h2⟩ | ⟨j, e0, h1, h2, h3⟩
  · refine ⟨.map es clock, ?_, ⟨es, clock, since, seen, c0, heap_setBlock_same hb _, hs, ?_, hk, hr' _, hold, hsc, hsk, hl1, hl2⟩, ?_⟩
    · simp [Builtin.delete_, run_underlying ht, MapKept.run_getObj_map hb, K.check w _ hkey, h1, MapKept.run_setObj_map _ hb, Result.andThen, setBlock]
    · refine (List.filter_eq_self.2 fun x hx => (hq x hx).2 ?_).symm
      obtain ⟨e1, he1, rfl⟩ := List.mem_map.1 hx
      exact h2 e1 he1
    · unfold World.rangeLeft
      rw [heap_setBlock_same hb _, hr' _, hb, hr]
      exact Nat.le_refl _
  · have hjs : j < es.size := by simpa using (List.getElem?_eq_some_iff.1 h2).1
    have hsub : (es.eraseIdxIfInBounds j).toList = es.toList.eraseIdx j := by
      unfold Array.eraseIdxIfInBounds
      rw [dif_pos hjs]
      simp
    have hmem : ∀ x ∈ (es.eraseIdxIfInBounds j).toList, x ∈ es.toList := fun x hx => by
      rw [hsub] at hx
      exact (List.eraseIdx_sublist _ _).subset hx
    have hfil : (es.eraseIdxIfInBounds j).toList.map (fun e => (e.key, e.val)) = (es.toList.map (fun e => (e.key, e.val))).filter q := by
      rw [hsub, List.filter_map]
      congr 1
      refine erase_eq_filter (fun e : MapEntry => e.key) es.toList j e0 h2 hs.2.2 _ fun x hx => ?_
      rw [h3]
      exact hq _ (List.mem_map.2 ⟨x, hx, rfl⟩)
    refine ⟨.map (es.eraseIdxIfInBounds j) clock, ?_, ⟨es.eraseIdxIfInBounds j, clock, since, seen, c0, heap_setBlock_same hb _, stamped_erase hs j, hfil, fun x hx => hk x (hmem x hx), hr' _, fun x hx => hold x (hmem x hx), hsc, hsk, fun x hx => hl1 x (hmem x hx), fun v hv => ?_⟩, ?_⟩
    · simp [Builtin.delete_, run_underlying ht, MapKept.run_getObj_map hb, K.check w _ hkey, h1, MapKept.run_setObj_map _ hb, Result.andThen, setBlock]
    · obtain ⟨x, hx, rfl⟩ := hl2 v hv
      have hxk : x.key ≠ key := fun e1 => hl (e1 ▸ hv)
      have : (x.key, x.val) ∈ (es.toList.map (fun e => (e.key, e.val))).filter q := List.mem_filter.2 ⟨List.mem_map.2 ⟨x, hx, rfl⟩, (hq _ (List.mem_map.2 ⟨x, hx, rfl⟩)).2 hxk⟩
      rw [← hfil] at this
      obtain ⟨y, hy, hyx⟩ := List.mem_map.1 this
      exact ⟨y, hy, (Prod.mk.injEq .. ▸ hyx).1⟩
    · unfold World.rangeLeft
      rw [heap_setBlock_same hb _, hr' _, hb, hr]
      show (leftOf (es.eraseIdxIfInBounds j) seen).size ≤ (leftOf es seen).size
      have e1 : ∀ x : Array MapEntry, (leftOf x seen).size = (x.toList.filter fun e => !seen.contains e.born).length := fun x => by
        unfold leftOf
        rw [← Array.length_toList, Array.toList_filter]
      rw [e1, e1, hsub]
      exact (List.Sublist.filter _ (List.eraseIdx_sublist _ _)).length_le
end

/-! ### at the operation, for the walk -/
section
variable {P : Program} {w : World} {ops : Array Oper} {rest : List Oper} {o : Oper} {a : Act} {Q : Exit → Act → World → Prop}
end
end Go.Proofs.YtedokpgkjcnoiaaGreat
