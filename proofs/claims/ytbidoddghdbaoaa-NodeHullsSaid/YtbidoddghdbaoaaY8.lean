/- What an operation does, seen from afar, and that it does so: slices cut, values turned to another type, the lesser and the greater. No program in sight. -/
import Derived.Laws.IdiomStrings
import Derived.Laws.BytesArg
import Derived.Test.YtbidoddghdbaoaaY7
set_option linter.unusedVariables false
set_option linter.unusedSimpArgs false
namespace Go.Proofs.Ytbidoddghdbaoaa
open Go.RowKit
section
variable {P : Program} {C : Cx}
/-- a bound that is given or not -/
def bdA (d : Int) : Option AV → Option Int
  | none => some d
  | some (.d (.v (.int _ z))) => some z
  | _ => none
inductive OptR (C : Cx) : Option AV → Option Value → Prop where
  | none : OptR C none none
  | some (a : AV) (v : Value) (h : Rv C a v) : OptR C (some a) (some v)
theorem bd_inv {d z : Int} {a : AV} {v : Value} (h : Rv C a v) (e : bdA d (some a) = some z) : ∃ k, v = .int k z := by
  cases a with
  | d x =>
    cases x with
    | v y =>
      obtain rfl := rv_ex_inv h
      cases v <;> simp only [bdA, Option.some.injEq] at e <;> first | cases e | skip
      exact ⟨_, rfl⟩
    | sl a b c => cases e
    | p ds => cases e
    | fn f ds => cases e
  | any => cases e
  | dp x => cases e
  | ptr a b c d => cases e
  | own a b => cases e
  | agg x => cases e
  | fn x y z => cases e
  | tup x => cases e
  | win a b c d f => cases e
theorem run_bounds {W : World} {b : Bool} {n c : Nat} {lo hi : Option AV} {vl vh : Option Value} {l h : Int} (hl : OptR C lo vl) (hh : OptR C hi vh) (el : bdA 0 lo = some l) (eh : bdA n hi = some h)
    (h0 : 0 ≤ l) (h1 : l ≤ h) (h2 : h ≤ n) (hc : n ≤ c) : (Instr.sliceBounds b n c vl vh none).run P W = .ok (l.toNat, h.toNat, c) W := by
  have ht : (h.toNat : Int) = h := Int.toNat_of_nonneg (by omega)
  cases hh with
  | none =>
    simp only [bdA, Option.some.injEq] at eh
    subst eh
    cases hl with
    | none =>
      simp only [bdA, Option.some.injEq] at el
      subst el
      simp [Instr.sliceBounds]
    | some a v ha =>
      obtain ⟨k, rfl⟩ := bd_inv ha el
      simp [Instr.sliceBounds, Instr.sliceBound, asIntOf, h0, h1]
  | some a v ha =>
    obtain ⟨k, rfl⟩ := bd_inv ha eh
    have a1 : 0 ≤ h ∧ h ≤ (c : Int) := by omega
    cases hl with
    | none =>
      simp only [bdA, Option.some.injEq] at el
      subst el
      simp [Instr.sliceBounds, Instr.sliceBound, asIntOf, a1]
    | some a v ha =>
      obtain ⟨k', rfl⟩ := bd_inv ha el
      have a2 : 0 ≤ l ∧ l ≤ (h.toNat : Int) := by omega
      simp only [Instr.sliceBounds, Instr.sliceBound, asIntOf, Sem.run_bind, Sem.run_pure, Result.andThen_ok, if_pos a1, if_pos a2]
def aSlice (P : Program) (T : TypeId) (x : AV) (lo hi : Option AV) : Option Rs :=
  match P.underlying T, x with
  | some (.slice e), .d (.sl sz n f) => match P.info? e, bdA 0 lo, bdA n hi with
    | some ie, some l, some h => match Nat.beq ie.size sz with
      | true => some ⟨[0 ≤ l, l ≤ h, h ≤ n], .val (.d (.sl sz (h.toNat - l.toNat) (fun i => f (l.toNat + i))))⟩
      | false => none
    | _, _, _ => none
  | some (.array n e), .dp cs => match P.info? e, bdA 0 lo, bdA n hi with
    | some ie, some l, some h => match Nat.ble (n * ie.size) cs.length with
      | true => some ⟨[0 ≤ l, l ≤ h, h ≤ n], .val (.d (.sl ie.size (h.toNat - l.toNat) (fun i => chop ie.size cs (l.toNat + i))))⟩
      | false => none
    | _, _, _ => none
  | some .string, .d (.v (.string s)) => match bdA 0 lo, bdA s.size hi with
    | some l, some h => some ⟨[0 ≤ l, l ≤ h, h ≤ s.size], .val (exS (s.extract l.toNat h.toNat))⟩
    | _, _ => none
  | some (.slice e), .d (.v (.slice none 0 0)) => match P.info? e, bdA 0 lo, bdA 0 hi with
    | some ie, some l, some h => some ⟨[0 ≤ l, l ≤ h, h ≤ (0 : Nat)], .val (.d (.v (.slice none 0 0)))⟩
    | _, _, _ => none
  | _, _ => none
theorem chop_len' {sz n i : Nat} {l : List DV} (h : n * sz ≤ l.length) (hi : i < n) : (chop sz l i).length = sz := by
  have : (i + 1) * sz ≤ n * sz := Nat.mul_le_mul_right _ (by omega)
  rw [Nat.succ_mul] at this
  simp [chop]; omega
theorem aSlice_ok (G : Gam C) {T : TypeId} {x : AV} {lo hi : Option AV} {v : Value} {vl vh : Option Value} {r : Rs} (hx : Rv C x v) (hlo : OptR C lo vl) (hhi : OptR C hi vh) (h : aSlice P T x lo hi = some r) (hl : allP r.obl) :
    Does P C (do pure (.value (← Instr.sliceAt T v vl vh none))) r.eff := by
  unfold aSlice at h
  split at h
  · rename_i e sz n f hu
    split at h
    · rename_i ie l q hi' el eh
      split at h
      · rename_i hs
        obtain rfl := Option.some.inj h
        obtain rfl := (beq_nat_iff _ _).1 hs
        obtain ⟨h0, h1, h2, _⟩ := hl
        have hsz : (sizeOf e).run P C.W = .ok ie.size C.W := by simp [sizeOf, typeInfo, hi']
        replace hx : RD C.W C.N (.sl ie.size n f) v := hx
        cases hx with
        | sl sz n f A b off c u hA hc hfl hu' hr =>
          have hb := run_bounds (P := P) (W := C.W) (b := true) hlo hhi el eh h0 h1 h2 hc
          refine does_val G (v := .slice (if c = l.toNat then A else A.map (·.add (l.toNat * ie.size))) (q.toNat - l.toNat) (c - l.toNat)) ?_ ?_
          · simp only [Instr.sliceAt, Instr.slice, Sem.run_bind, run_underlying hu, Result.andThen_ok, hb, hsz, Sem.run_pure]
          · refine RD.sl ie.size _ _ _ b (off + l.toNat * ie.size) _ (fun i j => u (l.toNat + i) j) (fun hn => ?_) (by omega) (fun i hi => hfl _ (by omega)) (fun i j hi hj => ?_) (fun i j hi hj => hr _ j (by omega) hj)
            · obtain ⟨rfl, hN⟩ := hA (by omega)
              rw [if_neg (by omega)]
              exact ⟨by rw [Option.map_some, Addr.add_mid], hN⟩
            · rw [show off + l.toNat * ie.size + i * ie.size + j = off + (l.toNat + i) * ie.size + j by rw [Nat.add_mul]; omega]
              exact hu' _ j (by omega) hj
      · cases h
    · cases h
  · rename_i n e cs hu
    split at h
    · rename_i ie l q hi' el eh
      split at h
      · rename_i hle
        obtain rfl := Option.some.inj h
        have hle' := Nat.le_of_ble_eq_true hle
        obtain ⟨h0, h1, h2, _⟩ := hl
        have hsz : (sizeOf e).run P C.W = .ok ie.size C.W := by simp [sizeOf, typeInfo, hi']
        obtain ⟨b, off, u, rfl, hN, hc⟩ := hx
        have hb := run_bounds (P := P) (W := C.W) (b := false) hlo hhi el eh h0 h1 h2 (Nat.le_refl n)
        refine does_val G (v := .slice (some (if n = l.toNat then ⟨b, off, none⟩ else (⟨b, off, none⟩ : Addr).add (l.toNat * ie.size))) (q.toNat - l.toNat) (n - l.toNat)) ?_ ?_
        · simp only [Instr.sliceAt, Sem.run_bind, run_underlying hu, Result.andThen_ok, Instr.sureAddr, Sem.run_pure, hb, hsz]
        · have hin : ∀ {i j : Nat}, i < q.toNat - l.toNat → j < ie.size → (l.toNat + i) * ie.size + j < cs.length := fun {i j} hi hj => by
            have := idx_lt (n := n) (i := l.toNat + i) (sz := ie.size) (by omega) hj; omega
          refine RD.sl ie.size _ _ _ b (off + l.toNat * ie.size) _ (fun i j => u ((l.toNat + i) * ie.size + j)) (fun hn => ?_) (by omega) (fun i hi => chop_len' hle' (by omega)) (fun i j hi hj => ?_) (fun i j hi hj => ?_)
          · rw [if_neg (by omega), Addr.add_mid]; exact ⟨rfl, hN⟩
          · rw [show off + l.toNat * ie.size + i * ie.size + j = off + ((l.toNat + i) * ie.size + j) by rw [Nat.add_mul]; omega]
            exact (hc _ (hin hi hj)).1
          · rw [chop_get (n := n) hj]; exact (hc _ (hin hi hj)).2
      · cases h
    · cases h
  · rename_i s hu
    split at h
    · rename_i l q el eh
      obtain rfl := Option.some.inj h
      obtain ⟨h0, h1, h2, _⟩ := hl
      obtain rfl := rv_ex_inv hx
      have hb := run_bounds (P := P) (W := C.W) (b := false) hlo hhi el eh h0 h1 h2 (Nat.le_refl s.size)
      exact does_ex G (by simp [Instr.sliceAt, Instr.slice, Sem.run_bind, run_underlying hu, hb])
    · cases h
  · rename_i e hu
    split at h
    · rename_i ie l q hi' el eh
      obtain rfl := Option.some.inj h
      obtain ⟨h0, h1, h2, _⟩ := hl
      obtain rfl := rv_ex_inv hx
      have hsz : (sizeOf e).run P C.W = .ok ie.size C.W := by simp [sizeOf, typeInfo, hi']
      have hb := run_bounds (P := P) (W := C.W) (b := true) (n := 0) hlo hhi el eh h0 h1 h2 (Nat.le_refl 0)
      have l0 : l.toNat = 0 := by omega
      have q0 : q.toNat = 0 := by omega
      rw [l0, q0] at hb
      exact does_ex G (by simp only [Instr.sliceAt, Instr.slice, Sem.run_bind, run_underlying hu, Result.andThen_ok, hb, hsz, Sem.run_pure]; rfl)
    · cases h
  · cases h
/-! ### Values turned to another type -/
def fitC (k : IntKind) (n : Int) : Option Rs := match k with
  | .i64 => some ⟨[-9223372036854775808 ≤ n, n ≤ 9223372036854775807], .val (exI .i64 n)⟩
  | k => some ⟨[], .val (exI k (k.wrap n))⟩
def byteI : List DV → Int
  | [.v (.int _ x)] => x
  | _ => 0
/-- bytes as a string -/
def strD (n : Nat) (f : Nat → List DV) : ByteArray := strOfNums ((List.range n).map fun i => byteI (f i))
def strF (s : ByteArray) (i : Nat) : List DV := [.v (.int .u8 (s.data.toList.getD i 0).toNat)]
/-- a number of 64 bits without a sign wraps -/
def fitV (k0 k : IntKind) (n : Int) : Option Rs := match k0 with
  | .u64 => ret (exI k (k.wrap n))
  | _ => fit k n
def aConv (P : Program) (H : OH) (S T : TypeId) (x : AV) : Option Rs :=
  match P.underlying S, P.underlying T, x with
  | some _, some (.int k), .d (.v (.int k0 n)) => fitV k0 k n
  | some .string, some .string, .d (.v (.string s)) => ret (exS s)
  | some (.slice e), some .string, x => match P.underlying e, srcA H x with
    | some (.int .u8), some (sz, m, f) => match Nat.beq sz 1 with
      | true => some ⟨[∀ i, i < m → ∃ x, f i = [.v (.int .u8 x)]], .val (exS (strD m f))⟩
      | false => none
    | _, _ => none
  | some .string, some (.slice e), .d (.v (.string s)) => match P.underlying e with
    | some (.int .u8) => ret (.d (.sl 1 s.size (strF s)))
    | _ => none
  | _, _, _ => none
theorem aConv_ok (G : Gam C) {S T : TypeId} {x : AV} {v : Value} {r : Rs} (hx : Rv C x v) (h : aConv P C.H S T x = some r) (hl : allP r.obl) : Does P C (do pure (.value (← convert S T v))) r.eff := by
  unfold aConv at h
  split at h
  · rename_i d k k' n hs hd
    obtain rfl := rv_ex_inv hx
    have hc : (convert S T (.int k' n)).run P C.W = .ok (.int k (k.wrap n)) C.W := by simp [convert, run_underlying hs, run_underlying hd, Conv.intToInt]
    unfold fitV at h
    split at h
    · obtain rfl := Option.some.inj h
      exact does_ex G (by simp only [Sem.run_bind, hc, Result.andThen_ok, Sem.run_pure])
    · exact fit_ok G h hl (by simp only [Sem.run_bind, hc, Result.andThen_ok, Sem.run_pure])
  · rename_i s hs hd
    obtain rfl := rv_ex_inv hx
    obtain rfl := Option.some.inj h
    exact does_ex G (by simp [convert, run_underlying hs, run_underlying hd])
  · rename_i e hs hd
    split at h
    · rename_i sz m f he hsrc
      split at h
      · rename_i h1
        obtain rfl := Option.some.inj h
        obtain rfl := (beq_nat_iff _ _).1 h1
        obtain ⟨A, c, news, rfl, hmc, hlen, hfl, hone, hR, hA⟩ := src_spec G hx hsrc
        have hb := hl.1
        refine does_ex G ?_
        have key : (convert S T (.slice A m c)).run P C.W = .ok (.string (strD m f)) C.W := by
          rcases Nat.eq_zero_or_pos m with q | q
          · subst q
            rw [run_convert_bytes_string C.W S T e A 0 c hs he hd]
            cases A <;> simp [Conv.bytesToString, loadCells, loadCellsFrom] <;> rfl
          · rcases hA with q' | ⟨b, off, rfl, hc⟩
            · omega
            · refine run_convert_bytes_arg C.W S e hs he b off m c _ (by simp) (fun i hi => ?_) T hd
              rw [hc i (by omega)]
              obtain ⟨y, hy⟩ := hb i hi
              have := hR i 0 hi (by omega)
              rw [hy, Nat.mul_one, Nat.add_zero] at this
              replace this : RD C.W C.N (.v (.int .u8 y)) _ := this
              have e2 : news.getD i undef = .int .u8 y := by
                generalize news.getD i undef = w at this
                cases this; rfl
              rw [e2]
              congr 2
              simp [List.getD_eq_getElem?_getD, List.getElem?_map, List.getElem?_range hi, hy, byteI]
        simp only [Sem.run_bind, key, Result.andThen_ok, Sem.run_pure]
      · cases h
    · cases h
  · rename_i e s hs hd
    split at h
    · rename_i he
      obtain rfl := Option.some.inj h
      obtain rfl := rv_ex_inv hx
      have hge := grownCap_ge C.W s.size 0 e
      have hrun := run_bytes_of_string (P := P) C.W S T e s hs hd he
      obtain ⟨B, hB⟩ : ∃ B, B = bytesRow s (grownCap C.W s.size 0 e) := ⟨_, rfl⟩
      rw [← hB] at hrun
      obtain ⟨W2, hW⟩ : ∃ W2, W2 = C.W.drew.alloc (.cells B e (B.size, B.size + 1)) := ⟨_, rfl⟩
      rw [← hW] at hrun
      have hh : W2.heap[C.W.heap.size]? = some (.cells B e (B.size, B.size + 1)) := by rw [hW]; exact heap_alloc_new C.W.drew _
      have hz : W2.heap.size = C.W.heap.size + 1 := by rw [hW]; simp
      obtain ⟨hF, hG, hN⟩ := G.grow (W' := W2) (by omega) (fun k hk => by rw [hW]; exact Below.heap_alloc C.W.drew _ k hk) (by rw [hW]; rfl) (by rw [hW]; rfl) (by rw [hW]; rfl)
      refine ⟨_, ⟨C.E, W2, C.H, C.vl⟩, .inl (by simp only [Sem.run_bind, hrun, Result.andThen_ok, Sem.run_pure]; rfl), ?_, rfl, rfl, hF, hG⟩
      refine RD.sl 1 s.size (strF s) _ C.W.heap.size 0 _ (fun i j => .int .u8 (s.data.toList.getD i 0).toNat) (fun _ => ⟨rfl, hN _ (Nat.le_refl _) (by omega)⟩) hge (fun i hi => rfl) (fun i j hi hj => ?_) (fun i j hi hj => ?_)
      · obtain rfl : j = 0 := by omega
        refine ⟨?_, rfl⟩
        rw [show 0 + i * 1 + 0 = i by omega]
        show W2.cell? _ = _
        rw [cell_of_row _ _ i _ e _ hh]
        have hi' : i < s.data.size := hi
        rw [hB]; simp [bytesRow, Array.getElem?_append, hi', List.getD_eq_getElem?_getD]
        rw [if_pos hi, Array.getElem?_eq_getElem hi']; rfl
      · obtain rfl : j = 0 := by omega
        exact .v _
    · cases h
  · cases h
/-! ### The lesser, the greater -/
def aMin (x y : AV) : Option Rs := match x, y with
  | .d (.v (.int k a)), .d (.v (.int _ b)) => ret (exI k (if b < a then b else a))
  | _, _ => none
def aMax (x y : AV) : Option Rs := match x, y with
  | .d (.v (.int k a)), .d (.v (.int _ b)) => ret (exI k (if b > a then b else a))
  | _, _ => none
theorem aMin_ok (G : Gam C) {ts : Array TypeId} {ty : TypeId} {x y : AV} {vx vy : Value} {r : Rs} (hx : Rv C x vx) (hy : Rv C y vy) (h : aMin x y = some r) : Does P C (do pure (.value (← Builtin.min_ ts ty #[vx, vy]))) r.eff := by
  unfold aMin at h
  split at h
  · obtain rfl := rv_ex_inv hx
    obtain rfl := rv_ex_inv hy
    obtain rfl := Option.some.inj h
    exact does_ex G (by simp [Builtin.min_, Builtin.min2])
  · cases h
theorem aMax_ok (G : Gam C) {ts : Array TypeId} {ty : TypeId} {x y : AV} {vx vy : Value} {r : Rs} (hx : Rv C x vx) (hy : Rv C y vy) (h : aMax x y = some r) : Does P C (do pure (.value (← Builtin.max_ ts ty #[vx, vy]))) r.eff := by
  unfold aMax at h
  split at h
  · obtain rfl := rv_ex_inv hx
    obtain rfl := rv_ex_inv hy
    obtain rfl := Option.some.inj h
    exact does_ex G (by simp [Builtin.max_, Builtin.max2])
  · cases h
end
end Go.Proofs.Ytbidoddghdbaoaa
