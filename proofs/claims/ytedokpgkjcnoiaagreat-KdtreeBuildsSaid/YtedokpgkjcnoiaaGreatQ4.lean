/- What an operation does, seen from afar, and that it does so: numbers, truths, strings, elements, parts of values. No program in sight. -/
import Derived.IntWalk
import Derived.ChangeKeysEq
import Derived.Lib.SliceRun
import Derived.Laws.StructEq
import Derived.Test.YtedokpgkjcnoiaaGreatQ3
set_option linter.unusedVariables false
set_option linter.unusedSimpArgs false
namespace Go.Proofs.YtedokpgkjcnoiaaGreat
open Go.RowKit
abbrev exI (k : IntKind) (n : Int) : AV := .d (.v (.int k n))
abbrev exB (b : Bool) : AV := .d (.v (.bool b))
abbrev exS (s : ByteArray) : AV := .d (.v (.string s))
def kNo : IntKind → Nat | .i8 => 0 | .i16 => 1 | .i32 => 2 | .i64 => 3 | .u8 => 4 | .u16 => 5 | .u32 => 6 | .u64 => 7
theorem kNo_inj : ∀ {a b : IntKind}, kNo a = kNo b → a = b := by intro a b h; cases a <;> cases b <;> first | rfl | cases h
/-- a sum of 64 bits must stay in range; others wrap -/
def fit (k : IntKind) (n : Int) : Option Rs := match k with
 | .i64 => some ⟨[-9223372036854775808 ≤ n, n ≤ 9223372036854775807], .val (exI .i64 n)⟩
 | k => some ⟨[], .val (exI k (k.wrap n))⟩
section
variable {P : Program} {C : Cx}
theorem rv_ex (x : Value) : Rv C (.d (.v x)) x := by show RD _ _ _ _; exact .v x
theorem rv_ex_inv {x v : Value} (h : Rv C (.d (.v x)) v) : v = x := by replace h : RD C.W C.N (.v x) v := h; cases h; rfl
theorem does_ex {m : Sem Next} {v : Value} (G : Gam C) (hr : m.run P C.W = .ok (.value v) C.W) : Does P C m (.val (.d (.v v))) := does_val G hr (rv_ex v)
theorem fit_ok (G : Gam C) {k : IntKind} {n : Int} {m : Sem Next} {r : Rs} (h : fit k n = some r) (hl : allP r.obl) (hr : m.run P C.W = .ok (.value (.int k (k.wrap n))) C.W) : Does P C m r.eff := by
 cases k <;> simp only [fit, Option.some.injEq] at h <;> subst h <;> first
  | exact does_ex G hr
  | (rw [IntWalk.i64_in n ⟨hl.1, hl.2.1⟩] at hr; exact does_ex G hr)
/-! ### Numbers -/
def aInt (op : BinOp) (k : IntKind) (a b : Int) : Option Rs := match op with
 | .add => fit k (a + b)
 | .sub => fit k (a - b)
 | .mul => fit k (a * b)
 | .quo => match fit k (a.tdiv b) with
  | some r => some ⟨(b ≠ 0) :: r.obl, r.eff⟩
  | none => none
 | .rem => some ⟨[b ≠ 0], .val (exI k (a.tmod b))⟩
 | .and => ret (exI k (k.wrap ((BitVec.ofInt k.bits a &&& BitVec.ofInt k.bits b).toNat : Int)))
 | .or => ret (exI k (k.wrap ((BitVec.ofInt k.bits a ||| BitVec.ofInt k.bits b).toNat : Int)))
 | .xor => ret (exI k (k.wrap ((BitVec.ofInt k.bits a ^^^ BitVec.ofInt k.bits b).toNat : Int)))
 | .andNot => ret (exI k (k.wrap ((BitVec.ofInt k.bits a &&& ~~~BitVec.ofInt k.bits b).toNat : Int)))
 | .eql => ret (exB (decide (a = b)))
 | .neq => ret (exB (!decide (a = b)))
 | .lss => ret (exB (decide (a < b)))
 | .leq => ret (exB (decide (a ≤ b)))
 | .gtr => ret (exB (decide (b < a)))
 | .geq => ret (exB (decide (b ≤ a)))
 | .shl => some ⟨[0 ≤ b], .val (exI k (k.wrap (a * 2 ^ min b.toNat k.bits)))⟩
 | .shr => some ⟨[0 ≤ b], .val (exI k (a.fdiv (2 ^ min b.toNat k.bits)))⟩
def isShift : BinOp → Bool | .shl => true | .shr => true | _ => false
theorem int_beq (a b : Int) : (a == b) = decide (a = b) := by rw [Bool.eq_iff_iff]; simp
/-- cells that are numbers, one by one -/
def eqs : List AV → List AV → Option Bool
 | [], [] => some true
 | .d (.v (.int k p)) :: r, .d (.v (.int k' q)) :: r' => match Nat.beq (kNo k) (kNo k'), eqs r r' with
  | true, some t => some (decide (p = q) && t)
  | _, _ => none
 | _, _ => none
theorem eqs_run {e : TypeId} {k0 : IntKind} (he : P.underlying e = some (.int k0)) {us ws : Array Value} (d : Nat) {W : World} : ∀ {cs ds : List AV} {t : Bool} (i : Nat), eqs cs ds = some t → (∀ j, j < cs.length → ∃ u, us[i + j]? = some u ∧ Rb C (cs.getD j .any) u) →
    (∀ j, j < ds.length → ∃ u, ws[i + j]? = some u ∧ Rb C (ds.getD j .any) u) → ds.length = cs.length ∧ (Op.eqItems (d + 1) e 1 us ws (List.range' i cs.length)).run P W = .ok t W
  | [], ds, t, i, h, _, _ => by
    cases ds with
    | nil => obtain rfl := Option.some.inj h; exact ⟨rfl, rfl⟩
    | cons y r => cases h
  | x :: r, ds, t, i, h, h1, h2 => by
    unfold eqs at h
    split at h
    · contradiction
    · rename_i k p r0 k' q r' hx
      obtain ⟨rfl, rfl⟩ := List.cons.inj hx
      split at h
      · rename_i t' hk hr
        obtain rfl := Option.some.inj h
        have hk := kNo_inj ((beq_nat_iff _ _).1 hk)
        subst hk
        obtain ⟨e1, e2⟩ := eqs_run he d (i + 1) hr (fun j hj => by
          have := h1 (j + 1) (by simpa using hj)
          rwa [List.getD_cons_succ, show i + (j + 1) = i + 1 + j by omega] at this) (fun j hj => by
          have := h2 (j + 1) (by simpa using hj)
          rwa [List.getD_cons_succ, show i + (j + 1) = i + 1 + j by omega] at this)
        refine ⟨by simp [e1], ?_⟩
        obtain ⟨u, hu, ru⟩ := h1 0 (by simp)
        obtain ⟨w, hw, rw'⟩ := h2 0 (by simp)
        obtain rfl : u = .int k p := by cases ru; rfl
        obtain rfl : w = .int k q := by cases rw'; rfl
        have ia : ∀ W : World, (isAgg e).run P W = .ok false W := fun W => by
          rw [run_isAgg_of he]; unfold isRowT; rw [he]
        have pt : ∀ {xs : Array Value} {v : Value}, xs[i + 0]? = some v → (part e xs (i * 1)).run P W = .ok v W := fun {xs v} q => by
          have q : xs[i]? = some v := q
          simp only [part, Sem.run_bind, ia, Result.andThen_ok, Bool.false_eq_true, if_false, Nat.mul_one, q, Sem.run_pure]
        have eq : (Op.equalIn (d + 1) e (.int k p) (.int k q)).run P W = .ok (decide (p = q)) W := by
          rw [show decide (p = q) = (p == q) from (int_beq p q).symm]
          simp [Op.equalIn, run_underlying he]
        rw [List.length_cons, List.range'_succ]
        simp only [Op.eqItems, Sem.run_bind, pt hu, pt hw, eq, Result.andThen_ok]
        cases decide (p = q)
        · rfl
        · exact e2
      · cases h
    · cases h
def aBin2 (P : Program) (op : BinOp) (T : TypeId) (x y : AV) : Option Rs := match P.underlying T, op with
 | some (.array n e), .eql => match x, y, P.info? e, P.underlying e with
  | .agg cs, .agg ds, some ti, some (.int _) => match Nat.beq ti.size 1, Nat.beq n cs.length, eqs cs ds with
   | true, true, some t => ret (exB t)
   | _, _, _ => none
  | _, _, _, _ => none
 | some (.array n e), .neq => match x, y, P.info? e, P.underlying e with
  | .agg cs, .agg ds, some ti, some (.int _) => match Nat.beq ti.size 1, Nat.beq n cs.length, eqs cs ds with
   | true, true, some t => ret (exB (!t))
   | _, _, _ => none
  | _, _, _, _ => none
 | some (.slice _), .eql => match x, y with
  | .d (.sl _ n _), .d (.v (.slice none _ _)) => some ⟨[0 < n], .val (exB false)⟩
  | .d (.v (.slice a _ _)), .d (.v (.slice none _ _)) => ret (exB a.isNone)
  | _, _ => none
 | some (.slice _), .neq => match x, y with
  | .d (.sl _ n _), .d (.v (.slice none _ _)) => some ⟨[0 < n], .val (exB true)⟩
  | .d (.v (.slice a _ _)), .d (.v (.slice none _ _)) => ret (exB (!a.isNone))
  | _, _ => none
 | some (.pointer _), .eql => match x, y with
  | .dp _, .d (.v (.pointer none)) => ret (exB false)
  | .d (.v (.pointer a)), .d (.v (.pointer none)) => ret (exB a.isNone)
  | _, _ => none
 | some (.pointer _), .neq => match x, y with
  | .dp _, .d (.v (.pointer none)) => ret (exB true)
  | .d (.v (.pointer a)), .d (.v (.pointer none)) => ret (exB (!a.isNone))
  | _, _ => none
 | _, _ => none
theorem run_eql_ptr_nil (W : World) (T te : TypeId) (p : Option Addr) (hT : P.underlying T = some (.pointer te)) : (binOp .eql T (.pointer p) (.pointer none)).run P W = .ok (.bool p.isNone) W := by
 have h : ∀ d : Nat, (Op.equalIn (d + 1) T (.pointer p) (.pointer none)).run P W = .ok p.isNone W := fun d => by
  cases p <;> simp [Op.equalIn, run_underlying hT]
 simp only [binOp]
 simp [Op.equal, Op.maxDepth, h 9999]
theorem run_neq_ptr_nil (W : World) (T te : TypeId) (p : Option Addr) (hT : P.underlying T = some (.pointer te)) : (binOp .neq T (.pointer p) (.pointer none)).run P W = .ok (.bool (!p.isNone)) W := by
 have h : ∀ d : Nat, (Op.equalIn (d + 1) T (.pointer p) (.pointer none)).run P W = .ok p.isNone W := fun d => by
  cases p <;> simp [Op.equalIn, run_underlying hT]
 simp only [binOp]
 simp [Op.equal, Op.maxDepth, h 9999]
theorem run_agg_eq (G : Gam C) {T e : TypeId} {n : Nat} {ti : TypeInfo} {k0 : IntKind} (hT : P.underlying T = some (.array n e)) (hi : P.info? e = some ti) (he : P.underlying e = some (.int k0)) (h1 : ti.size = 1) {cs ds : List AV} (hn : n = cs.length) {t : Bool} (h : eqs cs ds = some t)
    {us ws : List Value} (hu : Rbs C cs us) (hw : Rbs C ds ws) : (Op.equalIn 10000 T (.agg us.toArray) (.agg ws.toArray)).run P C.W = .ok t C.W := by
  have c1 : P.cellsOf e = 1 := by simp [Program.cellsOf, hi, h1]
  rw [show (10000 : Nat) = 9999 + 1 from rfl, run_equalIn_array C.W 9999 _ _ hT hi, c1, hn, List.range_eq_range']
  exact (eqs_run (C := C) he 9998 0 h (fun j hj => ⟨us.getD j undef, by simp [List.getD_eq_getElem?_getD, List.getElem?_eq_getElem (show j < us.length by rw [← hu.1]; exact hj)], hu.2 j hj⟩)
    (fun j hj => ⟨ws.getD j undef, by simp [List.getD_eq_getElem?_getD, List.getElem?_eq_getElem (show j < ws.length by rw [← hw.1]; exact hj)], hw.2 j hj⟩)).2
theorem no_guard {T e : TypeId} {n : Nat} {k0 : IntKind} (hT : P.underlying T = some (.array n e)) (he : P.underlying e = some (.int k0)) : P.eqGuardType P.depth T = false := by
 unfold Program.depth
 rw [show 2 * (P.types.size + Made.depth) + 2 = (2 * (P.types.size + Made.depth) + 1) + 1 from rfl]
 simp only [Program.eqGuardType, hT, he]
theorem aBin2_ok (G : Gam C) {op : BinOp} {T : TypeId} {ox oy : Operand} {x y : AV} {vx vy : Value} {r : Rs} (hx : Rv C x vx) (hy : Rv C y vy) (h : aBin2 P op T x y = some r) (hl : allP r.obl) :
    Does P C (do pure (.value (← (do eqGuard op T ox oy vx vy; binOp op T vx vy)))) r.eff := by
  unfold aBin2 at h
  have isl : ∀ {a : Option Addr} {n c n' c' : Nat} {e : TypeId}, P.underlying T = some (.slice e) → (binOp .eql T (.slice a n c) (.slice none n' c')).run P C.W = .ok (.bool a.isNone) C.W := fun {a n c n' c' e} hT => Lib.run_eql_slice_nil C.W T e a n c n' c' hT
  have isn : ∀ {a : Option Addr} {n c n' c' : Nat} {e : TypeId}, P.underlying T = some (.slice e) → (binOp .neq T (.slice a n c) (.slice none n' c')).run P C.W = .ok (.bool (!a.isNone)) C.W := fun {a n c n' c' e} hT => by
    simp only [binOp]
    simp [Op.equal, Op.maxDepth, Lib.run_equalIn_slice_nil C.W 9999 T e a n c n' c' hT]
  split at h
  · rename_i n e hT
    split at h
    · rename_i cs ds ti k0 hi he
      split at h
      · rename_i t h1 hn hq
        obtain rfl := Option.some.inj h
        obtain ⟨us, rfl, hu⟩ := hx
        obtain ⟨ws, rfl, hw⟩ := hy
        refine does_ex G ?_
        simp only [Sem.run_bind, run_eqGuard_agg C.W _ T ox oy _ _ (no_guard hT he), Result.andThen_ok, run_eql_struct, run_agg_eq G hT hi he ((beq_nat_iff _ _).1 h1) ((beq_nat_iff _ _).1 hn) hq hu hw, Sem.run_pure]
      · cases h
    · cases h
  · rename_i n e hT
    split at h
    · rename_i cs ds ti k0 hi he
      split at h
      · rename_i t h1 hn hq
        obtain rfl := Option.some.inj h
        obtain ⟨us, rfl, hu⟩ := hx
        obtain ⟨ws, rfl, hw⟩ := hy
        refine does_ex G ?_
        simp only [Sem.run_bind, run_eqGuard_agg C.W _ T ox oy _ _ (no_guard hT he), Result.andThen_ok, run_neq_struct, run_agg_eq G hT hi he ((beq_nat_iff _ _).1 h1) ((beq_nat_iff _ _).1 hn) hq hu hw, Sem.run_pure]
      · cases h
    · cases h
  · rename_i e hT
    split at h
    · obtain rfl := Option.some.inj h
      obtain rfl := rv_ex_inv hy
      have hn := hl.1
      replace hx : RD C.W C.N _ vx := hx
      cases hx with
      | sl sz n f A m off c u ha hc =>
        obtain ⟨a, rfl⟩ : ∃ a, A = some a := ⟨_, (ha hn).1⟩
        refine does_ex G ?_
        simp only [eqGuard, Sem.run_bind, Bool.not_true, Bool.false_eq_true, if_false, Sem.run_pure, Result.andThen_ok, isl hT]; rfl
    · obtain rfl := Option.some.inj h
      obtain rfl := rv_ex_inv hx
      obtain rfl := rv_ex_inv hy
      refine does_ex G ?_
      simp only [eqGuard, Sem.run_bind, Bool.not_true, Bool.false_eq_true, if_false, Sem.run_pure, Result.andThen_ok, isl hT]
    · cases h
  · rename_i e hT
    split at h
    · obtain rfl := Option.some.inj h
      obtain rfl := rv_ex_inv hy
      have hn := hl.1
      replace hx : RD C.W C.N _ vx := hx
      cases hx with
      | sl sz n f A m off c u ha hc =>
        obtain ⟨a, rfl⟩ : ∃ a, A = some a := ⟨_, (ha hn).1⟩
        refine does_ex G ?_
        simp only [eqGuard, Sem.run_bind, Bool.not_true, Bool.false_eq_true, if_false, Sem.run_pure, Result.andThen_ok, isn hT]; rfl
    · obtain rfl := Option.some.inj h
      obtain rfl := rv_ex_inv hx
      obtain rfl := rv_ex_inv hy
      refine does_ex G ?_
      simp only [eqGuard, Sem.run_bind, Bool.not_true, Bool.false_eq_true, if_false, Sem.run_pure, Result.andThen_ok, isn hT]
    · cases h
  · rename_i e hT
    split at h
    · obtain rfl := Option.some.inj h
      obtain rfl := rv_ex_inv hy
      obtain ⟨b, off, u, rfl, _⟩ := hx
      refine does_ex G ?_
      simp only [eqGuard, Sem.run_bind, Bool.not_true, Bool.false_eq_true, if_false, Sem.run_pure, Result.andThen_ok, run_eql_ptr_nil C.W T e _ hT]; rfl
    · obtain rfl := Option.some.inj h
      obtain rfl := rv_ex_inv hx
      obtain rfl := rv_ex_inv hy
      refine does_ex G ?_
      simp only [eqGuard, Sem.run_bind, Bool.not_true, Bool.false_eq_true, if_false, Sem.run_pure, Result.andThen_ok, run_eql_ptr_nil C.W T e _ hT]
    · cases h
  · rename_i e hT
    split at h
    · obtain rfl := Option.some.inj h
      obtain rfl := rv_ex_inv hy
      obtain ⟨b, off, u, rfl, _⟩ := hx
      refine does_ex G ?_
      simp only [eqGuard, Sem.run_bind, Bool.not_true, Bool.false_eq_true, if_false, Sem.run_pure, Result.andThen_ok, run_neq_ptr_nil C.W T e _ hT]; rfl
    · obtain rfl := Option.some.inj h
      obtain rfl := rv_ex_inv hx
      obtain rfl := rv_ex_inv hy
      refine does_ex G ?_
      simp only [eqGuard, Sem.run_bind, Bool.not_true, Bool.false_eq_true, if_false, Sem.run_pure, Result.andThen_ok, run_neq_ptr_nil C.W T e _ hT]
    · cases h
  · cases h
def aBin (P : Program) (op : BinOp) (T : TypeId) (x y : AV) : Option Rs := match x, y with
 | .d (.v (.int k a)), .d (.v (.int k' b)) => match isShift op, Nat.beq (kNo k) (kNo k') with
  | true, _ => aInt op k a b
  | false, true => aInt op k a b
  | _, _ => none
 | .d (.v (.string a)), .d (.v (.string b)) => match op with
  | .add => some ⟨[(a.size + b.size : Nat) ≤ 9223372036854775807], .val (exS (a ++ b))⟩
  | .eql => ret (exB (decide (a = b)))
  | .neq => ret (exB (!decide (a = b)))
  | .lss => ret (exB (Op.bytesLess a.toList b.toList))
  | .geq => ret (exB (!Op.bytesLess a.toList b.toList))
  | .leq => ret (exB (Op.bytesLess a.toList b.toList || decide (a = b)))
  | .gtr => ret (exB (!(Op.bytesLess a.toList b.toList || decide (a = b))))
  | _ => none
 | .d (.v (.bool a)), .d (.v (.bool b)) => match P.underlying T with
  | some .bool => match op with
   | .eql => ret (exB (a == b))
   | .neq => ret (exB (!(a == b)))
   | _ => none
  | _ => none
 | x, y => aBin2 P op T x y
theorem str_beq (a b : ByteArray) : (a.toList == b.toList) = decide (a = b) := by
 rw [Bool.eq_iff_iff]
 simp only [beq_iff_eq, decide_eq_true_eq, ByteArray.toList_eq]
 constructor
 ·intro h
  have : a.data = b.data := Array.toList_inj.1 h
  cases a; cases b; simp_all
 ·rintro rfl; rfl
theorem run_bin_int {W : World} (op : BinOp) (T : TypeId) (x y : Operand) (k k' : IntKind) (a b : Int) (hk : isShift op = true ∨ k = k') :
    (do eqGuard op T x y (.int k a) (.int k' b); binOp op T (.int k a) (.int k' b)).run P W = (match op with
      | .shl | .shr => Op.shift op k a k' b
      | .add | .sub | .mul => Op.intArith op k a b
      | .quo | .rem => Op.intDiv op k a b
      | .and | .or | .xor | .andNot => Op.intBits op k a b
      | _ => Op.intCmp op a b).run P W := by
  rcases hk with h | rfl
  · cases op <;> first | (simp [isShift] at h; done) | simp [eqGuard, binOp]
  · cases op <;> simp [eqGuard, binOp]
theorem aBin_ok (G : Gam C) {op : BinOp} {T : TypeId} {ox oy : Operand} {x y : AV} {vx vy : Value} {r : Rs} (hx : Rv C x vx) (hy : Rv C y vy) (h : aBin P op T x y = some r) (hl : allP r.obl) :
    Does P C (do pure (.value (← (do eqGuard op T ox oy vx vy; binOp op T vx vy)))) r.eff := by
  unfold aBin at h
  split at h
  · rename_i k a k' b
    obtain rfl := rv_ex_inv hx
    obtain rfl := rv_ex_inv hy
    have hk : (isShift op = true ∨ k = k') ∧ aInt op k a b = some r := by
      split at h
      · exact ⟨.inl ‹isShift op = true›, h⟩
      · exact ⟨.inr (kNo_inj ((beq_nat_iff _ _).1 ‹_›)), h⟩
      · cases h
    obtain ⟨hk, h⟩ := hk
    have hr := run_bin_int (P := P) (W := C.W) op T ox oy k k' a b hk
    have go : ∀ {v : Value}, (match op with
      | .shl | .shr => Op.shift op k a k' b
      | .add | .sub | .mul => Op.intArith op k a b
      | .quo | .rem => Op.intDiv op k a b
      | .and | .or | .xor | .andNot => Op.intBits op k a b
      | _ => Op.intCmp op a b).run P C.W = .ok v C.W → (do pure (Next.value (← (do eqGuard op T ox oy (.int k a) (.int k' b); binOp op T (.int k a) (.int k' b))))).run P C.W = .ok (.value v) C.W := fun {v} q => by
      rw [Sem.run_bind, hr, q]; rfl
    cases op <;> simp only [aInt, ret] at h
    case add => exact fit_ok G h hl (go rfl)
    case sub => exact fit_ok G h hl (go rfl)
    case mul => exact fit_ok G h hl (go rfl)
    case quo =>
      split at h
      · rename_i r' hf
        obtain rfl := Option.some.inj h
        have hb : b ≠ 0 := hl.1
        exact fit_ok (r := r') G hf hl.2 (go (v := .int k (k.wrap (a.tdiv b))) (by simp [Op.intDiv, hb]))
      · cases h
    case rem => obtain rfl := Option.some.inj h; have hb : b ≠ 0 := hl.1; exact does_ex G (go (by simp [Op.intDiv, hb]))
    case and => obtain rfl := Option.some.inj h; exact does_ex G (go rfl)
    case or => obtain rfl := Option.some.inj h; exact does_ex G (go rfl)
    case xor => obtain rfl := Option.some.inj h; exact does_ex G (go rfl)
    case andNot => obtain rfl := Option.some.inj h; exact does_ex G (go rfl)
    case eql => obtain rfl := Option.some.inj h; exact does_ex G (go (by simp [Op.intCmp, int_beq]))
    case neq => obtain rfl := Option.some.inj h; exact does_ex G (go (by simp [Op.intCmp, bne, int_beq]))
    case lss => obtain rfl := Option.some.inj h; exact does_ex G (go rfl)
    case leq => obtain rfl := Option.some.inj h; exact does_ex G (go rfl)
    case gtr => obtain rfl := Option.some.inj h; exact does_ex G (go rfl)
    case geq => obtain rfl := Option.some.inj h; exact does_ex G (go rfl)
    case shl => obtain rfl := Option.some.inj h; exact does_ex G (go (by have := hl.1; simp [Op.shift, show ¬ b < 0 by omega]))
    case shr => obtain rfl := Option.some.inj h; exact does_ex G (go (by have := hl.1; simp [Op.shift, show ¬ b < 0 by omega]))
  · rename_i a b
    obtain rfl := rv_ex_inv hx
    obtain rfl := rv_ex_inv hy
    cases op <;> simp only [ret] at h <;> first | (cases h; done) | (obtain rfl := Option.some.inj h)
    case add =>
      have h1 : (a.size + b.size : Nat) ≤ 9223372036854775807 := hl.1
      exact does_ex G (by simp [eqGuard, binOp, Op.stringOp, IntKind.max, IntKind.bits, IntKind.signed]; omega)
    all_goals exact does_ex G (by simp [eqGuard, binOp, Op.stringOp, str_beq])
  · rename_i a b
    obtain rfl := rv_ex_inv hx
    obtain rfl := rv_ex_inv hy
    split at h
    · rename_i hu
      cases op <;> simp only [ret] at h <;> first | (cases h; done) | (obtain rfl := Option.some.inj h)
      all_goals
        have he : (Op.equal T (.bool a) (.bool b)).run P C.W = .ok (a == b) C.W := run_equalIn_bool C.W 9999 T a b hu
        refine does_ex G ?_
        simp only [eqGuard, Sem.run_bind, Bool.not_true, Bool.false_eq_true, if_false, Sem.run_pure, Result.andThen_ok, binOp, he]
    · cases h
  · exact aBin2_ok G hx hy h hl
def aUn (op : UnOp) (x : AV) : Option Rs := match op, x with
 | .not, .d (.v (.bool b)) => ret (exB (!b))
 | .neg, .d (.v (.int k n)) => fit k (0 - n)
 | _, _ => none
theorem aUn_ok (G : Gam C) {op : UnOp} {x : AV} {v : Value} {r : Rs} (hx : Rv C x v) (h : aUn op x = some r) (hl : allP r.obl) : Does P C (do pure (.value (← Op.unary op v))) r.eff := by
 unfold aUn at h
 split at h
 ·obtain rfl := rv_ex_inv hx
  obtain rfl := Option.some.inj h
  exact does_ex G (by simp [Op.unary])
 ·obtain rfl := rv_ex_inv hx
  exact fit_ok G h hl (by simp [Op.unary, Op.intArith])
 ·cases h
/-! ### Elements -/
def aIndexAddr (P : Program) (H : OH) (T : TypeId) (x ix : AV) : Option Rs := match P.underlying T, ix with
 | some (.slice e), .d (.v (.int k z)) => match P.info? e with
  | some ti => match x with
   | .d (.sl sz n f) => match Nat.beq sz ti.size with
    | true => some ⟨[0 ≤ z, z < n], .val (.dp (f z.toNat))⟩
    | false => none
   | .own o g => match look H o with
    | some (.row _ sz g' _ n f) => match Nat.beq sz ti.size, Nat.beq g' g with
     | true, true => some ⟨[0 ≤ z, z < n], .val (.ptr o g z.toNat 0)⟩
     | _, _ => none
    | _ => none
   | _ => none
  | none => none
 | some (.array len e), .d (.v (.int k z)) => match P.info? e, x with
  | some ti, .ptr o g i j => match curG H o g with
   | true => some ⟨[0 ≤ z, z < len], .val (.ptr o g i (j + z.toNat * ti.size))⟩
   | false => none
  | some ti, .dp cs => some ⟨[0 ≤ z, z < len], .val (.dp (cs.drop (z.toNat * ti.size)))⟩
  | _, _ => none
 | _, _ => none
theorem run_indexAt_sl {W : World} {T e : TypeId} {ti : TypeInfo} (hu : P.underlying T = some (.slice e)) (hi : P.info? e = some ti) {b off n c : Nat} {k : IntKind} {z : Int} (h0 : 0 ≤ z) (h1 : z < n) :
    (Instr.indexAt T (.slice (some ⟨b, off, none⟩) n c) (.int k z)).run P W = .ok (.pointer (some ⟨b, off + z.toNat * ti.size, none⟩)) W := by
  have hs : (sizeOf e).run P W = .ok ti.size W := by simp [sizeOf, typeInfo, hi]
  simp only [Instr.indexAt, asIntOf, Sem.run_bind, Sem.run_pure, Result.andThen_ok, run_underlying hu]
  simp only [h0, h1, and_self, if_true, Sem.run_bind, hs, Result.andThen_ok, Sem.run_pure, Addr.add_mid]
theorem run_indexAt_ar {W : World} {T e : TypeId} {ti : TypeInfo} {len : Nat} (hu : P.underlying T = some (.array len e)) (hi : P.info? e = some ti) {b off : Nat} {k : IntKind} {z : Int} (h0 : 0 ≤ z) (h1 : z < len) :
    (Instr.indexAt T (.pointer (some ⟨b, off, none⟩)) (.int k z)).run P W = .ok (.pointer (some ⟨b, off + z.toNat * ti.size, none⟩)) W := by
  have hs : (sizeOf e).run P W = .ok ti.size W := by simp [sizeOf, typeInfo, hi]
  simp only [Instr.indexAt, asIntOf, Sem.run_bind, Sem.run_pure, Result.andThen_ok, run_underlying hu, Instr.sureAddr]
  simp only [h0, h1, and_self, if_true, Sem.run_bind, hs, Result.andThen_ok, Sem.run_pure, Addr.add_mid]
theorem aIndexAddr_ok (G : Gam C) {T : TypeId} {x ix : AV} {v vi : Value} {r : Rs} (hx : Rv C x v) (hi : Rv C ix vi) (h : aIndexAddr P C.H T x ix = some r) (hl : allP r.obl) :
    Does P C (do pure (.value (← Instr.indexAt T v vi))) r.eff := by
  unfold aIndexAddr at h
  split at h
  · rename_i e k z hu
    obtain rfl := rv_ex_inv hi
    split at h
    · rename_i ti hti
      split at h
      · rename_i sz n f
        split at h
        · rename_i hs
          obtain rfl := Option.some.inj h
          obtain rfl := (beq_nat_iff _ _).1 hs
          obtain ⟨h0, h1, _⟩ := hl
          replace hx : RD C.W C.N (.sl ti.size n f) v := hx
          cases hx with
          | sl sz n f A b off c u hA hc hl hu' hr =>
            obtain ⟨rfl, hN⟩ := hA (by omega)
            have hz : z.toNat < n := by omega
            refine does_val G (v := .pointer (some ⟨b, off + z.toNat * ti.size, none⟩)) (by simp only [Sem.run_bind, run_indexAt_sl hu hti h0 h1, Result.andThen_ok, Sem.run_pure]) ?_
            exact ⟨b, _, u z.toNat, rfl, hN, fun j hj => ⟨hu' _ j hz (by rw [hl _ hz] at hj; exact hj), hr _ j hz (by rw [hl _ hz] at hj; exact hj)⟩⟩
        · cases h
      · rename_i o g
        split at h
        · rename_i ty sz g' fz n f ho
          split at h
          · rename_i hs hg
            obtain rfl := Option.some.inj h
            obtain rfl := (beq_nat_iff _ _).1 hs
            obtain rfl := (beq_nat_iff _ _).1 hg
            obtain ⟨h0, h1, _⟩ := hl
            have hv := own_val G hx ho rfl (by simp only [curG, ho, Ob.gen]; exact Nat.beq_refl _)
            obtain ⟨us, q1, q2, q4, q3⟩ := G.ok o _ ho
            rcases q1.2 with ⟨q, rfl⟩ | ⟨b, cap, cur, q, _⟩
            · omega
            · subst hv
              refine does_val G (v := .pointer (some ⟨b, 0 + z.toNat * ti.size, none⟩)) (by rw [q]; simp only [Sem.run_bind, run_indexAt_sl hu hti h0 h1, Result.andThen_ok, Sem.run_pure]) ?_
              exact ⟨_, ho, Nat.le_refl _, fun _ => ⟨b, n, cap, q, by simp [Ob.sz]⟩⟩
          · cases h
        · cases h
      · cases h
    · cases h
  · rename_i len e k z hu
    obtain rfl := rv_ex_inv hi
    split at h
    · rename_i ti o g i j hti
      split at h
      · rename_i hc
        obtain rfl := Option.some.inj h
        obtain ⟨h0, h1, _⟩ := hl
        obtain ⟨ob, b, n, c, h2, hg, e1, rfl⟩ := ptr_cur hx hc
        exact does_val G (v := .pointer (some ⟨b, i * ob.sz.1 + j + z.toNat * ti.size, none⟩)) (by simp only [Sem.run_bind, run_indexAt_ar hu hti h0 h1, Result.andThen_ok, Sem.run_pure]) ⟨ob, h2, by omega, fun _ => ⟨b, n, c, e1, by rw [Nat.add_assoc]⟩⟩
      · cases h
    · rename_i ti cs hti
      obtain rfl := Option.some.inj h
      obtain ⟨h0, h1, _⟩ := hl
      obtain ⟨b, q, u, rfl, hb, hc⟩ := hx
      refine does_val G (v := .pointer (some ⟨b, q + z.toNat * ti.size, none⟩)) (by simp only [Sem.run_bind, run_indexAt_ar hu hti h0 h1, Result.andThen_ok, Sem.run_pure]) ?_
      refine ⟨b, q + z.toNat * ti.size, fun j => u (z.toNat * ti.size + j), rfl, hb, fun j hj => ?_⟩
      simp only [List.length_drop] at hj
      have := hc (z.toNat * ti.size + j) (by omega)
      rw [show q + z.toNat * ti.size + j = q + (z.toNat * ti.size + j) by omega, show (cs.drop (z.toNat * ti.size)).getD j default = cs.getD (z.toNat * ti.size + j) default by simp [List.getD_eq_getElem?_getD, List.getElem?_drop]]
      exact this
    · cases h
  · cases h
/-! ### Parts of values -/
def aExtract (x : AV) (k : Nat) : Option Rs := match x with
 | .tup cs => match Nat.blt k cs.length with
  | true => ret (nth cs k)
  | false => none
 | _ => none
theorem rv_of_r1 : ∀ {a : AV} {v : Value}, R1 C a v → Rv C a v
 | .any, _, _ => trivial
 | .d _, _, h => h
 | .dp _, _, h => h
 | .ptr _ _ _ _, _, h => h
 | .own _ _, _, h => h
 | .agg _, _, h => h
 | .fn _ _ _, _, h => h
 | .win _ _ _ _ _, _, h => h
 | .tup _, _, h => h.elim
theorem aExtract_ok (G : Gam C) {k : Nat} {x : AV} {v : Value} {r : Rs} (hx : Rv C x v) (h : aExtract x k = some r) : Does P C (do pure (.value (← Instr.extract v k))) r.eff := by
 unfold aExtract at h
 split at h
 ·rename_i cs
  split at h
  ·rename_i hk
   obtain rfl := Option.some.inj h
   have hk' := (blt_iff _ _).1 hk
   obtain ⟨us, rfl, hl, hr⟩ := hx
   have hu : k < us.length := by omega
   refine does_val G (v := us.getD k undef) (by simp [Instr.extract, List.getElem?_eq_getElem hu, List.getD_eq_getElem?_getD]) ?_
   rw [nth_getD]
   exact rv_of_r1 (hr k hk')
  ·cases h
 ·cases h
def aField (P : Program) (S : TypeId) (x : AV) (k : Nat) : Option Rs := match P.underlying S, cellsA x with
 | some (.struct fs), some cs => match fs[k]? with
  | some f => match P.info? f.type, P.underlying f.type with
   | some ti, some _ => match isRowT P f.type, Nat.ble (f.offset + ti.size) cs.length, Nat.blt f.offset cs.length with
    | true, true, _ => ret (.agg ((cs.drop f.offset).take ti.size))
    | false, _, true => ret (nrm (nth cs f.offset))
    | _, _, _ => none
   | _, _ => none
  | none => none
 | _, _ => none
def isAgg? : AV → Bool
 | .agg _ => true
 | _ => false
theorem aField_ok (G : Gam C) {S k : Nat} {x : AV} {v : Value} {r : Rs} (hx : Rv C x v) (hg : isAgg? x = true) (h : aField P S x k = some r) : Does P C (do pure (.value (← Instr.field S v k))) r.eff := by
 cases x <;> try cases hg
 rename_i cs
 obtain ⟨us, rfl, hl, hr⟩ := hx
 unfold aField at h
 split at h
 ·rename_i fs cs' hu hcs
  simp only [cellsA, Option.some.injEq] at hcs
  subst hcs
  split at h
  ·rename_i f hf
   split at h
   ·rename_i ti d hti hud
    have hpart : (Instr.field S (.agg us.toArray) k).run P C.W = (part f.type us.toArray f.offset).run P C.W := by
     simp only [Instr.field, Sem.run_bind, run_underlying hu, Result.andThen_ok, hf, asAgg, Sem.run_pure]
    have hs : (sizeOf f.type).run P C.W = .ok ti.size C.W := by simp [sizeOf, typeInfo, hti]
    split at h
    ·have hrow : isRowT P f.type = true := ‹_›
     have hle : Nat.ble (f.offset + ti.size) cs.length = true := ‹_›
     obtain rfl := Option.some.inj h
     have hle' := Nat.le_of_ble_eq_true hle
     refine does_val G (v := .agg ((us.drop f.offset).take ti.size).toArray) ?_ ⟨_, rfl, by simp [hl], fun j hj => ?_⟩
     ·simp only [Sem.run_bind, hpart, part, run_isAgg_of (W := C.W) hud, hrow, Result.andThen_ok, if_true, hs, Sem.run_pure]
      congr 4
      simp [List.extract_eq_take_drop]
     ·simp only [List.length_take, List.length_drop] at hj
      rw [show ((cs.drop f.offset).take ti.size).getD j .any = cs.getD (f.offset + j) .any by simp [List.getD_eq_getElem?_getD, List.getElem?_take, List.getElem?_drop, show j < ti.size by omega],
       show ((us.drop f.offset).take ti.size).getD j undef = us.getD (f.offset + j) undef by simp [List.getD_eq_getElem?_getD, List.getElem?_take, List.getElem?_drop, show j < ti.size by omega]]
      exact hr _ (by omega)
    ·have hrow : isRowT P f.type = false := ‹_›
     have hlt : Nat.blt f.offset cs.length = true := ‹_›
     obtain rfl := Option.some.inj h
     have hlt' := (blt_iff _ _).1 hlt
     refine does_val G (v := us.getD f.offset undef) ?_ ?_
     ·have : f.offset < us.length := by omega
      simp only [Sem.run_bind, hpart, part, run_isAgg_of (W := C.W) hud, hrow, Result.andThen_ok]
      simp [List.getElem?_eq_getElem this, List.getD_eq_getElem?_getD]
     ·rw [nth_getD]; exact nrm_rv (hr _ hlt')
    ·cases h
   ·cases h
  ·cases h
 ·cases h
def aPick (c x y : AV) : Option Rs := match c with
 | .d (.v (.bool t)) => match x, y with
  | .d (.v (.bool p)), .d (.v (.bool q)) => ret (exB (cond t p q))
  | x, y => match t with
   | true => ret x
   | false => ret y
 | _ => none
theorem aPick_ok (G : Gam C) {c x y : AV} {vc vx vy : Value} {r : Rs} (hc : Rv C c vc) (hx : Rv C x vx) (hy : Rv C y vy) (h : aPick c x y = some r) : Does P C (do pure (.value (if ← asBool vc then vx else vy))) r.eff := by
 unfold aPick at h
 split at h
 ·rename_i t
  obtain rfl := rv_ex_inv hc
  split at h
  ·rename_i p q
   obtain rfl := rv_ex_inv hx
   obtain rfl := rv_ex_inv hy
   obtain rfl := Option.some.inj h
   exact does_ex G (by cases t <;> simp [asBool])
  ·split at h
   ·obtain rfl := Option.some.inj h; exact does_val G (v := vx) (by simp [asBool]) hx
   ·obtain rfl := Option.some.inj h; exact does_val G (v := vy) (by simp [asBool]) hy
 ·cases h
def aLen (P : Program) (H : OH) (T : TypeId) (x : AV) : Option Rs := match P.underlying T, x with
 | some (.slice _), .d (.sl _ n _) => ret (exI .i64 n)
 | some (.slice _), .own o g => match look H o with
  | some (.row _ _ g' _ n _) => match Nat.beq g' g with
   | true => ret (exI .i64 n)
   | false => none
  | _ => none
 | some (.slice _), .d (.v (.slice _ n _)) => ret (exI .i64 n)
 | some (.slice _), .win o g _ _ n => match curG H o g with
  | true => ret (exI .i64 n)
  | false => none
 | some .string, .d (.v (.string s)) => ret (exI .i64 s.size)
 | some (.array n _), _ => ret (exI .i64 n)
 | _, _ => none
theorem row_len (G : Gam C) {o ty sz g n : Nat} {fz : Bool} {f : Nat → List DV} (ho : look C.H o = some (.row ty sz g fz n f)) : ∃ A c, C.vl o = .slice A n c := by
 obtain ⟨us, q1, _⟩ := G.ok o _ ho
 rcases q1.2 with ⟨q, rfl⟩ | ⟨b, cap, cur, q, _⟩
 ·exact ⟨_, _, q⟩
 ·exact ⟨_, _, q⟩
theorem aLen_ok (G : Gam C) {T ty : TypeId} {x : AV} {v : Value} {r : Rs} (hx : Rv C x v) (h : aLen P C.H T x = some r) : Does P C (do pure (.value (← Builtin.len_ #[T] ty #[v]))) r.eff := by
 unfold aLen at h
 split at h
 ·rename_i hu
  obtain rfl := Option.some.inj h
  replace hx : RD C.W C.N _ v := hx
  cases hx
  exact does_ex G (by simp [Builtin.len_, run_underlying hu, goInt])
 ·rename_i o g hu
  split at h
  ·rename_i ho
   split at h
   ·rename_i hg
    obtain rfl := Option.some.inj h
    have hv := own_val G hx ho rfl (by simp only [curG, ho, Ob.gen]; exact hg)
    obtain ⟨A, c, q⟩ := row_len G ho
    subst hv
    exact does_ex G (by rw [q]; simp [Builtin.len_, run_underlying hu, goInt])
   ·cases h
  ·cases h
 ·rename_i hu
  obtain rfl := Option.some.inj h
  obtain rfl := rv_ex_inv hx
  exact does_ex G (by simp [Builtin.len_, run_underlying hu, goInt])
 ·rename_i o g a sz n hu
  split at h
  ·rename_i hc
   obtain rfl := Option.some.inj h
   obtain ⟨ob, h1, h2, h3⟩ := hx
   simp only [curG, h1] at hc
   obtain ⟨b, N, c, A, c', _, _, rfl, _⟩ := h3 ((beq_nat_iff _ _).1 hc).symm
   exact does_ex G (by simp [Builtin.len_, run_underlying hu, goInt])
  ·cases h
 ·rename_i hu
  obtain rfl := Option.some.inj h
  obtain rfl := rv_ex_inv hx
  exact does_ex G (by simp [Builtin.len_, run_underlying hu, goInt])
 ·rename_i hu
  obtain rfl := Option.some.inj h
  exact does_ex G (by simp [Builtin.len_, run_underlying hu, goInt])
 ·cases h
/-- is a row of one's own nil? -/
def aBinO (P : Program) (H : OH) (op : BinOp) (T : TypeId) (o g : Nat) (y : AV) : Option Rs := match P.underlying T, y, look H o with
 | some (.slice _), .d (.v (.slice none _ _)), some (.row _ _ g' _ n _) => match Nat.beq g' g, op with
  | true, .eql => some ⟨[0 < n], .val (exB false)⟩
  | true, .neq => some ⟨[0 < n], .val (exB true)⟩
  | _, _ => none
 | _, _, _ => none
theorem aBinO_ok (G : Gam C) {op : BinOp} {T : TypeId} {ox oy : Operand} {o g : Nat} {y : AV} {vx vy : Value} {r : Rs} (hx : Rv C (.own o g) vx) (hy : Rv C y vy) (h : aBinO P C.H op T o g y = some r) (hl : allP r.obl) :
    Does P C (do pure (.value (← (do eqGuard op T ox oy vx vy; binOp op T vx vy)))) r.eff := by
  unfold aBinO at h
  split at h
  · rename_i e n' c' ty sz g' fz n f hT ho
    have go : Nat.beq g' g = true → 0 < n → ∃ a c, vx = .slice (some a) n c := fun hg hn => by
      have hv := own_val G hx ho rfl (by simp only [curG, ho, Ob.gen]; exact hg)
      obtain ⟨us, q1, _⟩ := G.ok o _ ho
      rcases q1.2 with ⟨q, rfl⟩ | ⟨b, cap, cur, q, _⟩
      · exact absurd hn (Nat.lt_irrefl 0)
      · exact ⟨_, _, by rw [hv]; exact q⟩
    split at h
    · rename_i hg
      obtain rfl := Option.some.inj h
      obtain rfl := rv_ex_inv hy
      obtain ⟨a, c, rfl⟩ := go hg hl.1
      refine does_ex G ?_
      simp only [eqGuard, Sem.run_bind, Bool.not_true, Bool.false_eq_true, if_false, Sem.run_pure, Result.andThen_ok, Lib.run_eql_slice_nil C.W T e (some a) n c n' c' hT]; rfl
    · rename_i hg
      obtain rfl := Option.some.inj h
      obtain rfl := rv_ex_inv hy
      obtain ⟨a, c, rfl⟩ := go hg hl.1
      have hn : (binOp .neq T (.slice (some a) n c) (.slice none n' c')).run P C.W = .ok (.bool true) C.W := by
        simp only [binOp]
        simp [Op.equal, Op.maxDepth, Lib.run_equalIn_slice_nil C.W 9999 T e (some a) n c n' c' hT]
      refine does_ex G ?_
      simp only [eqGuard, Sem.run_bind, Bool.not_true, Bool.false_eq_true, if_false, Sem.run_pure, Result.andThen_ok, hn]
    · cases h
  · cases h
end
end Go.Proofs.YtedokpgkjcnoiaaGreat
