/- KdtreeBuilds, walked. What came in, seen from afar: numbers, texts, rows, kids, tables; a contract of the new kind as a walk of the old. Bytes that came in. What came in: bytes, truths, boxes, entries, nodes. What came in: lists of rows. What came in: scripts of changes, a byte. -/
import Derived.Deep.Slices
import Derived.ChangeShapes
import Derived.ChangeMaps5
import Derived.Test.YtedokpgkjcnoiaaGreatQ22
import Derived.Test.YtedokpgkjcnoiaaGreatQ23
import Derived.Test.YtedokpgkjcnoiaaGreatQ24
import Derived.Test.YtedokpgkjcnoiaaGreatQ41
import Derived.Test.YtedokpgkjcnoiaaGreatQ45
import Derived.Test.YtedokpgkjcnoiaaGreatQ47
import Derived.Test.YtedokpgkjcnoiaaGreatQ49
set_option linter.unusedVariables false
set_option linter.unusedSimpArgs false
namespace Go.Proofs.YtedokpgkjcnoiaaGreat
open Go.RowKit
open Kd (Rw RwOk KidGood PGood layP layT kidT)
set_option maxRecDepth 100000
set_option maxHeartbeats 8000000
def fitR (d : Nat) (l : List Rw) (i : Nat) : List Rw := (l.take i).map fun p => fitD p d
theorem fitR_len (d : Nat) (l : List Rw) (i : Nat) (h : i ≤ l.length) : (fitR d l i).length = i := by simp [fitR, h]
theorem fitR_succ (d : Nat) (l : List Rw) (i : Nat) (h : i < l.length) : fitR d l (i + 1) = fitR d l i ++ [fitD (l.getD i []) d] := by
 unfold fitR
 rw [List.take_add_one, List.getElem?_eq_getElem h, List.map_append, List.getD_eq_getElem?_getD, List.getElem?_eq_getElem h]; rfl
theorem fitR_ok {d : Nat} {l : List Rw} (h : ∀ p ∈ l, Pl.IsI p) (i : Nat) : ∀ p ∈ fitR d l i, RwOk d p := fun p hp => by
 unfold fitR at hp
 obtain ⟨q, hq, rfl⟩ := List.mem_map.1 hp
 exact fitD_ok (h q (List.mem_of_mem_take hq)) d
def twk (R : List Rw) (p : Rw) (k : Nat) : Bool := !decide R.Nodup || (R.take k).any fun q => decide (q = p)
theorem twk_zero (R : List Rw) (p : Rw) : twk R p 0 = !decide R.Nodup := by simp [twk]
theorem twk_succ (R : List Rw) (p : Rw) (k : Nat) (h : k < R.length) : twk R p (k + 1) = (twk R p k || decide (R.getD k [] = p)) := by
 unfold twk
 rw [List.take_add_one, List.getElem?_eq_getElem h, List.any_append, List.getD_eq_getElem?_getD, List.getElem?_eq_getElem h]
 simp [Bool.or_assoc]
theorem twk_end (R : List Rw) (p : Rw) : twk R p R.length = !decide (R ++ [p]).Nodup := by
 unfold twk
 rw [List.take_length]
 rw [Bool.eq_iff_iff]
 simp only [Bool.or_eq_true, Bool.not_eq_true', decide_eq_false_iff_not, List.any_eq_true, decide_eq_true_eq, List.nodup_append, List.nodup_cons, List.not_mem_nil, not_false_eq_true, List.nodup_nil, true_and, List.mem_singleton]
 constructor
 ·rintro (h | ⟨x, hx, rfl⟩) ⟨a, b⟩
  ·exact h a
  ·exact b x hx x rfl rfl
 ·intro h
  apply Classical.byContradiction
  intro q
  refine h ⟨Classical.byContradiction fun z => q (.inl z), fun a ha b hb e => ?_⟩
  exact q (.inr ⟨a, ha, by rw [e, hb]⟩)
theorem row_snoc (R : List Rw) (p : Rw) (k : Nat) (hk : R.length = k) : ∀ j, j < k + 1 → app k (rowF R) (chop 1 [i64L p]) j = rowF (R ++ [p]) j := fun j hj => by
 subst hk
 show _ = [i64L ((R ++ [p]).getD j [])]
 rcases Nat.lt_or_ge j R.length with q | q
 ·rw [app_lt q, rowF, List.getD_eq_getElem?_getD, List.getD_eq_getElem?_getD, List.getElem?_append_left q]
 ·obtain rfl : j = R.length := by omega
  rw [app_ge (Nat.le_refl _), Nat.sub_self, List.getD_eq_getElem?_getD, List.getElem?_append_right (Nat.le_refl _), Nat.sub_self]; rfl
theorem trV_form (t : Kd.TreeD) : treeV t = .v (.pointer none) ∨ ∃ cs, treeV t = .p cs := by
 cases t with
 | nil => exact .inl rfl
 | node p v l r => exact .inr ⟨_, rfl⟩
theorem trA_form (t : Kd.TreeD) : trA t = .d (.v (.pointer none)) ∨ ∃ p v c e, trA t = .dp [i64L p, .v (.bool v), c, e] ∧ (c = .v (.pointer none) ∨ ∃ cs, c = .p cs) ∧ (e = .v (.pointer none) ∨ ∃ cs, e = .p cs) := by
 cases t with
 | nil => exact .inl rfl
 | node p v l r => exact .inr ⟨p, v, treeV l, treeV r, rfl, trV_form l, trV_form r⟩
theorem kidS_self (k : KidD) : kidS k k = true := by simp [kidS, dgq]
theorem walk_KdtreeBuilds (z : Nat) (l : List Rw) (hz : z < 256) (hl : ∀ p ∈ l, Pl.IsI p) : ACall Tryz.prog 3 [.d (.v (.int .u8 (z : Nat))), .d (rowL l)] [] (exB true) [] := by
 have q0 := alive11
 have q1 := ldims_ok z hz
 obtain ⟨d, ed⟩ : ∃ d : Nat, d = 1 + z % 5 := ⟨_, rfl⟩
 rw [← ed] at q1
 have h1 : 1 ≤ d := by omega
 have h8 : d ≤ 8 := by omega
 clear ed
 have cn := cppnew
 obtain ⟨R, hR⟩ : ∃ R : Nat → List Rw, ∀ i, R i = fitR d l i := ⟨_, fun _ => rfl⟩
 have z0 : R 0 = [] := by rw [hR]; rfl
 have hRl : ∀ i, i ≤ l.length → (R i).length = i := fun i h => by rw [hR]; exact fitR_len d l i h
 have hRs : ∀ i, i < l.length → R (i + 1) = R i ++ [fitD (l.getD i []) d] := fun i h => by rw [hR, hR]; exact fitR_succ d l i h
 have hRo : ∀ i, ∀ p ∈ R i, RwOk d p := fun i => by rw [hR]; exact fitR_ok hl i
 clear hR
 obtain ⟨tw, htw⟩ : ∃ tw : Nat → Bool, ∀ i, tw i = !decide (R i).Nodup := ⟨_, fun _ => rfl⟩
 have t0 : tw 0 = false := by rw [htw, z0]; rfl
 refine acall_on (mu := []) [(15, [.lay 75])] [] mixed Tryz.func3 rfl rfl rfl ?_
 conv => whnf
 repeat' ((first
 | refine ob ?_
 | refine ⟨_, _, _, .flat _ _ rfl (q0) rfl, ?_⟩
 | refine ⟨_, _, _, .flat _ _ rfl (q1) rfl, ?_⟩
 | ((refine ⟨_, _, _, .flat _ _ rfl (.arg ?harg (q0)) rfl, ?_⟩); case harg => (repeat' (first | exact sm | apply And.intro)))
 | ((refine ⟨_, _, _, .flat _ _ rfl (.arg ?harg (q1)) rfl, ?_⟩); case harg => (repeat' (first | exact sm | apply And.intro))) | (refine And.intro (fun hq => ?_) (fun hq => ?_) <;> first | exact cl1 | ((try simp only [bl] at hq); (try dsimp only at hq); first | exact cl2 | skip))
 | refine fun hq => ?_ | refine ob3 ?_ | fail) <;> conv => whnf)
 refine ⟨[.virt 6 75 26 1, .tell 75 (rowF [])], ?_⟩
 conv => whnf
 refine ⟨Nat, fun i => i ≤ min l.length 40, fun i => min l.length 40 - i, fun i => [(6, .own 75 0), (7, exB (tw i)), (8, exI .i64 i)], fun i => [(75, .row 26 1 0 false i (rowF (R i)))], ⟨0, by omega, ?_⟩, ?_⟩
 ·skip
  refine ⟨[], ?_⟩
  conv => whnf
  refine ⟨rfl, ?_, ?_⟩ <;> (repeat' (first | exact trivial | ((try intro k_ hk_); rw [t0]; first | done | rfl) | ((intro i hi; rw [z0])) | exact sm | apply And.intro))
 intro i hi
 conv => whnf
 rcases Nat.lt_or_ge i (min l.length 40) with hlt | hge
 ·have cf := lfit_ok (l.getD ((i : Int)).toNat []) d h1 h8
  have hs := hRs i (by omega)
  have hs2 : R (i + 1) = R i ++ [fitD (l.getD ((i : Int)).toNat []) d] := hs
  have hli := hRl i (by omega)
  have hro := hRo i
  have hts := htw (i + 1)
  rw [hs2] at hts
  have hti := htw i
  have hsn := row_snoc (R i) (fitD (l.getD ((i : Int)).toNat []) d) i hli
  rw [← hs2] at hsn
  clear hs hs2
  generalize fitD (l.getD ((i : Int)).toNat []) d = p at cf hts hsn
  generalize R i = O at hli hro hts hti hsn ⊢
  obtain ⟨u, hu⟩ : ∃ u : Nat → Bool, ∀ k, u k = twk O p k := ⟨_, fun _ => rfl⟩
  have u0 : u 0 = tw i := by rw [hu, twk_zero, hti]
  have us : ∀ k, k < O.length → u (k + 1) = (u k || decide (O.getD k [] = p)) := fun k h => by rw [hu, hu]; exact twk_succ O p k h
  have ue : tw (i + 1) = u O.length := by rw [hts, hu, twk_end]
  clear hu hts hti
  conv => whnf
  repeat' ((first
  | refine ob ?_
  | refine ⟨_, _, _, .gen [] _ _ _ rfl (cf) rfl rfl rfl rfl rfl, ?_⟩
  | ((refine ⟨_, _, _, .gen [] _ _ _ rfl (.arg ?harg (cf)) rfl rfl rfl rfl rfl, ?_⟩); case harg => (repeat' (first | exact sm | apply And.intro))) | (refine And.intro (fun hq => ?_) (fun hq => ?_) <;> first | exact cl1 | ((try simp only [bl] at hq); (try dsimp only at hq); first | exact cl2 | skip))
  | refine fun hq => ?_ | refine ob3 ?_ | fail) <;> conv => whnf)
  all_goals
   refine ⟨[], ?_⟩
   conv => whnf
   refine ⟨Nat, fun k => k ≤ O.length, fun k => O.length - k, fun k => [(7, exB (u k)), (10, exI .i64 k)], fun k => [], ⟨0, by omega, ?_⟩, ?_⟩
   ·skip
    refine ⟨[], ?_⟩
    conv => whnf
    refine ⟨rfl, ?_, ?_⟩ <;> (repeat' (first | exact trivial | ((try intro k_ hk_); rw [u0]; first | done | rfl) | exact sm | apply And.intro))
   intro k hk
   conv => whnf
   rcases Nat.lt_or_ge k O.length with hkl | hkg
   ·have hx := (hro (O.getD ((k : Int)).toNat []) (by rw [show ((k : Int)).toNat = k by omega, List.getD_eq_getElem?_getD, List.getElem?_eq_getElem hkl]; exact List.getElem_mem hkl)).1
    have cs := rsamerow_ok (O.getD ((k : Int)).toNat []) p (by omega)
    have uk : u (k + 1) = (u k || decide (O.getD ((k : Int)).toNat [] = p)) := us k hkl
    cases hb : u k with
    | true =>
     rw [hb, Bool.true_or] at uk
     conv => whnf
     repeat' ((first
     | refine ob ?_
     | (refine And.intro (fun hq => ?_) (fun hq => ?_) <;> first | exact cl1 | ((try simp only [bl] at hq); (try dsimp only at hq); first | exact cl2 | skip))
     | refine fun hq => ?_ | refine ob3 ?_ | fail) <;> conv => whnf)
     refine ⟨k + 1, by omega, by dsimp only; omega, ?_⟩
     refine ⟨[], ?_⟩
     conv => whnf
     refine ⟨rfl, ?_, ?_⟩ <;> (repeat' (first | exact trivial | ((try intro k_ hk_); rw [uk]; first | done | rfl) | exact sm | apply And.intro))
    | false =>
     rw [hb, Bool.false_or] at uk
     conv => whnf
     repeat' ((first
     | refine ob ?_
     | refine ⟨_, _, _, .flat _ _ rfl (cs) rfl, ?_⟩
     | ((refine ⟨_, _, _, .flat _ _ rfl (.arg ?harg (cs)) rfl, ?_⟩); case harg => (repeat' (first | exact sm | apply And.intro))) | (refine And.intro (fun hq => ?_) (fun hq => ?_) <;> first | exact cl1 | ((try simp only [bl] at hq); (try dsimp only at hq); first | exact cl2 | skip))
     | refine fun hq => ?_ | refine ob3 ?_ | fail) <;> conv => whnf)
     refine ⟨k + 1, by omega, by dsimp only; omega, ?_⟩
     refine ⟨[], ?_⟩
     conv => whnf
     refine ⟨rfl, ?_, ?_⟩ <;> (repeat' (first | exact trivial | ((try intro k_ hk_); rw [uk]; first | done | rfl) | exact sm | apply And.intro))
   ·obtain rfl : k = O.length := by omega
    conv => whnf
    repeat' ((first
    | refine ob ?_
    | (refine And.intro (fun hq => ?_) (fun hq => ?_) <;> first | exact cl1 | ((try simp only [bl] at hq); (try dsimp only at hq); first | exact cl2 | skip))
    | refine fun hq => ?_ | refine ob2 ?_ | fail) <;> conv => whnf)
    refine ⟨i + 1, by omega, by dsimp only; omega, ?_⟩
    refine ⟨[.regen 75 0], ?_⟩
    conv => whnf
    refine ⟨rfl, ?_, ?_⟩ <;> (repeat' (first | exact trivial | ((try intro k_ hk_); rw [ue]; first | done | rfl) | (exact hsn) | exact sm | apply And.intro))
 obtain rfl : i = min l.length 40 := by omega
 have hln := hRl (min l.length 40) (by omega)
 have hok := hRo (min l.length 40)
 have ht := htw (min l.length 40)
 clear hRl hRs hRo htw t0 z0 q0 q1
 generalize R (min l.length 40) = O at hln hok ht ⊢
 generalize tw (min l.length 40) = t at ht ⊢
 have hn40 : min l.length 40 ≤ 40 := by omega
 have hstop : ¬ min l.length 40 < l.length ∨ ¬ min l.length 40 < 40 := by omega
 generalize min l.length 40 = n at hln hi hge hn40 hstop ⊢
 have cb := kBuild_ok d h1 h8 Sto.new O StoOk.new (by omega) hok
 cases t with
 | true =>
  have hd : dupM (Kd.isort Kd.lexLt O) := (Kd.dup_iff O).2 (by simpa using ht)
  rw [show buildP d Sto.new O = (Sto.new, Pl.kidZ, 8) from if_pos hd] at cb
  have ce := nempty_any Pl.kidZ ⟨by decide, by decide, by decide⟩
  rw [kidS_zero rfl, decide_eq_true rfl] at ce
  have cl := cpplen Sto.new
  conv => whnf
  repeat' ((first
  | refine ob ?_
  | refine ⟨_, _, _, .gen [] _ _ _ rfl (cn) rfl rfl rfl rfl rfl, ?_⟩
  | refine ⟨_, _, _, .gen [901,900] _ _ _ rfl (cb) rfl rfl rfl rfl rfl, ?_⟩
  | refine ⟨_, _, _, .flat _ _ rfl (ce) rfl, ?_⟩
  | refine ⟨_, _, _, .gen [901,900] _ _ _ rfl (cl) rfl rfl rfl rfl rfl, ?_⟩
  | ((refine ⟨_, _, _, .gen [] _ _ _ rfl (.arg ?harg (cn)) rfl rfl rfl rfl rfl, ?_⟩); case harg => (repeat' (first | exact trivial | (exact hln.symm) | exact sm | apply And.intro)))
  | ((refine ⟨_, _, _, .gen [901,900] _ _ _ rfl (.arg ?harg (cb)) rfl rfl rfl rfl rfl, ?_⟩); case harg => (repeat' (first | exact trivial | (exact hln.symm) | exact sm | apply And.intro)))
  | ((refine ⟨_, _, _, .flat _ _ rfl (.arg ?harg (ce)) rfl, ?_⟩); case harg => (repeat' (first | exact trivial | (exact hln.symm) | exact sm | apply And.intro)))
  | ((refine ⟨_, _, _, .gen [901,900] _ _ _ rfl (.arg ?harg (cl)) rfl rfl rfl rfl rfl, ?_⟩); case harg => (repeat' (first | exact trivial | (exact hln.symm) | exact sm | apply And.intro))) | (refine And.intro (fun hq => ?_) (fun hq => ?_) <;> first | exact cl1 | ((try simp only [bl] at hq); (try dsimp only at hq); first | exact cl2 | skip))
  | refine fun hq => ?_ | refine ob3 ?_ | fail) <;> conv => whnf)
  all_goals (repeat' (first | exact sm | apply And.intro))
 | false =>
  have hd : ¬ dupM (Kd.isort Kd.lexLt O) := fun q => (Kd.dup_iff O).1 q (by simpa using ht)
  have hil := Kd.isort_len (lt := Kd.lexLt) O
  have hio : ∀ p ∈ Kd.isort Kd.lexLt O, RwOk d p := fun p hp => hok p (Kd.isort_mem.1 hp)
  have ls := Kd.lay_spec h1 h8 O.length Sto.new (Kd.isort Kd.lexLt O) 0 (by omega) (by omega) hio
  have pg := PGood.lay h1 h8 O.length Sto.new (Kd.isort Kd.lexLt O) 0 StoOk.new hio
  rw [show buildP d Sto.new O = layP d O.length Sto.new (Kd.isort Kd.lexLt O) 0 from if_neg hd] at cb
  rw [Kd.lay_same] at ls
  have hTo : Kd.okT d (layT d O.length O 0) := Kd.layT_ok d _ _ 0 (Nat.le_refl _) hok
  have hTz := Kd.layT_size d O.length O 0 (Nat.le_refl _)
  have cy := rlay_ok d h1 h8 O.length O 0 (Nat.le_refl _) (by omega) (by omega) fun p hp => (hok p hp).1
  generalize layP d O.length Sto.new (Kd.isort Kd.lexLt O) 0 = B at cb ls pg
  generalize layT d O.length O 0 = T at ls hTo hTz cy
  obtain ⟨s1, k1, e1⟩ := B
  obtain ⟨ls1, _, ls2⟩ := ls
  obtain ⟨rfl, rfl⟩ := Prod.mk.inj ls1
  dsimp only [resK] at cb ls2
  have cc := cppclash s1 pg.s
  obtain ⟨co, hc⟩ : ∃ co, s1.c = co := ⟨_, rfl⟩
  cases co with
  | some x =>
   rw [show s1.c.isSome = true by rw [hc]; rfl] at cc
   generalize kidT T = K at cb
   conv => whnf
   repeat' ((first
   | refine ob ?_
   | refine ⟨_, _, _, .gen [] _ _ _ rfl (cn) rfl rfl rfl rfl rfl, ?_⟩
   | refine ⟨_, _, _, .gen [901,900] _ _ _ rfl (cb) rfl rfl rfl rfl rfl, ?_⟩
   | refine ⟨_, _, _, .gen [901,900] _ _ _ rfl (cc) rfl rfl rfl rfl rfl, ?_⟩
   | ((refine ⟨_, _, _, .gen [] _ _ _ rfl (.arg ?harg (cn)) rfl rfl rfl rfl rfl, ?_⟩); case harg => (repeat' (first | exact trivial | (exact hln.symm) | exact sm | apply And.intro)))
   | ((refine ⟨_, _, _, .gen [901,900] _ _ _ rfl (.arg ?harg (cb)) rfl rfl rfl rfl rfl, ?_⟩); case harg => (repeat' (first | exact trivial | (exact hln.symm) | exact sm | apply And.intro)))
   | ((refine ⟨_, _, _, .gen [901,900] _ _ _ rfl (.arg ?harg (cc)) rfl rfl rfl rfl rfl, ?_⟩); case harg => (repeat' (first | exact trivial | (exact hln.symm) | exact sm | apply And.intro))) | (refine And.intro (fun hq => ?_) (fun hq => ?_) <;> first | exact cl1 | ((try simp only [bl] at hq); (try dsimp only at hq); first | exact cl2 | skip))
   | refine fun hq => ?_ | refine ob3 ?_ | fail) <;> conv => whnf)
   all_goals (repeat' (first | exact sm | apply And.intro))
  | none =>
   rw [show s1.c.isSome = false by rw [hc]; rfl] at cc
   have hkf := Kd.kidT_facts d h1 h8 T hTo (by omega)
   have ch := kHeight_ok d h1 h8 s1 (kidT T) pg.s hkf.1
   rw [Kd.height_spec h1 h8 _ s1 T (by have := hkf.2.1; omega) (by omega) hTo (ls2 hc)] at ch
   unfold resH at ch
   have ck := rkid_ok d h1 h8 T hTo (by omega)
   have cg := rheight_ok T (by omega)
   have cs := rksame_ok (kidT T) (kidT T) ⟨hkf.1.o.lo, hkf.1.o.hi, hkf.1.o.key⟩
   rw [kidS_self] at cs
   generalize kidT T = K at cb ch ck cs
   generalize T.height = hh at ch cg
   rcases trA_form T with et | ⟨tp, tv, tc, te, et, rfl | ⟨tx, rfl⟩, rfl | ⟨ty, rfl⟩⟩
   all_goals
    rw [et] at cy ck cg
    conv => whnf
    repeat' ((first
    | refine ob ?_
    | refine ⟨_, _, _, .gen [] _ _ _ rfl (cn) rfl rfl rfl rfl rfl, ?_⟩
    | refine ⟨_, _, _, .gen [901,900] _ _ _ rfl (cb) rfl rfl rfl rfl rfl, ?_⟩
    | refine ⟨_, _, _, .gen [901,900] _ _ _ rfl (cc) rfl rfl rfl rfl rfl, ?_⟩
    | refine ⟨_, _, _, .gen [] _ _ _ rfl (cy) rfl rfl rfl rfl rfl, ?_⟩
    | refine ⟨_, _, _, .gen [901,900] _ _ _ rfl (ch) rfl rfl rfl rfl rfl, ?_⟩
    | refine ⟨_, _, _, .gen [] _ _ _ rfl (ck) rfl rfl rfl rfl rfl, ?_⟩
    | refine ⟨_, _, _, .flat _ _ rfl (cs) rfl, ?_⟩
    | refine ⟨_, _, _, .flat _ _ rfl (cg) rfl, ?_⟩
    | ((refine ⟨_, _, _, .gen [] _ _ _ rfl (.arg ?harg (cn)) rfl rfl rfl rfl rfl, ?_⟩); case harg => (repeat' (first | exact trivial | (exact hln.symm) | exact sm | apply And.intro)))
    | ((refine ⟨_, _, _, .gen [901,900] _ _ _ rfl (.arg ?harg (cb)) rfl rfl rfl rfl rfl, ?_⟩); case harg => (repeat' (first | exact trivial | (exact hln.symm) | exact sm | apply And.intro)))
    | ((refine ⟨_, _, _, .gen [901,900] _ _ _ rfl (.arg ?harg (cc)) rfl rfl rfl rfl rfl, ?_⟩); case harg => (repeat' (first | exact trivial | (exact hln.symm) | exact sm | apply And.intro)))
    | ((refine ⟨_, _, _, .gen [] _ _ _ rfl (.arg ?harg (cy)) rfl rfl rfl rfl rfl, ?_⟩); case harg => (repeat' (first | exact trivial | (exact hln.symm) | exact sm | apply And.intro)))
    | ((refine ⟨_, _, _, .gen [901,900] _ _ _ rfl (.arg ?harg (ch)) rfl rfl rfl rfl rfl, ?_⟩); case harg => (repeat' (first | exact trivial | (exact hln.symm) | exact sm | apply And.intro)))
    | ((refine ⟨_, _, _, .gen [] _ _ _ rfl (.arg ?harg (ck)) rfl rfl rfl rfl rfl, ?_⟩); case harg => (repeat' (first | exact trivial | (exact hln.symm) | exact sm | apply And.intro)))
    | ((refine ⟨_, _, _, .flat _ _ rfl (.arg ?harg (cs)) rfl, ?_⟩); case harg => (repeat' (first | exact trivial | (exact hln.symm) | exact sm | apply And.intro)))
    | ((refine ⟨_, _, _, .flat _ _ rfl (.arg ?harg (cg)) rfl, ?_⟩); case harg => (repeat' (first | exact trivial | (exact hln.symm) | exact sm | apply And.intro))) | (refine And.intro (fun hq => ?_) (fun hq => ?_) <;> first | exact cl1 | ((try simp only [bl] at hq); (try dsimp only at hq); first | exact cl2 | skip))
    | refine fun hq => ?_ | refine ob3 ?_ | fail) <;> conv => whnf)
    all_goals (repeat' (first | exact trivial | (exact congrArg Value.bool (by simp)) | exact sm | apply And.intro))
end Go.Proofs.YtedokpgkjcnoiaaGreat
namespace Go.Proofs.YtedokpgkjcnoiaaGreat
open Go.ChangeShapes Go.WideShapes Go.RowKit
structure RDs (W : World) (ds : List DV) (cs : List Value) : Prop where
 len : ds.length = cs.length
 rd : ∀ j, j < ds.length → RD W (fun b => b < W.heap.size) (ds.getD j default) (cs.getD j undef)
 one : ∀ j, j < ds.length → (cs.getD j undef).oneCell' = true
section
variable {W : World}
theorem RDs.nil : RDs W [] [] := ⟨rfl, (fun j h => by cases h), (fun j h => by cases h)⟩
theorem RDs.cons {d : DV} {v : Value} {ds : List DV} {cs : List Value} (h : RD W (fun b => b < W.heap.size) d v) (o : v.oneCell' = true) (r : RDs W ds cs) : RDs W (d :: ds) (v :: cs) :=
 ⟨by simp [r.len], fun j hj => by cases j with | zero => exact h | succ j => simpa using r.rd j (by simpa using hj), fun j hj => by cases j with | zero => exact o | succ j => simpa using r.one j (by simpa using hj)⟩
theorem RDs.app : ∀ {ds ds' : List DV} {cs cs' : List Value}, RDs W ds cs → RDs W ds' cs' → RDs W (ds ++ ds') (cs ++ cs')
 | [], _, [], _, _, k => k
 | d :: ds, _, v :: cs, _, h, k => RDs.cons (h.rd 0 (by simp)) (h.one 0 (by simp)) (RDs.app ⟨by have := h.len; simpa using this, fun j hj => by simpa using h.rd (j + 1) (by simpa using hj), fun j hj => by simpa using h.one (j + 1) (by simpa using hj)⟩ k)
 | [], _, _ :: _, _, h, _ => by have := h.len; simp at this
 | _ :: _, _, [], _, h, _ => by have := h.len; simp at this
end
section
variable {H : Type} {enc : TypeId × Value → H} {W : World}
/-- a slice that came in -/
theorem come_slP {P : Program} {α : Type} [Inhabited α] {T E s : Nat} {Pq : α → Prop} {L : α → List DV} (hT : P.underlying T = some (.slice E)) (hs : P.cellsOf E = s) (hs0 : 0 < s) (hlen : ∀ q, (L q).length = s)
    (each0 : ∀ {cs : List Value} {x : DataW H × List MemPlace} {n : Nat}, DataW.trod enc P W 0 (fun _ => true) true n E cs = some x → ∃ q, Pq q ∧ RDs W (L q) cs)
    {cs : List Value} {x : DataW H × List MemPlace} {n : Nat} (hf : DataW.trod enc P W 0 (fun _ => true) true n T cs = some x) :
    ∃ l : List α, l.length ≤ maxLen ∧ (∀ i, i < l.length → Pq (l.getD i default)) ∧ RDs W [.sl s l.length (fun i => L (l.getD i default))] cs := by
  rcases Deep.open_slice hT hf with ⟨hcs, _⟩ | ⟨a, len, cap, m, n, D, Pl, hcs, _, hl, hm, hmm, _, hx⟩
  · subst hcs
    exact ⟨[], by simp, fun i hi => (by cases hi), RDs.cons (.sl s 0 _ none 0 0 0 (fun _ _ => default) (fun h => by omega) (Nat.le_refl _) (fun i hi => by omega) (fun i j hi => by omega) (fun i j hi => by omega)) rfl RDs.nil⟩
  · subst hcs
    simp only [if_true] at hmm
    rw [hs] at hx
    have hspot : 0 < len → a.spot = none := fun h0 => by
      obtain ⟨cs', h1, h2⟩ := hx 0 (by omega)
      obtain ⟨q, _, r⟩ := each0 h2
      obtain ⟨_, _, hc⟩ := World.cells?_some h1
      have hl : cs'.length = s := by rw [← r.len, hlen]
      have h0' := hc 0 hs0
      rw [List.getElem?_eq_getElem (by omega)] at h0'
      have := World.cell?_spot h0'
      simpa [Addr.add] using this
    have each : ∀ i, i < len → ∃ q : α × List Value, (∀ j, j < s → W.cell? (a.add (i * s + j)) = q.2[j]?) ∧ RDs W (L q.1) q.2 ∧ (0 < s → a.spot = none) ∧ Pq q.1 := fun i hi => by
      obtain ⟨cs', h1, h2⟩ := hx i (by omega)
      obtain ⟨q, pq, r⟩ := each0 h2
      obtain ⟨_, _, hc⟩ := World.cells?_some h1
      have hl : cs'.length = s := by rw [← r.len, hlen]
      have hsp : a.spot = none := hspot (by omega)
      refine ⟨(q, cs'), fun j hj => ?_, r, fun _ => hsp, pq⟩
      rw [← hc j hj]
      congr 1
      obtain ⟨b, off, spot⟩ := a
      dsimp only at hsp
      subst hsp
      have hadd : ∀ (x y : Nat), (⟨b, x, none⟩ : Addr).add y = ⟨b, x + y, none⟩ := fun x y => by unfold Addr.add; split <;> simp_all
      rw [hadd, hadd, hadd, Nat.add_assoc]
    obtain ⟨f, hF⟩ := Deep.choose_lt each
    have e1 : ((List.range len).map fun i => (f i).1).length = len := by simp
    have e2 : ∀ i, i < len → ((List.range len).map fun i => (f i).1).getD i default = (f i).1 := fun i hi => by simp [List.getD, List.getElem?_map, List.getElem?_range hi]
    refine ⟨(List.range len).map fun i => (f i).1, by rw [e1]; omega, fun i hi => by rw [e1] at hi; rw [e2 i hi]; exact (hF i hi).2.2.2, RDs.cons ?_ rfl RDs.nil⟩
    rw [e1]
    obtain ⟨b, off, spot⟩ := a
    have hadd : spot = none → ∀ (x : Nat), (⟨b, off, spot⟩ : Addr).add x = ⟨b, off + x, none⟩ := fun h x => by subst h; unfold Addr.add; split <;> simp_all
    have cell : ∀ i j, i < len → j < s → W.cell? ⟨b, off + i * s + j, none⟩ = some ((f i).2.getD j undef) := fun i j hi hj => by
      obtain ⟨h1, h2, h3⟩ := hF i hi
      have h3 : spot = none := h3.1 hs0
      have := h1 j hj
      rw [hadd h3] at this
      have hl : (f i).2.length = s := by rw [← h2.len, hlen]
      rw [show off + i * s + j = off + (i * s + j) by omega, this, List.getElem?_eq_getElem (by omega)]
      simp [List.getD_eq_getElem?_getD, List.getElem?_eq_getElem (show j < (f i).2.length by omega)]
    refine .sl s len _ _ b off cap (fun i j => (f i).2.getD j undef) (fun hn => ?_) hl (fun i hi => by rw [e2 i hi, hlen]) (fun i j hi hj => ⟨cell i j hi hj, (hF i hi).2.1.one j (by rw [hlen]; exact hj)⟩) (fun i j hi hj => ?_)
    · have h3 : spot = none := (hF 0 hn).2.2.1 hs0
      subst h3
      exact ⟨rfl, World.block_lt_of_cell? W _ (cell 0 0 hn hs0)⟩
    · rw [e2 i hi]
      exact (hF i hi).2.1.rd j (by rw [hlen]; exact hj)
theorem isI_of {l : List Int} (h : ∀ i, i < l.length → -9223372036854775808 ≤ l.getD i 0 ∧ l.getD i 0 ≤ 9223372036854775807) : Pl.IsI l := fun i => by
 rcases Nat.lt_or_ge i l.length with q | q
 ·exact h i q
 ·rw [List.getD_eq_getElem?_getD, List.getElem?_eq_none q]; decide
theorem come_row {cs : List Value} {x : DataW H × List MemPlace} {n : Nat} (h : DataW.trod enc Tryz.prog W 0 (fun _ => true) true n 26 cs = some x) : ∃ l : List Int, Pl.IsI l ∧ l.length ≤ maxLen ∧ RDs W [i64L l] cs := by
 obtain ⟨l, hl, hp, r⟩ := come_slP (Pq := fun z : Int => -9223372036854775808 ≤ z ∧ z ≤ 9223372036854775807) (L := fun z : Int => [.v (.int .i64 z)]) Tryz.underlying26 (s := 1) (by kernel_rfl) (by decide) (fun _ => rfl) (fun h => by
  obtain ⟨a, rfl, _, wa⟩ := DataW.trod_int Tryz.underlying2 h
  have hb : -9223372036854775808 ≤ a ∧ a ≤ 9223372036854775807 := by
   simp [Lit.wf, IntKind.min, IntKind.max, IntKind.signed, IntKind.bits] at wa
   omega
  exact ⟨a, hb, RDs.cons (.v _) rfl RDs.nil⟩) h
 exact ⟨l, isI_of fun i hi => hp i hi, hl, r⟩
end
/-! ### Joining -/
theorem walk_of {P : Program} {f : FuncId} {xs : List AV} {b : Bool} {vs : List Value} {W : World} (h : ACall P f xs [] (exB b) []) (hl : xs.length = vs.length)
    (hv : ∀ j, j < xs.length → ∀ C : Cx, (∀ k, C.N k ↔ k < W.heap.size) → C.W = W → Rv C (xs.getD j .any) (vs.getD j undef)) :
    Calls P f vs.toArray W fun e W' => e = .returned (.bool b) ∧ Below W.heap.size W W' := by
  refine (h.2 (fun k => k < W.heap.size) W (fun _ => undef) vs ⟨fun o b h => (by cases h), fun o o' b b' k h => (by cases h), Kp.refl _ _, fun o b k h => (by cases h)⟩ hl fun j hj => hv j hj _ (fun k => ?_) rfl).mono ?_
  · constructor
    · exact fun h => h.2.1
    · exact fun h => ⟨.inl h, h, fun o ob h => by cases h⟩
  · rintro e W' ⟨v, C', rfl, hW, hH, hE, hF, hG, hr⟩
    obtain rfl := rv_ex_inv hr
    have K := hG.kp
    rw [hE, hW] at K
    exact ⟨rfl, K.os, K.tape, K.output, K.size, fun k hk => K.block k hk (by rintro ⟨o, ob, h, _⟩; cases h)⟩
end Go.Proofs.YtedokpgkjcnoiaaGreat
namespace Go.Proofs.YtedokpgkjcnoiaaGreat
open Go.ChangeShapes Go.WideShapes Go.RowKit
section
variable {H : Type} {enc : TypeId × Value → H} {W : World}
end
set_option maxRecDepth 100000
theorem cells_slice {T E : Nat} (hT : Tryz.prog.underlying T = some (.slice E)) {W : World} {v : Value} (h : Value.okWide Tryz.prog W .any 0 T v) : v.cells.toList = [v] := by
 simp only [Value.okWide, hT, Cell.okWide] at h
 cases v <;> simp_all [Value.cells, Cell.ok]
theorem rv_slice {C : Cx} {W : World} {s n : Nat} {f : Nat → List DV} {v : Value} (h : RDs W [.sl s n f] v.cells.toList) (hc : v.cells.toList = [v]) (hN : ∀ k, C.N k ↔ k < W.heap.size) (hW : C.W = W) : Rv C (.d (.sl s n f)) v := by
 have e : C.N = fun k => k < W.heap.size := funext fun k => propext (hN k)
 have := h.rd 0 (by simp)
 rw [hc] at this
 show RD C.W C.N _ _
 rw [hW, e]
 exact this
theorem int_u8 {a : Int} (h : (Lit.int .u8 a).wf = true) : ∃ k : Nat, a = k := by
 have hb : 0 ≤ a ∧ a ≤ 255 := by
  simp [Lit.wf, IntKind.min, IntKind.max, IntKind.signed, IntKind.bits] at h
  omega
 exact Int.eq_ofNat_of_zero_le hb.1

end Go.Proofs.YtedokpgkjcnoiaaGreat
namespace Go.Proofs.YtedokpgkjcnoiaaGreat
open Go.ChangeShapes Go.WideShapes Go.RowKit
set_option maxRecDepth 100000
section
variable {H : Type} {enc : TypeId × Value → H} {W : World}
end
end Go.Proofs.YtedokpgkjcnoiaaGreat
namespace Go.Proofs.YtedokpgkjcnoiaaGreat
open Go.ChangeShapes Go.WideShapes Go.RowKit
set_option maxRecDepth 100000
section
variable {H : Type} {enc : TypeId × Value → H} {W : World}
theorem come_krows {cs : List Value} {x : DataW H × List MemPlace} {n : Nat} (h : DataW.trod enc Tryz.prog W 0 (fun _ => true) true n 22 cs = some x) : ∃ l : List (List Int), (∀ x ∈ l, Pl.IsI x) ∧ l.length ≤ maxLen ∧ RDs W [rowL l] cs := by
 obtain ⟨l, h1, h2, h3⟩ := come_slP (Pq := fun x : List Int => Pl.IsI x) (L := fun x : List Int => [i64L x]) Tryz.underlying22 (s := 1) (by kernel_rfl) (by decide) (fun _ => rfl) (fun h => by
  obtain ⟨a, r1, r2, r3⟩ := come_row h
  exact ⟨a, r1, r3⟩) h
 refine ⟨l, fun x hx => ?_, h1, h3⟩
 obtain ⟨i, hi, rfl⟩ := List.getElem_of_mem hx
 have := h2 i hi
 rwa [List.getD_eq_getElem?_getD, List.getElem?_eq_getElem hi] at this
end
end Go.Proofs.YtedokpgkjcnoiaaGreat
namespace Go.Proofs.YtedokpgkjcnoiaaGreat
open Go.ChangeShapes Go.WideShapes Go.RowKit
set_option maxRecDepth 100000
theorem byte_nat {z : Int} (w : (Lit.int .u8 z).wf = true) : ∃ k : Nat, z = k ∧ k < 256 := by
 obtain ⟨k, rfl⟩ := int_u8 w
 simp [Lit.wf, IntKind.min, IntKind.max, IntKind.signed, IntKind.bits] at w
 exact ⟨k, rfl, by omega⟩
section
variable {H : Type} {enc : TypeId × Value → H} {W : World}
end
end Go.Proofs.YtedokpgkjcnoiaaGreat
