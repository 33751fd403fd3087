/- kdtree: Insert, Delete. Chapter 11: its examples, walked; Dims, fit. slices.Index, slices.Contains at texts; block.areCols, block.Right. block.Right, catalog.right, catalog.Right, catalog.Col. The reference's SameRow, Same, SameTable; catalog.Right, catalog.Col. catalog.Right; catalog.at, slices.Clone, slices.Insert where there is no table yet. catalog.at, slices.Clone, slices.Insert, catalog.Add where there is no table yet. catalog.kid, catalog.Encode. catalog.readKid, readTable. catalog.Decode. The reference's Count, Num, Text, Row (indentureref02); kid, Bytes (indentureref20). The reference's bytes of a node (indentureref10.Bytes), in the new way. -/
import Derived.Test.YtedokpgkjcnoiaaGreatQ22
import Derived.Test.YtedokpgkjcnoiaaGreatQ26
import Derived.Test.YtedokpgkjcnoiaaGreatQ27
import Derived.Test.YtedokpgkjcnoiaaGreatQ28
import Derived.Test.YtedokpgkjcnoiaaGreatQ41
import Derived.Test.YtedokpgkjcnoiaaGreatQ45
import Derived.Test.YtedokpgkjcnoiaaGreatQ46
set_option linter.unusedVariables false
set_option linter.unusedSimpArgs false
namespace Go.Proofs.YtedokpgkjcnoiaaGreat
open Go.RowKit
open Kd (nPut nGet forkN forkP tGet KidGood RwOk layP thenP PGood liveP anewP insP remP delP)
set_option maxRecDepth 100000
set_option maxHeartbeats 4000000
theorem right_one {d : Nat} {p : Rw} (h1 : 1 ≤ d) (h8 : d ≤ 8) (hp : p.length = d) : rightD (d : Int) [p] = true := by unfold rightD; simp [hp]; omega
theorem kInsert_ok (d : Nat) (h1 : 1 ≤ d) (h8 : d ≤ 8) (s : Sto) (k : KidD) (p : Rw) (hs : StoOk s) (hk : KidGood d k) (hp : RwOk d p) : ACall Tryz.prog 21 [.ptr 900 0 0 0, agD (kidL k), .d (i64L p), exI .i64 d] (stoH 900 901 s) (resK (insP d (k.size.toNat + 1) s k p 0)) (stoH 900 901 (insP d (k.size.toNat + 1) s k p 0).1) := by
 have cr := kright_ok d [p] (by simp)
 rw [right_one h1 h8 hp.1] at cr
 have c1 := kinsert_ok d h1 h8 (k.size.toNat + 1) s k p 0 hs hk hp (by omega) (by have := Kd.kid_pos hk; omega)
 generalize insP d (k.size.toNat + 1) s k p 0 = R at c1 ⊢
 unfold resK at c1
 refine acall_on (mu := []) [] [] mixed Tryz.func21 rfl rfl rfl ?_
 conv => whnf
 repeat' ((first
 | refine ob ?_
 | refine ⟨_, _, _, .gen [901,900] _ _ _ rfl (c1) rfl rfl rfl rfl rfl, ?_⟩
 | (refine ⟨_, _, _, .flat _ _ rfl (ACall.deep ?hdeep (cr)) rfl, ?_⟩; case hdeep => (repeat' (first | exact AvT.nil | exact AvL.nil | exact DvL.nil | refine AvT.cons ?_ ?_ | refine AvL.cons ?_ ?_ | refine DvL.cons ?_ ?_ | exact AvA.one (.refl _) | exact AvE.refl _ | exact DvE.refl _ | exact DvE.nil _ _ _ _ | refine AvA.agg ?_ | refine AvA.one (.d ?_) | refine AvA.one (.dp ?_) | refine AvE.d ?_ | refine AvE.dp ?_ | refine DvE.sl' ?_ | refine DvE.p' ?_ | (intro k hk; rcases k with _ | _ | _ | _ | _ | _ | k <;> first | (exfalso; omega) | skip))))
 | ((refine ⟨_, _, _, .gen [901,900] _ _ _ rfl (.arg ?harg (c1)) rfl rfl rfl rfl rfl, ?_⟩); case harg => (repeat' (first | exact sm | apply And.intro))) | (refine And.intro (fun hq => ?_) (fun hq => ?_) <;> first | exact cl1 | ((try simp only [bl] at hq); (try dsimp only at hq); first | exact cl2 | skip))
 | refine fun hq => ?_ | refine ob3 ?_ | fail) <;> conv => whnf)
 all_goals (repeat' (first | exact sm | apply And.intro))
end Go.Proofs.YtedokpgkjcnoiaaGreat
namespace Go.Proofs.YtedokpgkjcnoiaaGreat
open Go.RowKit
open Kd (nPut nGet forkN forkP tGet KidGood RwOk layP insP heightP kT2 kT1 kT3 kU4 kV4 kW4)
set_option maxRecDepth 100000
set_option maxHeartbeats 4000000
theorem rwok_one (x : Int) (h : -9223372036854775808 ≤ x ∧ x ≤ 9223372036854775807) : RwOk 1 [x] := ⟨rfl, fun i => by rcases i with _ | i <;> simp <;> omega⟩
theorem alive11 : ACall Tryz.prog 7 [] [] (exB true) [] := by
 obtain ⟨s3, s4, s6, s9, e3, eg, e4, e6, e9, eh, o3, o4, o6, o9⟩ := Kd.alive11P
 have cn := cppnew
 have gT : KidGood 1 kT2 := by rw [← Kd.kidT2]; exact (Kd.kidT_facts 1 (by decide) (by decide) _ Kd.okT2 (by decide)).1
 have gU : KidGood 1 kU4 := by rw [← Kd.kidU4]; exact (Kd.kidT_facts 1 (by decide) (by decide) _ Kd.okU4 (by decide)).1
 have gV : KidGood 1 kV4 := by rw [← Kd.kidV4]; exact (Kd.kidT_facts 1 (by decide) (by decide) _ Kd.okV4 (by decide)).1
 have gW : KidGood 1 kW4 := by rw [← Kd.kidW4]; exact (Kd.kidT_facts 1 (by decide) (by decide) _ Kd.okW4 (by decide)).1
 have c1 := kBuild_ok 1 (by decide) (by decide) Sto.new [[3], [1], [2]] StoOk.new (by simp) (fun p hp => by
  simp only [List.mem_cons, List.not_mem_nil, or_false] at hp
  rcases hp with rfl | rfl | rfl <;> exact rwok_one _ (by omega))
 rw [show buildP 1 Sto.new [[3], [1], [2]] = (s3, kT2, 0) from by
  have e : Kd.isort Kd.lexLt [[3], [1], [2]] = [[1], [2], [3]] := by decide
  unfold buildP
  rw [e, if_neg]
  ·exact e3
  ·rintro ⟨i, h1, h2, h3⟩
   have h2 : i < 3 := h2
   obtain rfl | rfl : i = 1 ∨ i = 2 := by omega
   ·revert h3; decide
   ·revert h3; decide] at c1
 have c2 := nget_ok s3 o3 kT2 1 gT.o
 rw [show nGet s3 kT2 1 = some (forkN ⟨[2], true⟩ kT1 kT3) from eg] at c2
 obtain ⟨st, hst⟩ : ∃ st : Nat → Sto, ∀ j, st j = if j = 0 then s3 else if j = 1 then s4 else if j = 2 then s6 else s9 := ⟨_, fun _ => rfl⟩
 obtain ⟨kk, hkk⟩ : ∃ kk : Nat → KidD, ∀ j, kk j = if j = 0 then Pl.kidZ else if j = 1 then kU4 else if j = 2 then kV4 else kW4 := ⟨_, fun _ => rfl⟩
 have st0 : st 0 = s3 := hst 0
 have st3 : st 3 = s9 := hst 3
 have kk0 : kk 0 = Pl.kidZ := hkk 0
 have kk3 : kk 3 = kW4 := hkk 3
 have q : ∀ j, j < 3 → ACall Tryz.prog 21 [.ptr 900 0 0 0, agD (kidL (kk j)), .d (i64L [((4 + j : Nat) : Int)]), exI .i64 1] (stoH 900 901 (st j)) (.tup [agD (kidL (kk (j + 1))), exI .i64 0]) (stoH 900 901 (st (j + 1))) := fun j hj => by
  rcases j with _ | _ | _ | j
  ·have c := kInsert_ok 1 (by decide) (by decide) s3 Pl.kidZ [4] o3 (KidGood.zero 1) (rwok_one _ (by omega))
   rw [show insP 1 (Pl.kidZ.size.toNat + 1) s3 Pl.kidZ [4] 0 = (s4, kU4, 0) from e4] at c
   rw [hst, hst, hkk, hkk]; exact c
  ·have c := kInsert_ok 1 (by decide) (by decide) s4 kU4 [5] o4 gU (rwok_one _ (by omega))
   rw [show insP 1 (kU4.size.toNat + 1) s4 kU4 [5] 0 = (s6, kV4, 0) from e6] at c
   rw [hst, hst, hkk, hkk]; exact c
  ·have c := kInsert_ok 1 (by decide) (by decide) s6 kV4 [6] o6 gV (rwok_one _ (by omega))
   rw [show insP 1 (kV4.size.toNat + 1) s6 kV4 [6] 0 = (s9, kW4, 0) from e9] at c
   rw [hst, hst, hkk, hkk]; exact c
  ·omega
 have c3 := kHeight_ok 1 (by decide) (by decide) s9 kW4 o9 gW
 rw [show heightP 1 (kW4.size.toNat + 1) s9 kW4 = some 3 from eh] at c3
 have l1 : kT2.size = 3 := rfl
 have l2 : kW4.live = 3 := rfl
 have r1 : (forkN ⟨[2], true⟩ kT1 kT3).rows.length = 1 := rfl
 have r2 : ((forkN ⟨[2], true⟩ kT1 kT3).rows.getD (Int.toNat 0) default).row.length = 1 := rfl
 have r3 : ((forkN ⟨[2], true⟩ kT1 kT3).rows.getD (Int.toNat 0) default).row.getD (Int.toNat 0) 0 = 2 := rfl
 generalize forkN ⟨[2], true⟩ kT1 kT3 = n at c2 r1 r2 r3
 have kz : kidL (kk 0) = kidL Pl.kidZ := by rw [kk0]
 clear hst hkk e3 eg e4 e6 e9 eh o3 o4 o6 o9 gT gU gV gW
 generalize hT : kT2 = T at c1 c2 l1
 generalize hW : kW4 = W at c3 l2 kk3
 refine acall_on (mu := []) [] [] mixed Tryz.func7 rfl rfl rfl ?_
 conv => whnf
 repeat' ((first
 | refine ob ?_
 | refine ⟨_, _, _, .gen [] _ _ _ rfl (cn) rfl rfl rfl rfl rfl, ?_⟩
 | refine ⟨_, _, _, .gen [901,900] _ _ _ rfl (c2) rfl rfl rfl rfl rfl, ?_⟩
 | ((refine ⟨_, _, _, .gen [] _ _ _ rfl (.arg ?harg (cn)) rfl rfl rfl rfl rfl, ?_⟩); case harg => (repeat' (first | exact sm | apply And.intro))) | (refine ⟨_, _, _, .gen [901,900] _ _ _ rfl (ACall.deep ?hdeep (c1)) rfl rfl rfl rfl rfl, ?_⟩; case hdeep => (repeat' (first | exact AvT.nil | exact AvL.nil | exact DvL.nil | refine AvT.cons ?_ ?_ | refine AvL.cons ?_ ?_ | refine DvL.cons ?_ ?_ | exact AvA.one (.refl _) | exact AvE.refl _ | exact DvE.refl _ | exact DvE.nil _ _ _ _ | refine AvA.agg ?_ | refine AvA.one (.d ?_) | refine AvA.one (.dp ?_) | refine AvE.d ?_ | refine AvE.dp ?_ | refine DvE.sl' ?_ | refine DvE.p' ?_ | (intro k hk; rcases k with _ | _ | _ | _ | _ | _ | k <;> first | (exfalso; omega) | skip))))
 | ((refine ⟨_, _, _, .gen [901,900] _ _ _ rfl (.arg ?harg (c2)) rfl rfl rfl rfl rfl, ?_⟩); case harg => (repeat' (first | exact sm | apply And.intro))) | (refine And.intro (fun hq => ?_) (fun hq => ?_) <;> first | exact cl1 | ((try simp only [bl] at hq); (try dsimp only at hq); first | exact cl2 | skip))
 | refine fun hq => ?_ | refine ob3 ?_ | fail) <;> conv => whnf)
 refine ⟨[], ?_⟩
 conv => whnf
 refine ⟨Nat, fun j => j ≤ 3, fun j => 3 - j, fun j => [(7, exI .i64 ((4 + j : Nat) : Int))], fun j => (6, .box 36 ((kidL (kk j)).map .d)) :: stoH 900 901 (st j), ⟨0, by omega, ?_⟩, ?_⟩
 ·skip
  refine ⟨[], ?_⟩
  conv => whnf
  refine ⟨rfl, ?_, ?_⟩ <;> (repeat' (first | exact trivial | ((try intro k_ hk_); rw [st0]; first | done | rfl) | ((try intro k_ hk_); rw [kk0]; first | done | rfl) | exact sm | apply And.intro))
 intro j hj
 conv => whnf
 rcases Nat.lt_or_ge j 3 with hlt | hge
 ·have q := q j hlt
  conv => whnf
  repeat' ((first
  | refine ob ?_
  | (refine ⟨_, _, _, .gen [901,900] _ _ _ rfl (ACall.deep ?hdeep (q)) rfl rfl rfl rfl rfl, ?_⟩; case hdeep => (repeat' (first | exact AvT.nil | exact AvL.nil | exact DvL.nil | refine AvT.cons ?_ ?_ | refine AvL.cons ?_ ?_ | refine DvL.cons ?_ ?_ | exact AvA.one (.refl _) | exact AvE.refl _ | exact DvE.refl _ | exact DvE.nil _ _ _ _ | refine AvA.agg ?_ | refine AvA.one (.d ?_) | refine AvA.one (.dp ?_) | refine AvE.d ?_ | refine AvE.dp ?_ | refine DvE.sl' ?_ | refine DvE.p' ?_ | (intro k hk; rcases k with _ | _ | _ | _ | _ | _ | k <;> first | (exfalso; omega) | skip)))) | (refine And.intro (fun hq => ?_) (fun hq => ?_) <;> first | exact cl1 | ((try simp only [bl] at hq); (try dsimp only at hq); first | exact cl2 | skip))
  | refine fun hq => ?_ | refine ob3 ?_ | fail) <;> conv => whnf)
  refine ⟨j + 1, by omega, by dsimp only; omega, ?_⟩
  refine ⟨[], ?_⟩
  conv => whnf
  refine ⟨rfl, ?_, ?_⟩ <;> (repeat' (first | exact sm | apply And.intro))
 ·obtain rfl : j = 3 := by omega
  rw [st3, kk3]
  conv => whnf
  repeat' ((first
  | refine ob ?_
  | refine ⟨_, _, _, .gen [901,900] _ _ _ rfl (c3) rfl rfl rfl rfl rfl, ?_⟩
  | ((refine ⟨_, _, _, .gen [901,900] _ _ _ rfl (.arg ?harg (c3)) rfl rfl rfl rfl rfl, ?_⟩); case harg => (repeat' (first | exact sm | apply And.intro))) | (refine And.intro (fun hq => ?_) (fun hq => ?_) <;> first | exact cl1 | ((try simp only [bl] at hq); (try dsimp only at hq); first | exact cl2 | skip))
  | refine fun hq => ?_ | refine ob3 ?_ | fail) <;> conv => whnf)
  rw [l2]
  conv => whnf
  all_goals (repeat' (first | exact sm | apply And.intro))
end Go.Proofs.YtedokpgkjcnoiaaGreat
namespace Go.Proofs.YtedokpgkjcnoiaaGreat
open Go.RowKit
set_option maxRecDepth 100000
set_option maxHeartbeats 1000000
def shortS (s : ByteArray) : Prop := s.size ≤ 140737488351232
end Go.Proofs.YtedokpgkjcnoiaaGreat
namespace Go.Proofs.YtedokpgkjcnoiaaGreat
open Go.RowKit
set_option maxRecDepth 100000
set_option maxHeartbeats 1000000
def TableD.small (t : TableD) : Prop := shortS t.name ∧ t.cols.length ≤ 1000 ∧ (∀ i, shortS (t.cols.getD i default)) ∧ t.kd.small ∧ t.zb.small
end Go.Proofs.YtedokpgkjcnoiaaGreat
namespace Go.Proofs.YtedokpgkjcnoiaaGreat
open Go.RowKit
set_option maxRecDepth 100000
set_option maxHeartbeats 1000000
end Go.Proofs.YtedokpgkjcnoiaaGreat
namespace Go.Proofs.YtedokpgkjcnoiaaGreat
open Go.RowKit
set_option maxRecDepth 100000
set_option maxHeartbeats 1000000
end Go.Proofs.YtedokpgkjcnoiaaGreat
namespace Go.Proofs.YtedokpgkjcnoiaaGreat
open Go.RowKit
set_option maxRecDepth 100000
set_option maxHeartbeats 1000000
end Go.Proofs.YtedokpgkjcnoiaaGreat
namespace Go.Proofs.YtedokpgkjcnoiaaGreat
open Go.RowKit

set_option maxRecDepth 100000
set_option maxHeartbeats 1000000
structure TabW (t : TableD) : Prop where
 name : t.name.size ≤ 16
 cols : t.cols.length ≤ 8
 col : ∀ i, (t.cols.getD i default).size ≤ 16
 kd : Pl.KidW t.kd 255
 zb : Pl.KidW t.zb 255
theorem kidB_len (k : KidD) (h : Pl.KidW k 255) : (Pl.kidB k).length ≤ 7000 := by
 have hb : ∀ r : List Int, (Pl.rowB r).length = 1 + 8 * r.length := fun r => by unfold Pl.rowB; rw [List.length_append, Pl.rows_len]; rfl
 have := h.s
 have := h.lo.1
 have := h.hi.1
 have := h.key.1
 simp only [Pl.kidB, List.length_append, hb, Pl.be3, List.length_cons, List.length_nil]
 omega
end Go.Proofs.YtedokpgkjcnoiaaGreat
namespace Go.Proofs.YtedokpgkjcnoiaaGreat
open Go.RowKit
set_option maxRecDepth 100000
set_option maxHeartbeats 1000000
end Go.Proofs.YtedokpgkjcnoiaaGreat
namespace Go.Proofs.YtedokpgkjcnoiaaGreat
open Go.RowKit
set_option maxRecDepth 100000
set_option maxHeartbeats 1000000
theorem TabW.small {t : TableD} (h : TabW t) : t.small :=
 ⟨Nat.le_trans h.name (by decide), Nat.le_trans h.cols (by decide), fun i => Nat.le_trans (h.col i) (by decide), ⟨Nat.le_trans h.kd.lo.1 (by decide), Nat.le_trans h.kd.hi.1 (by decide), Nat.le_trans h.kd.key.1 (by decide)⟩, ⟨Nat.le_trans h.zb.lo.1 (by decide), Nat.le_trans h.zb.hi.1 (by decide), Nat.le_trans h.zb.key.1 (by decide)⟩⟩
end Go.Proofs.YtedokpgkjcnoiaaGreat
namespace Go.Proofs.YtedokpgkjcnoiaaGreat
open Go.RowKit
set_option maxRecDepth 100000
set_option maxHeartbeats 1000000
/-- n bytes, told by f, are l -/
structure Byt (n : Nat) (f : Nat → List DV) (l : List Nat) : Prop where
 len : n = l.length
 get : ∀ k, k < n → f k = byF l k
theorem Byt.of (l : List Nat) : Byt l.length (byF l) l := ⟨rfl, fun _ _ => rfl⟩
theorem Byt.nil (f : Nat → List DV) : Byt 0 f [] := ⟨rfl, fun k hk => by omega⟩
theorem Byt.one (x : Nat) : Byt 1 (chop 1 [.v (.int .u8 (x : Nat))]) [x] := by
 refine ⟨rfl, fun k hk => ?_⟩
 rcases k with _ | k
 ·rfl
 ·omega
theorem Byt.app {n m : Nat} {f g : Nat → List DV} {l l' : List Nat} (h : Byt n f l) (h' : Byt m g l') : Byt (n + m) (app n f g) (l ++ l') := by
 obtain ⟨rfl, h⟩ := h
 obtain ⟨rfl, h'⟩ := h'
 refine ⟨by simp, fun k hk => ?_⟩
 rw [← app_byF]
 rcases Nat.lt_or_ge k l.length with q | q
 ·rw [app_lt q, app_lt q, h k q]
 ·rw [app_ge q, app_ge q, h' _ (by omega)]
theorem tmod_nat (n k : Nat) : Int.tmod (n : Int) (k : Int) = ((n % k : Nat) : Int) := (Int.ofNat_tmod n k).symm
theorem tdiv_nat (n k : Nat) : Int.tdiv (n : Int) (k : Int) = ((n / k : Nat) : Int) := (Int.ofNat_tdiv n k).symm
theorem qcount_d (n : Nat) (hn : n ≤ 1000000000) : ACall Tryz.prog 101 [exI .i64 n] [] (.d (byteL (Pl.be3 n))) [] := by
 have hn1 : n < 9223372036854775807 := by omega
 have v1 : DV.v (.int .u8 (IntKind.u8.wrap (Int.tmod (Int.tdiv (n : Int) 65536) 256))) = .v (.int .u8 (n / 65536 % 256 : Nat)) := by
  rw [show (65536 : Int) = ((65536 : Nat) : Int) from rfl, show (256 : Int) = ((256 : Nat) : Int) from rfl, tdiv_nat, tmod_nat, wrap8, Nat.mod_mod]
 have v2 : DV.v (.int .u8 (IntKind.u8.wrap (Int.tmod (Int.tdiv (n : Int) 256) 256))) = .v (.int .u8 (n / 256 % 256 : Nat)) := by
  rw [show (256 : Int) = ((256 : Nat) : Int) from rfl, tdiv_nat, tmod_nat, wrap8, Nat.mod_mod]
 have v3 : DV.v (.int .u8 (IntKind.u8.wrap (Int.tmod (n : Int) 256))) = .v (.int .u8 (n % 256 : Nat)) := by
  rw [show (256 : Int) = ((256 : Nat) : Int) from rfl, tmod_nat, wrap8, Nat.mod_mod]
 have o1 : -9223372036854775808 ≤ Int.tdiv (n : Int) 65536 ∧ Int.tdiv (n : Int) 65536 ≤ 9223372036854775807 := by
  rw [show (65536 : Int) = ((65536 : Nat) : Int) from rfl, tdiv_nat]; omega
 have o2 : -9223372036854775808 ≤ Int.tdiv (n : Int) 256 ∧ Int.tdiv (n : Int) 256 ≤ 9223372036854775807 := by
  rw [show (256 : Int) = ((256 : Nat) : Int) from rfl, tdiv_nat]; omega
 obtain ⟨o1, o1'⟩ := o1
 obtain ⟨o2, o2'⟩ := o2
 refine acall_on (mu := []) [] [] mixed Tryz.func101 rfl rfl rfl ?_
 conv => whnf
 repeat' ((first
 | refine ob ?_
 | (refine And.intro (fun hq => ?_) (fun hq => ?_) <;> first | exact cl1 | exact cl3 | skip)
 | refine ob2 ?_ | refine ob4 ?_ | refine fun hq => ?_ | fail) <;> conv => whnf)
 all_goals (repeat' (first | exact trivial | (exact be3_same n _ _ _ v1 v2 v3) | exact sm | apply And.intro))
def numP (U j : Nat) : List Nat := List.replicate (8 - j) 0 ++ (Pl.be8 U).drop (8 - j)
theorem be8_get (U k : Nat) (hk : k < 8) : (Pl.be8 U).getD k 0 = U / 256 ^ (7 - k) % 256 := by
 unfold Pl.be8
 rw [List.getD_eq_getElem?_getD, List.getElem?_map, List.getElem?_range hk]
 simp only [Option.map_some, Option.getD_some]
 have e : 56 - 8 * k = 8 * (7 - k) := by omega
 have : 2 ^ (56 - 8 * k) = 256 ^ (7 - k) := by rw [e, Nat.pow_mul]
 rw [this]
theorem numP_get (U j k : Nat) (hj : j ≤ 8) (hk : k < 8) : (numP U j).getD k 0 = if k < 8 - j then 0 else U / 256 ^ (7 - k) % 256 := by
 have h8 : (Pl.be8 U).length = 8 := rfl
 unfold numP
 rw [List.getD_eq_getElem?_getD]
 split
 ·rename_i h
  rw [List.getElem?_append_left (by simpa using h), List.getElem?_replicate]
  simp [h]
 ·rename_i h
  rw [List.getElem?_append_right (by simp; omega), List.length_replicate, List.getElem?_drop, show 8 - j + (k - (8 - j)) = k by omega, ← List.getD_eq_getElem?_getD, be8_get U k hk]
theorem numP0 (U : Nat) : ∀ k, k < 8 → exD (Value.int .u8 0).cells.toList = byF (numP U 0) k := fun k hk => by
 show [DV.v (.int .u8 0)] = byF (numP U 0) k
 unfold byF
 rw [numP_get U 0 k (by omega) hk, if_pos (by omega)]
 rfl
theorem numPs (U j : Nat) (hj : j < 8) (v : DV) (hv : v = .v (.int .u8 (U / 256 ^ j % 256 : Nat))) (f : Nat → List DV) (hf : ∀ k, f k = byF (numP U j) k) (z : Int) (hz : z = 7 - (j : Int)) : ∀ k, k < 8 → (if k = z.toNat then spl (f z.toNat) 0 [v] else f k) = byF (numP U (j + 1)) k := fun k hk => by
 subst hz hv
 have e : (7 - (j : Int)).toNat = 7 - j := by omega
 rw [e]
 by_cases hkj : k = 7 - j
 ·rw [if_pos hkj, hf]
  subst hkj
  show [DV.v _] = byF _ _
  unfold byF
  rw [numP_get U (j + 1) _ (by omega) hk, if_neg (by omega), show 7 - (7 - j) = j by omega]
 ·rw [if_neg hkj, hf]
  unfold byF
  rw [numP_get U (j + 1) k (by omega) hk, numP_get U j k (by omega) hk]
  by_cases hlt : k < 8 - (j + 1)
  ·rw [if_pos hlt, if_pos (by omega)]
  ·rw [if_neg hlt, if_neg (by omega)]
theorem qnum_d (x : Int) (h1 : -9223372036854775808 ≤ x) (h2 : x ≤ 9223372036854775807) : ACall Tryz.prog 136 [exI .i64 x] [] (.d (byteL (Pl.num8 x))) [] := by
  rw [show Pl.num8 x = Pl.be8 (x + 9223372036854775808).toNat from rfl]
  have hu : IntKind.u64.wrap (IntKind.u64.wrap x + 9223372036854775808) = ((x + 9223372036854775808).toNat : Nat) := by
    rw [IntKind.wrap_u64, IntKind.wrap_u64]; omega
  have hU : (x + 9223372036854775808).toNat < 18446744073709551616 := by omega
  generalize (x + 9223372036854775808).toNat = U at hu hU ⊢
  refine acall_on (mu := []) [] [] mixed Tryz.func136 rfl rfl rfl ?_
  conv => whnf
  repeat' ((first
   | refine ob ?_
   | (refine And.intro (fun hq => ?_) (fun hq => ?_) <;> first | exact cl1 | exact cl3 | skip)
   | refine ob2 ?_ | refine ob4 ?_ | refine fun hq => ?_ | fail) <;> conv => whnf)
  rw [hu]
  refine ⟨[], ?_⟩
  conv => whnf
  refine ⟨Nat, fun j => j ≤ 8, fun j => 8 - j, fun j => [(3, exI .u64 (U / 256 ^ j : Nat)), (5, exI .i64 (7 - j))], fun j => [(9, .row 5 1 0 false 8 (byF (numP U j)))], ⟨0, by omega, ?_⟩, ?_⟩
  · skip
    refine ⟨[], ?_⟩
    conv => whnf
    refine ⟨rfl, ?_, ?_⟩ <;> (repeat' (first | exact trivial | (exact numP0 U) | (exact congrArg (Value.int .u64) (by simp)) | exact sm | apply And.intro))
  intro j hj
  conv => whnf
  rcases Nat.lt_or_ge j 8 with hlt | hge
  · have ev : IntKind.u8.wrap (Int.tmod ((U / 256 ^ j : Nat) : Int) 256) = ((U / 256 ^ j % 256 : Nat) : Int) := by
      rw [show (256 : Int) = ((256 : Nat) : Int) from rfl, tmod_nat, wrap8, Nat.mod_mod]
    have eq' : IntKind.u64.wrap (Int.tdiv ((U / 256 ^ j : Nat) : Int) 256) = ((U / 256 ^ (j + 1) : Nat) : Int) := by
      have hv : U / 256 ^ j ≤ U := Nat.div_le_self _ _
      rw [show (256 : Int) = ((256 : Nat) : Int) from rfl, tdiv_nat, IntKind.wrap_u64, Nat.pow_succ, ← Nat.div_div_eq_div_mul]
      generalize U / 256 ^ j = V at hv ⊢
      omega
    conv => whnf
    repeat' ((first
     | refine ob ?_
     | (refine And.intro (fun hq => ?_) (fun hq => ?_) <;> first | exact cl1 | exact cl3 | skip)
     | refine ob2 ?_ | refine ob4 ?_ | refine fun hq => ?_ | fail) <;> conv => whnf)
    refine ⟨j + 1, by omega, by first | omega | (dsimp only; omega), ?_⟩
    refine ⟨[], ?_⟩
    conv => whnf
    refine ⟨rfl, ?_, ?_⟩ <;> (repeat' (first | exact trivial | (exact numPs U j hlt _ (congrArg (fun z => DV.v (.int .u8 z)) ev) _ (fun _ => rfl) _ rfl) | (exact congrArg (Value.int .u64) eq') | (exact congrArg (Value.int .i64) (by omega)) | exact sm | apply And.intro))
  · obtain rfl : j = 8 := by omega
    have h8 : (Pl.be8 U).length = 8 := rfl
    rw [show numP U 8 = Pl.be8 U by simp [numP]]
    conv => whnf
    repeat' ((first
     | refine ob ?_
     | (refine And.intro (fun hq => ?_) (fun hq => ?_) <;> first | exact cl1 | exact cl3 | skip)
     | refine ob2 ?_ | refine ob4 ?_ | refine fun hq => ?_ | fail) <;> conv => whnf)
    all_goals (repeat' (first | exact sm | apply And.intro))
theorem Byt.eqv {n m : Nat} {f : Nat → List DV} {l : List Nat} (h : Byt n f l) (e : m = n) : Byt m f l := by subst e; exact h
theorem qrow_d (r : List Int) (hr : r.length ≤ 255) (hI : Pl.IsI r) : ACall Tryz.prog 100 [.d (i64L r)] [] (.d (byteL (Pl.rowB r))) [] := by
 have hb : IntKind.u8.wrap (r.length : Int) = ((r.length : Nat) : Int) := by rw [wrap8]; omega
 refine acall_on (mu := [8]) [] [] mixed Tryz.func100 rfl rfl rfl ?_
 conv => whnf
 repeat' ((first
 | refine ob ?_
 | (refine And.intro (fun hq => ?_) (fun hq => ?_) <;> first | exact cl1 | exact cl3 | skip)
 | refine ob2 ?_ | refine ob4 ?_ | refine fun hq => ?_ | fail) <;> conv => whnf)
 rw [hb]
 refine ⟨[.drop 8], ?_⟩
 conv => whnf
 refine ⟨Nat, fun j => j ≤ r.length, fun j => r.length - j, fun j => [(3, .own 8 0), (4, exI .i64 j)], fun j => [(8, .row 5 1 0 false ([r.length] ++ ((r.take j).map Pl.num8).flatten).length (byF ([r.length] ++ ((r.take j).map Pl.num8).flatten)))], ⟨0, by omega, ?_⟩, ?_⟩
 ·skip
  refine ⟨[], ?_⟩
  conv => whnf
  refine ⟨rfl, ?_, ?_⟩ <;> (repeat' (first | exact trivial | (exact (Byt.one r.length).get) | ((simp; done)) | exact sm | apply And.intro))
 intro j hj
 conv => whnf
 have hlj := rowB_take_len r j
 rcases Nat.lt_or_ge j r.length with hlt | hge
 ·have q := qnum_d (r.getD j 0) (hI j).1 (hI j).2
  have hs := rowB_take r j hlt
  generalize [r.length] ++ ((r.take j).map Pl.num8).flatten = m at hlj hs ⊢
  have h8 := Pl.num8_len (r.getD j 0)
  conv => whnf
  repeat' ((first
  | refine ob ?_
  | refine ⟨_, _, _, .gen [] _ _ _ rfl (q) rfl rfl rfl rfl rfl, ?_⟩
  | ((refine ⟨_, _, _, .gen [] _ _ _ rfl (.arg ?harg (q)) rfl rfl rfl rfl rfl, ?_⟩); case harg => (repeat' (first | exact sm | apply And.intro))) | (refine And.intro (fun hq => ?_) (fun hq => ?_) <;> first | exact cl1 | exact cl3 | skip)
  | refine ob2 ?_ | refine ob4 ?_ | refine fun hq => ?_ | fail) <;> conv => whnf)
  refine ⟨j + 1, by omega, by first | omega | (dsimp only; omega), ?_⟩
  have hB : Byt (m.length + (Pl.num8 (r.getD j 0)).length) (app m.length (byF m) (byF (Pl.num8 (r.getD j 0)))) ([r.length] ++ ((r.take (j + 1)).map Pl.num8).flatten) := by rw [← hs]; exact Byt.app (Byt.of m) (Byt.of _)
  refine ⟨[.regen 8 0], ?_⟩
  conv => whnf
  refine ⟨rfl, ?_, ?_⟩ <;> (repeat' (first | exact trivial | (exact hB.get) | (exact hB.len) | exact sm | apply And.intro))
 ·obtain rfl : j = r.length := by omega
  rw [show Pl.rowB r = [r.length] ++ ((r.take r.length).map Pl.num8).flatten by rw [List.take_length]; rfl]
  conv => whnf
  repeat' ((first
  | refine ob ?_
  | (refine And.intro (fun hq => ?_) (fun hq => ?_) <;> first | exact cl1 | exact cl3 | skip)
  | refine ob2 ?_ | refine ob4 ?_ | refine fun hq => ?_ | fail) <;> conv => whnf)
  all_goals (repeat' (first | exact sm | apply And.intro))
theorem Byt.dig {f : Nat → List DV} (s : List Nat) (hs : s.length = 32) (h : ∀ k, k < 32 → f k = byF s k) : Byt 32 f s := ⟨hs.symm, h⟩
theorem chop1_app (a b : List DV) (k : Nat) (h : k < a.length) : chop 1 (a ++ b) k = chop 1 a k := by
 unfold chop
 rw [Nat.mul_one, List.drop_append_of_le_length (by omega), List.take_append_of_le_length (by simp; omega)]
theorem dig_chopK (x : KidD) : ∀ k, k < 32 → chop 1 (kidL x) (0 + k) = byF x.sum k := fun k hk => by
 rw [← dig_chop x.sum k hk]
 exact chop1_app (digL x.sum) _ _ (by rw [Nat.zero_add]; exact hk)
theorem Byt.cast {n : Nat} {f : Nat → List DV} {l l' : List Nat} (h : Byt n f l) (e : l = l') : Byt n f l' := by subst e; exact h
end Go.Proofs.YtedokpgkjcnoiaaGreat
namespace Go.Proofs.YtedokpgkjcnoiaaGreat
open Go.RowKit
set_option maxRecDepth 100000
set_option maxHeartbeats 2000000
theorem Byt.two (x y : Nat) : Byt 2 (chop 1 [.v (.int .u8 (x : Nat)), .v (.int .u8 (y : Nat))]) [x, y] := by
 refine ⟨rfl, fun k hk => ?_⟩
 rcases k with _ | _ | k
 ·rfl
 ·rfl
 ·omega
theorem qtruth_d (v : Bool) : ACall Tryz.prog 99 [exB v] [] (.d (byteL [if v then 1 else 0])) [] := by
 cases v with
 | true =>
  refine acall_on (mu := []) [] [] mixed Tryz.func99 rfl rfl rfl ?_
  conv => whnf
  repeat' ((first
  | refine ob ?_
  | (refine And.intro (fun hq => ?_) (fun hq => ?_) <;> first | exact cl1 | ((try simp only [bl] at hq); (try dsimp only at hq); first | exact cl2 | skip))
  | refine fun hq => ?_ | refine ob3 ?_ | fail) <;> conv => whnf)
  all_goals (repeat' (first | exact trivial | (exact (Byt.one 1).get) | exact sm | apply And.intro))
 | false =>
  refine acall_on (mu := []) [] [] mixed Tryz.func99 rfl rfl rfl ?_
  conv => whnf
  repeat' ((first
  | refine ob ?_
  | (refine And.intro (fun hq => ?_) (fun hq => ?_) <;> first | exact cl1 | ((try simp only [bl] at hq); (try dsimp only at hq); first | exact cl2 | skip))
  | refine fun hq => ?_ | refine ob3 ?_ | fail) <;> conv => whnf)
  all_goals (repeat' (first | exact trivial | (exact (Byt.one 0).get) | exact sm | apply And.intro))
theorem rnbytes_d (n : NodeD) (hw : NodeW n) : ACall Tryz.prog 68 [agD (nodeL n)] [] (.d (byteL (Pl.nodeB n))) [] := by
 have hr4 := hw.rows
 have hk4 := hw.kids
 have h8 : IntKind.u8.wrap (n.rows.length : Int) = ((n.rows.length : Nat) : Int) := by rw [wrap8]; omega
 have h9 : IntKind.u8.wrap (n.kids.length : Int) = ((n.kids.length : Nat) : Int) := by rw [wrap8]; omega
 have hB0 := (Byt.two n.kind n.rows.length).cast (l' := nodB n 0 0) (by simp [nodB])
 refine acall_on (mu := [13]) [(12, [.lay 6])] [] mixed Tryz.func68 rfl rfl rfl ?_
 conv => whnf
 repeat' ((first
 | refine ob ?_
 | (refine And.intro (fun hq => ?_) (fun hq => ?_) <;> first | exact cl1 | ((try simp only [bl] at hq); (try dsimp only at hq); first | exact cl2 | skip))
 | refine fun hq => ?_ | refine ob2 ?_ | fail) <;> conv => whnf)
 rw [h8]
 refine ⟨[.drop 13], ?_⟩
 conv => whnf
 refine ⟨Nat, fun i => i ≤ n.rows.length, fun i => n.rows.length - i, fun i => [(3, .own 13 0), (4, exI .i64 i)], fun i => [(13, .row 5 1 0 false (nodB n i 0).length (byF (nodB n i 0)))], ⟨0, by omega, ?_⟩, ?_⟩
 ·skip
  refine ⟨[], ?_⟩
  conv => whnf
  refine ⟨rfl, ?_, ?_⟩ <;> (repeat' (first | exact trivial | (exact hB0.get) | (exact hB0.len) | exact sm | apply And.intro))
 intro i hi
 conv => whnf
 have hm := nodB_len n hw i 0 hi (by omega)
 rcases Nat.lt_or_ge i n.rows.length with hlt | hge
 ·have hW := hw.row i hlt
  have q1 := qtruth_d (n.rows.getD i default).live
  have q2 := qrow_d (n.rows.getD i default).row hW.1 hW.2
  have hl2 := rowB_leng (n.rows.getD i default).row
  have hB := (Byt.app (Byt.app (Byt.of (nodB n i 0)) (Byt.of [if (n.rows.getD i default).live then 1 else 0])) (Byt.of (Pl.rowB (n.rows.getD i default).row))).cast (nodB_row n i hlt)
  have hl1 : [if (n.rows.getD i default).live = true then 1 else 0].length = 1 := rfl
  generalize nodB n i 0 = m at hm hB ⊢
  conv => whnf
  repeat' ((first
  | refine ob ?_
  | refine ⟨_, _, _, .gen [] _ _ _ rfl (q1) rfl rfl rfl rfl rfl, ?_⟩
  | refine ⟨_, _, _, .gen [] _ _ _ rfl (q2) rfl rfl rfl rfl rfl, ?_⟩
  | ((refine ⟨_, _, _, .gen [] _ _ _ rfl (.arg ?harg (q1)) rfl rfl rfl rfl rfl, ?_⟩); case harg => (repeat' (first | exact sm | apply And.intro)))
  | ((refine ⟨_, _, _, .gen [] _ _ _ rfl (.arg ?harg (q2)) rfl rfl rfl rfl rfl, ?_⟩); case harg => (repeat' (first | exact sm | apply And.intro))) | (refine And.intro (fun hq => ?_) (fun hq => ?_) <;> first | exact cl1 | ((try simp only [bl] at hq); (try dsimp only at hq); first | exact cl2 | skip))
  | refine fun hq => ?_ | refine ob2 ?_ | fail) <;> conv => whnf)
  refine ⟨i + 1, by omega, by dsimp only; omega, ?_⟩
  refine ⟨[.regen 13 0], ?_⟩
  conv => whnf
  refine ⟨rfl, ?_, ?_⟩ <;> (repeat' (first | exact trivial | (exact hB.get) | (exact hB.len) | exact sm | apply And.intro))
 obtain rfl : i = n.rows.length := by omega
 have hB1 := ((Byt.of (nodB n n.rows.length 0)).app (Byt.one n.kids.length)).cast (nodB_mid n)
 generalize nodB n n.rows.length 0 = m at hm hB1 ⊢
 conv => whnf
 repeat' ((first
 | refine ob ?_
 | (refine And.intro (fun hq => ?_) (fun hq => ?_) <;> first | exact cl1 | ((try simp only [bl] at hq); (try dsimp only at hq); first | exact cl2 | skip))
 | refine fun hq => ?_ | refine ob2 ?_ | fail) <;> conv => whnf)
 rw [h9]
 refine ⟨[.drop 45, .regen 13 0], ?_⟩
 conv => whnf
 refine ⟨Nat, fun j => j ≤ n.kids.length, fun j => n.kids.length - j, fun j => [(3, .own 13 0), (5, exI .i64 j)], fun j => [(13, .row 5 1 0 false (nodB n n.rows.length (j + 1)).length (byF (nodB n n.rows.length (j + 1))))], ⟨0, by omega, ?_⟩, ?_⟩
 ·skip
  refine ⟨[], ?_⟩
  conv => whnf
  refine ⟨rfl, ?_, ?_⟩ <;> (repeat' (first | exact trivial | (exact hB1.get) | (exact hB1.len) | exact sm | apply And.intro))
 intro j hj
 conv => whnf
 have hm2 := nodB_len n hw n.rows.length (j + 1) (by omega) (by omega)
 rcases Nat.lt_or_ge j n.kids.length with hlt | hge2
 ·obtain ⟨w1, w2, w3, w4, w5, w6⟩ := hw.kid j hlt
  have hkid := nodB_kid n n.rows.length j hlt
  generalize nodB n n.rows.length (j + 1) = mm at hm2 hkid ⊢
  have e0 : n.kids.getD ((j : Int)).toNat default = n.kids.getD j default := rfl
  generalize hk : n.kids.getD j default = k at w1 w2 w3 w4 w5 w6 hkid e0
  have e1 : ((k.live.toNat : Nat) : Int) = k.live := by omega
  have e2 : ((k.size.toNat : Nat) : Int) = k.size := by omega
  have q1 := qcount_d k.live.toNat (by omega)
  have q2 := qcount_d k.size.toNat (by omega)
  rw [e1] at q1
  rw [e2] at q2
  have q3 := qrow_d k.lo w4.1 w4.2
  have q4 := qrow_d k.hi w5.1 w5.2
  have q5 := qrow_d k.key w6.1 w6.2
  have l3 := rowB_leng k.lo
  have l4 := rowB_leng k.hi
  have l5 := rowB_leng k.key
  have b4 : (Pl.be3 k.live.toNat).length = 3 := rfl
  have b5 : (Pl.be3 k.size.toNat).length = 3 := rfl
  have d1 : Byt 32 (fun i => chop 1 (kidL k) (0 + i)) k.sum := Byt.dig k.sum w1 (dig_chopK k)
  have hB := ((((((Byt.of mm).app d1).app (Byt.of (Pl.be3 k.live.toNat))).app (Byt.of (Pl.be3 k.size.toNat))).app (Byt.of (Pl.rowB k.lo))).app (Byt.of (Pl.rowB k.hi))).app (Byt.of (Pl.rowB k.key)) |>.cast hkid
  subst hk
  conv => whnf
  repeat' ((first
  | refine ob ?_
  | refine ⟨_, _, _, .gen [] _ _ _ rfl (q1) rfl rfl rfl rfl rfl, ?_⟩
  | refine ⟨_, _, _, .gen [] _ _ _ rfl (q2) rfl rfl rfl rfl rfl, ?_⟩
  | refine ⟨_, _, _, .gen [] _ _ _ rfl (q3) rfl rfl rfl rfl rfl, ?_⟩
  | refine ⟨_, _, _, .gen [] _ _ _ rfl (q4) rfl rfl rfl rfl rfl, ?_⟩
  | refine ⟨_, _, _, .gen [] _ _ _ rfl (q5) rfl rfl rfl rfl rfl, ?_⟩
  | ((refine ⟨_, _, _, .gen [] _ _ _ rfl (.arg ?harg (q1)) rfl rfl rfl rfl rfl, ?_⟩); case harg => (repeat' (first | exact sm | apply And.intro)))
  | ((refine ⟨_, _, _, .gen [] _ _ _ rfl (.arg ?harg (q2)) rfl rfl rfl rfl rfl, ?_⟩); case harg => (repeat' (first | exact sm | apply And.intro)))
  | ((refine ⟨_, _, _, .gen [] _ _ _ rfl (.arg ?harg (q3)) rfl rfl rfl rfl rfl, ?_⟩); case harg => (repeat' (first | exact sm | apply And.intro)))
  | ((refine ⟨_, _, _, .gen [] _ _ _ rfl (.arg ?harg (q4)) rfl rfl rfl rfl rfl, ?_⟩); case harg => (repeat' (first | exact sm | apply And.intro)))
  | ((refine ⟨_, _, _, .gen [] _ _ _ rfl (.arg ?harg (q5)) rfl rfl rfl rfl rfl, ?_⟩); case harg => (repeat' (first | exact sm | apply And.intro))) | (refine And.intro (fun hq => ?_) (fun hq => ?_) <;> first | exact cl1 | ((try simp only [bl] at hq); (try dsimp only at hq); first | exact cl2 | skip))
  | refine fun hq => ?_ | refine ob2 ?_ | fail) <;> conv => whnf)
  refine ⟨j + 1, by omega, by dsimp only; omega, ?_⟩
  refine ⟨[.regen 13 0], ?_⟩
  conv => whnf
  refine ⟨rfl, ?_, ?_⟩ <;> (repeat' (first | exact trivial | (exact hB.get) | (exact hB.len) | exact sm | apply And.intro))
 ·obtain rfl : j = n.kids.length := by omega
  rw [nodB_end] at hm2 ⊢
  conv => whnf
  repeat' ((first
  | refine ob ?_
  | (refine And.intro (fun hq => ?_) (fun hq => ?_) <;> first | exact cl1 | ((try simp only [bl] at hq); (try dsimp only at hq); first | exact cl2 | skip))
  | refine fun hq => ?_ | refine ob2 ?_ | fail) <;> conv => whnf)
  all_goals (repeat' (first | exact sm | apply And.intro))
end Go.Proofs.YtedokpgkjcnoiaaGreat
