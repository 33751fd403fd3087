/- Contracts of the old kind as ones of the new, where rows come in. kdtree: orders, side, lay. kdtree: lay. -/
import Derived.Test.YtedokpgkjcnoiaaGreatQ22
import Derived.Test.YtedokpgkjcnoiaaGreatQ28
import Derived.Test.YtedokpgkjcnoiaaGreatQ41
set_option linter.unusedVariables false
set_option linter.unusedSimpArgs false
namespace Go.Proofs.YtedokpgkjcnoiaaGreat
open Go.RowKit
/-- a pure contract of the old kind, told from what came in -/
theorem acall_old {P : Program} {f : FuncId} {xs : List AV} {u : Value} (hE : Enters P f)
    (h : ∀ (C : Cx) (vs : List Value), (∀ b, C.N b → b < C.W.heap.size) → xs.length = vs.length → (∀ j, j < xs.length → Rv C (xs.getD j .any) (vs.getD j undef)) → Calls P f vs.toArray C.W fun e w' => e = .returned u ∧ Below C.W.heap.size C.W w') : ACall P f xs [] (.d (.v u)) [] := by
  refine ⟨hE, fun A W vl vs G hl hv => ?_⟩
  refine (h _ vs (fun b hb => hb.2.1) hl hv).mono ?_
  rintro e W' ⟨rfl, K⟩
  obtain ⟨g1, g2, g3⟩ := G.grow (W' := W') K.size (fun k hk => K.block k hk) K.os K.tape K.output
  exact ⟨u, ⟨_, W', [], vl⟩, rfl, rfl, rfl, rfl, g1, g2, rv_ex u⟩
theorem arr_row {C : Cx} {l : List Int} {v : Value} (hN : ∀ b, C.N b → b < C.W.heap.size) (h : Rv C (.d (i64L l)) v) : ∃ A c, v = .slice A l.length c ∧ l.length ≤ c ∧ Arr C.W C.W.heap.size A l.length (i64s l) := by
 replace h : RD C.W C.N (i64L l) v := h
 generalize hd : i64L l = d at h
 cases h with
 | v x => cases hd
 | p cs b off u hb hu hr => cases hd
 | fn f cs us hl hr => cases hd
 | sl sz n f A0 b0 off c u hA hc hl2 hu hr =>
  cases hd
  refine ⟨A0, c, rfl, hc, fun hn => ?_⟩
  obtain ⟨e1, e2⟩ := hA hn
  refine ⟨b0, off, e1, hN _ e2, fun i hi => ?_⟩
  have q1 := (hu i 0 hi (by decide)).1
  have q2 := hr i 0 hi (by decide)
  have q3 : u i 0 = i64s l i := by
   generalize u i 0 = y at q2
   cases q2; rfl
  rw [q3] at q1
  rw [← q1]
  congr 1
  simp
end Go.Proofs.YtedokpgkjcnoiaaGreat
namespace Go.Proofs.YtedokpgkjcnoiaaGreat
open Go.RowKit
open Kd (nPut nGet forkN forkP tGet KidGood RwOk)
set_option maxRecDepth 100000
set_option maxHeartbeats 4000000
theorem ncompare (l m : Rw) (hlm : m.length = l.length) (h1 : l.length ≤ 1000000) : ACall Tryz.prog 36 [.d (i64L l), .d (i64L m)] [] (exI .i64 (Kd.cmpL Kd.lexLt l m)) [] := by
 refine acall_old (enters_of Tryz.func36 rfl rfl) fun C vs hN hl hv => ?_
 match vs, hl with
 | [x, y], _ =>
  obtain ⟨A, c, e1, _, a1⟩ := arr_row hN (hv 0 (by simp))
  obtain ⟨B, d, e2, _, a2⟩ := arr_row hN (hv 1 (by simp))
  replace e1 : x = _ := e1
  replace e2 : y = _ := e2
  subst e1 e2
  exact (ocompare A B l m c d C.W.heap.size C.W a1 a2 hlm h1).mono fun e w' ⟨he, hw⟩ => ⟨he, by rw [hw]; exact Below.refl _ _⟩
theorem ncmp_int (x y : Int) : ACall Tryz.prog 63 [exI .i64 x, exI .i64 y] [] (exI .i64 (if x < y then -1 else if y < x then 1 else 0)) [] := by
 refine acall_old (enters_of Tryz.func63 rfl rfl) fun C vs hN hl hv => ?_
 match vs, hl with
 | [a, b], _ =>
  have e1 := rv_ex_inv (hv 0 (by simp))
  have e2 := rv_ex_inv (hv 1 (by simp))
  replace e1 : a = _ := e1
  replace e2 : b = _ := e2
  subst e1 e2
  exact (ocmp_int x y C.W).mono fun e w' ⟨he, hw⟩ => ⟨he, by rw [hw]; exact Below.refl _ _⟩
theorem korder1 (l m : Rw) (a : Nat) (hlm : m.length = l.length) (h1 : l.length ≤ 1000000) (ha : a < l.length) : ACall Tryz.prog 95 [.d (i64L l), .d (i64L m), .dp [.v (.int .i64 (a : Nat))]] [] (exI .i64 (Kd.cmpL (Kd.ltAt a) l m)) [] := by
 have q1 := ncompare l m hlm h1
 have q2 := ncmp_int (l.getD a 0) (m.getD a 0)
 rw [cmp_ltAt]
 rcases Int.lt_trichotomy (l.getD a 0) (m.getD a 0) with q | q | q
 ·rw [if_pos q] at q2 ⊢
  refine acall_of (mu := []) mixed Tryz.func95 rfl rfl rfl ?_
  conv => whnf
  repeat' ((first
  | refine ob ?_
  | refine ⟨_, _, _, .flat _ _ rfl (q1) rfl, ?_⟩
  | refine ⟨_, _, _, .flat _ _ rfl (q2) rfl, ?_⟩
  | ((refine ⟨_, _, _, .flat _ _ rfl (.arg ?harg (q1)) rfl, ?_⟩); case harg => (repeat' (first | exact sm | apply And.intro)))
  | ((refine ⟨_, _, _, .flat _ _ rfl (.arg ?harg (q2)) rfl, ?_⟩); case harg => (repeat' (first | exact sm | apply And.intro))) | (refine And.intro (fun hq => ?_) (fun hq => ?_) <;> first | exact cl1 | ((try simp only [bl] at hq); (try dsimp only at hq); first | exact cl2 | skip))
  | refine fun hq => ?_ | refine ob3 ?_ | fail) <;> conv => whnf)
  all_goals (repeat' (first | exact sm | apply And.intro))
 ·rw [if_neg (by omega), if_neg (by omega)] at q2 ⊢
  refine acall_of (mu := []) mixed Tryz.func95 rfl rfl rfl ?_
  conv => whnf
  repeat' ((first
  | refine ob ?_
  | refine ⟨_, _, _, .flat _ _ rfl (q1) rfl, ?_⟩
  | refine ⟨_, _, _, .flat _ _ rfl (q2) rfl, ?_⟩
  | ((refine ⟨_, _, _, .flat _ _ rfl (.arg ?harg (q1)) rfl, ?_⟩); case harg => (repeat' (first | exact sm | apply And.intro)))
  | ((refine ⟨_, _, _, .flat _ _ rfl (.arg ?harg (q2)) rfl, ?_⟩); case harg => (repeat' (first | exact sm | apply And.intro))) | (refine And.intro (fun hq => ?_) (fun hq => ?_) <;> first | exact cl1 | ((try simp only [bl] at hq); (try dsimp only at hq); first | exact cl2 | skip))
  | refine fun hq => ?_ | refine ob3 ?_ | fail) <;> conv => whnf)
  all_goals (repeat' (first | exact sm | apply And.intro))
 ·rw [if_neg (by omega), if_pos q] at q2 ⊢
  refine acall_of (mu := []) mixed Tryz.func95 rfl rfl rfl ?_
  conv => whnf
  repeat' ((first
  | refine ob ?_
  | refine ⟨_, _, _, .flat _ _ rfl (q1) rfl, ?_⟩
  | refine ⟨_, _, _, .flat _ _ rfl (q2) rfl, ?_⟩
  | ((refine ⟨_, _, _, .flat _ _ rfl (.arg ?harg (q1)) rfl, ?_⟩); case harg => (repeat' (first | exact sm | apply And.intro)))
  | ((refine ⟨_, _, _, .flat _ _ rfl (.arg ?harg (q2)) rfl, ?_⟩); case harg => (repeat' (first | exact sm | apply And.intro))) | (refine And.intro (fun hq => ?_) (fun hq => ?_) <;> first | exact cl1 | ((try simp only [bl] at hq); (try dsimp only at hq); first | exact cl2 | skip))
  | refine fun hq => ?_ | refine ob3 ?_ | fail) <;> conv => whnf)
  all_goals (repeat' (first | exact sm | apply And.intro))
def ordF (a : Nat) : AV := .fn (.func 95) [] [.dp [.v (.int .i64 (a : Nat))]]
theorem tmodN (n k : Nat) : Int.tmod (n : Int) (k : Int) = ((n % k : Nat) : Int) := (Int.ofNat_tmod n k).symm
theorem korder_ok (d dep : Nat) (s : Sto) (h1 : 1 ≤ d) (hd : dep ≤ 1000000000) : ACall Tryz.prog 64 [treeA d, exI .i64 dep] (stoH 900 901 s) (ordF (dep % d)) (stoH 900 901 s) := by
 refine acall_on (mu := [2]) [] [.lay 5] mixed Tryz.func64 rfl rfl rfl ?_
 conv => whnf
 repeat' ((first
 | refine ob ?_
 | (refine And.intro (fun hq => ?_) (fun hq => ?_) <;> first | exact cl1 | ((try simp only [bl] at hq); (try dsimp only at hq); first | exact cl2 | skip))
 | refine fun hq => ?_ | refine ob3 ?_ | fail) <;> conv => whnf)
 rw [tmodN]
 all_goals (repeat' (first | exact sm | apply And.intro))
theorem rv_fn1 {C : Cx} {g : Nat} {c : List DV} {v : Value} (h : Rv C (.fn (.func g) [] [.dp c]) v) : ∃ b off, ∃ u : Nat → Value, v = .func (.func g) #[] #[.pointer (some ⟨b, off, none⟩)] ∧ C.N b ∧ ∀ j, j < c.length → (C.W.cell? ⟨b, off + j, none⟩ = some (u j) ∧ (u j).oneCell' = true) ∧ RD C.W C.N (c.getD j default) (u j) := by
 obtain ⟨us, ws, e, ⟨h1, _⟩, ⟨h2, h3⟩⟩ := h
 obtain rfl : us = [] := List.eq_nil_of_length_eq_zero (by simpa using h1.symm)
 match ws, h2 with
 | [w0], _ =>
  obtain ⟨b, off, u, q1, q2, q3⟩ := h3 0 (by simp)
  replace q1 : w0 = _ := q1
  subst q1
  exact ⟨b, off, u, e, q2, q3⟩
theorem cmps_order (a d : Nat) (ha : a < d) (hd : d ≤ 1000000) : Cmps Tryz.prog 95 d (Kd.ltAt a) (ordF a) := fun C v hv => by
 obtain ⟨b, off, u, rfl, hN, hu⟩ := rv_fn1 hv
 refine ⟨_, rfl, fun W hW A B l m c e Z hl hm hA hB => ?_⟩
 obtain ⟨⟨h1, _⟩, h2⟩ := hu 0 (by simp)
 have h3 : u 0 = .int .i64 (a : Nat) := by
  generalize u 0 = z at h2
  cases h2; rfl
 rw [h3] at h1
 have h4 : W.cell? ⟨b, off, none⟩ = some (.int .i64 (a : Nat)) := (World.cell?_of_block (w := C.W) (a := ⟨b, off, none⟩) (hW b hN)).trans h1
 exact oorder A B l m c e Z b off a W hA hB (by omega) (by omega) (by omega) h4
theorem sortord_ok (a d : Nat) (ha : a < d) (hd : d ≤ 1000000) (L : List Rw) (hne : L ≠ []) (hL : L.length ≤ 2000000) (hr : ∀ r ∈ L, r.length = d) :
    ACall Tryz.prog 34 [.own 902 1, ordF a] [(902, .row 26 1 1 false L.length (rowF L))] (.tup []) [(902, .row 26 1 1 false L.length (rowF (Kd.isort (Kd.ltAt a) L)))] := by
  have q := acall_sort Tryz.sort34 (enters_of Tryz.func34 rfl rfl) (Kd.ltAt a) d 95 ⟨fun x y z _ _ _ => (Kd.ltAt_tot a).tr x y z trivial trivial trivial, (Kd.ltAt_tot a).ir, fun x y _ _ => (Kd.ltAt_tot a).tot x y trivial trivial⟩ (enters_of Tryz.func95 rfl rfl) (ordF a) (cmps_order a d ha hd) 26 L hne hL hr
  obtain ⟨σ, τ, hστ, e1⟩ := names1 901 902
  have q := q.ren (σ := σ) (τ := τ) (δ := fun x => if x = 901 then 1 else 0) hστ (by
    intro x ob hx hr
    by_cases ex : x = 901
    · subst ex; rcases hx with hx | hx <;> (simp [look] at hx; subst hx; cases hr)
    · simp [ex])
  simp [mapC, mapA, mapA1, rnA, rnH, rnO, ordF, e1] at q ⊢
  exact q
theorem kside_ok (d dep : Nat) (s : Sto) (h1 : 1 ≤ d) (h8 : d ≤ 8) (hd : dep ≤ 1000000000) (p q : Rw) (hp : p.length = d) (hq : q.length = d) : ACall Tryz.prog 51 [treeA d, .d (i64L p), .d (i64L q), exI .i64 dep] (stoH 900 901 s) (exI .i64 (if Kd.ltAt (dep % d) p q = true then 0 else 1)) (stoH 900 901 s) := by
 have c1 := korder_ok d dep s h1 hd
 have hm : dep % d < d := Nat.mod_lt _ (by omega)
 have c2 := korder1 p q (dep % d) (by omega) (by omega) (by omega)
 unfold ordF at c1
 generalize dep % d = a at c1 c2 ⊢
 have hc : Kd.cmpL (Kd.ltAt a) p q < 0 ↔ Kd.ltAt a p q = true := Kd.cmpL_neg
 generalize Kd.cmpL (Kd.ltAt a) p q = z at c2 hc
 refine acall_on (mu := [4]) [] [] mixed Tryz.func51 rfl rfl rfl ?_
 by_cases hz : z < 0
 ·rw [if_pos (hc.1 hz)]
  conv => whnf
  repeat' ((first
  | refine ob ?_
  | refine ⟨_, _, _, .gen [901,900] _ _ _ rfl (c1) rfl rfl rfl rfl rfl, ?_⟩
  | refine ⟨_, _, _, .flat _ _ rfl (c2) rfl, ?_⟩
  | ((refine ⟨_, _, _, .gen [901,900] _ _ _ rfl (.arg ?harg (c1)) rfl rfl rfl rfl rfl, ?_⟩); case harg => (repeat' (first | exact sm | apply And.intro)))
  | ((refine ⟨_, _, _, .flat _ _ rfl (.arg ?harg (c2)) rfl, ?_⟩); case harg => (repeat' (first | exact sm | apply And.intro))) | (refine And.intro (fun hq => ?_) (fun hq => ?_) <;> first | exact cl1 | ((try simp only [bl] at hq); (try dsimp only at hq); first | exact cl2 | skip))
  | refine fun hq => ?_ | refine ob3 ?_ | fail) <;> conv => whnf)
  all_goals (repeat' (first | exact sm | apply And.intro))
 ·rw [if_neg (fun e => hz (hc.2 e))]
  conv => whnf
  repeat' ((first
  | refine ob ?_
  | refine ⟨_, _, _, .gen [901,900] _ _ _ rfl (c1) rfl rfl rfl rfl rfl, ?_⟩
  | refine ⟨_, _, _, .flat _ _ rfl (c2) rfl, ?_⟩
  | ((refine ⟨_, _, _, .gen [901,900] _ _ _ rfl (.arg ?harg (c1)) rfl rfl rfl rfl rfl, ?_⟩); case harg => (repeat' (first | exact sm | apply And.intro)))
  | ((refine ⟨_, _, _, .flat _ _ rfl (.arg ?harg (c2)) rfl, ?_⟩); case harg => (repeat' (first | exact sm | apply And.intro))) | (refine And.intro (fun hq => ?_) (fun hq => ?_) <;> first | exact cl1 | ((try simp only [bl] at hq); (try dsimp only at hq); first | exact cl2 | skip))
  | refine fun hq => ?_ | refine ob3 ?_ | fail) <;> conv => whnf)
  all_goals (repeat' (first | exact sm | apply And.intro))
end Go.Proofs.YtedokpgkjcnoiaaGreat
namespace Go.Proofs.YtedokpgkjcnoiaaGreat
open Go.RowKit
open Kd (nPut nGet forkN forkP tGet KidGood RwOk layP thenP PGood)
set_option maxRecDepth 100000
set_option maxHeartbeats 4000000
theorem rwclone5 (l : List Rw) (h0 : 0 < l.length) (hl : l.length ≤ 100000000000) : ACall Tryz.prog 33 [.d (rowL l)] [] (.own 5 1) [(5, .row 26 1 1 false l.length (rowF l))] := by
 refine acall_on (mu := [5]) [] [] mixed Tryz.func33 rfl rfl rfl ?_
 conv => whnf
 repeat' ((first
 | refine ob ?_
 | (refine And.intro (fun hq => ?_) (fun hq => ?_) <;> first | exact cl1 | exact cl3 | skip)
 | refine ob2 ?_ | refine ob4 ?_ | refine fun hq => ?_ | fail) <;> conv => whnf)
 all_goals (repeat' (first | exact trivial | (exact fun k _ => app_ge (Nat.zero_le k)) | (exact Nat.zero_add _) | exact sm | apply And.intro))
theorem rwcloneO (K : Nat) (l : List Rw) (h0 : 0 < l.length) (hl : l.length ≤ 100000000000) : ACall Tryz.prog 33 [.d (rowL l)] [] (.own K 1) [(K, .row 26 1 1 false l.length (rowF l))] := by
 obtain ⟨σ, τ, hστ, e1⟩ := names1 5 K
 have q := (rwclone5 l h0 hl).ren (σ := σ) (τ := τ) (δ := fun _ => 0) hστ (by intros; rfl)
 simpa [mapC, mapA, mapA1, rnA, rnH, rnO, e1] using q
theorem rwclone0 : ACall Tryz.prog 33 [.d (rowL [])] [] (.d (rowL [])) [] := by
 refine ACall.none0 (pre := []) (post := []) fun A c => ?_
 refine acall_on (mu := [5]) [] [] mixed Tryz.func33 rfl rfl rfl ?_
 conv => whnf
 repeat' ((first
 | refine ob ?_
 | (refine And.intro (fun hq => ?_) (fun hq => ?_) <;> first | exact cl1 | exact cl3 | skip)
 | refine ob2 ?_ | refine ob4 ?_ | refine fun hq => ?_ | fail) <;> conv => whnf)
 all_goals (repeat' (first | exact sm | apply And.intro))
theorem tdivN (n k : Nat) : Int.tdiv (n : Int) (k : Int) = ((n / k : Nat) : Int) := (Int.ofNat_tdiv n k).symm
theorem tdiv2 (n : Nat) : Int.tdiv (n : Int) 2 = ((n / 2 : Nat) : Int) := tdivN n 2
theorem row_take (M : List Rw) (k : Nat) : ∀ i, i < k → rowF M (0 + i) = rowF (M.take k) i := fun i hi => by
 unfold rowF
 rw [Nat.zero_add, List.getD_eq_getElem?_getD, List.getD_eq_getElem?_getD, List.getElem?_take, if_pos hi]
theorem row_drop (M : List Rw) (k n : Nat) : ∀ i, i < n → rowF M (k + i) = rowF (M.drop k) i := fun i hi => by
 unfold rowF
 rw [List.getD_eq_getElem?_getD, List.getD_eq_getElem?_getD, List.getElem?_drop]
theorem klay_nil (d : Nat) (s : Sto) (dep : Int) : ACall Tryz.prog 38 [treeA d, .d (rowL []), exI .i64 dep] (stoH 900 901 s) (resK (s, Pl.kidZ, 0)) (stoH 900 901 s) := by
 refine acall_on (mu := [3]) [] [] mixed Tryz.func38 rfl rfl rfl ?_
 conv => whnf
 repeat' ((first
 | refine ob ?_
 | (refine And.intro (fun hq => ?_) (fun hq => ?_) <;> first | exact cl1 | ((try simp only [bl] at hq); (try dsimp only at hq); first | exact cl2 | skip))
 | refine fun hq => ?_ | refine ob3 ?_ | fail) <;> conv => whnf)
 all_goals (repeat' (first | exact sm | apply And.intro))
theorem klay_ok (d : Nat) (h1 : 1 ≤ d) (h8 : d ≤ 8) : ∀ (f : Nat) (s : Sto) (l : List Rw) (dep : Nat), StoOk s → l.length ≤ f → l.length ≤ 2000000 → dep + f ≤ 1000000000 → (∀ p ∈ l, RwOk d p) → ACall Tryz.prog 38 [treeA d, .d (rowL l), exI .i64 dep] (stoH 900 901 s) (resK (layP d f s l dep)) (stoH 900 901 (layP d f s l dep).1)
 | 0, s, l, dep, hs, hf, hz, hd, hl => by
  obtain rfl : l = [] := List.eq_nil_of_length_eq_zero (by omega)
  exact klay_nil d s dep
 | f + 1, s, l, dep, hs, hf, hz, hd, hl => by
  unfold layP
  by_cases hne : l = []
  ·rw [if_pos hne]; subst hne; exact klay_nil d s dep
  ·rw [if_neg hne]
   have h0 : 0 < l.length := List.length_pos_iff.2 hne
   have c1 := rwcloneO 902 l h0 (by omega)
   have c2 := korder_ok d dep s h1 (by omega)
   have hm : dep % d < d := Nat.mod_lt _ (by omega)
   have c3 := sortord_ok (dep % d) d hm (by omega) l hne hz (fun r hr => (hl r hr).1)
   have hlen := Kd.isort_len (lt := Kd.ltAt (dep % d)) l
   have hM : ∀ p ∈ Kd.isort (Kd.ltAt (dep % d)) l, RwOk d p := fun p hp => hl p (Kd.isort_mem.1 hp)
   generalize Kd.isort (Kd.ltAt (dep % d)) l = M at c3 hlen hM ⊢
   have t1 : (M.take (l.length / 2)).length = l.length / 2 := by rw [List.length_take]; omega
   have t2 : (M.drop (l.length / 2 + 1)).length = l.length - (l.length / 2 + 1) := by rw [List.length_drop]; omega
   have hT : ∀ p ∈ M.take (l.length / 2), RwOk d p := fun p hp => hM p (List.mem_of_mem_take hp)
   have hD : ∀ p ∈ M.drop (l.length / 2 + 1), RwOk d p := fun p hp => hM p (List.mem_of_mem_drop hp)
   have i1 := klay_ok d h1 h8 f s (M.take (l.length / 2)) (dep + 1) hs (by omega) (by omega) (by omega) hT
   have g1 := PGood.lay h1 h8 f s (M.take (l.length / 2)) (dep + 1) hs hT
   have e1 := row_take M (l.length / 2)
   have e2 := row_drop M (l.length / 2 + 1)
   generalize hR1 : layP d f s (M.take (l.length / 2)) (dep + 1) = R1 at i1 g1 ⊢
   unfold resK at i1
   unfold ordF at c2 c3
   by_cases he1 : R1.2.2 = 0
   ·rw [Kd.then_ok _ (show R1.2 = (R1.2.1, 0) by rw [← he1])]
    have i2 := klay_ok d h1 h8 f R1.1 (M.drop (l.length / 2 + 1)) (dep + 1) g1.s (by omega) (by omega) (by omega) hD
    have g2 := PGood.lay h1 h8 f R1.1 (M.drop (l.length / 2 + 1)) (dep + 1) g1.s hD
    generalize layP d f R1.1 (M.drop (l.length / 2 + 1)) (dep + 1) = R2 at i2 g2 ⊢
    unfold resK at i2
    have hx : RwOk d (M.getD (l.length / 2) []) := Kd.getD_rw hM (by omega)
    by_cases he2 : R2.2.2 = 0
    ·rw [Kd.then_ok _ (show R2.2 = (R2.2.1, 0) by rw [← he2])]
     have c4 := kfork_ok d R2.1 g2.s ⟨M.getD (l.length / 2) [], true⟩ R1.2.1 R2.2.1 hx h8 g1.k g2.k
     generalize forkP d R2.1 ⟨M.getD (l.length / 2) [], true⟩ R1.2.1 R2.2.1 = R3 at c4 ⊢
     refine acall_on (mu := [3]) [(6, [.lay 902])] [] mixed Tryz.func38 rfl rfl rfl ?_
     conv => whnf
     repeat' ((first
     | refine ob ?_
     | refine ⟨_, _, _, .gen [] _ _ _ rfl (c1) rfl rfl rfl rfl rfl, ?_⟩
     | refine ⟨_, _, _, .gen [901,900] _ _ _ rfl (c2) rfl rfl rfl rfl rfl, ?_⟩
     | refine ⟨_, _, _, .gen [902] _ _ _ rfl (c3) rfl rfl rfl rfl rfl, ?_⟩
     | ((refine ⟨_, _, _, .gen [] _ _ _ rfl (.arg ?harg (c1)) rfl rfl rfl rfl rfl, ?_⟩); case harg => (repeat' (first | exact sm | apply And.intro)))
     | ((refine ⟨_, _, _, .gen [901,900] _ _ _ rfl (.arg ?harg (c2)) rfl rfl rfl rfl rfl, ?_⟩); case harg => (repeat' (first | exact sm | apply And.intro)))
     | ((refine ⟨_, _, _, .gen [902] _ _ _ rfl (.arg ?harg (c3)) rfl rfl rfl rfl rfl, ?_⟩); case harg => (repeat' (first | exact sm | apply And.intro))) | (refine And.intro (fun hq => ?_) (fun hq => ?_) <;> first | exact cl1 | ((try simp only [bl] at hq); (try dsimp only at hq); first | exact cl2 | skip))
     | refine fun hq => ?_ | refine ob3 ?_ | fail) <;> conv => whnf)
     rw [tdiv2]
     conv => whnf
     repeat' ((first
     | refine ob ?_
     | refine ⟨_, _, _, .gen [901,900] _ _ _ rfl (i1) rfl rfl rfl rfl rfl, ?_⟩
     | refine ⟨_, _, _, .gen [901,900] _ _ _ rfl (i2) rfl rfl rfl rfl rfl, ?_⟩
     | refine ⟨_, _, _, .gen [901,900] _ _ _ rfl (c4) rfl rfl rfl rfl rfl, ?_⟩
     | ((refine ⟨_, _, _, .gen [901,900] _ _ _ rfl (.arg ?harg (i1)) rfl rfl rfl rfl rfl, ?_⟩); case harg => (repeat' (first | exact trivial | (exact e1) | (exact e2 _) | (exact t1.symm) | (exact t2.symm) | exact sm | apply And.intro)))
     | ((refine ⟨_, _, _, .gen [901,900] _ _ _ rfl (.arg ?harg (i2)) rfl rfl rfl rfl rfl, ?_⟩); case harg => (repeat' (first | exact trivial | (exact e1) | (exact e2 _) | (exact t1.symm) | (exact t2.symm) | exact sm | apply And.intro)))
     | ((refine ⟨_, _, _, .gen [901,900] _ _ _ rfl (.arg ?harg (c4)) rfl rfl rfl rfl rfl, ?_⟩); case harg => (repeat' (first | exact trivial | (exact e1) | (exact e2 _) | (exact t1.symm) | (exact t2.symm) | exact sm | apply And.intro))) | (refine And.intro (fun hq => ?_) (fun hq => ?_) <;> first | exact cl1 | ((try simp only [bl] at hq); (try dsimp only at hq); first | exact cl2 | skip))
     | refine fun hq => ?_ | refine ob3 ?_ | fail) <;> conv => whnf)
     all_goals (repeat' (first | exact sm | apply And.intro))
    ·rw [Kd.then_no _ (show R2.2 = (R2.2.1, R2.2.2) from rfl) he2]
     refine acall_on (mu := [3]) [(6, [.lay 902])] [] mixed Tryz.func38 rfl rfl rfl ?_
     conv => whnf
     repeat' ((first
     | refine ob ?_
     | refine ⟨_, _, _, .gen [] _ _ _ rfl (c1) rfl rfl rfl rfl rfl, ?_⟩
     | refine ⟨_, _, _, .gen [901,900] _ _ _ rfl (c2) rfl rfl rfl rfl rfl, ?_⟩
     | refine ⟨_, _, _, .gen [902] _ _ _ rfl (c3) rfl rfl rfl rfl rfl, ?_⟩
     | ((refine ⟨_, _, _, .gen [] _ _ _ rfl (.arg ?harg (c1)) rfl rfl rfl rfl rfl, ?_⟩); case harg => (repeat' (first | exact sm | apply And.intro)))
     | ((refine ⟨_, _, _, .gen [901,900] _ _ _ rfl (.arg ?harg (c2)) rfl rfl rfl rfl rfl, ?_⟩); case harg => (repeat' (first | exact sm | apply And.intro)))
     | ((refine ⟨_, _, _, .gen [902] _ _ _ rfl (.arg ?harg (c3)) rfl rfl rfl rfl rfl, ?_⟩); case harg => (repeat' (first | exact sm | apply And.intro))) | (refine And.intro (fun hq => ?_) (fun hq => ?_) <;> first | exact cl1 | ((try simp only [bl] at hq); (try dsimp only at hq); first | exact cl2 | skip))
     | refine fun hq => ?_ | refine ob3 ?_ | fail) <;> conv => whnf)
     rw [tdiv2]
     conv => whnf
     repeat' ((first
     | refine ob ?_
     | refine ⟨_, _, _, .gen [901,900] _ _ _ rfl (i1) rfl rfl rfl rfl rfl, ?_⟩
     | refine ⟨_, _, _, .gen [901,900] _ _ _ rfl (i2) rfl rfl rfl rfl rfl, ?_⟩
     | ((refine ⟨_, _, _, .gen [901,900] _ _ _ rfl (.arg ?harg (i1)) rfl rfl rfl rfl rfl, ?_⟩); case harg => (repeat' (first | exact trivial | (exact e1) | (exact e2 _) | (exact t1.symm) | (exact t2.symm) | exact sm | apply And.intro)))
     | ((refine ⟨_, _, _, .gen [901,900] _ _ _ rfl (.arg ?harg (i2)) rfl rfl rfl rfl rfl, ?_⟩); case harg => (repeat' (first | exact trivial | (exact e1) | (exact e2 _) | (exact t1.symm) | (exact t2.symm) | exact sm | apply And.intro))) | (refine And.intro (fun hq => ?_) (fun hq => ?_) <;> first | exact cl1 | ((try simp only [bl] at hq); (try dsimp only at hq); first | exact cl2 | skip))
     | refine fun hq => ?_ | refine ob3 ?_ | fail) <;> conv => whnf)
     all_goals (repeat' (first | exact sm | apply And.intro))
   ·rw [Kd.then_no _ (show R1.2 = (R1.2.1, R1.2.2) from rfl) he1]
    refine acall_on (mu := [3]) [(6, [.lay 902])] [] mixed Tryz.func38 rfl rfl rfl ?_
    conv => whnf
    repeat' ((first
    | refine ob ?_
    | refine ⟨_, _, _, .gen [] _ _ _ rfl (c1) rfl rfl rfl rfl rfl, ?_⟩
    | refine ⟨_, _, _, .gen [901,900] _ _ _ rfl (c2) rfl rfl rfl rfl rfl, ?_⟩
    | refine ⟨_, _, _, .gen [902] _ _ _ rfl (c3) rfl rfl rfl rfl rfl, ?_⟩
    | ((refine ⟨_, _, _, .gen [] _ _ _ rfl (.arg ?harg (c1)) rfl rfl rfl rfl rfl, ?_⟩); case harg => (repeat' (first | exact sm | apply And.intro)))
    | ((refine ⟨_, _, _, .gen [901,900] _ _ _ rfl (.arg ?harg (c2)) rfl rfl rfl rfl rfl, ?_⟩); case harg => (repeat' (first | exact sm | apply And.intro)))
    | ((refine ⟨_, _, _, .gen [902] _ _ _ rfl (.arg ?harg (c3)) rfl rfl rfl rfl rfl, ?_⟩); case harg => (repeat' (first | exact sm | apply And.intro))) | (refine And.intro (fun hq => ?_) (fun hq => ?_) <;> first | exact cl1 | ((try simp only [bl] at hq); (try dsimp only at hq); first | exact cl2 | skip))
    | refine fun hq => ?_ | refine ob3 ?_ | fail) <;> conv => whnf)
    rw [tdiv2]
    conv => whnf
    repeat' ((first
    | refine ob ?_
    | refine ⟨_, _, _, .gen [901,900] _ _ _ rfl (i1) rfl rfl rfl rfl rfl, ?_⟩
    | ((refine ⟨_, _, _, .gen [901,900] _ _ _ rfl (.arg ?harg (i1)) rfl rfl rfl rfl rfl, ?_⟩); case harg => (repeat' (first | exact trivial | (exact e1) | (exact e2 _) | (exact t1.symm) | (exact t2.symm) | exact sm | apply And.intro))) | (refine And.intro (fun hq => ?_) (fun hq => ?_) <;> first | exact cl1 | ((try simp only [bl] at hq); (try dsimp only at hq); first | exact cl2 | skip))
    | refine fun hq => ?_ | refine ob3 ?_ | fail) <;> conv => whnf)
    all_goals (repeat' (first | exact sm | apply And.intro))
end Go.Proofs.YtedokpgkjcnoiaaGreat
