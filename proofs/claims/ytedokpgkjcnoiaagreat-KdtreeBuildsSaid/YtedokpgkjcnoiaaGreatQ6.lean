/- What an operation does, seen from afar, and that it does so: slices made and grown. No program in sight. What an operation does, seen from afar, and that it does so: slices cut, values turned to another type, the lesser and the greater. No program in sight. -/
import Derived.Laws.IdiomStrings
import Derived.Laws.BytesArg
import Derived.Test.YtedokpgkjcnoiaaGreatQ5
set_option linter.unusedVariables false
set_option linter.unusedSimpArgs false
namespace Go.Proofs.YtedokpgkjcnoiaaGreat
open Go.RowKit
section
variable {P : Program} {C : Cx}
/-- elements to be read: how wide, how many, which -/
def srcA (H : OH) : AV → Option (Nat × Nat × (Nat → List DV))
 | .d (.sl sz m f) => some (sz, m, f)
 | .own o g => match look H o with
  | some (.row _ sz g' _ n f) => match Nat.beq g' g with
   | true => some (sz, n, f)
   | false => none
  | _ => none
 | _ => none
theorem rng_get {n j : Nat} {g : Nat → Value} (h : j < n) : ((List.range n).map g).getD j undef = g j := by
 simp [List.getD_eq_getElem?_getD, List.getElem?_map, List.getElem?_range h]
theorem src_spec (G : Gam C) {x : AV} {v : Value} {sz m : Nat} {f : Nat → List DV} (h : Rv C x v) (hs : srcA C.H x = some (sz, m, f)) :
    ∃ A c, ∃ news : List Value, v = .slice A m c ∧ m ≤ c ∧ news.length = m * sz ∧ (∀ i, i < m → (f i).length = sz) ∧ (∀ u ∈ news, u.oneCell' = true) ∧
      (∀ i j, i < m → j < sz → RD C.W C.N ((f i).getD j default) (news.getD (i * sz + j) undef)) ∧
      (m = 0 ∨ ∃ b off, A = some ⟨b, off, none⟩ ∧ ∀ j, j < m * sz → C.W.cell? ⟨b, off + j, none⟩ = some (news.getD j undef)) := by
  cases x with
  | d y =>
    cases y with
    | v z => cases hs
    | p ds => cases hs
    | fn f ds => cases hs
    | sl sz' m' f' =>
      simp only [srcA, Option.some.injEq, Prod.mk.injEq] at hs
      obtain ⟨rfl, rfl, rfl⟩ := hs
      replace h : RD C.W C.N (.sl sz' m' f') v := h
      cases h with
      | sl sz n f A b off c u hA hc hl hu hr =>
        rcases Nat.eq_zero_or_pos m' with q | q
        · subst q
          exact ⟨A, c, [], rfl, hc, by simp, hl, by simp, fun i j hi => by omega, .inl rfl⟩
        · rcases Nat.eq_zero_or_pos sz' with s0 | s0
          · subst s0
            obtain ⟨rfl, _⟩ := hA q
            exact ⟨_, c, [], rfl, hc, by simp, hl, by simp, fun i j hi hj => by omega, .inr ⟨b, off, rfl, fun j hj => by omega⟩⟩
          · obtain ⟨rfl, _⟩ := hA q
            have dm : ∀ {j : Nat}, j < m' * sz' → j / sz' < m' ∧ j % sz' < sz' ∧ j / sz' * sz' + j % sz' = j := fun {j} hj => by
              refine ⟨Nat.div_lt_of_lt_mul (by rw [Nat.mul_comm]; exact hj), Nat.mod_lt _ s0, ?_⟩
              rw [Nat.mul_comm]; exact Nat.div_add_mod _ _
            have back : ∀ {i j : Nat}, j < sz' → (i * sz' + j) / sz' = i ∧ (i * sz' + j) % sz' = j := fun {i j} hj => by
              rw [Nat.mul_comm, Nat.mul_add_div s0, Nat.div_eq_of_lt hj, Nat.mul_add_mod, Nat.mod_eq_of_lt hj]
              exact ⟨rfl, rfl⟩
            refine ⟨_, c, (List.range (m' * sz')).map fun k => u (k / sz') (k % sz'), rfl, hc, by simp, hl, fun w hw => ?_, fun i j hi hj => ?_, .inr ⟨b, off, rfl, fun j hj => ?_⟩⟩
            · obtain ⟨k, hk, rfl⟩ := List.mem_map.1 hw
              have := dm (List.mem_range.1 hk)
              exact (hu _ _ this.1 this.2.1).2
            · rw [rng_get (idx_lt hi hj), (back hj).1, (back hj).2]
              exact hr i j hi hj
            · rw [rng_get hj]
              have := dm hj
              rw [← (hu _ _ this.1 this.2.1).1, Nat.add_assoc, this.2.2]
  | own o g =>
    simp only [srcA] at hs
    split at hs
    · rename_i ty sz' g' fz n f' ho
      split at hs
      · rename_i hg
        simp only [Option.some.injEq, Prod.mk.injEq] at hs
        obtain ⟨rfl, rfl, rfl⟩ := hs
        have hv := own_val G h ho rfl (by simp only [curG, ho, Ob.gen]; exact hg)
        obtain ⟨us, q1, q2, q4, q3⟩ := G.ok o _ ho
        rcases q1.2 with ⟨q, rfl⟩ | ⟨b, cap, cur, q, _, hh, hnc, _, hsz, ht⟩
        · exact ⟨none, 0, us, hv.trans q, Nat.le_refl _, q1.1, q2, q4, q3, .inl rfl⟩
        · refine ⟨_, cap, us, hv.trans q, hnc, q1.1, q2, q4, q3, .inr ⟨b, 0, rfl, fun j hj => ?_⟩⟩
          rw [Nat.zero_add, cell_of_row C.W b j cur ty (0, 0) hh]
          have hl : us.length = n * sz' := q1.1
          have := congrArg (fun l => l[j]?) ht
          simp only [List.getElem?_take, if_pos hj] at this
          rw [show cur[j]? = cur.toList[j]? by simp, this, List.getElem?_eq_getElem (by omega)]
          simp [List.getD_eq_getElem?_getD, List.getElem?_eq_getElem (show j < us.length by omega)]
      · cases hs
    · cases hs
  | any => cases hs
  | dp x => cases hs
  | ptr a b c d => cases hs
  | agg x => cases hs
  | fn x y z => cases hs
  | tup x => cases hs
  | win a b c d e => cases hs
/-- .. or none, of a slice that is known as it is -/
def srcX (k : Nat) (H : OH) : AV → Option (Nat × Nat × (Nat → List DV))
 | .d (.v (.slice _ n _)) => match Nat.beq n 0 with
  | true => some (k, 0, fun _ => [])
  | false => none
 | x => srcA H x
theorem srcX_spec (G : Gam C) {k : Nat} {x : AV} {v : Value} {sz m : Nat} {f : Nat → List DV} (h : Rv C x v) (hs : srcX k C.H x = some (sz, m, f)) :
    ∃ A c, ∃ news : List Value, v = .slice A m c ∧ news.length = m * sz ∧ (∀ i, i < m → (f i).length = sz) ∧ (∀ u ∈ news, u.oneCell' = true) ∧
      (∀ i j, i < m → j < sz → RD C.W C.N ((f i).getD j default) (news.getD (i * sz + j) undef)) ∧
      (m = 0 ∨ ∃ b off, A = some ⟨b, off, none⟩ ∧ ∀ j, j < m * sz → C.W.cell? ⟨b, off + j, none⟩ = some (news.getD j undef)) := by
  unfold srcX at hs
  split at hs
  · split at hs
    · rename_i hn
      obtain rfl := (beq_nat_iff _ _).1 hn
      simp only [Option.some.injEq, Prod.mk.injEq] at hs
      obtain ⟨rfl, rfl, rfl⟩ := hs
      replace h : RD C.W C.N (.v _) v := h
      cases h
      exact ⟨_, _, [], rfl, by simp, fun i hi => by omega, by simp, fun i j hi => by omega, .inl rfl⟩
    · cases hs
  · obtain ⟨A, c, news, q1, _, q⟩ := src_spec G h hs
    exact ⟨A, c, news, q1, q⟩
theorem run_append_nilA {W : World} (t ty e : TypeId) (i : TypeInfo) (size : Nat) (ht : P.underlying t = some (.slice e)) (hi : P.info? e = some i)
    (v : Value) (n : Nat) (xs : List Value) (hown : W.ownsRow 0 e size v n xs) (c : Nat) : (Builtin.append_ #[t, t] ty #[v, .slice none 0 c]).run P W = .ok v W := by
  rcases hown.2 with ⟨rfl, rfl⟩ | ⟨g, cap, cur, rfl, _, _, hnc, _⟩
  · simp [Builtin.append_, run_underlying ht, sizeOf, typeInfo, hi, Builtin.lenOf, Builtin.firstCells]
  · simp [Builtin.append_, run_underlying ht, sizeOf, typeInfo, hi, Builtin.lenOf, Builtin.firstCells, hnc, storeCells]
/-- a row of one's own grows by what is read -/
theorem run_appendA (G : Gam C) {T ty e : TypeId} {i : TypeInfo} {z : Value} {sz : Nat} (ht : P.underlying T = some (.slice e)) (hi : P.info? e = some i) (hz : i.zero = some z) (hsize : i.size = sz) (hzs : z.cells.size = sz) (hsz : 0 < sz) (hby : 1 ≤ i.bytes)
    {v : Value} {n : Nat} {xs : List Value} (hown : C.W.ownsRow 0 e sz v n xs) {x : AV} {vx : Value} {m : Nat} {f : Nat → List DV} (hx : Rv C x vx) (hs : srcX sz C.H x = some (sz, m, f)) (hbytes : (n + m) * i.bytes ≤ 140737488355328) :
    ∃ v' w' news, (Builtin.append_ #[T, T] ty #[v, vx]).run P C.W = .ok v' w' ∧ w'.ownsRow 0 e sz v' (n + m) (xs ++ news) ∧ C.W.grownBy w' v.ownBlock ∧ (v'.ownBlock = v.ownBlock ∨ v'.ownBlock = some C.W.heap.size) ∧
      news.length = m * sz ∧ (∀ i, i < m → (f i).length = sz) ∧ (∀ u ∈ news, u.oneCell' = true) ∧ (∀ i j, i < m → j < sz → RD C.W C.N ((f i).getD j default) (news.getD (i * sz + j) undef)) := by
  obtain ⟨A, c, news, rfl, hl, hfl, h1, hR, hA⟩ := srcX_spec G hx hs
  have h63 : n + m ≤ maxLen := by
    have : (n + m) * 1 ≤ (n + m) * i.bytes := Nat.mul_le_mul_left _ hby
    unfold maxLen; omega
  rcases A with _ | a
  · have hm : m = 0 := by
      rcases hA with q | ⟨b, off, q, _⟩
      · exact q
      · cases q
    subst hm
    have hn : news = [] := List.eq_nil_of_length_eq_zero (by simpa using hl)
    subst hn
    exact ⟨v, C.W, [], run_append_nilA T ty e i sz ht hi v n xs hown c, by simpa using hown, World.grownBy.refl C.W _, .inl rfl, by simp, hfl, by simp, hR⟩
  · obtain ⟨v', w', hrun, h2, h3, _, h5⟩ := run_append_own_at (P := P) C.W 0 T ty e i z sz i.bytes ht hi hz hsize rfl hzs hsz v n xs hown a m c news hl (fun j u hu => by
      rcases hA with q | ⟨b, off, q, hc⟩
      · subst q
        have : news = [] := List.eq_nil_of_length_eq_zero (by simpa using hl)
        subst this; cases hu
      · obtain rfl := Option.some.inj q
        have hj := (List.getElem?_eq_some_iff.1 hu).1
        rw [Addr.add_mid, hc j (by omega)]
        rw [List.getD_eq_getElem?_getD, hu]; rfl) h1 h63 hbytes (Nat.zero_le _)
    exact ⟨v', w', news, hrun, h2, h3, h5, hl, hfl, h1, hR⟩
def app (n : Nat) (f g : Nat → List DV) (k : Nat) : List DV := match Nat.blt k n with
 | true => f k
 | false => g (k - n)
theorem app_lt {n k : Nat} {f g : Nat → List DV} (h : k < n) : app n f g k = f k := by unfold app; rw [(blt_iff _ _).2 h]
theorem app_ge {n k : Nat} {f g : Nat → List DV} (h : n ≤ k) : app n f g k = g (k - n) := by unfold app; rw [(blt_false _ _).2 h]
def aAppend (P : Program) (H : OH) (o0 : Nat) (T : TypeId) (s x : AV) : Option Rs :=
 match P.underlying T with
 | some (.slice e) => match P.info? e with
  | some ie => match ie.zero with
   | some z => match Nat.beq z.cells.size ie.size, Nat.blt 0 ie.size, Nat.ble 1 ie.bytes, srcX ie.size H x with
    | true, true, true, some (sz', m, f2) => match Nat.beq ie.size sz', s with
     | true, .own o g => match look H o with
      | some (.row ty sz g' false n f) => match Nat.beq ty e, Nat.beq sz ie.size, Nat.beq g' g with
       | true, true, true => some ⟨[(n + m) * ie.bytes ≤ 140737488355328], .put o (.row ty sz (g + 1) false (n + m) (app n f f2)) (.own o (g + 1))⟩
       | _, _, _ => none
      | _ => none
     | true, .d (.v (.slice none 0 0)) => match look H o0 with
      | none => some ⟨[m * ie.bytes ≤ 140737488355328], .put o0 (.row e ie.size 0 false m f2) (.own o0 0)⟩
      | some _ => none
     | _, _ => none
    | _, _, _, _ => none
   | none => none
  | none => none
 | _ => none
theorem aAppend_ok (G : Gam C) {o0 : Nat} {T ty : TypeId} {s x : AV} {vs vx : Value} {r : Rs} (hsv : Rv C s vs) (hx : Rv C x vx) (h : aAppend P C.H o0 T s x = some r) (hl : allP r.obl) :
    Does P C (do pure (.value (← Builtin.append_ #[T, T] ty #[vs, vx]))) r.eff := by
  unfold aAppend at h
  split at h
  · rename_i e hu
    split at h
    · rename_i ie hi
      split at h
      · rename_i z hz
        split at h
        · rename_i sz' m f2 hzs hpos hby hsrc
          have hzs' := (beq_nat_iff _ _).1 hzs
          have hpos' := (blt_iff _ _).1 hpos
          have hby' := Nat.le_of_ble_eq_true hby
          split at h
          · rename_i o g hsz
            obtain rfl := (beq_nat_iff _ _).1 hsz
            split at h
            · rename_i t' sz g' n f ho
              split at h
              · rename_i e1 e2 e3
                obtain rfl := Option.some.inj h
                obtain rfl := (beq_nat_iff _ _).1 e1
                obtain rfl := (beq_nat_iff _ _).1 e2
                obtain rfl := (beq_nat_iff _ _).1 e3
                have hv := own_val G hsv ho rfl (by simp only [curG, ho, Ob.gen]; exact Nat.beq_refl _)
                obtain ⟨us, q1, q2, q4, q3⟩ := G.ok o _ ho
                rw [← hv] at q1
                obtain ⟨v', w', news, hrun, k1, k2, k3, k4, k5, k6, k7⟩ := run_appendA (ty := ty) G hu hi hz rfl hzs' hpos' hby' q1 hx hsrc hl.1
                obtain ⟨hF, hG⟩ := G.turn (o := o) (b' := .row t' ie.size (g' + 1) false (n + m) (app n f f2)) (W' := w') (vo := v') k2.size k2.os k2.tape k2.output
                  (fun k hk hne => k2.block k hk (fun q => hne _ ho rfl (by rw [← hv, ← q])))
                  (fun k hk => by
                    rcases k3 with q | q
                    · exact .inr ⟨_, ho, rfl, by rw [← hv, ← q]; exact hk⟩
                    · rw [q] at hk; exact .inl (Nat.le_of_eq (Option.some.inj hk)))
                  (fun ob hob => by rw [ho] at hob; obtain rfl := Option.some.inj hob; exact .inr (Nat.lt_succ_self _))
                  (fun hF => by
                    have hlen : us.length = n * ie.size := q1.1
                    refine ⟨us ++ news, ?_, fun i hi' => ?_, fun u hu => ?_, fun i j hi' hj => ?_⟩
                    · show World.ownsRow w' 0 t' ie.size (updV C.vl o v' o) (n + m) _
                      rw [updV_same]; exact k1
                    · by_cases c : i < n
                      · rw [app_lt c]; exact q2 i c
                      · rw [app_ge (by omega)]; exact k5 _ (by omega)
                    · rcases List.mem_append.1 hu with q | q
                      · exact q4 u q
                      · exact k6 u q
                    · by_cases c : i < n
                      · rw [app_lt c, show (us ++ news).getD (i * ie.size + j) undef = us.getD (i * ie.size + j) undef by
                          have := idx_lt c hj
                          simp [List.getD_eq_getElem?_getD, List.getElem?_append_left (show i * ie.size + j < us.length by omega)]]
                        exact (q3 i j c hj).fr hF
                      · rw [app_ge (by omega), show (us ++ news).getD (i * ie.size + j) undef = news.getD ((i - n) * ie.size + j) undef by
                          have e : i * ie.size = n * ie.size + (i - n) * ie.size := by rw [← Nat.add_mul]; congr 1; omega
                          simp only [List.getD_eq_getElem?_getD]
                          rw [List.getElem?_append_right (by omega)]
                          congr 2; omega]
                        exact (k7 (i - n) j (by omega) hj).fr hF)
                exact ⟨v', C.put o _ w' v', .inl (by simp only [Sem.run_bind, hrun, Result.andThen_ok, Sem.run_pure]; rfl), ⟨_, by rw [put_look, if_pos rfl], Nat.le_refl _, fun _ => (updV_same _ _ _).symm⟩, rfl, rfl, hF, hG⟩
              · cases h
            · cases h
          · rename_i hsz
            obtain rfl := (beq_nat_iff _ _).1 hsz
            obtain rfl := rv_ex_inv hsv
            split at h
            · rename_i ho
              obtain rfl := Option.some.inj h
              obtain ⟨v', w', news, hrun, k1, k2, k3, k4, k5, k6, k7⟩ := run_appendA (ty := ty) G hu hi hz rfl hzs' hpos' hby' (World.ownsRow_nil C.W 0 e ie.size) hx hsrc (by rw [Nat.zero_add]; exact hl.1)
              rw [Nat.zero_add, List.nil_append] at k1
              obtain ⟨hF, hG⟩ := G.turn (o := o0) (b' := .row e ie.size 0 false m f2) (W' := w') (vo := v') k2.size k2.os k2.tape k2.output
                (fun k hk hne => k2.block k hk (by simp [Value.ownBlock]))
                (fun k hk => by
                  rcases k3 with q | q
                  · rw [q] at hk; simp [Value.ownBlock] at hk
                  · rw [q] at hk; exact .inl (Nat.le_of_eq (Option.some.inj hk)))
                (fun ob hob => by rw [ho] at hob; cases hob)
                (fun hF => ⟨news, by show World.ownsRow w' 0 e ie.size (updV C.vl o0 v' o0) m _; rw [updV_same]; exact k1, k5, k6, fun i j hi' hj => (k7 i j hi' hj).fr hF⟩)
              exact ⟨v', C.put o0 _ w' v', .inl (by simp only [Sem.run_bind, hrun, Result.andThen_ok, Sem.run_pure]; rfl), ⟨_, by rw [put_look, if_pos rfl], Nat.le_refl _, fun _ => (updV_same _ _ _).symm⟩, rfl, rfl, hF, hG⟩
            · cases h
          · cases h
        · cases h
      · cases h
    · cases h
  · cases h
/-- a slice of zeros -/
def exD (l : List Value) : List DV := l.map .v
def aMake (P : Program) (H : OH) (o : Nat) (T : TypeId) (x y : AV) : Option Rs :=
 match P.underlying T, x, y with
 | some (.slice e), .d (.v (.int k n)), .d (.v (.int k' n')) => match P.info? e, look H o with
  | some ie, none => match ie.zero with
   | some z => match Nat.beq z.cells.size ie.size, Nat.ble 1 ie.bytes, Nat.ble ie.size ie.bytes, z.cells.toList.all (·.oneCell') with
    | true, true, true, true => some ⟨[n = n', 0 ≤ n, n.toNat * ie.bytes ≤ 16777216], .put o (.row e ie.size 0 false n.toNat (fun _ => exD z.cells.toList)) (.own o 0)⟩
    | _, _, _, _ => none
   | none => none
  | _, _ => none
 | _, _, _ => none
theorem aMake_ok (G : Gam C) {o : Nat} {T : TypeId} {x y : AV} {vx vy : Value} {r : Rs} (hx : Rv C x vx) (hy : Rv C y vy) (h : aMake P C.H o T x y = some r) (hl : allP r.obl) :
    Does P C (do pure (.value (← Instr.makeSlice T vx vy))) r.eff := by
  unfold aMake at h
  split at h
  · rename_i e k n k' n' hu
    obtain rfl := rv_ex_inv hx
    obtain rfl := rv_ex_inv hy
    split at h
    · rename_i ie hi ho
      split at h
      · rename_i z hz
        split at h
        · rename_i a1 a2 a3 a4
          obtain rfl := Option.some.inj h
          obtain ⟨rfl, h0, h1, _⟩ := hl
          have hzs := (beq_nat_iff _ _).1 a1
          have hb := Nat.le_of_ble_eq_true a2
          have hsb := Nat.le_of_ble_eq_true a3
          have hm1 : n.toNat * ie.size ≤ n.toNat * ie.bytes := Nat.mul_le_mul_left _ hsb
          have hm2 : n.toNat * 1 ≤ n.toNat * ie.bytes := Nat.mul_le_mul_left _ hb
          have hc : (n.toNat : Int) = n := Int.toNat_of_nonneg h0
          obtain ⟨w', hrun, q1, q2⟩ := run_makeSlice_full (P := P) C.W 0 T e ie z ie.size hu hi hz rfl k k' n.toNat (by omega) (by rw [Nat.mul_comm]; omega) (by unfold maxLen; omega) (Nat.zero_le _)
          rw [hc] at hrun
          have hmc : (madeCells z.cells (n.toNat * ie.size)).toList = repL z.cells.toList n.toNat := by
            unfold madeCells
            rw [← hzs, range_rep z.cells n.toNat]
          rw [hmc] at q1
          have hz1 : ∀ u ∈ z.cells.toList, u.oneCell' = true := fun u hu => (List.all_eq_true.1 a4) u hu
          have hrep : ∀ n, ∀ u ∈ repL z.cells.toList n, u.oneCell' = true := fun n => by
            induction n with
            | zero => intro u hu; cases hu
            | succ n ih => intro u hu; rcases List.mem_append.1 hu with q | q; exact hz1 u q; exact ih u q
          obtain ⟨hF, hG⟩ := G.turn (o := o) (b' := .row e ie.size 0 false n.toNat (fun _ => exD z.cells.toList)) (W' := w') (vo := .slice (some ⟨C.W.heap.size, 0, none⟩) n.toNat n.toNat) q2.size q2.os q2.tape q2.output
            (fun k hk hne => q2.block k hk (by simp)) (fun k hk => .inl (by simp [Value.ownBlock] at hk; omega)) (fun ob hob => by rw [ho] at hob; cases hob)
            (fun hF => ⟨repL z.cells.toList n.toNat, by show World.ownsRow w' 0 e ie.size (updV C.vl o _ o) _ _; rw [updV_same]; exact q1, fun i hi => by simp [exD, hzs], hrep _, fun i j hi hj => by
              have hjz : j < z.cells.toList.length := by simp [hzs]; exact hj
              have e1 : (repL z.cells.toList n.toNat).getD (i * ie.size + j) undef = z.cells.toList[j] := by
                rw [List.getD_eq_getElem?_getD, repL_get _ (by omega) _ _ (by simp only [Array.length_toList, hzs]; exact idx_lt hi hj)]
                simp only [Array.length_toList, hzs]
                rw [show (i * ie.size + j) % ie.size = j by rw [Nat.mul_comm, Nat.mul_add_mod, Nat.mod_eq_of_lt hj], List.getElem?_eq_getElem hjz]; rfl
              have e2 : (exD z.cells.toList).getD j default = .v z.cells.toList[j] := by
                rw [exD, List.getD_eq_getElem?_getD, List.getElem?_map, List.getElem?_eq_getElem hjz]; rfl
              rw [e1, e2]; exact .v _⟩)
          exact ⟨_, C.put o _ w' _, .inl (by simp only [Sem.run_bind, hrun, Result.andThen_ok, Sem.run_pure]; rfl), ⟨_, by rw [put_look, if_pos rfl], Nat.le_refl _, fun _ => (updV_same _ _ _).symm⟩, rfl, rfl, hF, hG⟩
        · cases h
      · cases h
    · cases h
  · cases h
end
end Go.Proofs.YtedokpgkjcnoiaaGreat
namespace Go.Proofs.YtedokpgkjcnoiaaGreat
open Go.RowKit
section
variable {P : Program} {C : Cx}
/-- a bound that is given or not -/
def bdA (d : Int) : Option AV → Option Int
 | none => some d
 | some (.d (.v (.int _ z))) => some z
 | _ => none
inductive OptR (C : Cx) : Option AV → Option Value → Prop where
 | none : OptR C none none
 | some (a : AV) (v : Value) (h : Rv C a v) : OptR C (some a) (some v)
theorem bd_inv {d z : Int} {a : AV} {v : Value} (h : Rv C a v) (e : bdA d (some a) = some z) : ∃ k, v = .int k z := by
 cases a with
 | d x =>
  cases x with
  | v y =>
   obtain rfl := rv_ex_inv h
   cases v <;> simp only [bdA, Option.some.injEq] at e <;> first | cases e | skip
   exact ⟨_, rfl⟩
  | sl a b c => cases e
  | p ds => cases e
  | fn f ds => cases e
 | any => cases e
 | dp x => cases e
 | ptr a b c d => cases e
 | own a b => cases e
 | agg x => cases e
 | fn x y z => cases e
 | tup x => cases e
 | win a b c d f => cases e
theorem run_bounds {W : World} {b : Bool} {n c : Nat} {lo hi : Option AV} {vl vh : Option Value} {l h : Int} (hl : OptR C lo vl) (hh : OptR C hi vh) (el : bdA 0 lo = some l) (eh : bdA n hi = some h)
    (h0 : 0 ≤ l) (h1 : l ≤ h) (h2 : h ≤ n) (hc : n ≤ c) : (Instr.sliceBounds b n c vl vh none).run P W = .ok (l.toNat, h.toNat, c) W := by
  have ht : (h.toNat : Int) = h := Int.toNat_of_nonneg (by omega)
  cases hh with
  | none =>
    simp only [bdA, Option.some.injEq] at eh
    subst eh
    cases hl with
    | none =>
      simp only [bdA, Option.some.injEq] at el
      subst el
      simp [Instr.sliceBounds]
    | some a v ha =>
      obtain ⟨k, rfl⟩ := bd_inv ha el
      simp [Instr.sliceBounds, Instr.sliceBound, asIntOf, h0, h1]
  | some a v ha =>
    obtain ⟨k, rfl⟩ := bd_inv ha eh
    have a1 : 0 ≤ h ∧ h ≤ (c : Int) := by omega
    cases hl with
    | none =>
      simp only [bdA, Option.some.injEq] at el
      subst el
      simp [Instr.sliceBounds, Instr.sliceBound, asIntOf, a1]
    | some a v ha =>
      obtain ⟨k', rfl⟩ := bd_inv ha el
      have a2 : 0 ≤ l ∧ l ≤ (h.toNat : Int) := by omega
      simp only [Instr.sliceBounds, Instr.sliceBound, asIntOf, Sem.run_bind, Sem.run_pure, Result.andThen_ok, if_pos a1, if_pos a2]
def aSlice (P : Program) (T : TypeId) (x : AV) (lo hi : Option AV) : Option Rs :=
 match P.underlying T, x with
 | some (.slice e), .d (.sl sz n f) => match P.info? e, bdA 0 lo, bdA n hi with
  | some ie, some l, some h => match Nat.beq ie.size sz with
   | true => some ⟨[0 ≤ l, l ≤ h, h ≤ n], .val (.d (.sl sz (h.toNat - l.toNat) (fun i => f (l.toNat + i))))⟩
   | false => none
  | _, _, _ => none
 | some (.array n e), .dp cs => match P.info? e, bdA 0 lo, bdA n hi with
  | some ie, some l, some h => match Nat.ble (n * ie.size) cs.length with
   | true => some ⟨[0 ≤ l, l ≤ h, h ≤ n], .val (.d (.sl ie.size (h.toNat - l.toNat) (fun i => chop ie.size cs (l.toNat + i))))⟩
   | false => none
  | _, _, _ => none
 | some .string, .d (.v (.string s)) => match bdA 0 lo, bdA s.size hi with
  | some l, some h => some ⟨[0 ≤ l, l ≤ h, h ≤ s.size], .val (exS (s.extract l.toNat h.toNat))⟩
  | _, _ => none
 | some (.slice e), .d (.v (.slice none 0 0)) => match P.info? e, bdA 0 lo, bdA 0 hi with
  | some ie, some l, some h => some ⟨[0 ≤ l, l ≤ h, h ≤ (0 : Nat)], .val (.d (.v (.slice none 0 0)))⟩
  | _, _, _ => none
 | _, _ => none
theorem chop_len' {sz n i : Nat} {l : List DV} (h : n * sz ≤ l.length) (hi : i < n) : (chop sz l i).length = sz := by
 have : (i + 1) * sz ≤ n * sz := Nat.mul_le_mul_right _ (by omega)
 rw [Nat.succ_mul] at this
 simp [chop]; omega
theorem aSlice_ok (G : Gam C) {T : TypeId} {x : AV} {lo hi : Option AV} {v : Value} {vl vh : Option Value} {r : Rs} (hx : Rv C x v) (hlo : OptR C lo vl) (hhi : OptR C hi vh) (h : aSlice P T x lo hi = some r) (hl : allP r.obl) :
    Does P C (do pure (.value (← Instr.sliceAt T v vl vh none))) r.eff := by
  unfold aSlice at h
  split at h
  · rename_i e sz n f hu
    split at h
    · rename_i ie l q hi' el eh
      split at h
      · rename_i hs
        obtain rfl := Option.some.inj h
        obtain rfl := (beq_nat_iff _ _).1 hs
        obtain ⟨h0, h1, h2, _⟩ := hl
        have hsz : (sizeOf e).run P C.W = .ok ie.size C.W := by simp [sizeOf, typeInfo, hi']
        replace hx : RD C.W C.N (.sl ie.size n f) v := hx
        cases hx with
        | sl sz n f A b off c u hA hc hfl hu' hr =>
          have hb := run_bounds (P := P) (W := C.W) (b := true) hlo hhi el eh h0 h1 h2 hc
          refine does_val G (v := .slice (if c = l.toNat then A else A.map (·.add (l.toNat * ie.size))) (q.toNat - l.toNat) (c - l.toNat)) ?_ ?_
          · simp only [Instr.sliceAt, Instr.slice, Sem.run_bind, run_underlying hu, Result.andThen_ok, hb, hsz, Sem.run_pure]
          · refine RD.sl ie.size _ _ _ b (off + l.toNat * ie.size) _ (fun i j => u (l.toNat + i) j) (fun hn => ?_) (by omega) (fun i hi => hfl _ (by omega)) (fun i j hi hj => ?_) (fun i j hi hj => hr _ j (by omega) hj)
            · obtain ⟨rfl, hN⟩ := hA (by omega)
              rw [if_neg (by omega)]
              exact ⟨by rw [Option.map_some, Addr.add_mid], hN⟩
            · rw [show off + l.toNat * ie.size + i * ie.size + j = off + (l.toNat + i) * ie.size + j by rw [Nat.add_mul]; omega]
              exact hu' _ j (by omega) hj
      · cases h
    · cases h
  · rename_i n e cs hu
    split at h
    · rename_i ie l q hi' el eh
      split at h
      · rename_i hle
        obtain rfl := Option.some.inj h
        have hle' := Nat.le_of_ble_eq_true hle
        obtain ⟨h0, h1, h2, _⟩ := hl
        have hsz : (sizeOf e).run P C.W = .ok ie.size C.W := by simp [sizeOf, typeInfo, hi']
        obtain ⟨b, off, u, rfl, hN, hc⟩ := hx
        have hb := run_bounds (P := P) (W := C.W) (b := false) hlo hhi el eh h0 h1 h2 (Nat.le_refl n)
        refine does_val G (v := .slice (some (if n = l.toNat then ⟨b, off, none⟩ else (⟨b, off, none⟩ : Addr).add (l.toNat * ie.size))) (q.toNat - l.toNat) (n - l.toNat)) ?_ ?_
        · simp only [Instr.sliceAt, Sem.run_bind, run_underlying hu, Result.andThen_ok, Instr.sureAddr, Sem.run_pure, hb, hsz]
        · have hin : ∀ {i j : Nat}, i < q.toNat - l.toNat → j < ie.size → (l.toNat + i) * ie.size + j < cs.length := fun {i j} hi hj => by
            have := idx_lt (n := n) (i := l.toNat + i) (sz := ie.size) (by omega) hj; omega
          refine RD.sl ie.size _ _ _ b (off + l.toNat * ie.size) _ (fun i j => u ((l.toNat + i) * ie.size + j)) (fun hn => ?_) (by omega) (fun i hi => chop_len' hle' (by omega)) (fun i j hi hj => ?_) (fun i j hi hj => ?_)
          · rw [if_neg (by omega), Addr.add_mid]; exact ⟨rfl, hN⟩
          · rw [show off + l.toNat * ie.size + i * ie.size + j = off + ((l.toNat + i) * ie.size + j) by rw [Nat.add_mul]; omega]
            exact (hc _ (hin hi hj)).1
          · rw [chop_get (n := n) hj]; exact (hc _ (hin hi hj)).2
      · cases h
    · cases h
  · rename_i s hu
    split at h
    · rename_i l q el eh
      obtain rfl := Option.some.inj h
      obtain ⟨h0, h1, h2, _⟩ := hl
      obtain rfl := rv_ex_inv hx
      have hb := run_bounds (P := P) (W := C.W) (b := false) hlo hhi el eh h0 h1 h2 (Nat.le_refl s.size)
      exact does_ex G (by simp [Instr.sliceAt, Instr.slice, Sem.run_bind, run_underlying hu, hb])
    · cases h
  · rename_i e hu
    split at h
    · rename_i ie l q hi' el eh
      obtain rfl := Option.some.inj h
      obtain ⟨h0, h1, h2, _⟩ := hl
      obtain rfl := rv_ex_inv hx
      have hsz : (sizeOf e).run P C.W = .ok ie.size C.W := by simp [sizeOf, typeInfo, hi']
      have hb := run_bounds (P := P) (W := C.W) (b := true) (n := 0) hlo hhi el eh h0 h1 h2 (Nat.le_refl 0)
      have l0 : l.toNat = 0 := by omega
      have q0 : q.toNat = 0 := by omega
      rw [l0, q0] at hb
      exact does_ex G (by simp only [Instr.sliceAt, Instr.slice, Sem.run_bind, run_underlying hu, Result.andThen_ok, hb, hsz, Sem.run_pure]; rfl)
    · cases h
  · cases h
/-! ### Values turned to another type -/
def byteI : List DV → Int
 | [.v (.int _ x)] => x
 | _ => 0
/-- bytes as a string -/
def strD (n : Nat) (f : Nat → List DV) : ByteArray := strOfNums ((List.range n).map fun i => byteI (f i))
def strF (s : ByteArray) (i : Nat) : List DV := [.v (.int .u8 (s.data.toList.getD i 0).toNat)]
/-- a number of 64 bits without a sign wraps -/
def fitV (k0 k : IntKind) (n : Int) : Option Rs := match k0 with
 | .u64 => ret (exI k (k.wrap n))
 | _ => fit k n
def aConv (P : Program) (H : OH) (S T : TypeId) (x : AV) : Option Rs :=
 match P.underlying S, P.underlying T, x with
 | some _, some (.int k), .d (.v (.int k0 n)) => fitV k0 k n
 | some .string, some .string, .d (.v (.string s)) => ret (exS s)
 | some (.slice e), some .string, x => match P.underlying e, srcA H x with
  | some (.int .u8), some (sz, m, f) => match Nat.beq sz 1 with
   | true => some ⟨[∀ i, i < m → ∃ x, f i = [.v (.int .u8 x)]], .val (exS (strD m f))⟩
   | false => none
  | _, _ => none
 | some .string, some (.slice e), .d (.v (.string s)) => match P.underlying e with
  | some (.int .u8) => ret (.d (.sl 1 s.size (strF s)))
  | _ => none
 | _, _, _ => none
theorem aConv_ok (G : Gam C) {S T : TypeId} {x : AV} {v : Value} {r : Rs} (hx : Rv C x v) (h : aConv P C.H S T x = some r) (hl : allP r.obl) : Does P C (do pure (.value (← convert S T v))) r.eff := by
 unfold aConv at h
 split at h
 ·rename_i d k k' n hs hd
  obtain rfl := rv_ex_inv hx
  have hc : (convert S T (.int k' n)).run P C.W = .ok (.int k (k.wrap n)) C.W := by simp [convert, run_underlying hs, run_underlying hd, Conv.intToInt]
  unfold fitV at h
  split at h
  ·obtain rfl := Option.some.inj h
   exact does_ex G (by simp only [Sem.run_bind, hc, Result.andThen_ok, Sem.run_pure])
  ·exact fit_ok G h hl (by simp only [Sem.run_bind, hc, Result.andThen_ok, Sem.run_pure])
 ·rename_i s hs hd
  obtain rfl := rv_ex_inv hx
  obtain rfl := Option.some.inj h
  exact does_ex G (by simp [convert, run_underlying hs, run_underlying hd])
 ·rename_i e hs hd
  split at h
  ·rename_i sz m f he hsrc
   split at h
   ·rename_i h1
    obtain rfl := Option.some.inj h
    obtain rfl := (beq_nat_iff _ _).1 h1
    obtain ⟨A, c, news, rfl, hmc, hlen, hfl, hone, hR, hA⟩ := src_spec G hx hsrc
    have hb := hl.1
    refine does_ex G ?_
    have key : (convert S T (.slice A m c)).run P C.W = .ok (.string (strD m f)) C.W := by
     rcases Nat.eq_zero_or_pos m with q | q
     ·subst q
      rw [run_convert_bytes_string C.W S T e A 0 c hs he hd]
      cases A <;> simp [Conv.bytesToString, loadCells, loadCellsFrom] <;> rfl
     ·rcases hA with q' | ⟨b, off, rfl, hc⟩
      ·omega
      ·refine run_convert_bytes_arg C.W S e hs he b off m c _ (by simp) (fun i hi => ?_) T hd
       rw [hc i (by omega)]
       obtain ⟨y, hy⟩ := hb i hi
       have := hR i 0 hi (by omega)
       rw [hy, Nat.mul_one, Nat.add_zero] at this
       replace this : RD C.W C.N (.v (.int .u8 y)) _ := this
       have e2 : news.getD i undef = .int .u8 y := by
        generalize news.getD i undef = w at this
        cases this; rfl
       rw [e2]
       congr 2
       simp [List.getD_eq_getElem?_getD, List.getElem?_map, List.getElem?_range hi, hy, byteI]
    simp only [Sem.run_bind, key, Result.andThen_ok, Sem.run_pure]
   ·cases h
  ·cases h
 ·rename_i e s hs hd
  split at h
  ·rename_i he
   obtain rfl := Option.some.inj h
   obtain rfl := rv_ex_inv hx
   have hge := grownCap_ge C.W s.size 0 e
   have hrun := run_bytes_of_string (P := P) C.W S T e s hs hd he
   obtain ⟨B, hB⟩ : ∃ B, B = bytesRow s (grownCap C.W s.size 0 e) := ⟨_, rfl⟩
   rw [← hB] at hrun
   obtain ⟨W2, hW⟩ : ∃ W2, W2 = C.W.drew.alloc (.cells B e (B.size, B.size + 1)) := ⟨_, rfl⟩
   rw [← hW] at hrun
   have hh : W2.heap[C.W.heap.size]? = some (.cells B e (B.size, B.size + 1)) := by rw [hW]; exact heap_alloc_new C.W.drew _
   have hz : W2.heap.size = C.W.heap.size + 1 := by rw [hW]; simp
   obtain ⟨hF, hG, hN⟩ := G.grow (W' := W2) (by omega) (fun k hk => by rw [hW]; exact Below.heap_alloc C.W.drew _ k hk) (by rw [hW]; rfl) (by rw [hW]; rfl) (by rw [hW]; rfl)
   refine ⟨_, ⟨C.E, W2, C.H, C.vl⟩, .inl (by simp only [Sem.run_bind, hrun, Result.andThen_ok, Sem.run_pure]; rfl), ?_, rfl, rfl, hF, hG⟩
   refine RD.sl 1 s.size (strF s) _ C.W.heap.size 0 _ (fun i j => .int .u8 (s.data.toList.getD i 0).toNat) (fun _ => ⟨rfl, hN _ (Nat.le_refl _) (by omega)⟩) hge (fun i hi => rfl) (fun i j hi hj => ?_) (fun i j hi hj => ?_)
   ·obtain rfl : j = 0 := by omega
    refine ⟨?_, rfl⟩
    rw [show 0 + i * 1 + 0 = i by omega]
    show W2.cell? _ = _
    rw [cell_of_row _ _ i _ e _ hh]
    have hi' : i < s.data.size := hi
    rw [hB]; simp [bytesRow, Array.getElem?_append, hi', List.getD_eq_getElem?_getD]
    rw [if_pos hi, Array.getElem?_eq_getElem hi']; rfl
   ·obtain rfl : j = 0 := by omega
    exact .v _
  ·cases h
 ·cases h
/-! ### The lesser, the greater -/
def aMin (x y : AV) : Option Rs := match x, y with
 | .d (.v (.int k a)), .d (.v (.int _ b)) => ret (exI k (if b < a then b else a))
 | _, _ => none
def aMax (x y : AV) : Option Rs := match x, y with
 | .d (.v (.int k a)), .d (.v (.int _ b)) => ret (exI k (if b > a then b else a))
 | _, _ => none
theorem aMin_ok (G : Gam C) {ts : Array TypeId} {ty : TypeId} {x y : AV} {vx vy : Value} {r : Rs} (hx : Rv C x vx) (hy : Rv C y vy) (h : aMin x y = some r) : Does P C (do pure (.value (← Builtin.min_ ts ty #[vx, vy]))) r.eff := by
 unfold aMin at h
 split at h
 ·obtain rfl := rv_ex_inv hx
  obtain rfl := rv_ex_inv hy
  obtain rfl := Option.some.inj h
  exact does_ex G (by simp [Builtin.min_, Builtin.min2])
 ·cases h
theorem aMax_ok (G : Gam C) {ts : Array TypeId} {ty : TypeId} {x y : AV} {vx vy : Value} {r : Rs} (hx : Rv C x vx) (hy : Rv C y vy) (h : aMax x y = some r) : Does P C (do pure (.value (← Builtin.max_ ts ty #[vx, vy]))) r.eff := by
 unfold aMax at h
 split at h
 ·obtain rfl := rv_ex_inv hx
  obtain rfl := rv_ex_inv hy
  obtain rfl := Option.some.inj h
  exact does_ex G (by simp [Builtin.max_, Builtin.max2])
 ·cases h
end
end Go.Proofs.YtedokpgkjcnoiaaGreat
