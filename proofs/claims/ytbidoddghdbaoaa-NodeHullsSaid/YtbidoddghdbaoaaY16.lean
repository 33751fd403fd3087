/- Regions, seen from afar. No program in sight. -/
import Derived.StillTail
import Derived.Test.YtbidoddghdbaoaaY15
set_option linter.unusedVariables false
set_option linter.unusedSimpArgs false
namespace Go.Proofs.Ytbidoddghdbaoaa
open Go.RowKit
/-- does y wait for x? -/
def reach (ops : Array Oper) : Nat → Nat → Nat → Bool
  | 0, _, _ => false
  | n + 1, y, x => match ops[y]? with
    | none => false
    | some o => o.after.toList.any fun e => Region.binds .any e && (Nat.beq e.on x || reach ops n e.on x)
def pairsOk (ops : Array Oper) : List Lab → Bool
  | [] => true
  | x :: r => r.all (fun y => indB ops x y || reach ops ops.size y.1 x.1) && pairsOk ops r
def edgesOk (ops : Array Oper) : Bool := ops.toList.zipIdx.all fun p => p.1.after.toList.all fun e => !Region.binds .any e || Nat.blt e.on p.2
section
variable {P : Program} {mu : List Nat} {ops : Array Oper}
structure DC (ops : Array Oper) (listed : Array Bool) : Prop where
  n : listed.size = ops.size
  d : ∀ (i : Nat) (o : Oper), ops[i]? = some o → listed.getD i true = true → ∀ e ∈ o.after, Region.binds .any e = true → listed.getD e.on false = true
theorem getD_tf {listed : Array Bool} {i : Nat} (h : listed.getD i false = true) : listed.getD i true = true := by
  rw [Array.getD_eq_getD_getElem?] at *
  cases q : listed[i]? with
  | none => rfl
  | some b => rw [q] at h; exact h
theorem reach_spec {listed : Array Bool} (h : DC ops listed) : ∀ (n y x : Nat) (o : Oper), ops[y]? = some o → (∀ e ∈ o.after, Region.binds .any e = true → listed.getD e.on false = true) → reach ops n y x = true → listed.getD x false = true
  | 0, _, _, _, _, _, hr => by cases hr
  | n + 1, y, x, o, ho, ha, hr => by
    simp only [reach, ho, List.any_eq_true, Bool.and_eq_true, Bool.or_eq_true] at hr
    obtain ⟨e, he, hb, hr⟩ := hr
    have he' : e ∈ o.after := by simpa using he
    have hl := ha e he' hb
    rcases hr with hr | hr
    · rw [← (beq_nat_iff _ _).1 hr]; exact hl
    · cases q : ops[e.on]? with
      | none =>
        cases n with
        | zero => cases hr
        | succ n => simp only [reach, q] at hr; cases hr
      | some p => exact reach_spec h n e.on x p q (h.d e.on p q (getD_tf hl)) hr
theorem pairs_mem {x y : Lab} {l2 : List Lab} : ∀ {l1 : List Lab}, pairsOk ops (l1 ++ y :: l2) = true → x ∈ l1 → indB ops x y = true ∨ reach ops ops.size y.1 x.1 = true
  | z :: l1, h, hx => by
    simp only [List.cons_append, pairsOk, Bool.and_eq_true, List.all_eq_true, Bool.or_eq_true] at h
    rcases List.mem_cons.1 hx with rfl | hx
    · exact h.1 y (by simp)
    · exact pairs_mem h.2 hx
theorem pairs_drop {y : Lab} {l2 : List Lab} : ∀ {l1 : List Lab}, pairsOk ops (l1 ++ y :: l2) = true → pairsOk ops (l1 ++ l2) = true
  | [], h => by simp only [List.nil_append, pairsOk, Bool.and_eq_true] at h ⊢; exact h.2
  | z :: l1, h => by
    simp only [List.cons_append, pairsOk, Bool.and_eq_true, List.all_eq_true] at h ⊢
    exact ⟨fun w hw => h.1 w (by rcases List.mem_append.1 hw with q | q; exact List.mem_append_left _ q; exact List.mem_append_right _ (List.mem_cons_of_mem _ q)), pairs_drop h.2⟩
theorem edges_spec (h : edgesOk ops = true) {i : Nat} {o : Oper} (ho : ops[i]? = some o) : ∀ e ∈ o.after, Region.binds .any e = true → e.on < i := fun e he hb => by
  simp only [edgesOk, List.all_eq_true] at h
  have hi := (Array.getElem?_eq_some_iff.1 ho)
  have := h (o, i) (by
    rw [List.mem_zipIdx_iff_getElem?]
    simpa using ho) e (by simpa using he)
  simp only [Bool.or_eq_true, Bool.not_eq_true', hb, Bool.true_eq_false, false_or] at this
  exact (blt_iff _ _).1 this
theorem Base.of_step {i : Nat} {rd wr : List Nat} {S S' : St} (h : Step P mu ops i rd wr S S') : ∃ o v u, ops[i]? = some o ∧ S' = appS S o.dst v u ∧ Base P mu ops o S v u := by
  obtain ⟨o, v, u, ho, e, _, hb⟩ := h
  exact ⟨o, v, u, ho, e, hb S ⟨fun _ _ => rfl, fun _ _ => rfl⟩⟩
/-- whatever the order -/
theorem run_any (hE : edgesOk ops = true) {Q : Exit → Act → World → Prop} {Sf : St} : ∀ (n : Nat) (L : List Lab) (listed : Array Bool) (S : St) (C0 C : Cx) (a : Act), L.length = n → DC ops listed →
    (∀ k, k < ops.size → (listed.getD k true = false ↔ k ∈ L.map (·.1))) → (L.map (·.1)).Pairwise (· < ·) → (∀ x ∈ L, x.1 < ops.size) → pairsOk ops L = true → Run P mu ops L S Sf → Sat C S a → Fr C0 C →
    (∀ a' C', Sat C' Sf a' → C'.E = C.E → Fr C0 C' → Q .normal a' C'.W) → wpAny P .any ops Q n listed a C.W := by
  intro n
  induction n with
  | zero =>
    intro L listed S C0 C a hn hD hL hs hlt hp hr hS hF hQ
    obtain rfl := List.eq_nil_of_length_eq_zero hn
    cases hr
    refine ⟨?_, hQ a C hS rfl hF⟩
    cases q : Region.ready .any ops listed with
    | nil => rfl
    | cons i r =>
      obtain ⟨hun, o, ho, _⟩ := mem_ready.1 (show i ∈ Region.ready .any ops listed by rw [q]; simp)
      have := (hL i (Array.getElem?_eq_some_iff.1 ho).1).1 hun
      cases this
  | succ n ih =>
    intro L listed S C0 C a hn hD hL hs hlt hp hr hS hF hQ
    refine ⟨fun hnil => ?_, fun i hi => ?_⟩
    · exfalso
      cases L with
      | nil => cases hn
      | cons x r =>
        have hx := hlt x (by simp)
        obtain ⟨o, ho⟩ : ∃ o, ops[x.1]? = some o := ⟨_, Array.getElem?_eq_getElem hx⟩
        have : x.1 ∈ Region.ready .any ops listed := mem_ready.2 ⟨(hL x.1 hx).2 (by simp), o, ho, fun e he hb => by
          have hlt' := edges_spec hE ho e he hb
          have hes : e.on < ops.size := by omega
          have : ¬ listed.getD e.on true = false := fun q => by
            have := (hL e.on hes).1 q
            simp only [List.map_cons, List.mem_cons] at this
            rcases this with q | q
            · omega
            · have : x.1 < e.on := (List.pairwise_cons.1 hs).1 _ q
              omega
          have h2 : listed.getD e.on true = true := by
            cases q : listed.getD e.on true with
            | true => rfl
            | false => exact absurd q this
          rw [Array.getD_eq_getD_getElem?] at *
          have hz : e.on < listed.size := by rw [hD.n]; exact hes
          rw [Array.getElem?_eq_getElem hz] at *
          exact h2⟩
        rw [hnil] at this
        cases this
    · obtain ⟨hun, o, ho, hall⟩ := mem_ready.1 hi
      have hil := (Array.getElem?_eq_some_iff.1 ho).1
      obtain ⟨y, hy, hyi⟩ := List.mem_map.1 ((hL i hil).1 hun)
      obtain ⟨l1, l2, rfl⟩ := List.append_of_mem hy
      have hnl : ∀ x ∈ l1, indB ops x y = true := fun x hx => by
        rcases pairs_mem hp hx with q | q
        · exact q
        · exfalso
          rw [hyi] at q
          have h1 := reach_spec hD _ i x.1 o ho hall q
          have h2 := (hL x.1 (hlt x (by simp [hx]))).2 (by simp only [List.map_append, List.mem_append]; exact .inl (List.mem_map.2 ⟨x, hx, rfl⟩))
          rw [getD_tf h1] at h2; cases h2
      obtain ⟨S1, hst, hrun⟩ := run_front hnl hr
      obtain ⟨o', v, u, ho', rfl, hb⟩ := Base.of_step hst
      rw [hyi, ho] at ho'
      obtain rfl := Option.some.inj ho'
      have key := hb.sound (Q := Q) (K := wpAny P .any ops Q n (listed.setIfInBounds i true)) hS (fun a' C' hS' hE' hF' => by
        refine ih (l1 ++ l2) (listed.setIfInBounds i true) _ C0 C' a' (by simp at hn ⊢; omega) ⟨by simp [hD.n], fun k p hk hkl e he hb' => ?_⟩ (fun k hk => ?_) ?_ (fun x hx => hlt x (by
          rcases List.mem_append.1 hx with q | q
          · exact List.mem_append_left _ q
          · exact List.mem_append_right _ (List.mem_cons_of_mem _ q))) (pairs_drop hp) hrun hS' (hF.trans hF') (fun a2 C2 h1 h2 h3 => hQ a2 C2 h1 (h2.trans hE') h3)
        · have mono : ∀ {z : Nat}, listed.getD z false = true → (listed.setIfInBounds i true).getD z false = true := fun {z} hz => by
            rw [Array.getD_eq_getD_getElem?, Array.getElem?_setIfInBounds]
            split
            · split <;> first | rfl | (rename_i q1 q2; subst q1; rw [Array.getD_eq_getD_getElem?, Array.getElem?_eq_none (by omega)] at hz; cases hz)
            · rw [← Array.getD_eq_getD_getElem?]; exact hz
          by_cases hki : k = i
          · subst hki
            rw [ho] at hk
            obtain rfl := Option.some.inj hk
            exact mono (hall e he hb')
          · refine mono (hD.d k p hk ?_ e he hb')
            rw [Array.getD_eq_getD_getElem?, Array.getElem?_setIfInBounds, if_neg (Ne.symm hki), ← Array.getD_eq_getD_getElem?] at hkl
            exact hkl
        · rw [Array.getD_eq_getD_getElem?, Array.getElem?_setIfInBounds]
          have hiz : i < listed.size := by rw [hD.n]; exact hil
          have nodup := hs
          by_cases hki : i = k
          · subst hki
            rw [if_pos rfl, if_pos hiz]
            refine ⟨fun q => (by cases q), fun q => ?_⟩
            exfalso
            have hw : ((l1 ++ y :: l2).map (·.1)).Pairwise (· < ·) := hs
            rw [List.map_append, List.map_cons, List.pairwise_append] at hw
            rw [List.map_append, List.mem_append] at q
            rcases q with q | q
            · have := hw.2.2 i q y.1 (by simp); omega
            · have := (List.pairwise_cons.1 hw.2.1).1 i q; omega
          · rw [if_neg hki, ← Array.getD_eq_getD_getElem?, hL k hk]
            simp only [List.map_append, List.map_cons, List.mem_append, List.mem_cons]
            constructor
            · rintro (q | q | q)
              · exact .inl q
              · exact absurd (hyi.symm.trans q.symm) hki
              · exact .inr q
            · rintro (q | q)
              · exact .inl q
              · exact .inr (.inr q)
        · rw [List.map_append] at hs ⊢
          rw [List.map_cons, List.pairwise_append] at hs
          exact List.pairwise_append.2 ⟨hs.1, (List.pairwise_cons.1 hs.2.1).2, fun a ha b hb => hs.2.2 a ha b (List.mem_cons_of_mem _ hb)⟩)
      unfold wpOp
      rw [ho]
      simp only []
      split
      · rename_i hw; rw [if_pos hw] at key; exact .inl key
      · rename_i hw; rw [if_neg hw] at key; exact key
/-- in the order of the text -/
theorem run_list {Q : Exit → Act → World → Prop} {Sf : St} : ∀ (l : List Oper) (i : Nat) (M : List Lab) (S : St) (C0 C : Cx) (a : Act), M.map (·.1) = List.range' i l.length → (∀ j, l[j]? = ops[i + j]?) → Run P mu ops M S Sf → Sat C S a → Fr C0 C →
    (∀ a' C', Sat C' Sf a' → C'.E = C.E → Fr C0 C' → Q .normal a' C'.W) → wpList P ops Q l a C.W
  | [], i, M, S, C0, C, a, hM, hl, hr, hS, hF, hQ => by
    have : M = [] := by simpa using hM
    subst this
    cases hr
    exact hQ a C hS rfl hF
  | o :: l, i, M, S, C0, C, a, hM, hl, hr, hS, hF, hQ => by
    cases M with
    | nil => simp [List.range'_succ] at hM
    | cons x M =>
      rw [List.length_cons, List.range'_succ, List.map_cons, List.cons.injEq] at hM
      cases hr with
      | cons _ _ _ S1 _ h r =>
        obtain ⟨o', v, u, ho', rfl, hb⟩ := Base.of_step h
        have h0 := hl 0
        rw [hM.1] at ho'
        rw [Nat.add_zero, ho'] at h0
        obtain rfl := Option.some.inj h0
        have key := hb.sound (Q := Q) (K := wpList P ops Q l) hS (fun a' C' hS' hE' hF' => run_list l (i + 1) M _ C0 C' a' hM.2 (fun j => by have := hl (j + 1); simpa [Nat.add_assoc, Nat.add_comm 1 j] using this) r hS' (hF.trans hF') (fun a2 C2 h1 h2 h3 => hQ a2 C2 h1 (h2.trans hE') h3))
        unfold wpList
        split
        · rename_i hw; rw [if_pos hw] at key; exact .inl key
        · rename_i hw; rw [if_neg hw] at key; exact key
theorem wp_region_drawn {id : Nat} {Q : Exit → Act → World → Prop} {M : List Lab} {S Sf : St} {C0 C : Cx} {a : Act} (hm : P.follows .mixedOrders = true) (hE : edgesOk ops = true) (hp : pairsOk ops M = true) (hM : M.map (·.1) = List.range ops.size) (hr : Run P mu ops M S Sf)
    (hS : Sat C S a) (hF : Fr C0 C) (hQ : ∀ a' C', Sat C' Sf a' → C'.E = C.E → Fr C0 C' → Q .normal a' C'.W) : (Code.region id ops true).wp P Q a C.W := by
  obtain ⟨k1, k2⟩ := hS.g.same (W' := C.W.drew) rfl rfl rfl rfl
  refine wp_region_any hm ?_
  have hlen : M.length = ops.size := by have := congrArg List.length hM; simpa using this
  refine run_any hE ops.size M (Array.replicate ops.size false) S C0 ⟨C.E, C.W.drew, C.H, C.vl⟩ a hlen ⟨by simp, fun i o ho h => ?_⟩ (fun k hk => ?_) (by rw [hM]; exact List.pairwise_lt_range) (fun x hx => ?_) hp hr ⟨k2, hS.h, hS.n, fun i => (hS.t i).fr k1, hS.d⟩ (hF.trans k1) (fun a' C' h1 h2 h3 => hQ a' C' h1 h2 h3)
  · have hi := (Array.getElem?_eq_some_iff.1 ho).1
    rw [Array.getD_eq_getD_getElem?] at h
    simp [hi] at h
  · rw [hM]
    simp [hk]
  · have : x.1 ∈ List.range ops.size := by rw [← hM]; exact List.mem_map.2 ⟨x, hx, rfl⟩
    exact List.mem_range.1 this
theorem wp_region_plain {id : Nat} {Q : Exit → Act → World → Prop} {M : List Lab} {S Sf : St} {C0 C : Cx} {a : Act} (hM : M.map (·.1) = List.range ops.size) (hr : Run P mu ops M S Sf)
    (hS : Sat C S a) (hF : Fr C0 C) (hQ : ∀ a' C', Sat C' Sf a' → C'.E = C.E → Fr C0 C' → Q .normal a' C'.W) : (Code.region id ops false).wp P Q a C.W :=
  wp_region_list (run_list ops.toList 0 M S C0 C a (by rw [hM]; simp [List.range_eq_range']) (fun j => by simp) hr hS hF hQ)
end
end Go.Proofs.Ytbidoddghdbaoaa
