/-
  A function's contract, out of its code: the law. No program in sight.
-/
import Derived.Test.YtglmohcnmpbfmaaFt
set_option linter.unusedVariables false
set_option linter.unusedSimpArgs false
namespace Go.Proofs.Ytglmohcnmpbfmaa
open Go.RowKit
theorem aEnd_post {P : Program} {fn : Func} {Hp H' : OH} {r : AV} {C C0 : Cx} {S : St} {a : Act} (h : Sat C S a) (hF : Fr C0 C) (h0 : C0.H = Hp) (he : aEnd P fn Hp r H' S) :
    ∃ v D, (results fn a.tmps).run P C.W = .ok v C.W ∧ D.W = C.W ∧ D.H = H' ∧ D.E = C.E ∧ Fr C0 D ∧ Gam D ∧ Rv D r v := by
  unfold aEnd at he
  split at he
  · rename_i l vs hr
    rw [conj_iff] at he
    obtain ⟨hl, he⟩ := he
    split at he
    · rename_i r1 hp
      obtain ⟨hk, he, ho⟩ := he
      rw [fA_eq] at he
      unfold okEnd at hk
      split at hk
      · rename_i k1 k2 k3 k4 k5
        obtain ⟨v, hrun, hv⟩ := results_run (fn := fn) h hr hl k5
        have L1 : Less C ⟨C.E, C.W, pickH S.H (keysH H'), C.vl⟩ := ⟨rfl, rfl, rfl, fun o b hb => ⟨b, by rw [h.h]; exact pickH_sub _ _ _ _ hb, by
          cases b with
          | row ty sz g fz n f => exact ⟨rfl, rfl, rfl, rfl, rfl, fun _ _ => rfl⟩
          | box ty cs => exact ⟨rfl, avEqL_refl cs⟩⟩⟩
        have G1 := L1.gam h.g k1
        have hN : ∀ b, C.N b → Cx.N ⟨C.E, C.W, pickH S.H (keysH H'), C.vl⟩ b := fun b hb => L1.N hb
        rw [List.all_eq_true] at k5
        have v1 : Rv ⟨C.E, C.W, pickH S.H (keysH H'), C.vl⟩ r1 v := by
          refine purR_spec (D := ⟨C.E, C.W, pickH S.H (keysH H'), C.vl⟩) (Hp := pickH S.H (keysH H')) h.g rfl rfl rfl (fun o b hb => by rw [h.h]; exact pickH_sub _ _ _ _ hb) hN (fun o ob hn hob b hb => ?_) hv (by rw [h.h]; exact hp) (fun cs hcs => ?_)
          · refine ⟨?_, (h.g.ok o ob hob).lt hb, fun x ob' hx hf q => ?_⟩
            · rcases h.g.mu o ob b hob hb with q | q
              · exact .inr (.inl q)
              · exact .inr (.inr q)
            · have hne : x ≠ o := fun e => by subst e; rw [hn] at hx; cases hx
              have hx' : look C.H x = some ob' := by rw [h.h]; exact pickH_sub _ _ _ _ hx
              exact h.g.ap x o ob' ob b hx' hob hne q hb
          · rw [List.all_eq_true]
            intro x hx
            cases vs with
            | nil => simp only [mkRes] at hcs; cases hcs; cases hx
            | cons y ys =>
              cases ys with
              | nil => simp only [mkRes] at hcs; subst hcs; have := k5 _ (List.mem_singleton.2 rfl); cases this
              | cons z zs => simp only [mkRes, AV.tup.injEq] at hcs; subst hcs; exact k5 x hx
        have L2 : Less C ⟨C.E, C.W, H', C.vl⟩ := ⟨rfl, rfl, rfl, fun o b hb => by rw [h.h]; exact look_obs ho o b hb⟩
        have L3 : Less ⟨C.E, C.W, pickH S.H (keysH H'), C.vl⟩ ⟨C.E, C.W, H', C.vl⟩ := ⟨rfl, rfl, rfl, fun o b hb => by
          obtain ⟨b0, q1, q2⟩ := look_obs ho o b hb
          exact ⟨b0, pickH_look (keys_of_look hb) q1, q2⟩⟩
        refine ⟨v, ⟨C.E, C.W, H', C.vl⟩, hrun, rfl, rfl, rfl, L2.fr hF fun o ob hob => ?_, L2.gam h.g k2, L3.Rv (v1.eqv he) k3⟩
        rw [h0] at hob
        rw [List.all_eq_true] at k4
        have := k4 o (keys_of_look hob)
        rw [hasK_iff] at this
        exact Option.isSome_iff_exists.1 this
      · cases hk
    · exact he.elim
  · exact he.elim
/-- THE LAW: a function's code, reckoned out, is its contract; with hints: what is told anew ahead of a region, and at the end -/
theorem acall_on {P : Program} {mu : List Nat} {f : FuncId} {fn : Func} {c : Code} {args : List AV} {Hp H' : OH} {r : AV} (hn : List (Nat × List Gh)) (he : List Gh) (hm : P.follows .mixedOrders = true) (hf : P.funcs[f]? = some fn) (hb : fn.body = some c) (hnm : (fn.name == "runtime.NumGoroutine") = false) (hl : Nat.ble args.length fn.ntmps = true)
    (h : fST ⟨args ++ List.replicate (fn.ntmps - args.length) .any, Hp⟩ fun T => aCode P mu hn Hp c (fun e S' => match e with
      | .normal => fGh Hp he S' fun S2 => aEnd P fn Hp r H' S2
      | .ret => fGh Hp he S' fun S2 => aEnd P fn Hp r H' S2
      | _ => False) T) : ACall P f args Hp r H' := by
  refine ⟨fun vs W => ?_, fun A W vl vs G hlen hargs => ?_⟩
  · unfold callFunc
    simp only [program, Sem.run_bind, Sem.run]
    simp [hf, hnm, hb]
    simpa using hnm
  · rw [fST_eq] at h
    obtain ⟨C0, hC0⟩ : ∃ C0 : Cx, C0 = ⟨⟨A, fun b => ∃ o ob, look Hp o = some ob ∧ (vl o).ownBlock = some b, W⟩, W, Hp, vl⟩ := ⟨_, rfl⟩
    have eW : C0.W = W := by rw [hC0]
    have eH : C0.H = Hp := by rw [hC0]
    have eE : C0.E = ⟨A, fun b => ∃ o ob, look Hp o = some ob ∧ (vl o).ownBlock = some b, W⟩ := by rw [hC0]
    rw [← hC0] at G hargs ⊢
    rw [← eE]
    have hl' := Nat.le_of_ble_eq_true hl
    refine calls_of_wp hf hb ?_
    have sat : Sat C0 ⟨args ++ List.replicate (fn.ntmps - args.length) .any, Hp⟩ { tmps := vs.toArray ++ Array.replicate (fn.ntmps - vs.toArray.size) undef, defers := [] } := by
      refine ⟨G, eH, by simp [hlen], fun i => ?_, rfl⟩
      rw [nth_getD]
      by_cases hi : i < args.length
      · rw [show (args ++ List.replicate (fn.ntmps - args.length) AV.any).getD i .any = args.getD i .any by simp [List.getD_eq_getElem?_getD, List.getElem?_append_left hi],
          show (vs.toArray ++ Array.replicate (fn.ntmps - vs.toArray.size) undef).getD i undef = vs.getD i undef by
            have : i < vs.length := by omega
            simp [Array.getD_eq_getD_getElem?, Array.getElem?_append, this, List.getD_eq_getElem?_getD]]
        exact hargs i hi
      · rw [show (args ++ List.replicate (fn.ntmps - args.length) AV.any).getD i .any = .any by
          rw [List.getD_eq_getElem?_getD, List.getElem?_append_right (by omega), List.getElem?_replicate]
          split <;> rfl]
        trivial
    rw [← eW]
    refine wp_mono (aCode_sound hm c _ _ h C0 C0 _ sat (Fr.refl C0) eH) fun e a' w' hp => ?_
    obtain ⟨S', C', h1, rfl, h3, h4, h5⟩ := hp
    cases e with
    | normal =>
      obtain ⟨S2, e2, h1⟩ := fGh_spec h1
      obtain ⟨C2, s2, w2, f2, g2⟩ := ghs_sat h3 h5 (by rw [eH]; exact e2)
      obtain ⟨v, D, k1, k2, k3, k4, k5, k6, k7⟩ := aEnd_post s2 g2 eH h1
      exact ⟨h3.d, v, by rw [← w2]; exact k1, v, D, rfl, k2.trans w2, k3, k4.trans (f2.trans h4), k5, k6, k7⟩
    | ret =>
      obtain ⟨S2, e2, h1⟩ := fGh_spec h1
      obtain ⟨C2, s2, w2, f2, g2⟩ := ghs_sat h3 h5 (by rw [eH]; exact e2)
      obtain ⟨v, D, k1, k2, k3, k4, k5, k6, k7⟩ := aEnd_post s2 g2 eH h1
      exact ⟨h3.d, v, by rw [← w2]; exact k1, v, D, rfl, k2.trans w2, k3, k4.trans (f2.trans h4), k5, k6, k7⟩
    | _ => exact h1.elim
theorem acall_of {P : Program} {mu : List Nat} {f : FuncId} {fn : Func} {c : Code} {args : List AV} {Hp H' : OH} {r : AV} (hm : P.follows .mixedOrders = true) (hf : P.funcs[f]? = some fn) (hb : fn.body = some c) (hnm : (fn.name == "runtime.NumGoroutine") = false) (hl : Nat.ble args.length fn.ntmps = true)
    (h : fST ⟨args ++ List.replicate (fn.ntmps - args.length) .any, Hp⟩ fun T => aCode P mu [] Hp c (fun e S' => match e with
      | .normal => aEnd P fn Hp r H' S'
      | .ret => aEnd P fn Hp r H' S'
      | _ => False) T) : ACall P f args Hp r H' := acall_on [] [] hm hf hb hnm hl h
end Go.Proofs.Ytglmohcnmpbfmaa
