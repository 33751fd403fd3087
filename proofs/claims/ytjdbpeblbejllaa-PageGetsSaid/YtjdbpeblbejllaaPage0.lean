/- Digests as a map's keys. -/
import Derived.Test.YtjdbpeblbejllaaSha6
import Derived.Test.YtjdbpeblbejllaaMap
import Derived.DeepKeys4
set_option linter.unusedVariables false
set_option linter.unusedSimpArgs false
namespace Go.Proofs.Ytjdbpeblbejllaa
open Go.RowKit
open Go.Maps (Keyed)
theorem laidOutP : laidOutB Try.prog = true := by kernel_rfl
theorem keyD : Keyed Try.prog 25 :=
  Keyed.of_law (deep_law_laid laidOutP (m := 2) (by omega) (of_decide_eq_true (by kernel_rfl)) (by kernel_rfl) (by rw [Try.underlying25]))
theorem mapM_some {α β : Type} (f : α → Option β) (g : α → β) : ∀ l : List α, (∀ x ∈ l, f x = some (g x)) → l.mapM f = some (l.map g)
  | [], _ => rfl
  | x :: l, h => by rw [List.mapM_cons, h x (by simp), mapM_some f g l fun y hy => h y (by simp [hy])]; rfl
/-- a digest -/
def dg (l : List Nat) : Value := .agg (l.map b8).toArray
theorem b8_inj {x y : Nat} (h : b8 x = b8 y) : x = y := by
  simp only [b8, Value.int.injEq, true_and] at h
  omega
theorem dg_inj {l m : List Nat} (h : dg l = dg m) : l = m := by
  have h1 : (l.map b8).toArray = (m.map b8).toArray := Value.agg.inj h
  exact (List.map_inj_right (fun _ _ => b8_inj)).1 (List.toArray_inj h1)
theorem key_dg (l : List Nat) (hl : l.length = 32) (hb : IsB l) : ∃ kl, keyOf Try.prog 25 (dg l) = some kl := by
  have h1 : Try.prog.keyType 25 = true := by kernel_rfl
  have h2 : Try.prog.cellsOf 25 = 32 := by kernel_rfl
  have h3 : Try.prog.cellsOf 5 = 1 := by kernel_rfl
  have h4 : 2 ≤ Try.prog.types.size := of_decide_eq_true (by kernel_rfl)
  obtain ⟨m, hm⟩ : ∃ m, Try.prog.types.size = m + 1 := ⟨Try.prog.types.size - 1, by omega⟩
  have hlen : (l.map b8).toArray.toList.length = 32 := by simp [hl]
  have hM : (List.range 32).mapM (fun i => Try.prog.keyLits (m + 1) 5 (((dg l).cells.toList.drop (i * Try.prog.cellsOf 5)).take (Try.prog.cellsOf 5))) = some ((List.range 32).map fun i => [Lit.int .u8 (l.getD i 0)]) := by
    refine mapM_some _ _ _ fun i hi => ?_
    have hi' : i < 32 := List.mem_range.1 hi
    rw [h3, Nat.mul_one]
    have e1 : ((dg l).cells.toList.drop i).take 1 = [b8 (l.getD i 0)] := by
      show ((l.map b8).toArray.toList.drop i).take 1 = _
      rw [List.drop_eq_getElem_cons (by omega)]
      simp [List.getD, List.getElem?_eq_getElem (show i < l.length by omega)]
    have hx := hb i
    have hwf : (Lit.int .u8 ((l.getD i 0 : Nat) : Int)).wf = true := WalkArith.wf_u8 (by omega)
    rw [e1]
    unfold Program.keyLits
    simp only [Try.underlying5, b8]
    simp only [true_and]
    rw [if_pos hwf]
  refine ⟨Lit.string (keyBytes (((List.range 32).map fun i => [Lit.int .u8 (l.getD i 0)]).flatten)), ?_⟩
  · unfold keyOf
    simp only [Try.underlying25]
    rw [if_pos (by simp [h1, dg, Value.formed, Try.underlying25, h2, hl]), hm]
    unfold Program.keyLits
    simp only [Try.underlying25]
    rw [if_pos (by rw [h2]; exact hlen), hM]
    rfl
end Go.Proofs.Ytjdbpeblbejllaa
