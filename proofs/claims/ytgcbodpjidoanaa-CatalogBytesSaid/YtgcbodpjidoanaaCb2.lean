/- Cb2 -/
import Derived.Test.YtgcbodpjidoanaaGy
import Derived.Test.YtgcbodpjidoanaaShD
import Derived.Test.YtgcbodpjidoanaaSp
import Derived.Test.YtgcbodpjidoanaaGrb
set_option linter.unusedVariables false
set_option linter.unusedSimpArgs false
namespace Go.Proofs.Ytgcbodpjidoanaa
open Go.ChangeShapes Go.WideShapes Go.RowKit
section
variable {H : Type} {enc : TypeId × Value → H} {W : World}
end
set_option maxRecDepth 100000
theorem cells_slice {T E : Nat} (hT : Try.prog.underlying T = some (.slice E)) {W : World} {v : Value} (h : Value.okWide Try.prog W .any 0 T v) : v.cells.toList = [v] := by
  simp only [Value.okWide, hT, Cell.okWide] at h
  cases v <;> simp_all [Value.cells, Cell.ok]
theorem rv_slice {C : Cx} {W : World} {s n : Nat} {f : Nat → List DV} {v : Value} (h : RDs W [.sl s n f] v.cells.toList) (hc : v.cells.toList = [v]) (hN : ∀ k, C.N k ↔ k < W.heap.size) (hW : C.W = W) : Rv C (.d (.sl s n f)) v := by
  have e : C.N = fun k => k < W.heap.size := funext fun k => propext (hN k)
  have := h.rd 0 (by simp)
  rw [hc] at this
  show RD C.W C.N _ _
  rw [hW, e]
  exact this
end Go.Proofs.Ytgcbodpjidoanaa
namespace Go.Proofs.Ytgcbodpjidoanaa
open Go.RowKit
set_option maxRecDepth 100000
set_option maxHeartbeats 1000000
theorem acall_arr {P : Program} {f : FuncId} (hE : Enters P f) (b S : List Nat) (hS : S.length = 32)
    (h : ∀ A c w, Arr w w.heap.size A b.length (u8s b) → Calls P f #[.slice A b.length c] w fun e w' => e = .returned (.agg (S.map b8).toArray) ∧ Below w.heap.size w w') :
    ACall P f [.d (byteL b)] [] (agD (digL S)) [] := by
  refine ⟨hE, fun A W vl vs G hl hv => ?_⟩
  obtain ⟨v, rfl⟩ : ∃ v, vs = [v] := by
    match vs, hl with
    | [v], _ => exact ⟨v, rfl⟩
  have h0 := hv 0 (by simp)
  replace h0 : RD _ _ (byteL b) v := h0
  generalize hd : byteL b = d at h0
  cases h0 with
  | v x => cases hd
  | p cs b off u hb hu hr => cases hd
  | sl sz n f A0 b0 off c u hA hc hl2 hu hr =>
    cases hd
    refine (h A0 c W ?_).mono ?_
    · intro hn
      obtain ⟨e1, e2⟩ := hA hn
      refine ⟨b0, off, e1, e2.2.1, fun i hi => ?_⟩
      have q1 := (hu i 0 hi (by decide)).1
      have q2 := hr i 0 hi (by decide)
      have q3 : u i 0 = u8s b i := by
        generalize u i 0 = y at q2
        cases q2; rfl
      rw [q3] at q1
      rw [← q1]
      congr 1
      simp
    · rintro e W' ⟨rfl, K⟩
      obtain ⟨g1, g2, g3⟩ := G.grow (W' := W') K.size (fun k hk => K.block k hk) K.os K.tape K.output
      refine ⟨.agg (S.map b8).toArray, ⟨_, W', [], vl⟩, rfl, rfl, rfl, rfl, g1, g2, ⟨S.map b8, rfl, by simp [hS, digL, b32], fun j hj => ?_⟩⟩
      have hj : j < 32 := by simpa [digL, b32] using hj
      have e1 : ((digL S).map AV.d).getD j .any = .d (.v (.int .u8 (S.getD j 0 : Nat))) := by
        rw [show digL S = (List.range 32).map fun i => .v (.int .u8 (S.getD i 0 : Nat)) from rfl, List.map_map, List.getD_eq_getElem?_getD, List.getElem?_map, List.getElem?_range hj]; rfl
      have e2 : (S.map b8).getD j undef = .int .u8 (S.getD j 0 : Nat) := by
        rw [List.getD_eq_getElem?_getD, List.getElem?_map, List.getD_eq_getElem?_getD, List.getElem?_eq_getElem (by omega)]; rfl
      rw [e1, e2]
      exact rv_ex _
theorem csum_d (b : List Nat) (hB : Pl.IsB b) (hn : b.length ≤ 1000000000) : ACall Try.prog 125 [.d (byteL b)] [] (agD (digL (dig (sumW b)))) [] :=
  acall_arr (enters_of Try.func125 rfl rfl) b (dig (sumW b)) (by simp [dig]) fun A c w hA => ssum_any A b c w hA hB hn
theorem qsum_d (b : List Nat) (hB : Pl.IsB b) (hn : b.length ≤ 1000000000) : ACall Try.prog 126 [.d (byteL b)] [] (agD (digL (dig (sumW b)))) [] :=
  acall_arr (enters_of Try.func126 rfl rfl) b (dig (sumW b)) (by simp [dig]) fun A c w hA => rsum_any A b c w hA hB hn
end Go.Proofs.Ytgcbodpjidoanaa
namespace Go.Proofs.Ytgcbodpjidoanaa
open Go.RowKit
set_option maxRecDepth 100000
set_option maxHeartbeats 4000000
theorem dgq_refl (s : List Nat) : dgq s s = true := by simp [dgq]
theorem kidS_refl (k : KidD) : kidS k k = true := by simp [kidS, dgq_refl]
theorem isB_pre (b : List Nat) (hB : Pl.IsB b) : Pl.IsB (Pl.preN 67 [b]) := Pl.isB_append (Pl.isB_append (Pl.isB_one (by decide)) (Pl.isB_be8 _)) hB
theorem pre_len (b : List Nat) (hb : b.length ≤ 1000000) : (Pl.preN 67 [b]).length ≤ 1000000000 := by
  rw [show Pl.preN 67 [b] = [67] ++ Pl.be8 b.length ++ b from rfl]
  simp [Pl.be8]; omega
theorem cpre_d (b : List Nat) (hb : b.length ≤ 1000000) : ACall Try.prog 51 [.d (byteL b)] [] (.d (byteL (Pl.preN 67 [b]))) [] := by
  have q := pre_d 67 b (by omega)
  refine acall_of (mu := []) mixed Try.func51 rfl rfl rfl ?_
  conv => whnf
  repeat' (first
    | (refine And.intro (by omega) ?_; conv => whnf)
    | (refine And.intro rfl ?_; conv => whnf)
    | (refine And.intro (Nat.le_of_ble_eq_true rfl) ?_; conv => whnf)
    | (refine And.intro (fun i hi => ⟨_, rfl⟩) ?_; conv => whnf)
    | (refine ⟨_, _, _, .gen [] _ _ _ rfl (q) rfl rfl rfl rfl rfl, ?_⟩; conv => whnf)
    | (refine ⟨_, _, _, .gen [] _ _ _ rfl (ACall.arg ?harg (q)) rfl rfl rfl rfl rfl, ?_⟩; (case harg => (repeat' (first | exact trivial | exact rfl | exact fun _ _ => rfl | apply And.intro | (intro i hi; rcases i with _ | _ | i <;> first | rfl | (exfalso; omega) | (simp at hi; done) | (simp at hi; omega)) | exact fun _ _ => by simp))); (conv => whnf))
    | (refine And.intro (fun hq => ?_) (fun hq => ?_) <;> (first | (exfalso; simp at hq; done) | (exfalso; simp at *; omega) | (exfalso; simp_all; done) | (conv => whnf)))
    | (refine And.intro (by first | (show _ * 1 ≤ 140737488355328; omega) | (show _ * 8 ≤ 140737488355328; omega) | (show _ * 24 ≤ 140737488355328; omega) | (show _ * 16 ≤ 140737488355328; omega) | (show _ * 32 ≤ 140737488355328; omega) | (show _ * 120 ≤ 140737488355328; omega) | (show _ * 280 ≤ 140737488355328; omega) | (show _ * 72 ≤ 140737488355328; omega) | (show _ * 48 ≤ 140737488355328; omega)) ?_; conv => whnf)
    | (refine And.intro (by simp at *; omega) ?_; conv => whnf)
    | fail)
  all_goals first | exact trivial | exact ⟨rfl, by (repeat' (first | exact trivial | exact rfl | exact fun _ _ => rfl | apply And.intro | (intro i hi; rcases i with _ | _ | i <;> first | rfl | (exfalso; omega) | (simp at hi; done) | (simp at hi; omega)) | exact fun _ _ => by simp)), trivial⟩ | exact ⟨by (repeat' (first | exact trivial | exact rfl | exact fun _ _ => rfl | apply And.intro | (intro i hi; rcases i with _ | _ | i <;> first | rfl | (exfalso; omega) | (simp at hi; done) | (simp at hi; omega)) | exact fun _ _ => by simp)), trivial⟩ | exact ⟨by (repeat' (first | exact trivial | exact rfl | exact fun _ _ => rfl | apply And.intro | (intro i hi; rcases i with _ | _ | i <;> first | rfl | (exfalso; omega) | (simp at hi; done) | (simp at hi; omega)) | exact fun _ _ => by simp)), by (repeat' (first | exact trivial | exact rfl | exact fun _ _ => rfl | apply And.intro | (intro i hi; rcases i with _ | _ | i <;> first | rfl | (exfalso; omega) | (simp at hi; done) | (simp at hi; omega)) | exact fun _ _ => by simp))⟩ | exact ⟨rfl, by (repeat' (first | exact trivial | exact rfl | exact fun _ _ => rfl | apply And.intro | (intro i hi; rcases i with _ | _ | i <;> first | rfl | (exfalso; omega) | (simp at hi; done) | (simp at hi; omega)) | exact fun _ _ => by simp)), by (repeat' (first | exact trivial | exact rfl | exact fun _ _ => rfl | apply And.intro | (intro i hi; rcases i with _ | _ | i <;> first | rfl | (exfalso; omega) | (simp at hi; done) | (simp at hi; omega)) | exact fun _ _ => by simp))⟩
theorem rpre_d (b : List Nat) (hb : b.length ≤ 1000000) : ACall Try.prog 52 [.d (byteL b)] [] (.d (byteL (Pl.preN 67 [b]))) [] := by
  have q := qpre_d 67 b (by omega)
  refine acall_of (mu := []) mixed Try.func52 rfl rfl rfl ?_
  conv => whnf
  repeat' (first
    | (refine And.intro (by omega) ?_; conv => whnf)
    | (refine And.intro rfl ?_; conv => whnf)
    | (refine And.intro (Nat.le_of_ble_eq_true rfl) ?_; conv => whnf)
    | (refine And.intro (fun i hi => ⟨_, rfl⟩) ?_; conv => whnf)
    | (refine ⟨_, _, _, .gen [] _ _ _ rfl (q) rfl rfl rfl rfl rfl, ?_⟩; conv => whnf)
    | (refine ⟨_, _, _, .gen [] _ _ _ rfl (ACall.arg ?harg (q)) rfl rfl rfl rfl rfl, ?_⟩; (case harg => (repeat' (first | exact trivial | exact rfl | exact fun _ _ => rfl | apply And.intro | (intro i hi; rcases i with _ | _ | i <;> first | rfl | (exfalso; omega) | (simp at hi; done) | (simp at hi; omega)) | exact fun _ _ => by simp))); (conv => whnf))
    | (refine And.intro (fun hq => ?_) (fun hq => ?_) <;> (first | (exfalso; simp at hq; done) | (exfalso; simp at *; omega) | (exfalso; simp_all; done) | (conv => whnf)))
    | (refine And.intro (by first | (show _ * 1 ≤ 140737488355328; omega) | (show _ * 8 ≤ 140737488355328; omega) | (show _ * 24 ≤ 140737488355328; omega) | (show _ * 16 ≤ 140737488355328; omega) | (show _ * 32 ≤ 140737488355328; omega) | (show _ * 120 ≤ 140737488355328; omega) | (show _ * 280 ≤ 140737488355328; omega) | (show _ * 72 ≤ 140737488355328; omega) | (show _ * 48 ≤ 140737488355328; omega)) ?_; conv => whnf)
    | (refine And.intro (by simp at *; omega) ?_; conv => whnf)
    | fail)
  all_goals first | exact trivial | exact ⟨rfl, by (repeat' (first | exact trivial | exact rfl | exact fun _ _ => rfl | apply And.intro | (intro i hi; rcases i with _ | _ | i <;> first | rfl | (exfalso; omega) | (simp at hi; done) | (simp at hi; omega)) | exact fun _ _ => by simp)), trivial⟩ | exact ⟨by (repeat' (first | exact trivial | exact rfl | exact fun _ _ => rfl | apply And.intro | (intro i hi; rcases i with _ | _ | i <;> first | rfl | (exfalso; omega) | (simp at hi; done) | (simp at hi; omega)) | exact fun _ _ => by simp)), trivial⟩ | exact ⟨by (repeat' (first | exact trivial | exact rfl | exact fun _ _ => rfl | apply And.intro | (intro i hi; rcases i with _ | _ | i <;> first | rfl | (exfalso; omega) | (simp at hi; done) | (simp at hi; omega)) | exact fun _ _ => by simp)), by (repeat' (first | exact trivial | exact rfl | exact fun _ _ => rfl | apply And.intro | (intro i hi; rcases i with _ | _ | i <;> first | rfl | (exfalso; omega) | (simp at hi; done) | (simp at hi; omega)) | exact fun _ _ => by simp))⟩ | exact ⟨rfl, by (repeat' (first | exact trivial | exact rfl | exact fun _ _ => rfl | apply And.intro | (intro i hi; rcases i with _ | _ | i <;> first | rfl | (exfalso; omega) | (simp at hi; done) | (simp at hi; omega)) | exact fun _ _ => by simp)), by (repeat' (first | exact trivial | exact rfl | exact fun _ _ => rfl | apply And.intro | (intro i hi; rcases i with _ | _ | i <;> first | rfl | (exfalso; omega) | (simp at hi; done) | (simp at hi; omega)) | exact fun _ _ => by simp))⟩
theorem catsum_d (b : List Nat) (hB : Pl.IsB b) (hb : b.length ≤ 1000000) : ACall Try.prog 49 [.d (byteL b)] [] (agD (digL (dig (sumW (Pl.preN 67 [b]))))) [] := by
  have q := cpre_d b hb
  have q2 := csum_d _ (isB_pre b hB) (pre_len b hb)
  generalize dig (sumW (Pl.preN 67 [b])) = S at q2 ⊢
  generalize Pl.preN 67 [b] = p at q q2
  refine acall_of (mu := []) mixed Try.func49 rfl rfl rfl ?_
  conv => whnf
  repeat' (first
    | (refine And.intro (by omega) ?_; conv => whnf)
    | (refine And.intro rfl ?_; conv => whnf)
    | (refine And.intro (Nat.le_of_ble_eq_true rfl) ?_; conv => whnf)
    | (refine And.intro (fun i hi => ⟨_, rfl⟩) ?_; conv => whnf)
    | (refine ⟨_, _, _, .gen [] _ _ _ rfl (q) rfl rfl rfl rfl rfl, ?_⟩; conv => whnf)
    | (refine ⟨_, _, _, .gen [] _ _ _ rfl (q2) rfl rfl rfl rfl rfl, ?_⟩; conv => whnf)
    | (refine ⟨_, _, _, .flat _ _ rfl (q2) rfl, ?_⟩; conv => whnf)
    | (refine ⟨_, _, _, .gen [] _ _ _ rfl (ACall.arg ?harg (q)) rfl rfl rfl rfl rfl, ?_⟩; (case harg => (repeat' (first | exact trivial | exact rfl | exact fun _ _ => rfl | apply And.intro | (intro i hi; rcases i with _ | _ | i <;> first | rfl | (exfalso; omega) | (simp at hi; done) | (simp at hi; omega)) | exact fun _ _ => by simp))); (conv => whnf))
    | (refine ⟨_, _, _, .gen [] _ _ _ rfl (ACall.arg ?harg (q2)) rfl rfl rfl rfl rfl, ?_⟩; (case harg => (repeat' (first | exact trivial | exact rfl | exact fun _ _ => rfl | apply And.intro | (intro i hi; rcases i with _ | _ | i <;> first | rfl | (exfalso; omega) | (simp at hi; done) | (simp at hi; omega)) | exact fun _ _ => by simp))); (conv => whnf))
    | (refine ⟨_, _, _, .flat _ _ rfl (ACall.arg ?harg (q2)) rfl, ?_⟩; (case harg => (repeat' (first | exact trivial | exact rfl | exact fun _ _ => rfl | apply And.intro | (intro i hi; rcases i with _ | _ | i <;> first | rfl | (exfalso; omega) | (simp at hi; done) | (simp at hi; omega)) | exact fun _ _ => by simp))); (conv => whnf))
    | (refine And.intro (fun hq => ?_) (fun hq => ?_) <;> (first | (exfalso; simp at hq; done) | (exfalso; simp at *; omega) | (exfalso; simp_all; done) | (conv => whnf)))
    | (refine And.intro (by first | (show _ * 1 ≤ 140737488355328; omega) | (show _ * 8 ≤ 140737488355328; omega) | (show _ * 24 ≤ 140737488355328; omega) | (show _ * 16 ≤ 140737488355328; omega) | (show _ * 32 ≤ 140737488355328; omega) | (show _ * 120 ≤ 140737488355328; omega) | (show _ * 280 ≤ 140737488355328; omega) | (show _ * 72 ≤ 140737488355328; omega) | (show _ * 48 ≤ 140737488355328; omega)) ?_; conv => whnf)
    | (refine And.intro (by simp at *; omega) ?_; conv => whnf)
    | fail)
  all_goals first | exact trivial | exact ⟨rfl, by (repeat' (first | exact trivial | exact rfl | exact fun _ _ => rfl | apply And.intro | (intro i hi; rcases i with _ | _ | i <;> first | rfl | (exfalso; omega) | (simp at hi; done) | (simp at hi; omega)) | exact fun _ _ => by simp)), trivial⟩ | exact ⟨by (repeat' (first | exact trivial | exact rfl | exact fun _ _ => rfl | apply And.intro | (intro i hi; rcases i with _ | _ | i <;> first | rfl | (exfalso; omega) | (simp at hi; done) | (simp at hi; omega)) | exact fun _ _ => by simp)), trivial⟩ | exact ⟨by (repeat' (first | exact trivial | exact rfl | exact fun _ _ => rfl | apply And.intro | (intro i hi; rcases i with _ | _ | i <;> first | rfl | (exfalso; omega) | (simp at hi; done) | (simp at hi; omega)) | exact fun _ _ => by simp)), by (repeat' (first | exact trivial | exact rfl | exact fun _ _ => rfl | apply And.intro | (intro i hi; rcases i with _ | _ | i <;> first | rfl | (exfalso; omega) | (simp at hi; done) | (simp at hi; omega)) | exact fun _ _ => by simp))⟩ | exact ⟨rfl, by (repeat' (first | exact trivial | exact rfl | exact fun _ _ => rfl | apply And.intro | (intro i hi; rcases i with _ | _ | i <;> first | rfl | (exfalso; omega) | (simp at hi; done) | (simp at hi; omega)) | exact fun _ _ => by simp)), by (repeat' (first | exact trivial | exact rfl | exact fun _ _ => rfl | apply And.intro | (intro i hi; rcases i with _ | _ | i <;> first | rfl | (exfalso; omega) | (simp at hi; done) | (simp at hi; omega)) | exact fun _ _ => by simp))⟩
theorem refsum_d (b : List Nat) (hB : Pl.IsB b) (hb : b.length ≤ 1000000) : ACall Try.prog 50 [.d (byteL b)] [] (agD (digL (dig (sumW (Pl.preN 67 [b]))))) [] := by
  have q := rpre_d b hb
  have q2 := qsum_d _ (isB_pre b hB) (pre_len b hb)
  generalize dig (sumW (Pl.preN 67 [b])) = S at q2 ⊢
  generalize Pl.preN 67 [b] = p at q q2
  refine acall_of (mu := []) mixed Try.func50 rfl rfl rfl ?_
  conv => whnf
  repeat' (first
    | (refine And.intro (by omega) ?_; conv => whnf)
    | (refine And.intro rfl ?_; conv => whnf)
    | (refine And.intro (Nat.le_of_ble_eq_true rfl) ?_; conv => whnf)
    | (refine And.intro (fun i hi => ⟨_, rfl⟩) ?_; conv => whnf)
    | (refine ⟨_, _, _, .gen [] _ _ _ rfl (q) rfl rfl rfl rfl rfl, ?_⟩; conv => whnf)
    | (refine ⟨_, _, _, .gen [] _ _ _ rfl (q2) rfl rfl rfl rfl rfl, ?_⟩; conv => whnf)
    | (refine ⟨_, _, _, .flat _ _ rfl (q2) rfl, ?_⟩; conv => whnf)
    | (refine ⟨_, _, _, .gen [] _ _ _ rfl (ACall.arg ?harg (q)) rfl rfl rfl rfl rfl, ?_⟩; (case harg => (repeat' (first | exact trivial | exact rfl | exact fun _ _ => rfl | apply And.intro | (intro i hi; rcases i with _ | _ | i <;> first | rfl | (exfalso; omega) | (simp at hi; done) | (simp at hi; omega)) | exact fun _ _ => by simp))); (conv => whnf))
    | (refine ⟨_, _, _, .gen [] _ _ _ rfl (ACall.arg ?harg (q2)) rfl rfl rfl rfl rfl, ?_⟩; (case harg => (repeat' (first | exact trivial | exact rfl | exact fun _ _ => rfl | apply And.intro | (intro i hi; rcases i with _ | _ | i <;> first | rfl | (exfalso; omega) | (simp at hi; done) | (simp at hi; omega)) | exact fun _ _ => by simp))); (conv => whnf))
    | (refine ⟨_, _, _, .flat _ _ rfl (ACall.arg ?harg (q2)) rfl, ?_⟩; (case harg => (repeat' (first | exact trivial | exact rfl | exact fun _ _ => rfl | apply And.intro | (intro i hi; rcases i with _ | _ | i <;> first | rfl | (exfalso; omega) | (simp at hi; done) | (simp at hi; omega)) | exact fun _ _ => by simp))); (conv => whnf))
    | (refine And.intro (fun hq => ?_) (fun hq => ?_) <;> (first | (exfalso; simp at hq; done) | (exfalso; simp at *; omega) | (exfalso; simp_all; done) | (conv => whnf)))
    | (refine And.intro (by first | (show _ * 1 ≤ 140737488355328; omega) | (show _ * 8 ≤ 140737488355328; omega) | (show _ * 24 ≤ 140737488355328; omega) | (show _ * 16 ≤ 140737488355328; omega) | (show _ * 32 ≤ 140737488355328; omega) | (show _ * 120 ≤ 140737488355328; omega) | (show _ * 280 ≤ 140737488355328; omega) | (show _ * 72 ≤ 140737488355328; omega) | (show _ * 48 ≤ 140737488355328; omega)) ?_; conv => whnf)
    | (refine And.intro (by simp at *; omega) ?_; conv => whnf)
    | fail)
  all_goals first | exact trivial | exact ⟨rfl, by (repeat' (first | exact trivial | exact rfl | exact fun _ _ => rfl | apply And.intro | (intro i hi; rcases i with _ | _ | i <;> first | rfl | (exfalso; omega) | (simp at hi; done) | (simp at hi; omega)) | exact fun _ _ => by simp)), trivial⟩ | exact ⟨by (repeat' (first | exact trivial | exact rfl | exact fun _ _ => rfl | apply And.intro | (intro i hi; rcases i with _ | _ | i <;> first | rfl | (exfalso; omega) | (simp at hi; done) | (simp at hi; omega)) | exact fun _ _ => by simp)), trivial⟩ | exact ⟨by (repeat' (first | exact trivial | exact rfl | exact fun _ _ => rfl | apply And.intro | (intro i hi; rcases i with _ | _ | i <;> first | rfl | (exfalso; omega) | (simp at hi; done) | (simp at hi; omega)) | exact fun _ _ => by simp)), by (repeat' (first | exact trivial | exact rfl | exact fun _ _ => rfl | apply And.intro | (intro i hi; rcases i with _ | _ | i <;> first | rfl | (exfalso; omega) | (simp at hi; done) | (simp at hi; omega)) | exact fun _ _ => by simp))⟩ | exact ⟨rfl, by (repeat' (first | exact trivial | exact rfl | exact fun _ _ => rfl | apply And.intro | (intro i hi; rcases i with _ | _ | i <;> first | rfl | (exfalso; omega) | (simp at hi; done) | (simp at hi; omega)) | exact fun _ _ => by simp)), by (repeat' (first | exact trivial | exact rfl | exact fun _ _ => rfl | apply And.intro | (intro i hi; rcases i with _ | _ | i <;> first | rfl | (exfalso; omega) | (simp at hi; done) | (simp at hi; omega)) | exact fun _ _ => by simp))⟩
theorem tabS_refl (t : TableD) : tabS t t = true := by simp [tabS, kidS_refl]
theorem rsame_self (l : List TableD) (h : l.length ≤ 1000) (hs : ∀ i, (l.getD i default).small) : ACall Try.prog 40 [.d (tablesL l), .d (tablesL l)] [] (exB true) [] := by
  refine acall_of (mu := []) mixed Try.func40 rfl rfl rfl ?_
  conv => whnf
  repeat' (first
    | (refine And.intro (by omega) ?_; conv => whnf)
    | (refine And.intro rfl ?_; conv => whnf)
    | (refine And.intro (Nat.le_of_ble_eq_true rfl) ?_; conv => whnf)
    | (refine And.intro (fun i hi => ⟨_, rfl⟩) ?_; conv => whnf)
    | (refine And.intro (fun hq => ?_) (fun hq => ?_) <;> (first | (exfalso; simp at hq; done) | (exfalso; simp at *; omega) | (exfalso; simp_all; done) | (conv => whnf)))
    | (refine And.intro (by first | (show _ * 1 ≤ 140737488355328; omega) | (show _ * 8 ≤ 140737488355328; omega) | (show _ * 24 ≤ 140737488355328; omega) | (show _ * 16 ≤ 140737488355328; omega) | (show _ * 32 ≤ 140737488355328; omega) | (show _ * 120 ≤ 140737488355328; omega) | (show _ * 280 ≤ 140737488355328; omega) | (show _ * 72 ≤ 140737488355328; omega) | (show _ * 48 ≤ 140737488355328; omega)) ?_; conv => whnf)
    | (refine And.intro (by simp at *; omega) ?_; conv => whnf)
    | fail)
  refine ⟨[], ?_⟩
  conv => whnf
  refine ⟨Nat, fun k => k ≤ l.length, fun k => l.length - k, fun k => [(5, exI .i64 k)], fun _ => [], ⟨0, by omega, ?_⟩, ?_⟩
  · skip
    refine ⟨[], ?_⟩
    conv => whnf
    refine ⟨rfl, ?_, ?_⟩ <;> (repeat' (first | exact trivial | exact rfl | exact fun _ _ => rfl | apply And.intro | (intro i hi; rcases i with _ | _ | i <;> first | rfl | (exfalso; omega) | (simp at hi; done) | (simp at hi; omega)) | exact fun _ _ => by simp))
  intro k hk
  have q := rtsame_ok (l.getD k default) (l.getD k default) (hs k)
  rw [tabS_refl] at q
  rcases Nat.lt_or_ge k l.length with hlt | hge
  · skip
    conv => whnf
    repeat' (first
      | (refine And.intro (by omega) ?_; conv => whnf)
      | (refine And.intro rfl ?_; conv => whnf)
      | (refine And.intro (Nat.le_of_ble_eq_true rfl) ?_; conv => whnf)
      | (refine And.intro (fun i hi => ⟨_, rfl⟩) ?_; conv => whnf)
      | (refine ⟨_, _, _, .flat _ _ rfl (q) rfl, ?_⟩; conv => whnf)
      | (refine ⟨_, _, _, .flat _ _ rfl (ACall.arg ?harg (q)) rfl, ?_⟩; (case harg => (repeat' (first | exact trivial | exact rfl | exact fun _ _ => rfl | apply And.intro | (intro i hi; rcases i with _ | _ | i <;> first | rfl | (exfalso; omega) | (simp at hi; done) | (simp at hi; omega)) | exact fun _ _ => by simp))); (conv => whnf))
      | (refine And.intro (fun hq => ?_) (fun hq => ?_) <;> (first | (exfalso; simp at hq; done) | (exfalso; simp at *; omega) | (exfalso; simp_all; done) | (conv => whnf)))
      | (refine And.intro (by first | (show _ * 1 ≤ 140737488355328; omega) | (show _ * 8 ≤ 140737488355328; omega) | (show _ * 24 ≤ 140737488355328; omega) | (show _ * 16 ≤ 140737488355328; omega) | (show _ * 32 ≤ 140737488355328; omega) | (show _ * 120 ≤ 140737488355328; omega) | (show _ * 280 ≤ 140737488355328; omega) | (show _ * 72 ≤ 140737488355328; omega) | (show _ * 48 ≤ 140737488355328; omega)) ?_; conv => whnf)
      | (refine And.intro (by simp at *; omega) ?_; conv => whnf)
      | fail)
    all_goals first
      | (refine ⟨k + 1, by omega, by dsimp only; omega, [], ?_⟩; (conv => whnf); exact ⟨rfl, ⟨by (repeat' (first | exact trivial | exact rfl | exact fun _ _ => rfl | apply And.intro | (intro i hi; rcases i with _ | _ | i <;> first | rfl | (exfalso; omega) | (simp at hi; done) | (simp at hi; omega)) | exact fun _ _ => by simp)), trivial⟩, trivial⟩)
      | skip
  · skip
    conv => whnf
    repeat' (first
      | (refine And.intro (by omega) ?_; conv => whnf)
      | (refine And.intro rfl ?_; conv => whnf)
      | (refine And.intro (Nat.le_of_ble_eq_true rfl) ?_; conv => whnf)
      | (refine And.intro (fun i hi => ⟨_, rfl⟩) ?_; conv => whnf)
      | (refine And.intro (fun hq => ?_) (fun hq => ?_) <;> (first | (exfalso; simp at hq; done) | (exfalso; simp at *; omega) | (exfalso; simp_all; done) | (conv => whnf)))
      | (refine And.intro (by first | (show _ * 1 ≤ 140737488355328; omega) | (show _ * 8 ≤ 140737488355328; omega) | (show _ * 24 ≤ 140737488355328; omega) | (show _ * 16 ≤ 140737488355328; omega) | (show _ * 32 ≤ 140737488355328; omega) | (show _ * 120 ≤ 140737488355328; omega) | (show _ * 280 ≤ 140737488355328; omega) | (show _ * 72 ≤ 140737488355328; omega) | (show _ * 48 ≤ 140737488355328; omega)) ?_; conv => whnf)
      | (refine And.intro (by simp at *; omega) ?_; conv => whnf)
      | fail)
    all_goals first | exact trivial | exact ⟨rfl, by (repeat' (first | exact trivial | exact rfl | exact fun _ _ => rfl | apply And.intro | (intro i hi; rcases i with _ | _ | i <;> first | rfl | (exfalso; omega) | (simp at hi; done) | (simp at hi; omega)) | exact fun _ _ => by simp)), trivial⟩ | exact ⟨by (repeat' (first | exact trivial | exact rfl | exact fun _ _ => rfl | apply And.intro | (intro i hi; rcases i with _ | _ | i <;> first | rfl | (exfalso; omega) | (simp at hi; done) | (simp at hi; omega)) | exact fun _ _ => by simp)), trivial⟩ | exact ⟨by (repeat' (first | exact trivial | exact rfl | exact fun _ _ => rfl | apply And.intro | (intro i hi; rcases i with _ | _ | i <;> first | rfl | (exfalso; omega) | (simp at hi; done) | (simp at hi; omega)) | exact fun _ _ => by simp)), by (repeat' (first | exact trivial | exact rfl | exact fun _ _ => rfl | apply And.intro | (intro i hi; rcases i with _ | _ | i <;> first | rfl | (exfalso; omega) | (simp at hi; done) | (simp at hi; omega)) | exact fun _ _ => by simp))⟩ | exact ⟨rfl, by (repeat' (first | exact trivial | exact rfl | exact fun _ _ => rfl | apply And.intro | (intro i hi; rcases i with _ | _ | i <;> first | rfl | (exfalso; omega) | (simp at hi; done) | (simp at hi; omega)) | exact fun _ _ => by simp)), by (repeat' (first | exact trivial | exact rfl | exact fun _ _ => rfl | apply And.intro | (intro i hi; rcases i with _ | _ | i <;> first | rfl | (exfalso; omega) | (simp at hi; done) | (simp at hi; omega)) | exact fun _ _ => by simp))⟩
theorem cbytes_ok (l : List TableD) (hQ : ∀ i, i < l.length → TabQ (l.getD i default)) : ACall Try.prog 9 [.d (tablesL l)] [] (exB true) [] := by
  cases hg : greatB l with
  | true =>
    have qg := great_any l
    rw [hg] at qg
    refine acall_of (mu := []) mixed Try.func9 rfl rfl rfl ?_
    conv => whnf
    repeat' (first
      | (refine And.intro (by omega) ?_; conv => whnf)
      | (refine And.intro rfl ?_; conv => whnf)
      | (refine And.intro (Nat.le_of_ble_eq_true rfl) ?_; conv => whnf)
      | (refine And.intro (fun i hi => ⟨_, rfl⟩) ?_; conv => whnf)
      | (refine ⟨_, _, _, .flat _ _ rfl (alive20) rfl, ?_⟩; conv => whnf)
      | (refine ⟨_, _, _, .flat _ _ rfl (qg) rfl, ?_⟩; conv => whnf)
      | (refine ⟨_, _, _, .flat _ _ rfl (ACall.arg ?harg (alive20)) rfl, ?_⟩; (case harg => (repeat' (first | exact trivial | exact rfl | exact fun _ _ => rfl | apply And.intro | (intro i hi; rcases i with _ | _ | i <;> first | rfl | (exfalso; omega) | (simp at hi; done) | (simp at hi; omega)) | exact fun _ _ => by simp))); (conv => whnf))
      | (refine ⟨_, _, _, .flat _ _ rfl (ACall.arg ?harg (qg)) rfl, ?_⟩; (case harg => (repeat' (first | exact trivial | exact rfl | exact fun _ _ => rfl | apply And.intro | (intro i hi; rcases i with _ | _ | i <;> first | rfl | (exfalso; omega) | (simp at hi; done) | (simp at hi; omega)) | exact fun _ _ => by simp))); (conv => whnf))
      | (refine And.intro (fun hq => ?_) (fun hq => ?_) <;> (first | (exfalso; simp at hq; done) | (exfalso; simp at *; omega) | (exfalso; simp_all; done) | (conv => whnf)))
      | (refine And.intro (by first | (show _ * 1 ≤ 140737488355328; omega) | (show _ * 8 ≤ 140737488355328; omega) | (show _ * 24 ≤ 140737488355328; omega) | (show _ * 16 ≤ 140737488355328; omega) | (show _ * 32 ≤ 140737488355328; omega) | (show _ * 120 ≤ 140737488355328; omega) | (show _ * 280 ≤ 140737488355328; omega) | (show _ * 72 ≤ 140737488355328; omega) | (show _ * 48 ≤ 140737488355328; omega)) ?_; conv => whnf)
      | (refine And.intro (by simp at *; omega) ?_; conv => whnf)
      | fail)
    all_goals first | exact trivial | exact ⟨rfl, by (repeat' (first | exact trivial | exact rfl | exact fun _ _ => rfl | apply And.intro | (intro i hi; rcases i with _ | _ | i <;> first | rfl | (exfalso; omega) | (simp at hi; done) | (simp at hi; omega)) | exact fun _ _ => by simp)), trivial⟩ | exact ⟨by (repeat' (first | exact trivial | exact rfl | exact fun _ _ => rfl | apply And.intro | (intro i hi; rcases i with _ | _ | i <;> first | rfl | (exfalso; omega) | (simp at hi; done) | (simp at hi; omega)) | exact fun _ _ => by simp)), trivial⟩ | exact ⟨by (repeat' (first | exact trivial | exact rfl | exact fun _ _ => rfl | apply And.intro | (intro i hi; rcases i with _ | _ | i <;> first | rfl | (exfalso; omega) | (simp at hi; done) | (simp at hi; omega)) | exact fun _ _ => by simp)), by (repeat' (first | exact trivial | exact rfl | exact fun _ _ => rfl | apply And.intro | (intro i hi; rcases i with _ | _ | i <;> first | rfl | (exfalso; omega) | (simp at hi; done) | (simp at hi; omega)) | exact fun _ _ => by simp))⟩ | exact ⟨rfl, by (repeat' (first | exact trivial | exact rfl | exact fun _ _ => rfl | apply And.intro | (intro i hi; rcases i with _ | _ | i <;> first | rfl | (exfalso; omega) | (simp at hi; done) | (simp at hi; omega)) | exact fun _ _ => by simp)), by (repeat' (first | exact trivial | exact rfl | exact fun _ _ => rfl | apply And.intro | (intro i hi; rcases i with _ | _ | i <;> first | rfl | (exfalso; omega) | (simp at hi; done) | (simp at hi; omega)) | exact fun _ _ => by simp))⟩
  | false =>
  have qg := great_any l
  rw [hg] at qg
  obtain ⟨hl30, hI⟩ := greatB_at hg
  have hsm := tabI_small hI
  have qr := qright_ok l (by omega) hsm
  have qc := cright_ok l (by omega) hsm
  cases hr : tabsR l with
  | false =>
    rw [hr] at qr qc
    have qe := cencode_no l hr (by omega) hsm
    refine acall_of (mu := []) mixed Try.func9 rfl rfl rfl ?_
    conv => whnf
    repeat' (first
      | (refine And.intro (by omega) ?_; conv => whnf)
      | (refine And.intro rfl ?_; conv => whnf)
      | (refine And.intro (Nat.le_of_ble_eq_true rfl) ?_; conv => whnf)
      | (refine And.intro (fun i hi => ⟨_, rfl⟩) ?_; conv => whnf)
      | (refine ⟨_, _, _, .flat _ _ rfl (alive20) rfl, ?_⟩; conv => whnf)
      | (refine ⟨_, _, _, .flat _ _ rfl (qg) rfl, ?_⟩; conv => whnf)
      | (refine ⟨_, _, _, .flat _ _ rfl (qe) rfl, ?_⟩; conv => whnf)
      | (refine ⟨_, _, _, .flat _ _ rfl (qc) rfl, ?_⟩; conv => whnf)
      | (refine ⟨_, _, _, .flat _ _ rfl (qr) rfl, ?_⟩; conv => whnf)
      | (refine ⟨_, _, _, .flat _ _ rfl (ACall.arg ?harg (alive20)) rfl, ?_⟩; (case harg => (repeat' (first | exact trivial | exact rfl | exact fun _ _ => rfl | apply And.intro | (intro i hi; rcases i with _ | _ | i <;> first | rfl | (exfalso; omega) | (simp at hi; done) | (simp at hi; omega)) | exact fun _ _ => by simp))); (conv => whnf))
      | (refine ⟨_, _, _, .flat _ _ rfl (ACall.arg ?harg (qg)) rfl, ?_⟩; (case harg => (repeat' (first | exact trivial | exact rfl | exact fun _ _ => rfl | apply And.intro | (intro i hi; rcases i with _ | _ | i <;> first | rfl | (exfalso; omega) | (simp at hi; done) | (simp at hi; omega)) | exact fun _ _ => by simp))); (conv => whnf))
      | (refine ⟨_, _, _, .flat _ _ rfl (ACall.arg ?harg (qe)) rfl, ?_⟩; (case harg => (repeat' (first | exact trivial | exact rfl | exact fun _ _ => rfl | apply And.intro | (intro i hi; rcases i with _ | _ | i <;> first | rfl | (exfalso; omega) | (simp at hi; done) | (simp at hi; omega)) | exact fun _ _ => by simp))); (conv => whnf))
      | (refine ⟨_, _, _, .flat _ _ rfl (ACall.arg ?harg (qc)) rfl, ?_⟩; (case harg => (repeat' (first | exact trivial | exact rfl | exact fun _ _ => rfl | apply And.intro | (intro i hi; rcases i with _ | _ | i <;> first | rfl | (exfalso; omega) | (simp at hi; done) | (simp at hi; omega)) | exact fun _ _ => by simp))); (conv => whnf))
      | (refine ⟨_, _, _, .flat _ _ rfl (ACall.arg ?harg (qr)) rfl, ?_⟩; (case harg => (repeat' (first | exact trivial | exact rfl | exact fun _ _ => rfl | apply And.intro | (intro i hi; rcases i with _ | _ | i <;> first | rfl | (exfalso; omega) | (simp at hi; done) | (simp at hi; omega)) | exact fun _ _ => by simp))); (conv => whnf))
      | (refine And.intro (fun hq => ?_) (fun hq => ?_) <;> (first | (exfalso; simp at hq; done) | (exfalso; simp at *; omega) | (exfalso; simp_all; done) | (conv => whnf)))
      | (refine And.intro (by first | (show _ * 1 ≤ 140737488355328; omega) | (show _ * 8 ≤ 140737488355328; omega) | (show _ * 24 ≤ 140737488355328; omega) | (show _ * 16 ≤ 140737488355328; omega) | (show _ * 32 ≤ 140737488355328; omega) | (show _ * 120 ≤ 140737488355328; omega) | (show _ * 280 ≤ 140737488355328; omega) | (show _ * 72 ≤ 140737488355328; omega) | (show _ * 48 ≤ 140737488355328; omega)) ?_; conv => whnf)
      | (refine And.intro (by simp at *; omega) ?_; conv => whnf)
      | fail)
    all_goals first | exact trivial | exact ⟨rfl, by (repeat' (first | exact trivial | exact rfl | exact fun _ _ => rfl | apply And.intro | (intro i hi; rcases i with _ | _ | i <;> first | rfl | (exfalso; omega) | (simp at hi; done) | (simp at hi; omega)) | exact fun _ _ => by simp)), trivial⟩ | exact ⟨by (repeat' (first | exact trivial | exact rfl | exact fun _ _ => rfl | apply And.intro | (intro i hi; rcases i with _ | _ | i <;> first | rfl | (exfalso; omega) | (simp at hi; done) | (simp at hi; omega)) | exact fun _ _ => by simp)), trivial⟩ | exact ⟨by (repeat' (first | exact trivial | exact rfl | exact fun _ _ => rfl | apply And.intro | (intro i hi; rcases i with _ | _ | i <;> first | rfl | (exfalso; omega) | (simp at hi; done) | (simp at hi; omega)) | exact fun _ _ => by simp)), by (repeat' (first | exact trivial | exact rfl | exact fun _ _ => rfl | apply And.intro | (intro i hi; rcases i with _ | _ | i <;> first | rfl | (exfalso; omega) | (simp at hi; done) | (simp at hi; omega)) | exact fun _ _ => by simp))⟩ | exact ⟨rfl, by (repeat' (first | exact trivial | exact rfl | exact fun _ _ => rfl | apply And.intro | (intro i hi; rcases i with _ | _ | i <;> first | rfl | (exfalso; omega) | (simp at hi; done) | (simp at hi; omega)) | exact fun _ _ => by simp)), by (repeat' (first | exact trivial | exact rfl | exact fun _ _ => rfl | apply And.intro | (intro i hi; rcases i with _ | _ | i <;> first | rfl | (exfalso; omega) | (simp at hi; done) | (simp at hi; omega)) | exact fun _ _ => by simp))⟩
  | true =>
  rw [hr] at qr qc
  have h8 := tabsR_len hr
  have hW : ∀ i, i < l.length → TabW (l.getD i default) := fun i hi => tabw_of (tabsR_at hr i hi) (hQ i hi) (hI i hi)
  have qe := cencode_ok l hr (by omega) hsm hW
  have qb := qbytes_d l (by omega) hW
  have hBl := (catB_len l h8 hW).1
  have hBc := isB_catB l h8 hW hQ
  have qd := cdecode_any _ hBc (by omega)
  rw [dec_back l hr fun i hi => ⟨hW i hi, tab_kids (tabsR_at hr i hi) (hW i hi)⟩] at qd
  simp only [resC] at qd
  have qs := rsame_self l (by omega) hsm
  have s1 := catsum_d _ hBc (by omega)
  have s2 := refsum_d _ hBc (by omega)
  have p1 := cpre_d (catB l) (by omega)
  have p2 := rpre_d (catB l) (by omega)
  generalize dig (sumW (Pl.preN 67 [catB l])) = S at s1 s2
  generalize Pl.preN 67 [catB l] = p at p1 p2
  generalize catB l = C at qe qb hBl hBc qd s1 s2 p1 p2
  have hS := dgq_refl S
  refine acall_of (mu := []) mixed Try.func9 rfl rfl rfl ?_
  conv => whnf
  repeat' (first
    | (refine And.intro (by omega) ?_; conv => whnf)
    | (refine And.intro rfl ?_; conv => whnf)
    | (refine And.intro (Nat.le_of_ble_eq_true rfl) ?_; conv => whnf)
    | (refine And.intro (fun i hi => ⟨_, rfl⟩) ?_; conv => whnf)
    | (refine ⟨_, _, _, .flat _ _ rfl (alive20) rfl, ?_⟩; conv => whnf)
    | (refine ⟨_, _, _, .flat _ _ rfl (qg) rfl, ?_⟩; conv => whnf)
    | (refine ⟨_, _, _, .gen [] _ _ _ rfl (qe) rfl rfl rfl rfl rfl, ?_⟩; conv => whnf)
    | (refine ⟨_, _, _, .flat _ _ rfl (qc) rfl, ?_⟩; conv => whnf)
    | (refine ⟨_, _, _, .flat _ _ rfl (qr) rfl, ?_⟩; conv => whnf)
    | (refine ⟨_, _, _, .gen [] _ _ _ rfl (qd) rfl rfl rfl rfl rfl, ?_⟩; conv => whnf)
    | (refine ⟨_, _, _, .gen [] _ _ _ rfl (qb) rfl rfl rfl rfl rfl, ?_⟩; conv => whnf)
    | (refine ⟨_, _, _, .flat _ _ rfl (qs) rfl, ?_⟩; conv => whnf)
    | (refine ⟨_, _, _, .flat _ _ rfl (s1) rfl, ?_⟩; conv => whnf)
    | (refine ⟨_, _, _, .flat _ _ rfl (s2) rfl, ?_⟩; conv => whnf)
    | (refine ⟨_, _, _, .gen [] _ _ _ rfl (p1) rfl rfl rfl rfl rfl, ?_⟩; conv => whnf)
    | (refine ⟨_, _, _, .gen [] _ _ _ rfl (p2) rfl rfl rfl rfl rfl, ?_⟩; conv => whnf)
    | (refine ⟨_, _, _, .flat _ _ rfl (ACall.arg ?harg (alive20)) rfl, ?_⟩; (case harg => (repeat' (first | exact trivial | exact rfl | exact fun _ _ => rfl | apply And.intro | (intro i hi; rcases i with _ | _ | i <;> first | rfl | (exfalso; omega) | (simp at hi; done) | (simp at hi; omega)) | exact fun _ _ => by simp))); (conv => whnf))
    | (refine ⟨_, _, _, .flat _ _ rfl (ACall.arg ?harg (qg)) rfl, ?_⟩; (case harg => (repeat' (first | exact trivial | exact rfl | exact fun _ _ => rfl | apply And.intro | (intro i hi; rcases i with _ | _ | i <;> first | rfl | (exfalso; omega) | (simp at hi; done) | (simp at hi; omega)) | exact fun _ _ => by simp))); (conv => whnf))
    | (refine ⟨_, _, _, .gen [] _ _ _ rfl (ACall.arg ?harg (qe)) rfl rfl rfl rfl rfl, ?_⟩; (case harg => (repeat' (first | exact trivial | exact rfl | exact fun _ _ => rfl | apply And.intro | (intro i hi; rcases i with _ | _ | i <;> first | rfl | (exfalso; omega) | (simp at hi; done) | (simp at hi; omega)) | exact fun _ _ => by simp))); (conv => whnf))
    | (refine ⟨_, _, _, .flat _ _ rfl (ACall.arg ?harg (qc)) rfl, ?_⟩; (case harg => (repeat' (first | exact trivial | exact rfl | exact fun _ _ => rfl | apply And.intro | (intro i hi; rcases i with _ | _ | i <;> first | rfl | (exfalso; omega) | (simp at hi; done) | (simp at hi; omega)) | exact fun _ _ => by simp))); (conv => whnf))
    | (refine ⟨_, _, _, .flat _ _ rfl (ACall.arg ?harg (qr)) rfl, ?_⟩; (case harg => (repeat' (first | exact trivial | exact rfl | exact fun _ _ => rfl | apply And.intro | (intro i hi; rcases i with _ | _ | i <;> first | rfl | (exfalso; omega) | (simp at hi; done) | (simp at hi; omega)) | exact fun _ _ => by simp))); (conv => whnf))
    | (refine ⟨_, _, _, .gen [] _ _ _ rfl (ACall.arg ?harg (qd)) rfl rfl rfl rfl rfl, ?_⟩; (case harg => (repeat' (first | exact trivial | exact rfl | exact fun _ _ => rfl | apply And.intro | (intro i hi; rcases i with _ | _ | i <;> first | rfl | (exfalso; omega) | (simp at hi; done) | (simp at hi; omega)) | exact fun _ _ => by simp))); (conv => whnf))
    | (refine ⟨_, _, _, .gen [] _ _ _ rfl (ACall.arg ?harg (qb)) rfl rfl rfl rfl rfl, ?_⟩; (case harg => (repeat' (first | exact trivial | exact rfl | exact fun _ _ => rfl | apply And.intro | (intro i hi; rcases i with _ | _ | i <;> first | rfl | (exfalso; omega) | (simp at hi; done) | (simp at hi; omega)) | exact fun _ _ => by simp))); (conv => whnf))
    | (refine ⟨_, _, _, .flat _ _ rfl (ACall.arg ?harg (qs)) rfl, ?_⟩; (case harg => (repeat' (first | exact trivial | exact rfl | exact fun _ _ => rfl | apply And.intro | (intro i hi; rcases i with _ | _ | i <;> first | rfl | (exfalso; omega) | (simp at hi; done) | (simp at hi; omega)) | exact fun _ _ => by simp))); (conv => whnf))
    | (refine ⟨_, _, _, .flat _ _ rfl (ACall.arg ?harg (s1)) rfl, ?_⟩; (case harg => (repeat' (first | exact trivial | exact rfl | exact fun _ _ => rfl | apply And.intro | (intro i hi; rcases i with _ | _ | i <;> first | rfl | (exfalso; omega) | (simp at hi; done) | (simp at hi; omega)) | exact fun _ _ => by simp))); (conv => whnf))
    | (refine ⟨_, _, _, .flat _ _ rfl (ACall.arg ?harg (s2)) rfl, ?_⟩; (case harg => (repeat' (first | exact trivial | exact rfl | exact fun _ _ => rfl | apply And.intro | (intro i hi; rcases i with _ | _ | i <;> first | rfl | (exfalso; omega) | (simp at hi; done) | (simp at hi; omega)) | exact fun _ _ => by simp))); (conv => whnf))
    | (refine ⟨_, _, _, .gen [] _ _ _ rfl (ACall.arg ?harg (p1)) rfl rfl rfl rfl rfl, ?_⟩; (case harg => (repeat' (first | exact trivial | exact rfl | exact fun _ _ => rfl | apply And.intro | (intro i hi; rcases i with _ | _ | i <;> first | rfl | (exfalso; omega) | (simp at hi; done) | (simp at hi; omega)) | exact fun _ _ => by simp))); (conv => whnf))
    | (refine ⟨_, _, _, .gen [] _ _ _ rfl (ACall.arg ?harg (p2)) rfl rfl rfl rfl rfl, ?_⟩; (case harg => (repeat' (first | exact trivial | exact rfl | exact fun _ _ => rfl | apply And.intro | (intro i hi; rcases i with _ | _ | i <;> first | rfl | (exfalso; omega) | (simp at hi; done) | (simp at hi; omega)) | exact fun _ _ => by simp))); (conv => whnf))
    | (refine And.intro (fun hq => ?_) (fun hq => ?_) <;> (first | (exfalso; simp at hq; done) | (exfalso; simp at *; omega) | (exfalso; simp_all; done) | (conv => whnf)))
    | (refine And.intro (by first | (show _ * 1 ≤ 140737488355328; omega) | (show _ * 8 ≤ 140737488355328; omega) | (show _ * 24 ≤ 140737488355328; omega) | (show _ * 16 ≤ 140737488355328; omega) | (show _ * 32 ≤ 140737488355328; omega) | (show _ * 120 ≤ 140737488355328; omega) | (show _ * 280 ≤ 140737488355328; omega) | (show _ * 72 ≤ 140737488355328; omega) | (show _ * 48 ≤ 140737488355328; omega)) ?_; conv => whnf)
    | (refine And.intro (by simp at *; omega) ?_; conv => whnf)
    | fail)
  all_goals first
    | exact trivial
    | (refine And.intro (congrArg Value.bool ?_) trivial; grind [dgq])
    | (refine And.intro (congrArg Value.bool ?_) trivial; simp_all [dgq]; done)
    | (refine And.intro (congrArg Value.bool ?_) trivial; simp [dgq] at *; omega)
    | skip
end Go.Proofs.Ytgcbodpjidoanaa
