/- Contract of package sha's Sum. -/
import Derived.Test.YtjdbpeblbejllaaSha10
set_option linter.unusedVariables false
set_option linter.unusedSimpArgs false
namespace Go.Proofs.Ytjdbpeblbejllaa
open Go.RowKit
set_option maxRecDepth 100000 in
set_option maxHeartbeats 1000000 in
theorem ssum_any (A : Option Addr) (t : List Nat) (c : Nat) (w : World) (hA : Arr w w.heap.size A t.length (u8s t)) (ht : IsB t) (hn : t.length ≤ 1000000000) :
    Calls Try.prog 44 #[.slice A t.length c] w fun e w' => e = .returned (.agg ((dig (sumW t)).map b8).toArray) ∧ Below w.heap.size w w' := by
  have HhA := hideP hA; have Hht := hideP ht; have Hhn := hideP hn; clear hA ht hn
  obtain ⟨DD, hDD⟩ : ∃ D, D = (dig (sumW t)).map b8 := ⟨_, rfl⟩
  have hDl := hideP (show DD.length = 32 by rw [hDD]; simp [dig])
  have hDa := hideP (show DD.toArray.all (·.oneCell') = true by rw [hDD]; exact all_b8 _)
  rw [← hDD]
  have HhDD := hideP hDD; clear hDD
  go_enter Try.func44, Try.ntmps44
  go_upto_region 1 with fail
  obtain ⟨w1, hw1⟩ : ∃ w1, w1 = w.alloc (Obj.cells #[.int .u8 0, .int .u8 0, .int .u8 0, .int .u8 0, .int .u8 0, .int .u8 0, .int .u8 0, .int .u8 0, .int .u8 0, .int .u8 0, .int .u8 0, .int .u8 0, .int .u8 0, .int .u8 0, .int .u8 0, .int .u8 0, .int .u8 0, .int .u8 0, .int .u8 0, .int .u8 0, .int .u8 0, .int .u8 0, .int .u8 0, .int .u8 0, .int .u8 0, .int .u8 0, .int .u8 0, .int .u8 0, .int .u8 0, .int .u8 0, .int .u8 0, .int .u8 0] 25) := ⟨_, rfl⟩
  have c1 := hideP (show Row w1 w.heap.size 25 z32 by rw [hw1]; exact Row.new w _ z32)
  have cb := hideP (show Below w.heap.size w w1 by rw [hw1]; exact below_new _ _)
  rw [← hw1]
  clear hw1
  have hds := hideP (show (Try.prog.info? 25).map (·.size) = some DD.toArray.size by rw [size_dig]; simp [hDl.out])
  have hdo := hideP (show z32.toArray.size = DD.toArray.size by simp [hDl.out, z32])
  have A1 := hideP (HhA.out.after cb.out)
  go_wp2_with (first
    | (go_at_call 74; refine (new_any _).mono ?_; rintro e w2 ⟨g, rfl, hb2, hg2, s2⟩; have A2 := hideP (A1.out.below hb2); have c2 := hideP (Row.after c1.out hb2); have cb2 := hideP (cb.out.trans (hb2.mono cb.out.size)); have s2' := hideP s2)
    | (go_at_call 75; refine (write_any w1.heap.size g A t _ _ hg2 s2'.out A2.out Hht.out Hhn.out).mono ?_; rintro e w3 ⟨rfl, hb3, A', c', r, hr, s3, a3⟩; have c3 := hideP (Row.below c2.out hb3 (Row.lt c1.out)); have cb3 := hideP (cb2.out.trans (hb3.mono cb.out.size)); have s3' := hideP s3; have a3' := hideP a3)
    | (go_at_call 76; refine (done_any g _ A' r t c' _ s3'.out a3'.out rfl hr Hht.out Hhn.out).mono ?_; rintro e w4 ⟨rfl, hb4⟩; rw [← HhDD.out]; have c4 := hideP (Row.after c3.out hb4); have cb4 := hideP (cb3.out.trans (hb4.mono cb3.out.size)))
    | (refine wpList_store_row rfl 25 (.tmp 2) (.tmp 9) rfl w.heap.size DD.toArray rfl rfl 25 z32.toArray c4.out hds.out hdo.out hDa.out ?_))
  refine ret_row rfl rfl (Row.setRow c4.out DD) Try.underlying25 (by rw [size_dig, hDl.out]) rfl ⟨rfl, ?_⟩
  exact below_setRow' cb4.out (Nat.le_refl _) _
end Go.Proofs.Ytjdbpeblbejllaa
