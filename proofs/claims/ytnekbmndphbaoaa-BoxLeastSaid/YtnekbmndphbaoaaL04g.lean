/- The walk of BoxLeast. -/
import Derived.Test.YtnekbmndphbaoaaL04d
import Derived.Test.YtnekbmndphbaoaaL04e
import Derived.Test.YtnekbmndphbaoaaL04f
set_option linter.unusedVariables false
set_option linter.unusedSimpArgs false
namespace Go.Proofs.Ytnekbmndphbaoaa
open Go.RowKit
theorem walk_BoxLeast (K col : Int) (A : Option Addr) (at_ : List Int) (ca : Nat) (L : Option Addr) (lo : List Int) (dl : Nat) (H : Option Addr) (hi : List Int) (sh : Nat) (P : Option Addr) (p : List Int) (c : Nat) (Q : Option Addr) (q : List Int) (c' : Nat) (w : World)
    (hA : Arr w w.heap.size A at_.length (i64s at_)) (ha : IsI at_) (hL : Arr w w.heap.size L lo.length (i64s lo)) (il : IsI lo) (hH : Arr w w.heap.size H hi.length (i64s hi)) (ih : IsI hi) (hm : lo.length ≤ 17592186043904) (hm' : hi.length ≤ 17592186043904) (hdl : lo.length ≤ dl) (hsh : hi.length ≤ sh)
    (hP : Arr w w.heap.size P p.length (i64s p)) (hp : IsI p) (hn : p.length ≤ 17592186043904) (hc : p.length ≤ c) (hQ : Arr w w.heap.size Q q.length (i64s q)) (hq : IsI q) (hnq : q.length ≤ 17592186043904) (hcq : q.length ≤ c') :
    Calls Try.prog 10 #[.agg #[.int .u8 K, .int .i64 col, .slice A at_.length ca], .agg #[.slice L lo.length dl, .slice H hi.length sh], .slice P p.length c, .slice Q q.length c'] w fun e w' => e = .returned (.bool true) ∧ Below w.heap.size w w' := by
  cases hB : leastB K col at_.length lo hi
  · exact boxLeast_no K col A L H P at_ lo hi p ca dl sh c _ w hA ha hL il hH ih hm hdl hsh hP hp hn hc hB
  · cases h2 : (K == 2)
    · cases h3 : (K == 3)
      · exact boxLeast_in01 K col A L H P Q at_ lo hi p q ca dl sh c c' w hA ha hL il hH ih hm hdl hsh hP hp hn hc hQ hq hnq hcq hB h2 h3
      · exact boxLeast_in3 K col A L H P Q at_ lo hi p q ca dl sh c c' w hA ha hL il hH ih hm hdl hsh hP hp hn hc hQ hq hnq hcq hB h2 h3
    · cases h3 : (K == 3)
      · exact boxLeast_in2 K col A L H P Q at_ lo hi p q ca dl sh c c' w hA ha hL il hH ih hm hdl hsh hP hp hn hc hQ hq hnq hcq hB h2 h3
      · simp at h2 h3; omega
end Go.Proofs.Ytnekbmndphbaoaa
