/- Contracts of package dist: isPoint, total, Between, ToBox. -/
import Derived.Test.YtjdbpeblbejllaaDist
import Derived.Test.YtjdbpeblbejllaaEager
import Derived.Laws.ResultCell
set_option linter.unusedVariables false
set_option linter.unusedSimpArgs false
namespace Go.Proofs.Ytjdbpeblbejllaa
open Go.RowKit

def isPt (n : Nat) : Bool := decide (1 ≤ n) && decide (n ≤ 8)
theorem info_u64' : (Try.prog.info? 80).map (fun i => (i.zero, i.size, i.bytes)) = some (some (.int .u64 0), 1, 8) := by kernel_rfl

theorem run_enter {f : FuncId} {fn : Func} (hf : Try.prog.funcs[f]? = some fn) (hn : (fn.name == "runtime.NumGoroutine") = false) (hb : fn.body.isNone = false) (args : Array Value) (w : World) : (callFunc f args).run Try.prog w = .ok (.enter f args) w := by
  have h1 : (fn.name = "runtime.NumGoroutine") = False := by simpa using hn
  simp [callFunc, hf, h1, hb, program, Sem.run]
  intro h; simp [h] at hb

/-- what the sides say, from 0 on -/
def sides (f : Nat → Nat) (k : Nat) : List Nat := (List.range k).map f

def IsI' (l : List Int) : Prop := ∀ i, I64 (l.getD i 0)
theorem sides_le (f : Nat → Nat) (n : Nat) (hf : ∀ i, i < n → f i < 18446744073709551616) : (sides f n).sum ≤ n * 18446744073709551615 := by
  induction n with
  | zero => simp [sides]
  | succ n ih =>
    have h1 := ih (fun i hi => hf i (by omega))
    have h2 := hf n (by omega)
    have h3 : (sides f (n + 1)).sum = (sides f n).sum + f n := by simp [sides, List.range_succ]
    omega
/-- the distance of two points of n numbers -/
def dpt (p q : List Int) (n : Nat) : Nat := (sides (fun i => apart (p.getD i 0) (q.getD i 0)) n).sum
def dbox (p lo hi : List Int) (n : Nat) : Nat := (sides (fun i => gap (p.getD i 0) (lo.getD i 0) (hi.getD i 0)) n).sum
theorem dpt_lt (p q : List Int) (n : Nat) (hp : IsI p) (hq : IsI q) (hn : n ≤ 8) : dpt p q n < 147573952589676412928 := by
  have := sides_le (fun i => apart (p.getD i 0) (q.getD i 0)) n (fun i _ => apart_lt (hp i) (hq i))
  unfold dpt; omega
theorem dbox_lt (p lo hi : List Int) (n : Nat) (hp : IsI p) (hq : IsI lo) (hr : IsI hi) (hn : n ≤ 8) : dbox p lo hi n < 147573952589676412928 := by
  have := sides_le (fun i => gap (p.getD i 0) (lo.getD i 0) (hi.getD i 0)) n (fun i _ => gap_lt (hp i) (hq i) (hr i))
  unfold dbox; omega

end Go.Proofs.Ytjdbpeblbejllaa
