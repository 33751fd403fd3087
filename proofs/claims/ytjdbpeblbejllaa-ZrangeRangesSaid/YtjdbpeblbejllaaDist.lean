/- Contracts of package dist: Apart, Gap, Add, Sum, Cmp. -/
import Derived.Test.YtjdbpeblbejllaaProg
import Derived.Test.YtjdbpeblbejllaaMem
import Derived.Laws.Rows
import Derived.Laws.Externs
import Derived.Laws.StructEq
set_option linter.unusedVariables false
set_option linter.unusedSimpArgs false
namespace Go.Proofs.Ytjdbpeblbejllaa
open Go.RowKit

/-- how far two numbers are apart -/
def apart (a b : Int) : Nat := (a - b).natAbs
def gap (x lo hi : Int) : Nat := if x < lo then apart x lo else if hi < x then apart x hi else 0
/-- a distance's value: high and low word -/
def dvp (h l : Nat) : Value := .agg #[.int .u64 h, .int .u64 l]
def dv (D : Nat) : Value := dvp (D / 18446744073709551616) (D % 18446744073709551616)
def I64 (z : Int) : Prop := -9223372036854775808 ≤ z ∧ z ≤ 9223372036854775807
theorem apart_lt {a b : Int} (ha : I64 a) (hb : I64 b) : apart a b < 18446744073709551616 := by unfold apart I64 at *; omega
theorem gap_lt {x l h : Int} (hx : I64 x) (hl : I64 l) (hh : I64 h) : gap x l h < 18446744073709551616 := by
  unfold gap
  split
  · exact apart_lt hx hl
  · split
    · exact apart_lt hx hh
    · omega

end Go.Proofs.Ytjdbpeblbejllaa
