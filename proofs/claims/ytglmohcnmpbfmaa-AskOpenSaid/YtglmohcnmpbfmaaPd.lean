/-
  Data: kids, entries, nodes, tables. No program in sight.
-/
set_option linter.unusedVariables false
namespace Go.Proofs.Ytglmohcnmpbfmaa
structure KidD where
  sum : List Nat
  lo : List Int
  hi : List Int
  live : Int
  size : Int
  key : List Int
deriving Inhabited, DecidableEq
structure TableD where
  name : ByteArray
  cols : List ByteArray
  kd : KidD
  zb : KidD
deriving Inhabited
structure EntD where
  row : List Int
  live : Bool
deriving Inhabited, DecidableEq
structure NodeD where
  kind : Nat
  rows : List EntD
  kids : List KidD
deriving Inhabited, DecidableEq
end Go.Proofs.Ytglmohcnmpbfmaa
