/-
  No cell of these rows narrows 'for every input' (looked for: loops, veiled, ifaces, maps, wideKeys, modest, calm, conditions, laid).
  DERIVED. THE GIVEN ROWS OF THIS SEAT. 3 by the template 'for every input the law returns true; each argument reads behind the call as it read before'; 0 by the template 'total and deterministic' (their statements: YtbidoddghdbaoaaTotals.lean).
  GIVEN WITH THE SEED: the statements are not yours to turn. If you find one false, say at which input.
  Laid BY PROGRAM, IN A SANDBOX (cutbox-rows.mjs): the forced cells as the released guide's own fill.sh prints them over the translation 72337e812e09548f… (all of the seat's roots in one cut). By AI agents, Wed Nov 11 2026. No macro, syntax, notation, axiom, sorry.
-/
import Derived.Test.YtbidoddghdbaoaaChecked
import GoSem.Claim
import GoSem.ClaimJoined
import GoSem.ClaimMapViews
import Derived.JoinedTies
import Derived.KernelRfl
namespace Go.Proofs.Ytbidoddghdbaoaa
/- THE CELL 'sum', in the pinned program and in every row, IS THE sha256 OF THE DUMP (.gsa) THAT YtbidoddghdbaoaaProg.lean LOADS. Nothing in Lean hashes anything: it is a label: what it is worth is what the hold of that sum in a sandbox is worth. -/
noncomputable def Try.pinned : Pinned := { name := "ytbidoddghdbaoaa", sum := "72337e812e09548f15e974b7e22834a18fe9f95e7573af1bf3c914a54f1f4ffc", checked := Try.checked }
namespace Rows
def none {H : Type} : Left H := { results := [], args := [] }

/-- 'indenturelaw10.NodeHulls': WHATEVER THE INPUT: true; the input reads as it did. -/
def nodeHullsSpec : ChangeSpec := { name := "nodeHulls", fn := fun _ => fun
  | [d1, d2] => { results := [.lit (.bool true)], args := [d1, d2] }
  | _ => none }
def nodeHullsRow : OpenClaim := { program := "ytbidoddghdbaoaa", sum := "72337e812e09548f15e974b7e22834a18fe9f95e7573af1bf3c914a54f1f4ffc", func := "indenture/indenturelaw10.NodeHulls", spec := "nodeHulls", unfollowed := true, recurses := true, plainKeys := false, apart := false }
def NodeHullsSaid : Prop := nodeHullsRow.holds Try.pinned (OpenSpec.ofChange nodeHullsSpec)

/-- ITS FALSE NEIGHBOUR: 'it returns false'. Refute it at one input. -/
def nodeHullsWrong : ChangeSpec := { name := "nodeHulls", fn := fun _ => fun
  | [d1, d2] => { results := [.lit (.bool false)], args := [d1, d2] }
  | _ => none }
def NodeHullsWrongFalsely : Prop := nodeHullsRow.holds Try.pinned (OpenSpec.ofChange nodeHullsWrong)

/-- 'indenturelaw04.BoxSorts': WHATEVER THE INPUT: true; the input reads as it did. -/
def boxSortsSpec : ChangeSpec := { name := "boxSorts", fn := fun _ => fun
  | [d1, d2] => { results := [.lit (.bool true)], args := [d1, d2] }
  | _ => none }
def boxSortsRow : OpenClaim := { program := "ytbidoddghdbaoaa", sum := "72337e812e09548f15e974b7e22834a18fe9f95e7573af1bf3c914a54f1f4ffc", func := "indenture/indenturelaw04.BoxSorts", spec := "boxSorts", inPlace := ["math/bits.Add64"], unfollowed := true, recurses := true, plainKeys := false, apart := false }
def BoxSortsSaid : Prop := boxSortsRow.holds Try.pinned (OpenSpec.ofChange boxSortsSpec)

/-- ITS FALSE NEIGHBOUR: 'it returns false'. Refute it at one input. -/
def boxSortsWrong : ChangeSpec := { name := "boxSorts", fn := fun _ => fun
  | [d1, d2] => { results := [.lit (.bool false)], args := [d1, d2] }
  | _ => none }
def BoxSortsWrongFalsely : Prop := boxSortsRow.holds Try.pinned (OpenSpec.ofChange boxSortsWrong)

/-- 'indenturelaw09.PagePlays': WHATEVER THE INPUT: true; the input reads as it did. -/
def pagePlaysSpec : ChangeSpec := { name := "pagePlays", fn := fun _ => fun
  | [d] => { results := [.lit (.bool true)], args := [d] }
  | _ => none }
def pagePlaysRow : OpenClaim := { program := "ytbidoddghdbaoaa", sum := "72337e812e09548f15e974b7e22834a18fe9f95e7573af1bf3c914a54f1f4ffc", func := "indenture/indenturelaw09.PagePlays", spec := "pagePlays", inPlace := ["internal/bytealg.Compare"], unfollowed := true, recurses := true, plainKeys := false, apart := false }
def PagePlaysSaid : Prop := pagePlaysRow.holds Try.pinned (OpenSpec.ofChange pagePlaysSpec)

/-- ITS FALSE NEIGHBOUR: 'it returns false'. Refute it at one input. -/
def pagePlaysWrong : ChangeSpec := { name := "pagePlays", fn := fun _ => fun
  | [d] => { results := [.lit (.bool false)], args := [d] }
  | _ => none }
def PagePlaysWrongFalsely : Prop := pagePlaysRow.holds Try.pinned (OpenSpec.ofChange pagePlaysWrong)

/- THE SECOND FORM. 'bulk': how many values and letters a reading holds, each counted each time it is reached (what is shared counts as often as it is met; a slice's spare places count too). A statement '..UptoSaid' is the law's where the arguments, and the package variables that the reading takes, are together of bulk at most 1048576: NARROWER than '..Said'. Prove '..Said' where nothing that the law and all that it calls make is longer than what came in: it says more and counts as full. Else prove '..UptoSaid'. A law counts once. -/
mutual
def uptoBulk {H : Type} : DataW H → Nat
  | .lit (.string bytes) => bytes.length + 1
  | .lit _ => 1
  | .nil => 1
  | .ptr d => uptoBulk d + 1
  | .slice elems spare => uptoBulkAll elems + uptoBulkAll spare + 1
  | .agg parts => uptoBulkAll parts + 1
  | .iface _ d => uptoBulk d + 1
  | .map entries => uptoBulkEntries entries + 1
  | .held _ => 1
def uptoBulkAll {H : Type} : List (DataW H) → Nat
  | [] => 0
  | d :: r => uptoBulk d + uptoBulkAll r
def uptoBulkEntries {H : Type} : List (Lit × DataW H) → Nat
  | [] => 0
  | x :: r => uptoBulkEntry x + uptoBulkEntries r
def uptoBulkEntry {H : Type} : Lit × DataW H → Nat
  | (.string bytes, d) => bytes.length + uptoBulk d + 1
  | (_, d) => uptoBulk d + 1
 end
def uptoSmall : (H : Type) → List (DataW H) → Bool := fun _ ds => decide (uptoBulkAll ds ≤ 1048576)
def OpenSpec.upto (s : _root_.Go.ChangeSpec) : _root_.Go.OpenSpec := { _root_.Go.OpenSpec.ofChange s with cond := some uptoSmall }

/-- 'indenturelaw10.NodeHulls', WHERE WHAT IT READS IS OF BULK AT MOST 1048576: true; the input reads as it did. -/
def nodeHullsUptoRow : OpenClaim := { program := "ytbidoddghdbaoaa", sum := "72337e812e09548f15e974b7e22834a18fe9f95e7573af1bf3c914a54f1f4ffc", func := "indenture/indenturelaw10.NodeHulls", spec := "nodeHulls", unfollowed := true, recurses := true, plainKeys := false, apart := false, narrowed := true }
def NodeHullsUptoSaid : Prop := nodeHullsUptoRow.holds Try.pinned (OpenSpec.upto nodeHullsSpec)

/-- 'indenturelaw04.BoxSorts', WHERE WHAT IT READS IS OF BULK AT MOST 1048576: true; the input reads as it did. -/
def boxSortsUptoRow : OpenClaim := { program := "ytbidoddghdbaoaa", sum := "72337e812e09548f15e974b7e22834a18fe9f95e7573af1bf3c914a54f1f4ffc", func := "indenture/indenturelaw04.BoxSorts", spec := "boxSorts", inPlace := ["math/bits.Add64"], unfollowed := true, recurses := true, plainKeys := false, apart := false, narrowed := true }
def BoxSortsUptoSaid : Prop := boxSortsUptoRow.holds Try.pinned (OpenSpec.upto boxSortsSpec)

/-- 'indenturelaw09.PagePlays', WHERE WHAT IT READS IS OF BULK AT MOST 1048576: true; the input reads as it did. -/
def pagePlaysUptoRow : OpenClaim := { program := "ytbidoddghdbaoaa", sum := "72337e812e09548f15e974b7e22834a18fe9f95e7573af1bf3c914a54f1f4ffc", func := "indenture/indenturelaw09.PagePlays", spec := "pagePlays", inPlace := ["internal/bytealg.Compare"], unfollowed := true, recurses := true, plainKeys := false, apart := false, narrowed := true }
def PagePlaysUptoSaid : Prop := pagePlaysUptoRow.holds Try.pinned (OpenSpec.upto pagePlaysSpec)

end Rows
end Go.Proofs.Ytbidoddghdbaoaa
