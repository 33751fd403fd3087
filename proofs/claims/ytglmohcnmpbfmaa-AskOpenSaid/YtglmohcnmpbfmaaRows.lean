/-
  No cell of these rows narrows 'for every input' (looked for: loops, veiled, ifaces, maps, wideKeys, modest, calm, conditions, laid).
  DERIVED. THE GIVEN ROWS OF THIS SEAT. 8 by the template 'for every input the law returns true; each argument reads behind the call as it read before'; 0 by the template 'total and deterministic' (their statements: YtglmohcnmpbfmaaTotals.lean).
  GIVEN WITH THE SEED: the statements are not yours to turn. If you find one false, say at which input.
  Laid BY PROGRAM, IN A SANDBOX (cutbox-rows.mjs): the forced cells as the released guide's own fill.sh prints them over the translation 15c9a137a35207b9… (all of the seat's roots in one cut). By AI agents, Wed Nov 11 2026. No macro, syntax, notation, axiom, sorry.
-/
import Derived.Test.YtglmohcnmpbfmaaChecked
import GoSem.Claim
import GoSem.ClaimJoined
import GoSem.ClaimMapViews
import Derived.JoinedTies
import Derived.KernelRfl
namespace Go.Proofs.Ytglmohcnmpbfmaa
/- THE CELL 'sum', in the pinned program and in every row, IS THE sha256 OF THE DUMP (.gsa) THAT YtglmohcnmpbfmaaProg.lean LOADS. Nothing in Lean hashes anything: it is a label: what it is worth is what the hold of that sum in a sandbox is worth. -/
noncomputable def Try.pinned : Pinned := { name := "ytglmohcnmpbfmaa", sum := "15c9a137a35207b965db9e21e2a135a0d80539699e6440b91e8b2cad230cb526", checked := Try.checked }
namespace Rows
def none {H : Type} : Left H := { results := [], args := [] }

/-- 'indenturelaw10.NodeHulls': WHATEVER THE INPUT: true; the input reads as it did. -/
def nodeHullsSpec : ChangeSpec := { name := "nodeHulls", fn := fun _ => fun
  | [d1, d2] => { results := [.lit (.bool true)], args := [d1, d2] }
  | _ => none }
def nodeHullsRow : OpenClaim := { program := "ytglmohcnmpbfmaa", sum := "15c9a137a35207b965db9e21e2a135a0d80539699e6440b91e8b2cad230cb526", func := "indenture/indenturelaw10.NodeHulls", spec := "nodeHulls", unfollowed := true, recurses := true, plainKeys := false, apart := false }
def NodeHullsSaid : Prop := nodeHullsRow.holds Try.pinned (OpenSpec.ofChange nodeHullsSpec)

/-- ITS FALSE NEIGHBOUR: 'it returns false'. Refute it at one input. -/
def nodeHullsWrong : ChangeSpec := { name := "nodeHulls", fn := fun _ => fun
  | [d1, d2] => { results := [.lit (.bool false)], args := [d1, d2] }
  | _ => none }
def NodeHullsWrongFalsely : Prop := nodeHullsRow.holds Try.pinned (OpenSpec.ofChange nodeHullsWrong)

/-- 'indenturelaw20.CatalogTurns': WHATEVER THE INPUT: true; the input reads as it did. -/
def catalogTurnsSpec : ChangeSpec := { name := "catalogTurns", fn := fun _ => fun
  | [d1, d2, d3] => { results := [.lit (.bool true)], args := [d1, d2, d3] }
  | _ => none }
def catalogTurnsRow : OpenClaim := { program := "ytglmohcnmpbfmaa", sum := "15c9a137a35207b965db9e21e2a135a0d80539699e6440b91e8b2cad230cb526", func := "indenture/indenturelaw20.CatalogTurns", spec := "catalogTurns", inPlace := ["slices.overlaps[indenture/api.Table]"], unfollowed := true, recurses := true, plainKeys := false, apart := false }
def CatalogTurnsSaid : Prop := catalogTurnsRow.holds Try.pinned (OpenSpec.ofChange catalogTurnsSpec)

/-- ITS FALSE NEIGHBOUR: 'it returns false'. Refute it at one input. -/
def catalogTurnsWrong : ChangeSpec := { name := "catalogTurns", fn := fun _ => fun
  | [d1, d2, d3] => { results := [.lit (.bool false)], args := [d1, d2, d3] }
  | _ => none }
def CatalogTurnsWrongFalsely : Prop := catalogTurnsRow.holds Try.pinned (OpenSpec.ofChange catalogTurnsWrong)

/-- 'indenturelaw14.AskOf': WHATEVER THE INPUT: true; the input reads as it did. -/
def askOfSpec : ChangeSpec := { name := "askOf", fn := fun _ => fun
  | [d1, d2, d3] => { results := [.lit (.bool true)], args := [d1, d2, d3] }
  | _ => none }
def askOfRow : OpenClaim := { program := "ytglmohcnmpbfmaa", sum := "15c9a137a35207b965db9e21e2a135a0d80539699e6440b91e8b2cad230cb526", func := "indenture/indenturelaw14.AskOf", spec := "askOf", inPlace := ["math/bits.Add64"], unfollowed := true, recurses := true, plainKeys := false, apart := false }
def AskOfSaid : Prop := askOfRow.holds Try.pinned (OpenSpec.ofChange askOfSpec)

/-- ITS FALSE NEIGHBOUR: 'it returns false'. Refute it at one input. -/
def askOfWrong : ChangeSpec := { name := "askOf", fn := fun _ => fun
  | [d1, d2, d3] => { results := [.lit (.bool false)], args := [d1, d2, d3] }
  | _ => none }
def AskOfWrongFalsely : Prop := askOfRow.holds Try.pinned (OpenSpec.ofChange askOfWrong)

/-- 'indenturelaw14.AskOpen': WHATEVER THE INPUT: true; the input reads as it did. -/
def askOpenSpec : ChangeSpec := { name := "askOpen", fn := fun _ => fun
  | [d1, d2, d3, d4] => { results := [.lit (.bool true)], args := [d1, d2, d3, d4] }
  | _ => none }
def askOpenRow : OpenClaim := { program := "ytglmohcnmpbfmaa", sum := "15c9a137a35207b965db9e21e2a135a0d80539699e6440b91e8b2cad230cb526", func := "indenture/indenturelaw14.AskOpen", spec := "askOpen", inPlace := ["math/bits.Add64"], unfollowed := true, recurses := true, plainKeys := false, apart := false }
def AskOpenSaid : Prop := askOpenRow.holds Try.pinned (OpenSpec.ofChange askOpenSpec)

/-- ITS FALSE NEIGHBOUR: 'it returns false'. Refute it at one input. -/
def askOpenWrong : ChangeSpec := { name := "askOpen", fn := fun _ => fun
  | [d1, d2, d3, d4] => { results := [.lit (.bool false)], args := [d1, d2, d3, d4] }
  | _ => none }
def AskOpenWrongFalsely : Prop := askOpenRow.holds Try.pinned (OpenSpec.ofChange askOpenWrong)

/-- 'indenturelaw15.PruneDeep': WHATEVER THE INPUT: true; the input reads as it did. -/
def pruneDeepSpec : ChangeSpec := { name := "pruneDeep", fn := fun _ => fun
  | [d] => { results := [.lit (.bool true)], args := [d] }
  | _ => none }
def pruneDeepRow : OpenClaim := { program := "ytglmohcnmpbfmaa", sum := "15c9a137a35207b965db9e21e2a135a0d80539699e6440b91e8b2cad230cb526", func := "indenture/indenturelaw15.PruneDeep", spec := "pruneDeep", unfollowed := true, recurses := true, plainKeys := false, apart := false }
def PruneDeepSaid : Prop := pruneDeepRow.holds Try.pinned (OpenSpec.ofChange pruneDeepSpec)

/-- ITS FALSE NEIGHBOUR: 'it returns false'. Refute it at one input. -/
def pruneDeepWrong : ChangeSpec := { name := "pruneDeep", fn := fun _ => fun
  | [d] => { results := [.lit (.bool false)], args := [d] }
  | _ => none }
def PruneDeepWrongFalsely : Prop := pruneDeepRow.holds Try.pinned (OpenSpec.ofChange pruneDeepWrong)

/-- 'indenturelaw25.BindOps': WHATEVER THE INPUT: true; the input reads as it did. -/
def bindOpsSpec : ChangeSpec := { name := "bindOps", fn := fun _ => fun
  | [d1, d2, d3] => { results := [.lit (.bool true)], args := [d1, d2, d3] }
  | _ => none }
def bindOpsRow : OpenClaim := { program := "ytglmohcnmpbfmaa", sum := "15c9a137a35207b965db9e21e2a135a0d80539699e6440b91e8b2cad230cb526", func := "indenture/indenturelaw25.BindOps", spec := "bindOps", unfollowed := true, recurses := true, plainKeys := false, apart := false }
def BindOpsSaid : Prop := bindOpsRow.holds Try.pinned (OpenSpec.ofChange bindOpsSpec)

/-- ITS FALSE NEIGHBOUR: 'it returns false'. Refute it at one input. -/
def bindOpsWrong : ChangeSpec := { name := "bindOps", fn := fun _ => fun
  | [d1, d2, d3] => { results := [.lit (.bool false)], args := [d1, d2, d3] }
  | _ => none }
def BindOpsWrongFalsely : Prop := bindOpsRow.holds Try.pinned (OpenSpec.ofChange bindOpsWrong)

/-- 'indenturelaw04.BoxSorts': WHATEVER THE INPUT: true; the input reads as it did. -/
def boxSortsSpec : ChangeSpec := { name := "boxSorts", fn := fun _ => fun
  | [d1, d2] => { results := [.lit (.bool true)], args := [d1, d2] }
  | _ => none }
def boxSortsRow : OpenClaim := { program := "ytglmohcnmpbfmaa", sum := "15c9a137a35207b965db9e21e2a135a0d80539699e6440b91e8b2cad230cb526", func := "indenture/indenturelaw04.BoxSorts", spec := "boxSorts", inPlace := ["math/bits.Add64"], unfollowed := true, recurses := true, plainKeys := false, apart := false }
def BoxSortsSaid : Prop := boxSortsRow.holds Try.pinned (OpenSpec.ofChange boxSortsSpec)

/-- ITS FALSE NEIGHBOUR: 'it returns false'. Refute it at one input. -/
def boxSortsWrong : ChangeSpec := { name := "boxSorts", fn := fun _ => fun
  | [d1, d2] => { results := [.lit (.bool false)], args := [d1, d2] }
  | _ => none }
def BoxSortsWrongFalsely : Prop := boxSortsRow.holds Try.pinned (OpenSpec.ofChange boxSortsWrong)

/-- 'indenturelaw09.PagePlays': WHATEVER THE INPUT: true; the input reads as it did. -/
def pagePlaysSpec : ChangeSpec := { name := "pagePlays", fn := fun _ => fun
  | [d] => { results := [.lit (.bool true)], args := [d] }
  | _ => none }
def pagePlaysRow : OpenClaim := { program := "ytglmohcnmpbfmaa", sum := "15c9a137a35207b965db9e21e2a135a0d80539699e6440b91e8b2cad230cb526", func := "indenture/indenturelaw09.PagePlays", spec := "pagePlays", inPlace := ["internal/bytealg.Compare"], unfollowed := true, recurses := true, plainKeys := false, apart := false }
def PagePlaysSaid : Prop := pagePlaysRow.holds Try.pinned (OpenSpec.ofChange pagePlaysSpec)

/-- ITS FALSE NEIGHBOUR: 'it returns false'. Refute it at one input. -/
def pagePlaysWrong : ChangeSpec := { name := "pagePlays", fn := fun _ => fun
  | [d] => { results := [.lit (.bool false)], args := [d] }
  | _ => none }
def PagePlaysWrongFalsely : Prop := pagePlaysRow.holds Try.pinned (OpenSpec.ofChange pagePlaysWrong)

/- THE SECOND FORM. 'bulk': how many values and letters a reading holds, each counted each time it is reached (what is shared counts as often as it is met; a slice's spare places count too). A statement '..UptoSaid' is the law's where the arguments, and the package variables that the reading takes, are together of bulk at most 1048576: NARROWER than '..Said'. Prove '..Said' where nothing that the law and all that it calls make is longer than what came in: it says more and counts as full. Else prove '..UptoSaid'. A law counts once. -/
mutual
def uptoBulk {H : Type} : DataW H → Nat
  | .lit (.string bytes) => bytes.length + 1
  | .lit _ => 1
  | .nil => 1
  | .ptr d => uptoBulk d + 1
  | .slice elems spare => uptoBulkAll elems + uptoBulkAll spare + 1
  | .agg parts => uptoBulkAll parts + 1
  | .iface _ d => uptoBulk d + 1
  | .map entries => uptoBulkEntries entries + 1
  | .held _ => 1
def uptoBulkAll {H : Type} : List (DataW H) → Nat
  | [] => 0
  | d :: r => uptoBulk d + uptoBulkAll r
def uptoBulkEntries {H : Type} : List (Lit × DataW H) → Nat
  | [] => 0
  | x :: r => uptoBulkEntry x + uptoBulkEntries r
def uptoBulkEntry {H : Type} : Lit × DataW H → Nat
  | (.string bytes, d) => bytes.length + uptoBulk d + 1
  | (_, d) => uptoBulk d + 1
 end
def uptoSmall : (H : Type) → List (DataW H) → Bool := fun _ ds => decide (uptoBulkAll ds ≤ 1048576)
def OpenSpec.upto (s : _root_.Go.ChangeSpec) : _root_.Go.OpenSpec := { _root_.Go.OpenSpec.ofChange s with cond := some uptoSmall }

/-- 'indenturelaw10.NodeHulls', WHERE WHAT IT READS IS OF BULK AT MOST 1048576: true; the input reads as it did. -/
def nodeHullsUptoRow : OpenClaim := { program := "ytglmohcnmpbfmaa", sum := "15c9a137a35207b965db9e21e2a135a0d80539699e6440b91e8b2cad230cb526", func := "indenture/indenturelaw10.NodeHulls", spec := "nodeHulls", unfollowed := true, recurses := true, plainKeys := false, apart := false, narrowed := true }
def NodeHullsUptoSaid : Prop := nodeHullsUptoRow.holds Try.pinned (OpenSpec.upto nodeHullsSpec)

/-- 'indenturelaw20.CatalogTurns', WHERE WHAT IT READS IS OF BULK AT MOST 1048576: true; the input reads as it did. -/
def catalogTurnsUptoRow : OpenClaim := { program := "ytglmohcnmpbfmaa", sum := "15c9a137a35207b965db9e21e2a135a0d80539699e6440b91e8b2cad230cb526", func := "indenture/indenturelaw20.CatalogTurns", spec := "catalogTurns", inPlace := ["slices.overlaps[indenture/api.Table]"], unfollowed := true, recurses := true, plainKeys := false, apart := false, narrowed := true }
def CatalogTurnsUptoSaid : Prop := catalogTurnsUptoRow.holds Try.pinned (OpenSpec.upto catalogTurnsSpec)

/-- 'indenturelaw14.AskOf', WHERE WHAT IT READS IS OF BULK AT MOST 1048576: true; the input reads as it did. -/
def askOfUptoRow : OpenClaim := { program := "ytglmohcnmpbfmaa", sum := "15c9a137a35207b965db9e21e2a135a0d80539699e6440b91e8b2cad230cb526", func := "indenture/indenturelaw14.AskOf", spec := "askOf", inPlace := ["math/bits.Add64"], unfollowed := true, recurses := true, plainKeys := false, apart := false, narrowed := true }
def AskOfUptoSaid : Prop := askOfUptoRow.holds Try.pinned (OpenSpec.upto askOfSpec)

/-- 'indenturelaw14.AskOpen', WHERE WHAT IT READS IS OF BULK AT MOST 1048576: true; the input reads as it did. -/
def askOpenUptoRow : OpenClaim := { program := "ytglmohcnmpbfmaa", sum := "15c9a137a35207b965db9e21e2a135a0d80539699e6440b91e8b2cad230cb526", func := "indenture/indenturelaw14.AskOpen", spec := "askOpen", inPlace := ["math/bits.Add64"], unfollowed := true, recurses := true, plainKeys := false, apart := false, narrowed := true }
def AskOpenUptoSaid : Prop := askOpenUptoRow.holds Try.pinned (OpenSpec.upto askOpenSpec)

/-- 'indenturelaw15.PruneDeep', WHERE WHAT IT READS IS OF BULK AT MOST 1048576: true; the input reads as it did. -/
def pruneDeepUptoRow : OpenClaim := { program := "ytglmohcnmpbfmaa", sum := "15c9a137a35207b965db9e21e2a135a0d80539699e6440b91e8b2cad230cb526", func := "indenture/indenturelaw15.PruneDeep", spec := "pruneDeep", unfollowed := true, recurses := true, plainKeys := false, apart := false, narrowed := true }
def PruneDeepUptoSaid : Prop := pruneDeepUptoRow.holds Try.pinned (OpenSpec.upto pruneDeepSpec)

/-- 'indenturelaw25.BindOps', WHERE WHAT IT READS IS OF BULK AT MOST 1048576: true; the input reads as it did. -/
def bindOpsUptoRow : OpenClaim := { program := "ytglmohcnmpbfmaa", sum := "15c9a137a35207b965db9e21e2a135a0d80539699e6440b91e8b2cad230cb526", func := "indenture/indenturelaw25.BindOps", spec := "bindOps", unfollowed := true, recurses := true, plainKeys := false, apart := false, narrowed := true }
def BindOpsUptoSaid : Prop := bindOpsUptoRow.holds Try.pinned (OpenSpec.upto bindOpsSpec)

/-- 'indenturelaw04.BoxSorts', WHERE WHAT IT READS IS OF BULK AT MOST 1048576: true; the input reads as it did. -/
def boxSortsUptoRow : OpenClaim := { program := "ytglmohcnmpbfmaa", sum := "15c9a137a35207b965db9e21e2a135a0d80539699e6440b91e8b2cad230cb526", func := "indenture/indenturelaw04.BoxSorts", spec := "boxSorts", inPlace := ["math/bits.Add64"], unfollowed := true, recurses := true, plainKeys := false, apart := false, narrowed := true }
def BoxSortsUptoSaid : Prop := boxSortsUptoRow.holds Try.pinned (OpenSpec.upto boxSortsSpec)

/-- 'indenturelaw09.PagePlays', WHERE WHAT IT READS IS OF BULK AT MOST 1048576: true; the input reads as it did. -/
def pagePlaysUptoRow : OpenClaim := { program := "ytglmohcnmpbfmaa", sum := "15c9a137a35207b965db9e21e2a135a0d80539699e6440b91e8b2cad230cb526", func := "indenture/indenturelaw09.PagePlays", spec := "pagePlays", inPlace := ["internal/bytealg.Compare"], unfollowed := true, recurses := true, plainKeys := false, apart := false, narrowed := true }
def PagePlaysUptoSaid : Prop := pagePlaysUptoRow.holds Try.pinned (OpenSpec.upto pagePlaysSpec)

end Rows
end Go.Proofs.Ytglmohcnmpbfmaa
