/-
  No cell of these rows narrows 'for every input' (looked for: loops, veiled, ifaces, maps, wideKeys, modest, calm, conditions, laid).
  DERIVED. THE GIVEN ROWS OF THIS SEAT. 11 by the template 'for every input the law returns true; each argument reads behind the call as it read before'; 0 by the template 'total and deterministic' (their statements: YtgcbodpjidoanaaTotals.lean).
  GIVEN WITH THE SEED: the statements are not yours to turn. If you find one false, say at which input.
  Laid BY PROGRAM, IN A SANDBOX (cutbox-rows.mjs): the forced cells as the released guide's own fill.sh prints them over the translation 3849489d3dbbdd23… (all of the seat's roots in one cut). By AI agents, Wed Nov 11 2026. No macro, syntax, notation, axiom, sorry.
-/
import Derived.Test.YtgcbodpjidoanaaChecked
import GoSem.Claim
import GoSem.ClaimJoined
import GoSem.ClaimMapViews
import Derived.JoinedTies
import Derived.KernelRfl
namespace Go.Proofs.Ytgcbodpjidoanaa
/- THE CELL 'sum', in the pinned program and in every row, IS THE sha256 OF THE DUMP (.gsa) THAT YtgcbodpjidoanaaProg.lean LOADS. Nothing in Lean hashes anything: it is a label: what it is worth is what the hold of that sum in a sandbox is worth. -/
noncomputable def Try.pinned : Pinned := { name := "ytgcbodpjidoanaa", sum := "3849489d3dbbdd23448cd249c4b2e8597ddef4d22ded3ccc10c2e6b40e46f9ed", checked := Try.checked }
namespace Rows
def none {H : Type} : Left H := { results := [], args := [] }

/-- 'indenturelaw10.NodeReads': WHATEVER THE INPUT: true; the input reads as it did. -/
def nodeReadsSpec : ChangeSpec := { name := "nodeReads", fn := fun _ => fun
  | [d1, d2] => { results := [.lit (.bool true)], args := [d1, d2] }
  | _ => none }
def nodeReadsRow : OpenClaim := { program := "ytgcbodpjidoanaa", sum := "3849489d3dbbdd23448cd249c4b2e8597ddef4d22ded3ccc10c2e6b40e46f9ed", func := "indenture/indenturelaw10.NodeReads", spec := "nodeReads", unfollowed := true, recurses := true, plainKeys := false, apart := false }
def NodeReadsSaid : Prop := nodeReadsRow.holds Try.pinned (OpenSpec.ofChange nodeReadsSpec)

/-- ITS FALSE NEIGHBOUR: 'it returns false'. Refute it at one input. -/
def nodeReadsWrong : ChangeSpec := { name := "nodeReads", fn := fun _ => fun
  | [d1, d2] => { results := [.lit (.bool false)], args := [d1, d2] }
  | _ => none }
def NodeReadsWrongFalsely : Prop := nodeReadsRow.holds Try.pinned (OpenSpec.ofChange nodeReadsWrong)

/-- 'indenturelaw10.NodeSays': WHATEVER THE INPUT: true; the input reads as it did. -/
def nodeSaysSpec : ChangeSpec := { name := "nodeSays", fn := fun _ => fun
  | [d1, d2, d3, d4] => { results := [.lit (.bool true)], args := [d1, d2, d3, d4] }
  | _ => none }
def nodeSaysRow : OpenClaim := { program := "ytgcbodpjidoanaa", sum := "3849489d3dbbdd23448cd249c4b2e8597ddef4d22ded3ccc10c2e6b40e46f9ed", func := "indenture/indenturelaw10.NodeSays", spec := "nodeSays", unfollowed := true, recurses := true, plainKeys := false, apart := false }
def NodeSaysSaid : Prop := nodeSaysRow.holds Try.pinned (OpenSpec.ofChange nodeSaysSpec)

/-- ITS FALSE NEIGHBOUR: 'it returns false'. Refute it at one input. -/
def nodeSaysWrong : ChangeSpec := { name := "nodeSays", fn := fun _ => fun
  | [d1, d2, d3, d4] => { results := [.lit (.bool false)], args := [d1, d2, d3, d4] }
  | _ => none }
def NodeSaysWrongFalsely : Prop := nodeSaysRow.holds Try.pinned (OpenSpec.ofChange nodeSaysWrong)

/-- 'indenturelaw10.NodeHulls': WHATEVER THE INPUT: true; the input reads as it did. -/
def nodeHullsSpec : ChangeSpec := { name := "nodeHulls", fn := fun _ => fun
  | [d1, d2] => { results := [.lit (.bool true)], args := [d1, d2] }
  | _ => none }
def nodeHullsRow : OpenClaim := { program := "ytgcbodpjidoanaa", sum := "3849489d3dbbdd23448cd249c4b2e8597ddef4d22ded3ccc10c2e6b40e46f9ed", func := "indenture/indenturelaw10.NodeHulls", spec := "nodeHulls", unfollowed := true, recurses := true, plainKeys := false, apart := false }
def NodeHullsSaid : Prop := nodeHullsRow.holds Try.pinned (OpenSpec.ofChange nodeHullsSpec)

/-- ITS FALSE NEIGHBOUR: 'it returns false'. Refute it at one input. -/
def nodeHullsWrong : ChangeSpec := { name := "nodeHulls", fn := fun _ => fun
  | [d1, d2] => { results := [.lit (.bool false)], args := [d1, d2] }
  | _ => none }
def NodeHullsWrongFalsely : Prop := nodeHullsRow.holds Try.pinned (OpenSpec.ofChange nodeHullsWrong)

/-- 'indenturelaw20.CatalogCols': WHATEVER THE INPUT: true; the input reads as it did. -/
def catalogColsSpec : ChangeSpec := { name := "catalogCols", fn := fun _ => fun
  | [d1, d2] => { results := [.lit (.bool true)], args := [d1, d2] }
  | _ => none }
def catalogColsRow : OpenClaim := { program := "ytgcbodpjidoanaa", sum := "3849489d3dbbdd23448cd249c4b2e8597ddef4d22ded3ccc10c2e6b40e46f9ed", func := "indenture/indenturelaw20.CatalogCols", spec := "catalogCols", inPlace := ["slices.overlaps[indenture/api.Table]"], unfollowed := true, recurses := true, plainKeys := false, apart := false }
def CatalogColsSaid : Prop := catalogColsRow.holds Try.pinned (OpenSpec.ofChange catalogColsSpec)

/-- ITS FALSE NEIGHBOUR: 'it returns false'. Refute it at one input. -/
def catalogColsWrong : ChangeSpec := { name := "catalogCols", fn := fun _ => fun
  | [d1, d2] => { results := [.lit (.bool false)], args := [d1, d2] }
  | _ => none }
def CatalogColsWrongFalsely : Prop := catalogColsRow.holds Try.pinned (OpenSpec.ofChange catalogColsWrong)

/-- 'indenturelaw20.CatalogTurns': WHATEVER THE INPUT: true; the input reads as it did. -/
def catalogTurnsSpec : ChangeSpec := { name := "catalogTurns", fn := fun _ => fun
  | [d1, d2, d3] => { results := [.lit (.bool true)], args := [d1, d2, d3] }
  | _ => none }
def catalogTurnsRow : OpenClaim := { program := "ytgcbodpjidoanaa", sum := "3849489d3dbbdd23448cd249c4b2e8597ddef4d22ded3ccc10c2e6b40e46f9ed", func := "indenture/indenturelaw20.CatalogTurns", spec := "catalogTurns", inPlace := ["slices.overlaps[indenture/api.Table]"], unfollowed := true, recurses := true, plainKeys := false, apart := false }
def CatalogTurnsSaid : Prop := catalogTurnsRow.holds Try.pinned (OpenSpec.ofChange catalogTurnsSpec)

/-- ITS FALSE NEIGHBOUR: 'it returns false'. Refute it at one input. -/
def catalogTurnsWrong : ChangeSpec := { name := "catalogTurns", fn := fun _ => fun
  | [d1, d2, d3] => { results := [.lit (.bool false)], args := [d1, d2, d3] }
  | _ => none }
def CatalogTurnsWrongFalsely : Prop := catalogTurnsRow.holds Try.pinned (OpenSpec.ofChange catalogTurnsWrong)

/-- 'indenturelaw20.CatalogReads': WHATEVER THE INPUT: true; the input reads as it did. -/
def catalogReadsSpec : ChangeSpec := { name := "catalogReads", fn := fun _ => fun
  | [d1, d2, d3, d4, d5] => { results := [.lit (.bool true)], args := [d1, d2, d3, d4, d5] }
  | _ => none }
def catalogReadsRow : OpenClaim := { program := "ytgcbodpjidoanaa", sum := "3849489d3dbbdd23448cd249c4b2e8597ddef4d22ded3ccc10c2e6b40e46f9ed", func := "indenture/indenturelaw20.CatalogReads", spec := "catalogReads", inPlace := ["slices.overlaps[indenture/api.Table]"], unfollowed := true, recurses := true, plainKeys := false, apart := false }
def CatalogReadsSaid : Prop := catalogReadsRow.holds Try.pinned (OpenSpec.ofChange catalogReadsSpec)

/-- ITS FALSE NEIGHBOUR: 'it returns false'. Refute it at one input. -/
def catalogReadsWrong : ChangeSpec := { name := "catalogReads", fn := fun _ => fun
  | [d1, d2, d3, d4, d5] => { results := [.lit (.bool false)], args := [d1, d2, d3, d4, d5] }
  | _ => none }
def CatalogReadsWrongFalsely : Prop := catalogReadsRow.holds Try.pinned (OpenSpec.ofChange catalogReadsWrong)

/-- 'indenturelaw20.CatalogBytes': WHATEVER THE INPUT: true; the input reads as it did. -/
def catalogBytesSpec : ChangeSpec := { name := "catalogBytes", fn := fun _ => fun
  | [d] => { results := [.lit (.bool true)], args := [d] }
  | _ => none }
def catalogBytesRow : OpenClaim := { program := "ytgcbodpjidoanaa", sum := "3849489d3dbbdd23448cd249c4b2e8597ddef4d22ded3ccc10c2e6b40e46f9ed", func := "indenture/indenturelaw20.CatalogBytes", spec := "catalogBytes", inPlace := ["slices.overlaps[indenture/api.Table]"], unfollowed := true, recurses := true, plainKeys := false, apart := false }
def CatalogBytesSaid : Prop := catalogBytesRow.holds Try.pinned (OpenSpec.ofChange catalogBytesSpec)

/-- ITS FALSE NEIGHBOUR: 'it returns false'. Refute it at one input. -/
def catalogBytesWrong : ChangeSpec := { name := "catalogBytes", fn := fun _ => fun
  | [d] => { results := [.lit (.bool false)], args := [d] }
  | _ => none }
def CatalogBytesWrongFalsely : Prop := catalogBytesRow.holds Try.pinned (OpenSpec.ofChange catalogBytesWrong)

/-- 'indenturelaw14.AskOf': WHATEVER THE INPUT: true; the input reads as it did. -/
def askOfSpec : ChangeSpec := { name := "askOf", fn := fun _ => fun
  | [d1, d2, d3] => { results := [.lit (.bool true)], args := [d1, d2, d3] }
  | _ => none }
def askOfRow : OpenClaim := { program := "ytgcbodpjidoanaa", sum := "3849489d3dbbdd23448cd249c4b2e8597ddef4d22ded3ccc10c2e6b40e46f9ed", func := "indenture/indenturelaw14.AskOf", spec := "askOf", inPlace := ["math/bits.Add64"], unfollowed := true, recurses := true, plainKeys := false, apart := false }
def AskOfSaid : Prop := askOfRow.holds Try.pinned (OpenSpec.ofChange askOfSpec)

/-- ITS FALSE NEIGHBOUR: 'it returns false'. Refute it at one input. -/
def askOfWrong : ChangeSpec := { name := "askOf", fn := fun _ => fun
  | [d1, d2, d3] => { results := [.lit (.bool false)], args := [d1, d2, d3] }
  | _ => none }
def AskOfWrongFalsely : Prop := askOfRow.holds Try.pinned (OpenSpec.ofChange askOfWrong)

/-- 'indenturelaw14.AskOpen': WHATEVER THE INPUT: true; the input reads as it did. -/
def askOpenSpec : ChangeSpec := { name := "askOpen", fn := fun _ => fun
  | [d1, d2, d3, d4] => { results := [.lit (.bool true)], args := [d1, d2, d3, d4] }
  | _ => none }
def askOpenRow : OpenClaim := { program := "ytgcbodpjidoanaa", sum := "3849489d3dbbdd23448cd249c4b2e8597ddef4d22ded3ccc10c2e6b40e46f9ed", func := "indenture/indenturelaw14.AskOpen", spec := "askOpen", inPlace := ["math/bits.Add64"], unfollowed := true, recurses := true, plainKeys := false, apart := false }
def AskOpenSaid : Prop := askOpenRow.holds Try.pinned (OpenSpec.ofChange askOpenSpec)

/-- ITS FALSE NEIGHBOUR: 'it returns false'. Refute it at one input. -/
def askOpenWrong : ChangeSpec := { name := "askOpen", fn := fun _ => fun
  | [d1, d2, d3, d4] => { results := [.lit (.bool false)], args := [d1, d2, d3, d4] }
  | _ => none }
def AskOpenWrongFalsely : Prop := askOpenRow.holds Try.pinned (OpenSpec.ofChange askOpenWrong)

/-- 'indenturelaw15.PruneDeep': WHATEVER THE INPUT: true; the input reads as it did. -/
def pruneDeepSpec : ChangeSpec := { name := "pruneDeep", fn := fun _ => fun
  | [d] => { results := [.lit (.bool true)], args := [d] }
  | _ => none }
def pruneDeepRow : OpenClaim := { program := "ytgcbodpjidoanaa", sum := "3849489d3dbbdd23448cd249c4b2e8597ddef4d22ded3ccc10c2e6b40e46f9ed", func := "indenture/indenturelaw15.PruneDeep", spec := "pruneDeep", unfollowed := true, recurses := true, plainKeys := false, apart := false }
def PruneDeepSaid : Prop := pruneDeepRow.holds Try.pinned (OpenSpec.ofChange pruneDeepSpec)

/-- ITS FALSE NEIGHBOUR: 'it returns false'. Refute it at one input. -/
def pruneDeepWrong : ChangeSpec := { name := "pruneDeep", fn := fun _ => fun
  | [d] => { results := [.lit (.bool false)], args := [d] }
  | _ => none }
def PruneDeepWrongFalsely : Prop := pruneDeepRow.holds Try.pinned (OpenSpec.ofChange pruneDeepWrong)

/-- 'indenturelaw25.BindOps': WHATEVER THE INPUT: true; the input reads as it did. -/
def bindOpsSpec : ChangeSpec := { name := "bindOps", fn := fun _ => fun
  | [d1, d2, d3] => { results := [.lit (.bool true)], args := [d1, d2, d3] }
  | _ => none }
def bindOpsRow : OpenClaim := { program := "ytgcbodpjidoanaa", sum := "3849489d3dbbdd23448cd249c4b2e8597ddef4d22ded3ccc10c2e6b40e46f9ed", func := "indenture/indenturelaw25.BindOps", spec := "bindOps", unfollowed := true, recurses := true, plainKeys := false, apart := false }
def BindOpsSaid : Prop := bindOpsRow.holds Try.pinned (OpenSpec.ofChange bindOpsSpec)

/-- ITS FALSE NEIGHBOUR: 'it returns false'. Refute it at one input. -/
def bindOpsWrong : ChangeSpec := { name := "bindOps", fn := fun _ => fun
  | [d1, d2, d3] => { results := [.lit (.bool false)], args := [d1, d2, d3] }
  | _ => none }
def BindOpsWrongFalsely : Prop := bindOpsRow.holds Try.pinned (OpenSpec.ofChange bindOpsWrong)

/- THE SECOND FORM. 'bulk': how many values and letters a reading holds, each counted each time it is reached (what is shared counts as often as it is met; a slice's spare places count too). A statement '..UptoSaid' is the law's where the arguments, and the package variables that the reading takes, are together of bulk at most 1048576: NARROWER than '..Said'. Prove '..Said' where nothing that the law and all that it calls make is longer than what came in: it says more and counts as full. Else prove '..UptoSaid'. A law counts once. -/
mutual
def uptoBulk {H : Type} : DataW H → Nat
  | .lit (.string bytes) => bytes.length + 1
  | .lit _ => 1
  | .nil => 1
  | .ptr d => uptoBulk d + 1
  | .slice elems spare => uptoBulkAll elems + uptoBulkAll spare + 1
  | .agg parts => uptoBulkAll parts + 1
  | .iface _ d => uptoBulk d + 1
  | .map entries => uptoBulkEntries entries + 1
  | .held _ => 1
def uptoBulkAll {H : Type} : List (DataW H) → Nat
  | [] => 0
  | d :: r => uptoBulk d + uptoBulkAll r
def uptoBulkEntries {H : Type} : List (Lit × DataW H) → Nat
  | [] => 0
  | x :: r => uptoBulkEntry x + uptoBulkEntries r
def uptoBulkEntry {H : Type} : Lit × DataW H → Nat
  | (.string bytes, d) => bytes.length + uptoBulk d + 1
  | (_, d) => uptoBulk d + 1
 end
def uptoSmall : (H : Type) → List (DataW H) → Bool := fun _ ds => decide (uptoBulkAll ds ≤ 1048576)
def OpenSpec.upto (s : _root_.Go.ChangeSpec) : _root_.Go.OpenSpec := { _root_.Go.OpenSpec.ofChange s with cond := some uptoSmall }

/-- 'indenturelaw10.NodeReads', WHERE WHAT IT READS IS OF BULK AT MOST 1048576: true; the input reads as it did. -/
def nodeReadsUptoRow : OpenClaim := { program := "ytgcbodpjidoanaa", sum := "3849489d3dbbdd23448cd249c4b2e8597ddef4d22ded3ccc10c2e6b40e46f9ed", func := "indenture/indenturelaw10.NodeReads", spec := "nodeReads", unfollowed := true, recurses := true, plainKeys := false, apart := false, narrowed := true }
def NodeReadsUptoSaid : Prop := nodeReadsUptoRow.holds Try.pinned (OpenSpec.upto nodeReadsSpec)

/-- 'indenturelaw10.NodeSays', WHERE WHAT IT READS IS OF BULK AT MOST 1048576: true; the input reads as it did. -/
def nodeSaysUptoRow : OpenClaim := { program := "ytgcbodpjidoanaa", sum := "3849489d3dbbdd23448cd249c4b2e8597ddef4d22ded3ccc10c2e6b40e46f9ed", func := "indenture/indenturelaw10.NodeSays", spec := "nodeSays", unfollowed := true, recurses := true, plainKeys := false, apart := false, narrowed := true }
def NodeSaysUptoSaid : Prop := nodeSaysUptoRow.holds Try.pinned (OpenSpec.upto nodeSaysSpec)

/-- 'indenturelaw10.NodeHulls', WHERE WHAT IT READS IS OF BULK AT MOST 1048576: true; the input reads as it did. -/
def nodeHullsUptoRow : OpenClaim := { program := "ytgcbodpjidoanaa", sum := "3849489d3dbbdd23448cd249c4b2e8597ddef4d22ded3ccc10c2e6b40e46f9ed", func := "indenture/indenturelaw10.NodeHulls", spec := "nodeHulls", unfollowed := true, recurses := true, plainKeys := false, apart := false, narrowed := true }
def NodeHullsUptoSaid : Prop := nodeHullsUptoRow.holds Try.pinned (OpenSpec.upto nodeHullsSpec)

/-- 'indenturelaw20.CatalogCols', WHERE WHAT IT READS IS OF BULK AT MOST 1048576: true; the input reads as it did. -/
def catalogColsUptoRow : OpenClaim := { program := "ytgcbodpjidoanaa", sum := "3849489d3dbbdd23448cd249c4b2e8597ddef4d22ded3ccc10c2e6b40e46f9ed", func := "indenture/indenturelaw20.CatalogCols", spec := "catalogCols", inPlace := ["slices.overlaps[indenture/api.Table]"], unfollowed := true, recurses := true, plainKeys := false, apart := false, narrowed := true }
def CatalogColsUptoSaid : Prop := catalogColsUptoRow.holds Try.pinned (OpenSpec.upto catalogColsSpec)

/-- 'indenturelaw20.CatalogTurns', WHERE WHAT IT READS IS OF BULK AT MOST 1048576: true; the input reads as it did. -/
def catalogTurnsUptoRow : OpenClaim := { program := "ytgcbodpjidoanaa", sum := "3849489d3dbbdd23448cd249c4b2e8597ddef4d22ded3ccc10c2e6b40e46f9ed", func := "indenture/indenturelaw20.CatalogTurns", spec := "catalogTurns", inPlace := ["slices.overlaps[indenture/api.Table]"], unfollowed := true, recurses := true, plainKeys := false, apart := false, narrowed := true }
def CatalogTurnsUptoSaid : Prop := catalogTurnsUptoRow.holds Try.pinned (OpenSpec.upto catalogTurnsSpec)

/-- 'indenturelaw20.CatalogReads', WHERE WHAT IT READS IS OF BULK AT MOST 1048576: true; the input reads as it did. -/
def catalogReadsUptoRow : OpenClaim := { program := "ytgcbodpjidoanaa", sum := "3849489d3dbbdd23448cd249c4b2e8597ddef4d22ded3ccc10c2e6b40e46f9ed", func := "indenture/indenturelaw20.CatalogReads", spec := "catalogReads", inPlace := ["slices.overlaps[indenture/api.Table]"], unfollowed := true, recurses := true, plainKeys := false, apart := false, narrowed := true }
def CatalogReadsUptoSaid : Prop := catalogReadsUptoRow.holds Try.pinned (OpenSpec.upto catalogReadsSpec)

/-- 'indenturelaw20.CatalogBytes', WHERE WHAT IT READS IS OF BULK AT MOST 1048576: true; the input reads as it did. -/
def catalogBytesUptoRow : OpenClaim := { program := "ytgcbodpjidoanaa", sum := "3849489d3dbbdd23448cd249c4b2e8597ddef4d22ded3ccc10c2e6b40e46f9ed", func := "indenture/indenturelaw20.CatalogBytes", spec := "catalogBytes", inPlace := ["slices.overlaps[indenture/api.Table]"], unfollowed := true, recurses := true, plainKeys := false, apart := false, narrowed := true }
def CatalogBytesUptoSaid : Prop := catalogBytesUptoRow.holds Try.pinned (OpenSpec.upto catalogBytesSpec)

/-- 'indenturelaw14.AskOf', WHERE WHAT IT READS IS OF BULK AT MOST 1048576: true; the input reads as it did. -/
def askOfUptoRow : OpenClaim := { program := "ytgcbodpjidoanaa", sum := "3849489d3dbbdd23448cd249c4b2e8597ddef4d22ded3ccc10c2e6b40e46f9ed", func := "indenture/indenturelaw14.AskOf", spec := "askOf", inPlace := ["math/bits.Add64"], unfollowed := true, recurses := true, plainKeys := false, apart := false, narrowed := true }
def AskOfUptoSaid : Prop := askOfUptoRow.holds Try.pinned (OpenSpec.upto askOfSpec)

/-- 'indenturelaw14.AskOpen', WHERE WHAT IT READS IS OF BULK AT MOST 1048576: true; the input reads as it did. -/
def askOpenUptoRow : OpenClaim := { program := "ytgcbodpjidoanaa", sum := "3849489d3dbbdd23448cd249c4b2e8597ddef4d22ded3ccc10c2e6b40e46f9ed", func := "indenture/indenturelaw14.AskOpen", spec := "askOpen", inPlace := ["math/bits.Add64"], unfollowed := true, recurses := true, plainKeys := false, apart := false, narrowed := true }
def AskOpenUptoSaid : Prop := askOpenUptoRow.holds Try.pinned (OpenSpec.upto askOpenSpec)

/-- 'indenturelaw15.PruneDeep', WHERE WHAT IT READS IS OF BULK AT MOST 1048576: true; the input reads as it did. -/
def pruneDeepUptoRow : OpenClaim := { program := "ytgcbodpjidoanaa", sum := "3849489d3dbbdd23448cd249c4b2e8597ddef4d22ded3ccc10c2e6b40e46f9ed", func := "indenture/indenturelaw15.PruneDeep", spec := "pruneDeep", unfollowed := true, recurses := true, plainKeys := false, apart := false, narrowed := true }
def PruneDeepUptoSaid : Prop := pruneDeepUptoRow.holds Try.pinned (OpenSpec.upto pruneDeepSpec)

/-- 'indenturelaw25.BindOps', WHERE WHAT IT READS IS OF BULK AT MOST 1048576: true; the input reads as it did. -/
def bindOpsUptoRow : OpenClaim := { program := "ytgcbodpjidoanaa", sum := "3849489d3dbbdd23448cd249c4b2e8597ddef4d22ded3ccc10c2e6b40e46f9ed", func := "indenture/indenturelaw25.BindOps", spec := "bindOps", unfollowed := true, recurses := true, plainKeys := false, apart := false, narrowed := true }
def BindOpsUptoSaid : Prop := bindOpsUptoRow.holds Try.pinned (OpenSpec.upto bindOpsSpec)

end Rows
end Go.Proofs.Ytgcbodpjidoanaa
