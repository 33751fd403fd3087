/-
  No cell of these rows narrows 'for every input' (looked for: loops, veiled, ifaces, maps, wideKeys, modest, calm, conditions, laid).
  DERIVED. THE GIVEN ROWS OF THIS SEAT. 9 by the template 'for every input the law returns true; each argument reads behind the call as it read before'; 0 by the template 'total and deterministic' (their statements: YtiicdnbhphgieaaTotals.lean).
  GIVEN WITH THE SEED: the statements are not yours to turn. If you find one false, say at which input.
  Laid BY PROGRAM, IN A SANDBOX (cutbox-rows.mjs): the forced cells as the released guide's own fill.sh prints them over the translation 4666c07b66b76275… (all of the seat's roots in one cut). By AI agents, Wed Nov 11 2026. No macro, syntax, notation, axiom, sorry.
-/
import Derived.Test.YtiicdnbhphgieaaChecked
import GoSem.Claim
import GoSem.ClaimJoined
import GoSem.ClaimMapViews
import Derived.JoinedTies
import Derived.KernelRfl
namespace Go.Proofs.Ytiicdnbhphgieaa
/- THE CELL 'sum', in the pinned program and in every row, IS THE sha256 OF THE DUMP (.gsa) THAT YtiicdnbhphgieaaProg.lean LOADS. Nothing in Lean hashes anything: it is a label: what it is worth is what the hold of that sum in a sandbox is worth. -/
noncomputable def Try.pinned : Pinned := { name := "ytiicdnbhphgieaa", sum := "4666c07b66b76275b045ed14f1d9a9c1cc7aacb68d8d6b6e352a2ba73462ab16", checked := Try.checked }
namespace Rows
def none {H : Type} : Left H := { results := [], args := [] }

/-- 'indenturelaw19.BlockOps': WHATEVER THE INPUT: true; the input reads as it did. -/
def blockOpsSpec : ChangeSpec := { name := "blockOps", fn := fun _ => fun
  | [d1, d2] => { results := [.lit (.bool true)], args := [d1, d2] }
  | _ => none }
def blockOpsRow : OpenClaim := { program := "ytiicdnbhphgieaa", sum := "4666c07b66b76275b045ed14f1d9a9c1cc7aacb68d8d6b6e352a2ba73462ab16", func := "indenture/indenturelaw19.BlockOps", spec := "blockOps", unfollowed := true, recurses := true, plainKeys := false, apart := false }
def BlockOpsSaid : Prop := blockOpsRow.holds Try.pinned (OpenSpec.ofChange blockOpsSpec)

/-- ITS FALSE NEIGHBOUR: 'it returns false'. Refute it at one input. -/
def blockOpsWrong : ChangeSpec := { name := "blockOps", fn := fun _ => fun
  | [d1, d2] => { results := [.lit (.bool false)], args := [d1, d2] }
  | _ => none }
def BlockOpsWrongFalsely : Prop := blockOpsRow.holds Try.pinned (OpenSpec.ofChange blockOpsWrong)

/-- 'indenturelaw19.BlockReads': WHATEVER THE INPUT: true; the input reads as it did. -/
def blockReadsSpec : ChangeSpec := { name := "blockReads", fn := fun _ => fun
  | [d] => { results := [.lit (.bool true)], args := [d] }
  | _ => none }
def blockReadsRow : OpenClaim := { program := "ytiicdnbhphgieaa", sum := "4666c07b66b76275b045ed14f1d9a9c1cc7aacb68d8d6b6e352a2ba73462ab16", func := "indenture/indenturelaw19.BlockReads", spec := "blockReads", unfollowed := true, recurses := true, plainKeys := false, apart := false }
def BlockReadsSaid : Prop := blockReadsRow.holds Try.pinned (OpenSpec.ofChange blockReadsSpec)

/-- ITS FALSE NEIGHBOUR: 'it returns false'. Refute it at one input. -/
def blockReadsWrong : ChangeSpec := { name := "blockReads", fn := fun _ => fun
  | [d] => { results := [.lit (.bool false)], args := [d] }
  | _ => none }
def BlockReadsWrongFalsely : Prop := blockReadsRow.holds Try.pinned (OpenSpec.ofChange blockReadsWrong)

/-- 'indenturelaw19.BlockBack': WHATEVER THE INPUT: true; the input reads as it did. -/
def blockBackSpec : ChangeSpec := { name := "blockBack", fn := fun _ => fun
  | [d1, d2, d3, d4] => { results := [.lit (.bool true)], args := [d1, d2, d3, d4] }
  | _ => none }
def blockBackRow : OpenClaim := { program := "ytiicdnbhphgieaa", sum := "4666c07b66b76275b045ed14f1d9a9c1cc7aacb68d8d6b6e352a2ba73462ab16", func := "indenture/indenturelaw19.BlockBack", spec := "blockBack", unfollowed := true, recurses := true, plainKeys := false, apart := false }
def BlockBackSaid : Prop := blockBackRow.holds Try.pinned (OpenSpec.ofChange blockBackSpec)

/-- ITS FALSE NEIGHBOUR: 'it returns false'. Refute it at one input. -/
def blockBackWrong : ChangeSpec := { name := "blockBack", fn := fun _ => fun
  | [d1, d2, d3, d4] => { results := [.lit (.bool false)], args := [d1, d2, d3, d4] }
  | _ => none }
def BlockBackWrongFalsely : Prop := blockBackRow.holds Try.pinned (OpenSpec.ofChange blockBackWrong)

/-- 'indenturelaw19.BlockSpoilt': WHATEVER THE INPUT: true; the input reads as it did. -/
def blockSpoiltSpec : ChangeSpec := { name := "blockSpoilt", fn := fun _ => fun
  | [d1, d2, d3, d4, d5] => { results := [.lit (.bool true)], args := [d1, d2, d3, d4, d5] }
  | _ => none }
def blockSpoiltRow : OpenClaim := { program := "ytiicdnbhphgieaa", sum := "4666c07b66b76275b045ed14f1d9a9c1cc7aacb68d8d6b6e352a2ba73462ab16", func := "indenture/indenturelaw19.BlockSpoilt", spec := "blockSpoilt", unfollowed := true, recurses := true, plainKeys := false, apart := false }
def BlockSpoiltSaid : Prop := blockSpoiltRow.holds Try.pinned (OpenSpec.ofChange blockSpoiltSpec)

/-- ITS FALSE NEIGHBOUR: 'it returns false'. Refute it at one input. -/
def blockSpoiltWrong : ChangeSpec := { name := "blockSpoilt", fn := fun _ => fun
  | [d1, d2, d3, d4, d5] => { results := [.lit (.bool false)], args := [d1, d2, d3, d4, d5] }
  | _ => none }
def BlockSpoiltWrongFalsely : Prop := blockSpoiltRow.holds Try.pinned (OpenSpec.ofChange blockSpoiltWrong)

/-- 'indenturelaw19.BlockDigests': WHATEVER THE INPUT: true; the input reads as it did. -/
def blockDigestsSpec : ChangeSpec := { name := "blockDigests", fn := fun _ => fun
  | [d1, d2] => { results := [.lit (.bool true)], args := [d1, d2] }
  | _ => none }
def blockDigestsRow : OpenClaim := { program := "ytiicdnbhphgieaa", sum := "4666c07b66b76275b045ed14f1d9a9c1cc7aacb68d8d6b6e352a2ba73462ab16", func := "indenture/indenturelaw19.BlockDigests", spec := "blockDigests", unfollowed := true, recurses := true, plainKeys := false, apart := false }
def BlockDigestsSaid : Prop := blockDigestsRow.holds Try.pinned (OpenSpec.ofChange blockDigestsSpec)

/-- ITS FALSE NEIGHBOUR: 'it returns false'. Refute it at one input. -/
def blockDigestsWrong : ChangeSpec := { name := "blockDigests", fn := fun _ => fun
  | [d1, d2] => { results := [.lit (.bool false)], args := [d1, d2] }
  | _ => none }
def BlockDigestsWrongFalsely : Prop := blockDigestsRow.holds Try.pinned (OpenSpec.ofChange blockDigestsWrong)

/-- 'indenturelaw19.BlockHeads': WHATEVER THE INPUT: true; the input reads as it did. -/
def blockHeadsSpec : ChangeSpec := { name := "blockHeads", fn := fun _ => fun
  | [d1, d2] => { results := [.lit (.bool true)], args := [d1, d2] }
  | _ => none }
def blockHeadsRow : OpenClaim := { program := "ytiicdnbhphgieaa", sum := "4666c07b66b76275b045ed14f1d9a9c1cc7aacb68d8d6b6e352a2ba73462ab16", func := "indenture/indenturelaw19.BlockHeads", spec := "blockHeads", unfollowed := true, recurses := true, plainKeys := false, apart := false }
def BlockHeadsSaid : Prop := blockHeadsRow.holds Try.pinned (OpenSpec.ofChange blockHeadsSpec)

/-- ITS FALSE NEIGHBOUR: 'it returns false'. Refute it at one input. -/
def blockHeadsWrong : ChangeSpec := { name := "blockHeads", fn := fun _ => fun
  | [d1, d2] => { results := [.lit (.bool false)], args := [d1, d2] }
  | _ => none }
def BlockHeadsWrongFalsely : Prop := blockHeadsRow.holds Try.pinned (OpenSpec.ofChange blockHeadsWrong)

/-- 'indenturelaw10.NodeReads': WHATEVER THE INPUT: true; the input reads as it did. -/
def nodeReadsSpec : ChangeSpec := { name := "nodeReads", fn := fun _ => fun
  | [d1, d2] => { results := [.lit (.bool true)], args := [d1, d2] }
  | _ => none }
def nodeReadsRow : OpenClaim := { program := "ytiicdnbhphgieaa", sum := "4666c07b66b76275b045ed14f1d9a9c1cc7aacb68d8d6b6e352a2ba73462ab16", func := "indenture/indenturelaw10.NodeReads", spec := "nodeReads", unfollowed := true, recurses := true, plainKeys := false, apart := false }
def NodeReadsSaid : Prop := nodeReadsRow.holds Try.pinned (OpenSpec.ofChange nodeReadsSpec)

/-- ITS FALSE NEIGHBOUR: 'it returns false'. Refute it at one input. -/
def nodeReadsWrong : ChangeSpec := { name := "nodeReads", fn := fun _ => fun
  | [d1, d2] => { results := [.lit (.bool false)], args := [d1, d2] }
  | _ => none }
def NodeReadsWrongFalsely : Prop := nodeReadsRow.holds Try.pinned (OpenSpec.ofChange nodeReadsWrong)

/-- 'indenturelaw10.NodeSays': WHATEVER THE INPUT: true; the input reads as it did. -/
def nodeSaysSpec : ChangeSpec := { name := "nodeSays", fn := fun _ => fun
  | [d1, d2, d3, d4] => { results := [.lit (.bool true)], args := [d1, d2, d3, d4] }
  | _ => none }
def nodeSaysRow : OpenClaim := { program := "ytiicdnbhphgieaa", sum := "4666c07b66b76275b045ed14f1d9a9c1cc7aacb68d8d6b6e352a2ba73462ab16", func := "indenture/indenturelaw10.NodeSays", spec := "nodeSays", unfollowed := true, recurses := true, plainKeys := false, apart := false }
def NodeSaysSaid : Prop := nodeSaysRow.holds Try.pinned (OpenSpec.ofChange nodeSaysSpec)

/-- ITS FALSE NEIGHBOUR: 'it returns false'. Refute it at one input. -/
def nodeSaysWrong : ChangeSpec := { name := "nodeSays", fn := fun _ => fun
  | [d1, d2, d3, d4] => { results := [.lit (.bool false)], args := [d1, d2, d3, d4] }
  | _ => none }
def NodeSaysWrongFalsely : Prop := nodeSaysRow.holds Try.pinned (OpenSpec.ofChange nodeSaysWrong)

/-- 'indenturelaw10.NodeHulls': WHATEVER THE INPUT: true; the input reads as it did. -/
def nodeHullsSpec : ChangeSpec := { name := "nodeHulls", fn := fun _ => fun
  | [d1, d2] => { results := [.lit (.bool true)], args := [d1, d2] }
  | _ => none }
def nodeHullsRow : OpenClaim := { program := "ytiicdnbhphgieaa", sum := "4666c07b66b76275b045ed14f1d9a9c1cc7aacb68d8d6b6e352a2ba73462ab16", func := "indenture/indenturelaw10.NodeHulls", spec := "nodeHulls", unfollowed := true, recurses := true, plainKeys := false, apart := false }
def NodeHullsSaid : Prop := nodeHullsRow.holds Try.pinned (OpenSpec.ofChange nodeHullsSpec)

/-- ITS FALSE NEIGHBOUR: 'it returns false'. Refute it at one input. -/
def nodeHullsWrong : ChangeSpec := { name := "nodeHulls", fn := fun _ => fun
  | [d1, d2] => { results := [.lit (.bool false)], args := [d1, d2] }
  | _ => none }
def NodeHullsWrongFalsely : Prop := nodeHullsRow.holds Try.pinned (OpenSpec.ofChange nodeHullsWrong)

/- THE SECOND FORM. 'bulk': how many values and letters a reading holds, each counted each time it is reached (what is shared counts as often as it is met; a slice's spare places count too). A statement '..UptoSaid' is the law's where the arguments, and the package variables that the reading takes, are together of bulk at most 1048576: NARROWER than '..Said'. Prove '..Said' where nothing that the law and all that it calls make is longer than what came in: it says more and counts as full. Else prove '..UptoSaid'. A law counts once. -/
mutual
def uptoBulk {H : Type} : DataW H → Nat
  | .lit (.string bytes) => bytes.length + 1
  | .lit _ => 1
  | .nil => 1
  | .ptr d => uptoBulk d + 1
  | .slice elems spare => uptoBulkAll elems + uptoBulkAll spare + 1
  | .agg parts => uptoBulkAll parts + 1
  | .iface _ d => uptoBulk d + 1
  | .map entries => uptoBulkEntries entries + 1
  | .held _ => 1
def uptoBulkAll {H : Type} : List (DataW H) → Nat
  | [] => 0
  | d :: r => uptoBulk d + uptoBulkAll r
def uptoBulkEntries {H : Type} : List (Lit × DataW H) → Nat
  | [] => 0
  | x :: r => uptoBulkEntry x + uptoBulkEntries r
def uptoBulkEntry {H : Type} : Lit × DataW H → Nat
  | (.string bytes, d) => bytes.length + uptoBulk d + 1
  | (_, d) => uptoBulk d + 1
 end
def uptoSmall : (H : Type) → List (DataW H) → Bool := fun _ ds => decide (uptoBulkAll ds ≤ 1048576)
def OpenSpec.upto (s : _root_.Go.ChangeSpec) : _root_.Go.OpenSpec := { _root_.Go.OpenSpec.ofChange s with cond := some uptoSmall }

/-- 'indenturelaw19.BlockOps', WHERE WHAT IT READS IS OF BULK AT MOST 1048576: true; the input reads as it did. -/
def blockOpsUptoRow : OpenClaim := { program := "ytiicdnbhphgieaa", sum := "4666c07b66b76275b045ed14f1d9a9c1cc7aacb68d8d6b6e352a2ba73462ab16", func := "indenture/indenturelaw19.BlockOps", spec := "blockOps", unfollowed := true, recurses := true, plainKeys := false, apart := false, narrowed := true }
def BlockOpsUptoSaid : Prop := blockOpsUptoRow.holds Try.pinned (OpenSpec.upto blockOpsSpec)

/-- 'indenturelaw19.BlockReads', WHERE WHAT IT READS IS OF BULK AT MOST 1048576: true; the input reads as it did. -/
def blockReadsUptoRow : OpenClaim := { program := "ytiicdnbhphgieaa", sum := "4666c07b66b76275b045ed14f1d9a9c1cc7aacb68d8d6b6e352a2ba73462ab16", func := "indenture/indenturelaw19.BlockReads", spec := "blockReads", unfollowed := true, recurses := true, plainKeys := false, apart := false, narrowed := true }
def BlockReadsUptoSaid : Prop := blockReadsUptoRow.holds Try.pinned (OpenSpec.upto blockReadsSpec)

/-- 'indenturelaw19.BlockBack', WHERE WHAT IT READS IS OF BULK AT MOST 1048576: true; the input reads as it did. -/
def blockBackUptoRow : OpenClaim := { program := "ytiicdnbhphgieaa", sum := "4666c07b66b76275b045ed14f1d9a9c1cc7aacb68d8d6b6e352a2ba73462ab16", func := "indenture/indenturelaw19.BlockBack", spec := "blockBack", unfollowed := true, recurses := true, plainKeys := false, apart := false, narrowed := true }
def BlockBackUptoSaid : Prop := blockBackUptoRow.holds Try.pinned (OpenSpec.upto blockBackSpec)

/-- 'indenturelaw19.BlockSpoilt', WHERE WHAT IT READS IS OF BULK AT MOST 1048576: true; the input reads as it did. -/
def blockSpoiltUptoRow : OpenClaim := { program := "ytiicdnbhphgieaa", sum := "4666c07b66b76275b045ed14f1d9a9c1cc7aacb68d8d6b6e352a2ba73462ab16", func := "indenture/indenturelaw19.BlockSpoilt", spec := "blockSpoilt", unfollowed := true, recurses := true, plainKeys := false, apart := false, narrowed := true }
def BlockSpoiltUptoSaid : Prop := blockSpoiltUptoRow.holds Try.pinned (OpenSpec.upto blockSpoiltSpec)

/-- 'indenturelaw19.BlockDigests', WHERE WHAT IT READS IS OF BULK AT MOST 1048576: true; the input reads as it did. -/
def blockDigestsUptoRow : OpenClaim := { program := "ytiicdnbhphgieaa", sum := "4666c07b66b76275b045ed14f1d9a9c1cc7aacb68d8d6b6e352a2ba73462ab16", func := "indenture/indenturelaw19.BlockDigests", spec := "blockDigests", unfollowed := true, recurses := true, plainKeys := false, apart := false, narrowed := true }
def BlockDigestsUptoSaid : Prop := blockDigestsUptoRow.holds Try.pinned (OpenSpec.upto blockDigestsSpec)

/-- 'indenturelaw19.BlockHeads', WHERE WHAT IT READS IS OF BULK AT MOST 1048576: true; the input reads as it did. -/
def blockHeadsUptoRow : OpenClaim := { program := "ytiicdnbhphgieaa", sum := "4666c07b66b76275b045ed14f1d9a9c1cc7aacb68d8d6b6e352a2ba73462ab16", func := "indenture/indenturelaw19.BlockHeads", spec := "blockHeads", unfollowed := true, recurses := true, plainKeys := false, apart := false, narrowed := true }
def BlockHeadsUptoSaid : Prop := blockHeadsUptoRow.holds Try.pinned (OpenSpec.upto blockHeadsSpec)

/-- 'indenturelaw10.NodeReads', WHERE WHAT IT READS IS OF BULK AT MOST 1048576: true; the input reads as it did. -/
def nodeReadsUptoRow : OpenClaim := { program := "ytiicdnbhphgieaa", sum := "4666c07b66b76275b045ed14f1d9a9c1cc7aacb68d8d6b6e352a2ba73462ab16", func := "indenture/indenturelaw10.NodeReads", spec := "nodeReads", unfollowed := true, recurses := true, plainKeys := false, apart := false, narrowed := true }
def NodeReadsUptoSaid : Prop := nodeReadsUptoRow.holds Try.pinned (OpenSpec.upto nodeReadsSpec)

/-- 'indenturelaw10.NodeSays', WHERE WHAT IT READS IS OF BULK AT MOST 1048576: true; the input reads as it did. -/
def nodeSaysUptoRow : OpenClaim := { program := "ytiicdnbhphgieaa", sum := "4666c07b66b76275b045ed14f1d9a9c1cc7aacb68d8d6b6e352a2ba73462ab16", func := "indenture/indenturelaw10.NodeSays", spec := "nodeSays", unfollowed := true, recurses := true, plainKeys := false, apart := false, narrowed := true }
def NodeSaysUptoSaid : Prop := nodeSaysUptoRow.holds Try.pinned (OpenSpec.upto nodeSaysSpec)

/-- 'indenturelaw10.NodeHulls', WHERE WHAT IT READS IS OF BULK AT MOST 1048576: true; the input reads as it did. -/
def nodeHullsUptoRow : OpenClaim := { program := "ytiicdnbhphgieaa", sum := "4666c07b66b76275b045ed14f1d9a9c1cc7aacb68d8d6b6e352a2ba73462ab16", func := "indenture/indenturelaw10.NodeHulls", spec := "nodeHulls", unfollowed := true, recurses := true, plainKeys := false, apart := false, narrowed := true }
def NodeHullsUptoSaid : Prop := nodeHullsUptoRow.holds Try.pinned (OpenSpec.upto nodeHullsSpec)

end Rows
end Go.Proofs.Ytiicdnbhphgieaa
