/-
  No cell of these rows narrows 'for every input' (looked for: loops, veiled, ifaces, maps, wideKeys, modest, calm, conditions, laid).
  DERIVED. THE GIVEN ROWS OF THIS SEAT. 9 by the template 'for every input the law returns true; each argument reads behind the call as it read before'; 0 by the template 'total and deterministic' (their statements: YtepmfbgmkfkmkaaTotals.lean).
  GIVEN WITH THE SEED: the statements are not yours to turn. If you find one false, say at which input.
  Laid BY PROGRAM, IN A SANDBOX (cutbox-rows.mjs): the forced cells as the released guide's own fill.sh prints them over the translation b6a78e6e96e239f2… (all of the seat's roots in one cut). By AI agents, Wed Nov 11 2026. No macro, syntax, notation, axiom, sorry.
-/
import Derived.Test.YtepmfbgmkfkmkaaChecked
import GoSem.Claim
import GoSem.ClaimJoined
import GoSem.ClaimMapViews
import Derived.JoinedTies
import Derived.KernelRfl
namespace Go.Proofs.Ytepmfbgmkfkmkaa
/- THE CELL 'sum', in the pinned program and in every row, IS THE sha256 OF THE DUMP (.gsa) THAT YtepmfbgmkfkmkaaProg.lean LOADS. Nothing in Lean hashes anything: it is a label: what it is worth is what the hold of that sum in a sandbox is worth. -/
noncomputable def Try.pinned : Pinned := { name := "ytepmfbgmkfkmkaa", sum := "b6a78e6e96e239f280ed9bcc4f293eaab23b400b14ff2561943c254ff6f54491", checked := Try.checked }
namespace Rows
def none {H : Type} : Left H := { results := [], args := [] }

/-- 'sandpilelaw13.TreeChecks': WHATEVER THE INPUT: true; the input reads as it did. -/
def treeChecksSpec : ChangeSpec := { name := "treeChecks", fn := fun _ => fun
  | [d1, d2] => { results := [.lit (.bool true)], args := [d1, d2] }
  | _ => none }
def treeChecksRow : OpenClaim := { program := "ytepmfbgmkfkmkaa", sum := "b6a78e6e96e239f280ed9bcc4f293eaab23b400b14ff2561943c254ff6f54491", func := "sandpile/sandpilelaw13.TreeChecks", spec := "treeChecks", unfollowed := true, recurses := true, apart := false }
def TreeChecksSaid : Prop := treeChecksRow.holds Try.pinned (OpenSpec.ofChange treeChecksSpec)

/-- ITS FALSE NEIGHBOUR: 'it returns false'. Refute it at one input. -/
def treeChecksWrong : ChangeSpec := { name := "treeChecks", fn := fun _ => fun
  | [d1, d2] => { results := [.lit (.bool false)], args := [d1, d2] }
  | _ => none }
def TreeChecksWrongFalsely : Prop := treeChecksRow.holds Try.pinned (OpenSpec.ofChange treeChecksWrong)

/-- 'sandpilelaw13.TreeWalks': WHATEVER THE INPUT: true; the input reads as it did. -/
def treeWalksSpec : ChangeSpec := { name := "treeWalks", fn := fun _ => fun
  | [d1, d2, d3] => { results := [.lit (.bool true)], args := [d1, d2, d3] }
  | _ => none }
def treeWalksRow : OpenClaim := { program := "ytepmfbgmkfkmkaa", sum := "b6a78e6e96e239f280ed9bcc4f293eaab23b400b14ff2561943c254ff6f54491", func := "sandpile/sandpilelaw13.TreeWalks", spec := "treeWalks", unfollowed := true, recurses := true, apart := false }
def TreeWalksSaid : Prop := treeWalksRow.holds Try.pinned (OpenSpec.ofChange treeWalksSpec)

/-- ITS FALSE NEIGHBOUR: 'it returns false'. Refute it at one input. -/
def treeWalksWrong : ChangeSpec := { name := "treeWalks", fn := fun _ => fun
  | [d1, d2, d3] => { results := [.lit (.bool false)], args := [d1, d2, d3] }
  | _ => none }
def TreeWalksWrongFalsely : Prop := treeWalksRow.holds Try.pinned (OpenSpec.ofChange treeWalksWrong)

/-- 'sandpilelaw13.TreeCycles': WHATEVER THE INPUT: true; the input reads as it did. -/
def treeCyclesSpec : ChangeSpec := { name := "treeCycles", fn := fun _ => fun
  | [d1, d2, d3] => { results := [.lit (.bool true)], args := [d1, d2, d3] }
  | _ => none }
def treeCyclesRow : OpenClaim := { program := "ytepmfbgmkfkmkaa", sum := "b6a78e6e96e239f280ed9bcc4f293eaab23b400b14ff2561943c254ff6f54491", func := "sandpile/sandpilelaw13.TreeCycles", spec := "treeCycles", unfollowed := true, recurses := true, apart := false }
def TreeCyclesSaid : Prop := treeCyclesRow.holds Try.pinned (OpenSpec.ofChange treeCyclesSpec)

/-- ITS FALSE NEIGHBOUR: 'it returns false'. Refute it at one input. -/
def treeCyclesWrong : ChangeSpec := { name := "treeCycles", fn := fun _ => fun
  | [d1, d2, d3] => { results := [.lit (.bool false)], args := [d1, d2, d3] }
  | _ => none }
def TreeCyclesWrongFalsely : Prop := treeCyclesRow.holds Try.pinned (OpenSpec.ofChange treeCyclesWrong)

/-- 'sandpilelaw13.TreeSwaps': WHATEVER THE INPUT: true; the input reads as it did. -/
def treeSwapsSpec : ChangeSpec := { name := "treeSwaps", fn := fun _ => fun
  | [d1, d2, d3] => { results := [.lit (.bool true)], args := [d1, d2, d3] }
  | _ => none }
def treeSwapsRow : OpenClaim := { program := "ytepmfbgmkfkmkaa", sum := "b6a78e6e96e239f280ed9bcc4f293eaab23b400b14ff2561943c254ff6f54491", func := "sandpile/sandpilelaw13.TreeSwaps", spec := "treeSwaps", unfollowed := true, recurses := true, apart := false }
def TreeSwapsSaid : Prop := treeSwapsRow.holds Try.pinned (OpenSpec.ofChange treeSwapsSpec)

/-- ITS FALSE NEIGHBOUR: 'it returns false'. Refute it at one input. -/
def treeSwapsWrong : ChangeSpec := { name := "treeSwaps", fn := fun _ => fun
  | [d1, d2, d3] => { results := [.lit (.bool false)], args := [d1, d2, d3] }
  | _ => none }
def TreeSwapsWrongFalsely : Prop := treeSwapsRow.holds Try.pinned (OpenSpec.ofChange treeSwapsWrong)

/-- 'sandpilelaw13.TreePaths': WHATEVER THE INPUT: true; the input reads as it did. -/
def treePathsSpec : ChangeSpec := { name := "treePaths", fn := fun _ => fun
  | [d1, d2, d3] => { results := [.lit (.bool true)], args := [d1, d2, d3] }
  | _ => none }
def treePathsRow : OpenClaim := { program := "ytepmfbgmkfkmkaa", sum := "b6a78e6e96e239f280ed9bcc4f293eaab23b400b14ff2561943c254ff6f54491", func := "sandpile/sandpilelaw13.TreePaths", spec := "treePaths", unfollowed := true, recurses := true, apart := false }
def TreePathsSaid : Prop := treePathsRow.holds Try.pinned (OpenSpec.ofChange treePathsSpec)

/-- ITS FALSE NEIGHBOUR: 'it returns false'. Refute it at one input. -/
def treePathsWrong : ChangeSpec := { name := "treePaths", fn := fun _ => fun
  | [d1, d2, d3] => { results := [.lit (.bool false)], args := [d1, d2, d3] }
  | _ => none }
def TreePathsWrongFalsely : Prop := treePathsRow.holds Try.pinned (OpenSpec.ofChange treePathsWrong)

/-- 'sandpilelaw13.TreeExchanges': WHATEVER THE INPUT: true; the input reads as it did. -/
def treeExchangesSpec : ChangeSpec := { name := "treeExchanges", fn := fun _ => fun
  | [d1, d2, d3] => { results := [.lit (.bool true)], args := [d1, d2, d3] }
  | _ => none }
def treeExchangesRow : OpenClaim := { program := "ytepmfbgmkfkmkaa", sum := "b6a78e6e96e239f280ed9bcc4f293eaab23b400b14ff2561943c254ff6f54491", func := "sandpile/sandpilelaw13.TreeExchanges", spec := "treeExchanges", unfollowed := true, recurses := true, apart := false }
def TreeExchangesSaid : Prop := treeExchangesRow.holds Try.pinned (OpenSpec.ofChange treeExchangesSpec)

/-- ITS FALSE NEIGHBOUR: 'it returns false'. Refute it at one input. -/
def treeExchangesWrong : ChangeSpec := { name := "treeExchanges", fn := fun _ => fun
  | [d1, d2, d3] => { results := [.lit (.bool false)], args := [d1, d2, d3] }
  | _ => none }
def TreeExchangesWrongFalsely : Prop := treeExchangesRow.holds Try.pinned (OpenSpec.ofChange treeExchangesWrong)

/-- 'sandpilelaw13.TreeDuals': WHATEVER THE INPUT: true; the input reads as it did. -/
def treeDualsSpec : ChangeSpec := { name := "treeDuals", fn := fun _ => fun
  | [d1, d2] => { results := [.lit (.bool true)], args := [d1, d2] }
  | _ => none }
def treeDualsRow : OpenClaim := { program := "ytepmfbgmkfkmkaa", sum := "b6a78e6e96e239f280ed9bcc4f293eaab23b400b14ff2561943c254ff6f54491", func := "sandpile/sandpilelaw13.TreeDuals", spec := "treeDuals", unfollowed := true, recurses := true, apart := false }
def TreeDualsSaid : Prop := treeDualsRow.holds Try.pinned (OpenSpec.ofChange treeDualsSpec)

/-- ITS FALSE NEIGHBOUR: 'it returns false'. Refute it at one input. -/
def treeDualsWrong : ChangeSpec := { name := "treeDuals", fn := fun _ => fun
  | [d1, d2] => { results := [.lit (.bool false)], args := [d1, d2] }
  | _ => none }
def TreeDualsWrongFalsely : Prop := treeDualsRow.holds Try.pinned (OpenSpec.ofChange treeDualsWrong)

/-- 'sandpilelaw13.TreeLists': WHATEVER THE INPUT: true; the input reads as it did. -/
def treeListsSpec : ChangeSpec := { name := "treeLists", fn := fun _ => fun
  | [d] => { results := [.lit (.bool true)], args := [d] }
  | _ => none }
def treeListsRow : OpenClaim := { program := "ytepmfbgmkfkmkaa", sum := "b6a78e6e96e239f280ed9bcc4f293eaab23b400b14ff2561943c254ff6f54491", func := "sandpile/sandpilelaw13.TreeLists", spec := "treeLists", unfollowed := true, recurses := true, apart := false }
def TreeListsSaid : Prop := treeListsRow.holds Try.pinned (OpenSpec.ofChange treeListsSpec)

/-- ITS FALSE NEIGHBOUR: 'it returns false'. Refute it at one input. -/
def treeListsWrong : ChangeSpec := { name := "treeLists", fn := fun _ => fun
  | [d] => { results := [.lit (.bool false)], args := [d] }
  | _ => none }
def TreeListsWrongFalsely : Prop := treeListsRow.holds Try.pinned (OpenSpec.ofChange treeListsWrong)

/-- 'sandpilelaw13.TreeDivides': WHATEVER THE INPUT: true; the input reads as it did. -/
def treeDividesSpec : ChangeSpec := { name := "treeDivides", fn := fun _ => fun
  | [d1, d2] => { results := [.lit (.bool true)], args := [d1, d2] }
  | _ => none }
def treeDividesRow : OpenClaim := { program := "ytepmfbgmkfkmkaa", sum := "b6a78e6e96e239f280ed9bcc4f293eaab23b400b14ff2561943c254ff6f54491", func := "sandpile/sandpilelaw13.TreeDivides", spec := "treeDivides", unfollowed := true, recurses := true, apart := false }
def TreeDividesSaid : Prop := treeDividesRow.holds Try.pinned (OpenSpec.ofChange treeDividesSpec)

/-- ITS FALSE NEIGHBOUR: 'it returns false'. Refute it at one input. -/
def treeDividesWrong : ChangeSpec := { name := "treeDivides", fn := fun _ => fun
  | [d1, d2] => { results := [.lit (.bool false)], args := [d1, d2] }
  | _ => none }
def TreeDividesWrongFalsely : Prop := treeDividesRow.holds Try.pinned (OpenSpec.ofChange treeDividesWrong)

/- THE SECOND FORM. 'bulk': how many values and letters a reading holds, each counted each time it is reached (what is shared counts as often as it is met; a slice's spare places count too). A statement '..UptoSaid' is the law's where the arguments, and the package variables that the reading takes, are together of bulk at most 1048576: NARROWER than '..Said'. Prove '..Said' where nothing that the law and all that it calls make is longer than what came in: it says more and counts as full. Else prove '..UptoSaid'. A law counts once. -/
mutual
def uptoBulk {H : Type} : DataW H → Nat
  | .lit (.string bytes) => bytes.length + 1
  | .lit _ => 1
  | .nil => 1
  | .ptr d => uptoBulk d + 1
  | .slice elems spare => uptoBulkAll elems + uptoBulkAll spare + 1
  | .agg parts => uptoBulkAll parts + 1
  | .iface _ d => uptoBulk d + 1
  | .map entries => uptoBulkEntries entries + 1
  | .held _ => 1
def uptoBulkAll {H : Type} : List (DataW H) → Nat
  | [] => 0
  | d :: r => uptoBulk d + uptoBulkAll r
def uptoBulkEntries {H : Type} : List (Lit × DataW H) → Nat
  | [] => 0
  | x :: r => uptoBulkEntry x + uptoBulkEntries r
def uptoBulkEntry {H : Type} : Lit × DataW H → Nat
  | (.string bytes, d) => bytes.length + uptoBulk d + 1
  | (_, d) => uptoBulk d + 1
 end
def uptoSmall : (H : Type) → List (DataW H) → Bool := fun _ ds => decide (uptoBulkAll ds ≤ 1048576)
def OpenSpec.upto (s : _root_.Go.ChangeSpec) : _root_.Go.OpenSpec := { _root_.Go.OpenSpec.ofChange s with cond := some uptoSmall }

/-- 'sandpilelaw13.TreeChecks', WHERE WHAT IT READS IS OF BULK AT MOST 1048576: true; the input reads as it did. -/
def treeChecksUptoRow : OpenClaim := { program := "ytepmfbgmkfkmkaa", sum := "b6a78e6e96e239f280ed9bcc4f293eaab23b400b14ff2561943c254ff6f54491", func := "sandpile/sandpilelaw13.TreeChecks", spec := "treeChecks", unfollowed := true, recurses := true, apart := false, narrowed := true }
def TreeChecksUptoSaid : Prop := treeChecksUptoRow.holds Try.pinned (OpenSpec.upto treeChecksSpec)

/-- 'sandpilelaw13.TreeWalks', WHERE WHAT IT READS IS OF BULK AT MOST 1048576: true; the input reads as it did. -/
def treeWalksUptoRow : OpenClaim := { program := "ytepmfbgmkfkmkaa", sum := "b6a78e6e96e239f280ed9bcc4f293eaab23b400b14ff2561943c254ff6f54491", func := "sandpile/sandpilelaw13.TreeWalks", spec := "treeWalks", unfollowed := true, recurses := true, apart := false, narrowed := true }
def TreeWalksUptoSaid : Prop := treeWalksUptoRow.holds Try.pinned (OpenSpec.upto treeWalksSpec)

/-- 'sandpilelaw13.TreeCycles', WHERE WHAT IT READS IS OF BULK AT MOST 1048576: true; the input reads as it did. -/
def treeCyclesUptoRow : OpenClaim := { program := "ytepmfbgmkfkmkaa", sum := "b6a78e6e96e239f280ed9bcc4f293eaab23b400b14ff2561943c254ff6f54491", func := "sandpile/sandpilelaw13.TreeCycles", spec := "treeCycles", unfollowed := true, recurses := true, apart := false, narrowed := true }
def TreeCyclesUptoSaid : Prop := treeCyclesUptoRow.holds Try.pinned (OpenSpec.upto treeCyclesSpec)

/-- 'sandpilelaw13.TreeSwaps', WHERE WHAT IT READS IS OF BULK AT MOST 1048576: true; the input reads as it did. -/
def treeSwapsUptoRow : OpenClaim := { program := "ytepmfbgmkfkmkaa", sum := "b6a78e6e96e239f280ed9bcc4f293eaab23b400b14ff2561943c254ff6f54491", func := "sandpile/sandpilelaw13.TreeSwaps", spec := "treeSwaps", unfollowed := true, recurses := true, apart := false, narrowed := true }
def TreeSwapsUptoSaid : Prop := treeSwapsUptoRow.holds Try.pinned (OpenSpec.upto treeSwapsSpec)

/-- 'sandpilelaw13.TreePaths', WHERE WHAT IT READS IS OF BULK AT MOST 1048576: true; the input reads as it did. -/
def treePathsUptoRow : OpenClaim := { program := "ytepmfbgmkfkmkaa", sum := "b6a78e6e96e239f280ed9bcc4f293eaab23b400b14ff2561943c254ff6f54491", func := "sandpile/sandpilelaw13.TreePaths", spec := "treePaths", unfollowed := true, recurses := true, apart := false, narrowed := true }
def TreePathsUptoSaid : Prop := treePathsUptoRow.holds Try.pinned (OpenSpec.upto treePathsSpec)

/-- 'sandpilelaw13.TreeExchanges', WHERE WHAT IT READS IS OF BULK AT MOST 1048576: true; the input reads as it did. -/
def treeExchangesUptoRow : OpenClaim := { program := "ytepmfbgmkfkmkaa", sum := "b6a78e6e96e239f280ed9bcc4f293eaab23b400b14ff2561943c254ff6f54491", func := "sandpile/sandpilelaw13.TreeExchanges", spec := "treeExchanges", unfollowed := true, recurses := true, apart := false, narrowed := true }
def TreeExchangesUptoSaid : Prop := treeExchangesUptoRow.holds Try.pinned (OpenSpec.upto treeExchangesSpec)

/-- 'sandpilelaw13.TreeDuals', WHERE WHAT IT READS IS OF BULK AT MOST 1048576: true; the input reads as it did. -/
def treeDualsUptoRow : OpenClaim := { program := "ytepmfbgmkfkmkaa", sum := "b6a78e6e96e239f280ed9bcc4f293eaab23b400b14ff2561943c254ff6f54491", func := "sandpile/sandpilelaw13.TreeDuals", spec := "treeDuals", unfollowed := true, recurses := true, apart := false, narrowed := true }
def TreeDualsUptoSaid : Prop := treeDualsUptoRow.holds Try.pinned (OpenSpec.upto treeDualsSpec)

/-- 'sandpilelaw13.TreeLists', WHERE WHAT IT READS IS OF BULK AT MOST 1048576: true; the input reads as it did. -/
def treeListsUptoRow : OpenClaim := { program := "ytepmfbgmkfkmkaa", sum := "b6a78e6e96e239f280ed9bcc4f293eaab23b400b14ff2561943c254ff6f54491", func := "sandpile/sandpilelaw13.TreeLists", spec := "treeLists", unfollowed := true, recurses := true, apart := false, narrowed := true }
def TreeListsUptoSaid : Prop := treeListsUptoRow.holds Try.pinned (OpenSpec.upto treeListsSpec)

/-- 'sandpilelaw13.TreeDivides', WHERE WHAT IT READS IS OF BULK AT MOST 1048576: true; the input reads as it did. -/
def treeDividesUptoRow : OpenClaim := { program := "ytepmfbgmkfkmkaa", sum := "b6a78e6e96e239f280ed9bcc4f293eaab23b400b14ff2561943c254ff6f54491", func := "sandpile/sandpilelaw13.TreeDivides", spec := "treeDivides", unfollowed := true, recurses := true, apart := false, narrowed := true }
def TreeDividesUptoSaid : Prop := treeDividesUptoRow.holds Try.pinned (OpenSpec.upto treeDividesSpec)

end Rows
end Go.Proofs.Ytepmfbgmkfkmkaa
