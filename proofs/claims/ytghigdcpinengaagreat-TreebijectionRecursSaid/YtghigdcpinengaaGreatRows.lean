/-
  No cell of these rows narrows 'for every input' (looked for: loops, veiled, ifaces, maps, wideKeys, modest, calm, conditions, laid).
  DERIVED. THE GIVEN ROWS OF THIS SEAT. 8 by the template 'for every input the law returns true; each argument reads behind the call as it read before'; 0 by the template 'total and deterministic' (their statements: YtghigdcpinengaaGreatTotals.lean).
  GIVEN WITH THE SEED: the statements are not yours to turn. If you find one false, say at which input.
  Laid BY PROGRAM, IN A SANDBOX (cutbox-rows.mjs): the forced cells as the released guide's own fill.sh prints them over the translation f3ed6836899f76a3… (all of the seat's roots in one cut). By AI agents, Wed Nov 11 2026. No macro, syntax, notation, axiom, sorry.
-/
import Derived.Test.YtghigdcpinengaaGreatChecked
import GoSem.Claim
import GoSem.ClaimJoined
import GoSem.ClaimMapViews
import Derived.JoinedTies
import Derived.KernelRfl
namespace Go.Proofs.YtghigdcpinengaaGreat
/- THE CELL 'sum', in the pinned program and in every row, IS THE sha256 OF THE DUMP (.gsa) THAT YtghigdcpinengaaGreatProg.lean LOADS. Nothing in Lean hashes anything: it is a label: what it is worth is what the hold of that sum in a sandbox is worth. -/
noncomputable def Tryz.pinned : Pinned := { name := "ytghigdcpinengaagreat", sum := "f3ed6836899f76a3de6915c667f5eea4be44cb20851ec96e945310b31e09ca01", checked := Tryz.checked }
namespace Rows
def none {H : Type} : Left H := { results := [], args := [] }

/-- 'sandpilelaw30.TreebijectionBurns': WHATEVER THE INPUT: true; the input reads as it did. -/
def treebijectionBurnsSpec : ChangeSpec := { name := "treebijectionBurns", fn := fun _ => fun
  | [d1, d2, d3] => { results := [.lit (.bool true)], args := [d1, d2, d3] }
  | _ => none }
def treebijectionBurnsRow : OpenClaim := { program := "ytghigdcpinengaagreat", sum := "f3ed6836899f76a3de6915c667f5eea4be44cb20851ec96e945310b31e09ca01", func := "sandpile/sandpilelaw30.TreebijectionBurns", spec := "treebijectionBurns", unfollowed := true, recurses := true, apart := false }
def TreebijectionBurnsSaid : Prop := treebijectionBurnsRow.holds Tryz.pinned (OpenSpec.ofChange treebijectionBurnsSpec)

/-- ITS FALSE NEIGHBOUR: 'it returns false'. Refute it at one input. -/
def treebijectionBurnsWrong : ChangeSpec := { name := "treebijectionBurns", fn := fun _ => fun
  | [d1, d2, d3] => { results := [.lit (.bool false)], args := [d1, d2, d3] }
  | _ => none }
def TreebijectionBurnsWrongFalsely : Prop := treebijectionBurnsRow.holds Tryz.pinned (OpenSpec.ofChange treebijectionBurnsWrong)

/-- 'sandpilelaw30.TreebijectionCounts': WHATEVER THE INPUT: true; the input reads as it did. -/
def treebijectionCountsSpec : ChangeSpec := { name := "treebijectionCounts", fn := fun _ => fun
  | [d1, d2, d3] => { results := [.lit (.bool true)], args := [d1, d2, d3] }
  | _ => none }
def treebijectionCountsRow : OpenClaim := { program := "ytghigdcpinengaagreat", sum := "f3ed6836899f76a3de6915c667f5eea4be44cb20851ec96e945310b31e09ca01", func := "sandpile/sandpilelaw30.TreebijectionCounts", spec := "treebijectionCounts", unfollowed := true, recurses := true, apart := false }
def TreebijectionCountsSaid : Prop := treebijectionCountsRow.holds Tryz.pinned (OpenSpec.ofChange treebijectionCountsSpec)

/-- ITS FALSE NEIGHBOUR: 'it returns false'. Refute it at one input. -/
def treebijectionCountsWrong : ChangeSpec := { name := "treebijectionCounts", fn := fun _ => fun
  | [d1, d2, d3] => { results := [.lit (.bool false)], args := [d1, d2, d3] }
  | _ => none }
def TreebijectionCountsWrongFalsely : Prop := treebijectionCountsRow.holds Tryz.pinned (OpenSpec.ofChange treebijectionCountsWrong)

/-- 'sandpilelaw30.TreebijectionReturns': WHATEVER THE INPUT: true; the input reads as it did. -/
def treebijectionReturnsSpec : ChangeSpec := { name := "treebijectionReturns", fn := fun _ => fun
  | [d1, d2, d3] => { results := [.lit (.bool true)], args := [d1, d2, d3] }
  | _ => none }
def treebijectionReturnsRow : OpenClaim := { program := "ytghigdcpinengaagreat", sum := "f3ed6836899f76a3de6915c667f5eea4be44cb20851ec96e945310b31e09ca01", func := "sandpile/sandpilelaw30.TreebijectionReturns", spec := "treebijectionReturns", unfollowed := true, recurses := true, apart := false }
def TreebijectionReturnsSaid : Prop := treebijectionReturnsRow.holds Tryz.pinned (OpenSpec.ofChange treebijectionReturnsSpec)

/-- ITS FALSE NEIGHBOUR: 'it returns false'. Refute it at one input. -/
def treebijectionReturnsWrong : ChangeSpec := { name := "treebijectionReturns", fn := fun _ => fun
  | [d1, d2, d3] => { results := [.lit (.bool false)], args := [d1, d2, d3] }
  | _ => none }
def TreebijectionReturnsWrongFalsely : Prop := treebijectionReturnsRow.holds Tryz.pinned (OpenSpec.ofChange treebijectionReturnsWrong)

/-- 'sandpilelaw30.TreebijectionUnused': WHATEVER THE INPUT: true; the input reads as it did. -/
def treebijectionUnusedSpec : ChangeSpec := { name := "treebijectionUnused", fn := fun _ => fun
  | [d1, d2, d3] => { results := [.lit (.bool true)], args := [d1, d2, d3] }
  | _ => none }
def treebijectionUnusedRow : OpenClaim := { program := "ytghigdcpinengaagreat", sum := "f3ed6836899f76a3de6915c667f5eea4be44cb20851ec96e945310b31e09ca01", func := "sandpile/sandpilelaw30.TreebijectionUnused", spec := "treebijectionUnused", unfollowed := true, recurses := true, apart := false }
def TreebijectionUnusedSaid : Prop := treebijectionUnusedRow.holds Tryz.pinned (OpenSpec.ofChange treebijectionUnusedSpec)

/-- ITS FALSE NEIGHBOUR: 'it returns false'. Refute it at one input. -/
def treebijectionUnusedWrong : ChangeSpec := { name := "treebijectionUnused", fn := fun _ => fun
  | [d1, d2, d3] => { results := [.lit (.bool false)], args := [d1, d2, d3] }
  | _ => none }
def TreebijectionUnusedWrongFalsely : Prop := treebijectionUnusedRow.holds Tryz.pinned (OpenSpec.ofChange treebijectionUnusedWrong)

/-- 'sandpilelaw30.TreebijectionGrows': WHATEVER THE INPUT: true; the input reads as it did. -/
def treebijectionGrowsSpec : ChangeSpec := { name := "treebijectionGrows", fn := fun _ => fun
  | [d1, d2, d3] => { results := [.lit (.bool true)], args := [d1, d2, d3] }
  | _ => none }
def treebijectionGrowsRow : OpenClaim := { program := "ytghigdcpinengaagreat", sum := "f3ed6836899f76a3de6915c667f5eea4be44cb20851ec96e945310b31e09ca01", func := "sandpile/sandpilelaw30.TreebijectionGrows", spec := "treebijectionGrows", unfollowed := true, recurses := true, apart := false }
def TreebijectionGrowsSaid : Prop := treebijectionGrowsRow.holds Tryz.pinned (OpenSpec.ofChange treebijectionGrowsSpec)

/-- ITS FALSE NEIGHBOUR: 'it returns false'. Refute it at one input. -/
def treebijectionGrowsWrong : ChangeSpec := { name := "treebijectionGrows", fn := fun _ => fun
  | [d1, d2, d3] => { results := [.lit (.bool false)], args := [d1, d2, d3] }
  | _ => none }
def TreebijectionGrowsWrongFalsely : Prop := treebijectionGrowsRow.holds Tryz.pinned (OpenSpec.ofChange treebijectionGrowsWrong)

/-- 'sandpilelaw30.TreebijectionLists': WHATEVER THE INPUT: true; the input reads as it did. -/
def treebijectionListsSpec : ChangeSpec := { name := "treebijectionLists", fn := fun _ => fun
  | [d1, d2] => { results := [.lit (.bool true)], args := [d1, d2] }
  | _ => none }
def treebijectionListsRow : OpenClaim := { program := "ytghigdcpinengaagreat", sum := "f3ed6836899f76a3de6915c667f5eea4be44cb20851ec96e945310b31e09ca01", func := "sandpile/sandpilelaw30.TreebijectionLists", spec := "treebijectionLists", unfollowed := true, recurses := true, apart := false }
def TreebijectionListsSaid : Prop := treebijectionListsRow.holds Tryz.pinned (OpenSpec.ofChange treebijectionListsSpec)

/-- ITS FALSE NEIGHBOUR: 'it returns false'. Refute it at one input. -/
def treebijectionListsWrong : ChangeSpec := { name := "treebijectionLists", fn := fun _ => fun
  | [d1, d2] => { results := [.lit (.bool false)], args := [d1, d2] }
  | _ => none }
def TreebijectionListsWrongFalsely : Prop := treebijectionListsRow.holds Tryz.pinned (OpenSpec.ofChange treebijectionListsWrong)

/-- 'sandpilelaw30.TreebijectionMatches': WHATEVER THE INPUT: true; the input reads as it did. -/
def treebijectionMatchesSpec : ChangeSpec := { name := "treebijectionMatches", fn := fun _ => fun
  | [d1, d2] => { results := [.lit (.bool true)], args := [d1, d2] }
  | _ => none }
def treebijectionMatchesRow : OpenClaim := { program := "ytghigdcpinengaagreat", sum := "f3ed6836899f76a3de6915c667f5eea4be44cb20851ec96e945310b31e09ca01", func := "sandpile/sandpilelaw30.TreebijectionMatches", spec := "treebijectionMatches", unfollowed := true, recurses := true, apart := false }
def TreebijectionMatchesSaid : Prop := treebijectionMatchesRow.holds Tryz.pinned (OpenSpec.ofChange treebijectionMatchesSpec)

/-- ITS FALSE NEIGHBOUR: 'it returns false'. Refute it at one input. -/
def treebijectionMatchesWrong : ChangeSpec := { name := "treebijectionMatches", fn := fun _ => fun
  | [d1, d2] => { results := [.lit (.bool false)], args := [d1, d2] }
  | _ => none }
def TreebijectionMatchesWrongFalsely : Prop := treebijectionMatchesRow.holds Tryz.pinned (OpenSpec.ofChange treebijectionMatchesWrong)

/-- 'sandpilelaw30.TreebijectionRecurs': WHATEVER THE INPUT: true; the input reads as it did. -/
def treebijectionRecursSpec : ChangeSpec := { name := "treebijectionRecurs", fn := fun _ => fun
  | [d1, d2] => { results := [.lit (.bool true)], args := [d1, d2] }
  | _ => none }
def treebijectionRecursRow : OpenClaim := { program := "ytghigdcpinengaagreat", sum := "f3ed6836899f76a3de6915c667f5eea4be44cb20851ec96e945310b31e09ca01", func := "sandpile/sandpilelaw30.TreebijectionRecurs", spec := "treebijectionRecurs", unfollowed := true, recurses := true, apart := false }
def TreebijectionRecursSaid : Prop := treebijectionRecursRow.holds Tryz.pinned (OpenSpec.ofChange treebijectionRecursSpec)

/-- ITS FALSE NEIGHBOUR: 'it returns false'. Refute it at one input. -/
def treebijectionRecursWrong : ChangeSpec := { name := "treebijectionRecurs", fn := fun _ => fun
  | [d1, d2] => { results := [.lit (.bool false)], args := [d1, d2] }
  | _ => none }
def TreebijectionRecursWrongFalsely : Prop := treebijectionRecursRow.holds Tryz.pinned (OpenSpec.ofChange treebijectionRecursWrong)

/- THE SECOND FORM. 'bulk': how many values and letters a reading holds, each counted each time it is reached (what is shared counts as often as it is met; a slice's spare places count too). A statement '..UptoSaid' is the law's where the arguments, and the package variables that the reading takes, are together of bulk at most 1048576: NARROWER than '..Said'. Prove '..Said' where nothing that the law and all that it calls make is longer than what came in: it says more and counts as full. Else prove '..UptoSaid'. A law counts once. -/
mutual
def uptoBulk {H : Type} : DataW H → Nat
  | .lit (.string bytes) => bytes.length + 1
  | .lit _ => 1
  | .nil => 1
  | .ptr d => uptoBulk d + 1
  | .slice elems spare => uptoBulkAll elems + uptoBulkAll spare + 1
  | .agg parts => uptoBulkAll parts + 1
  | .iface _ d => uptoBulk d + 1
  | .map entries => uptoBulkEntries entries + 1
  | .held _ => 1
def uptoBulkAll {H : Type} : List (DataW H) → Nat
  | [] => 0
  | d :: r => uptoBulk d + uptoBulkAll r
def uptoBulkEntries {H : Type} : List (Lit × DataW H) → Nat
  | [] => 0
  | x :: r => uptoBulkEntry x + uptoBulkEntries r
def uptoBulkEntry {H : Type} : Lit × DataW H → Nat
  | (.string bytes, d) => bytes.length + uptoBulk d + 1
  | (_, d) => uptoBulk d + 1
 end
def uptoSmall : (H : Type) → List (DataW H) → Bool := fun _ ds => decide (uptoBulkAll ds ≤ 1048576)
def OpenSpec.upto (s : _root_.Go.ChangeSpec) : _root_.Go.OpenSpec := { _root_.Go.OpenSpec.ofChange s with cond := some uptoSmall }

/-- 'sandpilelaw30.TreebijectionBurns', WHERE WHAT IT READS IS OF BULK AT MOST 1048576: true; the input reads as it did. -/
def treebijectionBurnsUptoRow : OpenClaim := { program := "ytghigdcpinengaagreat", sum := "f3ed6836899f76a3de6915c667f5eea4be44cb20851ec96e945310b31e09ca01", func := "sandpile/sandpilelaw30.TreebijectionBurns", spec := "treebijectionBurns", unfollowed := true, recurses := true, apart := false, narrowed := true }
def TreebijectionBurnsUptoSaid : Prop := treebijectionBurnsUptoRow.holds Tryz.pinned (OpenSpec.upto treebijectionBurnsSpec)

/-- 'sandpilelaw30.TreebijectionCounts', WHERE WHAT IT READS IS OF BULK AT MOST 1048576: true; the input reads as it did. -/
def treebijectionCountsUptoRow : OpenClaim := { program := "ytghigdcpinengaagreat", sum := "f3ed6836899f76a3de6915c667f5eea4be44cb20851ec96e945310b31e09ca01", func := "sandpile/sandpilelaw30.TreebijectionCounts", spec := "treebijectionCounts", unfollowed := true, recurses := true, apart := false, narrowed := true }
def TreebijectionCountsUptoSaid : Prop := treebijectionCountsUptoRow.holds Tryz.pinned (OpenSpec.upto treebijectionCountsSpec)

/-- 'sandpilelaw30.TreebijectionReturns', WHERE WHAT IT READS IS OF BULK AT MOST 1048576: true; the input reads as it did. -/
def treebijectionReturnsUptoRow : OpenClaim := { program := "ytghigdcpinengaagreat", sum := "f3ed6836899f76a3de6915c667f5eea4be44cb20851ec96e945310b31e09ca01", func := "sandpile/sandpilelaw30.TreebijectionReturns", spec := "treebijectionReturns", unfollowed := true, recurses := true, apart := false, narrowed := true }
def TreebijectionReturnsUptoSaid : Prop := treebijectionReturnsUptoRow.holds Tryz.pinned (OpenSpec.upto treebijectionReturnsSpec)

/-- 'sandpilelaw30.TreebijectionUnused', WHERE WHAT IT READS IS OF BULK AT MOST 1048576: true; the input reads as it did. -/
def treebijectionUnusedUptoRow : OpenClaim := { program := "ytghigdcpinengaagreat", sum := "f3ed6836899f76a3de6915c667f5eea4be44cb20851ec96e945310b31e09ca01", func := "sandpile/sandpilelaw30.TreebijectionUnused", spec := "treebijectionUnused", unfollowed := true, recurses := true, apart := false, narrowed := true }
def TreebijectionUnusedUptoSaid : Prop := treebijectionUnusedUptoRow.holds Tryz.pinned (OpenSpec.upto treebijectionUnusedSpec)

/-- 'sandpilelaw30.TreebijectionGrows', WHERE WHAT IT READS IS OF BULK AT MOST 1048576: true; the input reads as it did. -/
def treebijectionGrowsUptoRow : OpenClaim := { program := "ytghigdcpinengaagreat", sum := "f3ed6836899f76a3de6915c667f5eea4be44cb20851ec96e945310b31e09ca01", func := "sandpile/sandpilelaw30.TreebijectionGrows", spec := "treebijectionGrows", unfollowed := true, recurses := true, apart := false, narrowed := true }
def TreebijectionGrowsUptoSaid : Prop := treebijectionGrowsUptoRow.holds Tryz.pinned (OpenSpec.upto treebijectionGrowsSpec)

/-- 'sandpilelaw30.TreebijectionLists', WHERE WHAT IT READS IS OF BULK AT MOST 1048576: true; the input reads as it did. -/
def treebijectionListsUptoRow : OpenClaim := { program := "ytghigdcpinengaagreat", sum := "f3ed6836899f76a3de6915c667f5eea4be44cb20851ec96e945310b31e09ca01", func := "sandpile/sandpilelaw30.TreebijectionLists", spec := "treebijectionLists", unfollowed := true, recurses := true, apart := false, narrowed := true }
def TreebijectionListsUptoSaid : Prop := treebijectionListsUptoRow.holds Tryz.pinned (OpenSpec.upto treebijectionListsSpec)

/-- 'sandpilelaw30.TreebijectionMatches', WHERE WHAT IT READS IS OF BULK AT MOST 1048576: true; the input reads as it did. -/
def treebijectionMatchesUptoRow : OpenClaim := { program := "ytghigdcpinengaagreat", sum := "f3ed6836899f76a3de6915c667f5eea4be44cb20851ec96e945310b31e09ca01", func := "sandpile/sandpilelaw30.TreebijectionMatches", spec := "treebijectionMatches", unfollowed := true, recurses := true, apart := false, narrowed := true }
def TreebijectionMatchesUptoSaid : Prop := treebijectionMatchesUptoRow.holds Tryz.pinned (OpenSpec.upto treebijectionMatchesSpec)

/-- 'sandpilelaw30.TreebijectionRecurs', WHERE WHAT IT READS IS OF BULK AT MOST 1048576: true; the input reads as it did. -/
def treebijectionRecursUptoRow : OpenClaim := { program := "ytghigdcpinengaagreat", sum := "f3ed6836899f76a3de6915c667f5eea4be44cb20851ec96e945310b31e09ca01", func := "sandpile/sandpilelaw30.TreebijectionRecurs", spec := "treebijectionRecurs", unfollowed := true, recurses := true, apart := false, narrowed := true }
def TreebijectionRecursUptoSaid : Prop := treebijectionRecursUptoRow.holds Tryz.pinned (OpenSpec.upto treebijectionRecursSpec)

end Rows
end Go.Proofs.YtghigdcpinengaaGreat
