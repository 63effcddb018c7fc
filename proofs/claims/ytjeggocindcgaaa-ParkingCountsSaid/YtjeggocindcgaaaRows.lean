/-
  No cell of these rows narrows 'for every input' (looked for: loops, veiled, ifaces, maps, wideKeys, modest, calm, conditions, laid).
  DERIVED. THE GIVEN ROWS OF THIS SEAT. 8 by the template 'for every input the law returns true; each argument reads behind the call as it read before'; 0 by the template 'total and deterministic' (their statements: YtjeggocindcgaaaTotals.lean).
  GIVEN WITH THE SEED: the statements are not yours to turn. If you find one false, say at which input.
  Laid BY PROGRAM, IN A SANDBOX (cutbox-rows.mjs): the forced cells as the released guide's own fill.sh prints them over the translation ba389bcd9d16fc1e… (all of the seat's roots in one cut). By AI agents, Wed Nov 11 2026. No macro, syntax, notation, axiom, sorry.
-/
import Derived.Test.YtjeggocindcgaaaChecked
import GoSem.Claim
import GoSem.ClaimJoined
import GoSem.ClaimMapViews
import Derived.JoinedTies
import Derived.KernelRfl
namespace Go.Proofs.Ytjeggocindcgaaa
/- THE CELL 'sum', in the pinned program and in every row, IS THE sha256 OF THE DUMP (.gsa) THAT YtjeggocindcgaaaProg.lean LOADS. Nothing in Lean hashes anything: it is a label: what it is worth is what the hold of that sum in a sandbox is worth. -/
noncomputable def Try.pinned : Pinned := { name := "ytjeggocindcgaaa", sum := "ba389bcd9d16fc1ecda9c7e99827e3222ba6ec447150930c9ac736dc2a68cec1", checked := Try.checked }
namespace Rows
def none {H : Type} : Left H := { results := [], args := [] }

/-- 'sandpilelaw29.ParkingTells': WHATEVER THE INPUT: true; the input reads as it did. -/
def parkingTellsSpec : ChangeSpec := { name := "parkingTells", fn := fun _ => fun
  | [d] => { results := [.lit (.bool true)], args := [d] }
  | _ => none }
def parkingTellsRow : OpenClaim := { program := "ytjeggocindcgaaa", sum := "ba389bcd9d16fc1ecda9c7e99827e3222ba6ec447150930c9ac736dc2a68cec1", func := "sandpile/sandpilelaw29.ParkingTells", spec := "parkingTells", unfollowed := true, recurses := true, apart := false }
def ParkingTellsSaid : Prop := parkingTellsRow.holds Try.pinned (OpenSpec.ofChange parkingTellsSpec)

/-- ITS FALSE NEIGHBOUR: 'it returns false'. Refute it at one input. -/
def parkingTellsWrong : ChangeSpec := { name := "parkingTells", fn := fun _ => fun
  | [d] => { results := [.lit (.bool false)], args := [d] }
  | _ => none }
def ParkingTellsWrongFalsely : Prop := parkingTellsRow.holds Try.pinned (OpenSpec.ofChange parkingTellsWrong)

/-- 'sandpilelaw29.ParkingLists': WHATEVER THE INPUT: true; the input reads as it did. -/
def parkingListsSpec : ChangeSpec := { name := "parkingLists", fn := fun _ => fun
  | [d] => { results := [.lit (.bool true)], args := [d] }
  | _ => none }
def parkingListsRow : OpenClaim := { program := "ytjeggocindcgaaa", sum := "ba389bcd9d16fc1ecda9c7e99827e3222ba6ec447150930c9ac736dc2a68cec1", func := "sandpile/sandpilelaw29.ParkingLists", spec := "parkingLists", unfollowed := true, recurses := true, apart := false }
def ParkingListsSaid : Prop := parkingListsRow.holds Try.pinned (OpenSpec.ofChange parkingListsSpec)

/-- ITS FALSE NEIGHBOUR: 'it returns false'. Refute it at one input. -/
def parkingListsWrong : ChangeSpec := { name := "parkingLists", fn := fun _ => fun
  | [d] => { results := [.lit (.bool false)], args := [d] }
  | _ => none }
def ParkingListsWrongFalsely : Prop := parkingListsRow.holds Try.pinned (OpenSpec.ofChange parkingListsWrong)

/-- 'sandpilelaw29.ParkingParks': WHATEVER THE INPUT: true; the input reads as it did. -/
def parkingParksSpec : ChangeSpec := { name := "parkingParks", fn := fun _ => fun
  | [d] => { results := [.lit (.bool true)], args := [d] }
  | _ => none }
def parkingParksRow : OpenClaim := { program := "ytjeggocindcgaaa", sum := "ba389bcd9d16fc1ecda9c7e99827e3222ba6ec447150930c9ac736dc2a68cec1", func := "sandpile/sandpilelaw29.ParkingParks", spec := "parkingParks", unfollowed := true, recurses := true, apart := false }
def ParkingParksSaid : Prop := parkingParksRow.holds Try.pinned (OpenSpec.ofChange parkingParksSpec)

/-- ITS FALSE NEIGHBOUR: 'it returns false'. Refute it at one input. -/
def parkingParksWrong : ChangeSpec := { name := "parkingParks", fn := fun _ => fun
  | [d] => { results := [.lit (.bool false)], args := [d] }
  | _ => none }
def ParkingParksWrongFalsely : Prop := parkingParksRow.holds Try.pinned (OpenSpec.ofChange parkingParksWrong)

/-- 'sandpilelaw29.ParkingTurns': WHATEVER THE INPUT: true; the input reads as it did. -/
def parkingTurnsSpec : ChangeSpec := { name := "parkingTurns", fn := fun _ => fun
  | [d] => { results := [.lit (.bool true)], args := [d] }
  | _ => none }
def parkingTurnsRow : OpenClaim := { program := "ytjeggocindcgaaa", sum := "ba389bcd9d16fc1ecda9c7e99827e3222ba6ec447150930c9ac736dc2a68cec1", func := "sandpile/sandpilelaw29.ParkingTurns", spec := "parkingTurns", unfollowed := true, recurses := true, apart := false }
def ParkingTurnsSaid : Prop := parkingTurnsRow.holds Try.pinned (OpenSpec.ofChange parkingTurnsSpec)

/-- ITS FALSE NEIGHBOUR: 'it returns false'. Refute it at one input. -/
def parkingTurnsWrong : ChangeSpec := { name := "parkingTurns", fn := fun _ => fun
  | [d] => { results := [.lit (.bool false)], args := [d] }
  | _ => none }
def ParkingTurnsWrongFalsely : Prop := parkingTurnsRow.holds Try.pinned (OpenSpec.ofChange parkingTurnsWrong)

/-- 'sandpilelaw29.ParkingCircles': WHATEVER THE INPUT: true; the input reads as it did. -/
def parkingCirclesSpec : ChangeSpec := { name := "parkingCircles", fn := fun _ => fun
  | [d] => { results := [.lit (.bool true)], args := [d] }
  | _ => none }
def parkingCirclesRow : OpenClaim := { program := "ytjeggocindcgaaa", sum := "ba389bcd9d16fc1ecda9c7e99827e3222ba6ec447150930c9ac736dc2a68cec1", func := "sandpile/sandpilelaw29.ParkingCircles", spec := "parkingCircles", unfollowed := true, recurses := true, apart := false }
def ParkingCirclesSaid : Prop := parkingCirclesRow.holds Try.pinned (OpenSpec.ofChange parkingCirclesSpec)

/-- ITS FALSE NEIGHBOUR: 'it returns false'. Refute it at one input. -/
def parkingCirclesWrong : ChangeSpec := { name := "parkingCircles", fn := fun _ => fun
  | [d] => { results := [.lit (.bool false)], args := [d] }
  | _ => none }
def ParkingCirclesWrongFalsely : Prop := parkingCirclesRow.holds Try.pinned (OpenSpec.ofChange parkingCirclesWrong)

/-- 'sandpilelaw29.ParkingBurns': WHATEVER THE INPUT: true; the input reads as it did. -/
def parkingBurnsSpec : ChangeSpec := { name := "parkingBurns", fn := fun _ => fun
  | [d] => { results := [.lit (.bool true)], args := [d] }
  | _ => none }
def parkingBurnsRow : OpenClaim := { program := "ytjeggocindcgaaa", sum := "ba389bcd9d16fc1ecda9c7e99827e3222ba6ec447150930c9ac736dc2a68cec1", func := "sandpile/sandpilelaw29.ParkingBurns", spec := "parkingBurns", unfollowed := true, recurses := true, apart := false }
def ParkingBurnsSaid : Prop := parkingBurnsRow.holds Try.pinned (OpenSpec.ofChange parkingBurnsSpec)

/-- ITS FALSE NEIGHBOUR: 'it returns false'. Refute it at one input. -/
def parkingBurnsWrong : ChangeSpec := { name := "parkingBurns", fn := fun _ => fun
  | [d] => { results := [.lit (.bool false)], args := [d] }
  | _ => none }
def ParkingBurnsWrongFalsely : Prop := parkingBurnsRow.holds Try.pinned (OpenSpec.ofChange parkingBurnsWrong)

/-- 'sandpilelaw29.ParkingCounts': WHATEVER THE INPUT: true; the input reads as it did. -/
def parkingCountsSpec : ChangeSpec := { name := "parkingCounts", fn := fun _ => fun
  | [d] => { results := [.lit (.bool true)], args := [d] }
  | _ => none }
def parkingCountsRow : OpenClaim := { program := "ytjeggocindcgaaa", sum := "ba389bcd9d16fc1ecda9c7e99827e3222ba6ec447150930c9ac736dc2a68cec1", func := "sandpile/sandpilelaw29.ParkingCounts", spec := "parkingCounts", unfollowed := true, recurses := true, apart := false }
def ParkingCountsSaid : Prop := parkingCountsRow.holds Try.pinned (OpenSpec.ofChange parkingCountsSpec)

/-- ITS FALSE NEIGHBOUR: 'it returns false'. Refute it at one input. -/
def parkingCountsWrong : ChangeSpec := { name := "parkingCounts", fn := fun _ => fun
  | [d] => { results := [.lit (.bool false)], args := [d] }
  | _ => none }
def ParkingCountsWrongFalsely : Prop := parkingCountsRow.holds Try.pinned (OpenSpec.ofChange parkingCountsWrong)

/-- 'sandpilelaw29.ParkingRearranges': WHATEVER THE INPUT: true; the input reads as it did. -/
def parkingRearrangesSpec : ChangeSpec := { name := "parkingRearranges", fn := fun _ => fun
  | [d1, d2] => { results := [.lit (.bool true)], args := [d1, d2] }
  | _ => none }
def parkingRearrangesRow : OpenClaim := { program := "ytjeggocindcgaaa", sum := "ba389bcd9d16fc1ecda9c7e99827e3222ba6ec447150930c9ac736dc2a68cec1", func := "sandpile/sandpilelaw29.ParkingRearranges", spec := "parkingRearranges", unfollowed := true, recurses := true, apart := false }
def ParkingRearrangesSaid : Prop := parkingRearrangesRow.holds Try.pinned (OpenSpec.ofChange parkingRearrangesSpec)

/-- ITS FALSE NEIGHBOUR: 'it returns false'. Refute it at one input. -/
def parkingRearrangesWrong : ChangeSpec := { name := "parkingRearranges", fn := fun _ => fun
  | [d1, d2] => { results := [.lit (.bool false)], args := [d1, d2] }
  | _ => none }
def ParkingRearrangesWrongFalsely : Prop := parkingRearrangesRow.holds Try.pinned (OpenSpec.ofChange parkingRearrangesWrong)

/- THE SECOND FORM. 'bulk': how many values and letters a reading holds, each counted each time it is reached (what is shared counts as often as it is met; a slice's spare places count too). A statement '..UptoSaid' is the law's where the arguments, and the package variables that the reading takes, are together of bulk at most 1048576: NARROWER than '..Said'. Prove '..Said' where nothing that the law and all that it calls make is longer than what came in: it says more and counts as full. Else prove '..UptoSaid'. A law counts once. -/
mutual
def uptoBulk {H : Type} : DataW H → Nat
  | .lit (.string bytes) => bytes.length + 1
  | .lit _ => 1
  | .nil => 1
  | .ptr d => uptoBulk d + 1
  | .slice elems spare => uptoBulkAll elems + uptoBulkAll spare + 1
  | .agg parts => uptoBulkAll parts + 1
  | .iface _ d => uptoBulk d + 1
  | .map entries => uptoBulkEntries entries + 1
  | .held _ => 1
def uptoBulkAll {H : Type} : List (DataW H) → Nat
  | [] => 0
  | d :: r => uptoBulk d + uptoBulkAll r
def uptoBulkEntries {H : Type} : List (Lit × DataW H) → Nat
  | [] => 0
  | x :: r => uptoBulkEntry x + uptoBulkEntries r
def uptoBulkEntry {H : Type} : Lit × DataW H → Nat
  | (.string bytes, d) => bytes.length + uptoBulk d + 1
  | (_, d) => uptoBulk d + 1
 end
def uptoSmall : (H : Type) → List (DataW H) → Bool := fun _ ds => decide (uptoBulkAll ds ≤ 1048576)
def OpenSpec.upto (s : _root_.Go.ChangeSpec) : _root_.Go.OpenSpec := { _root_.Go.OpenSpec.ofChange s with cond := some uptoSmall }

/-- 'sandpilelaw29.ParkingTells', WHERE WHAT IT READS IS OF BULK AT MOST 1048576: true; the input reads as it did. -/
def parkingTellsUptoRow : OpenClaim := { program := "ytjeggocindcgaaa", sum := "ba389bcd9d16fc1ecda9c7e99827e3222ba6ec447150930c9ac736dc2a68cec1", func := "sandpile/sandpilelaw29.ParkingTells", spec := "parkingTells", unfollowed := true, recurses := true, apart := false, narrowed := true }
def ParkingTellsUptoSaid : Prop := parkingTellsUptoRow.holds Try.pinned (OpenSpec.upto parkingTellsSpec)

/-- 'sandpilelaw29.ParkingLists', WHERE WHAT IT READS IS OF BULK AT MOST 1048576: true; the input reads as it did. -/
def parkingListsUptoRow : OpenClaim := { program := "ytjeggocindcgaaa", sum := "ba389bcd9d16fc1ecda9c7e99827e3222ba6ec447150930c9ac736dc2a68cec1", func := "sandpile/sandpilelaw29.ParkingLists", spec := "parkingLists", unfollowed := true, recurses := true, apart := false, narrowed := true }
def ParkingListsUptoSaid : Prop := parkingListsUptoRow.holds Try.pinned (OpenSpec.upto parkingListsSpec)

/-- 'sandpilelaw29.ParkingParks', WHERE WHAT IT READS IS OF BULK AT MOST 1048576: true; the input reads as it did. -/
def parkingParksUptoRow : OpenClaim := { program := "ytjeggocindcgaaa", sum := "ba389bcd9d16fc1ecda9c7e99827e3222ba6ec447150930c9ac736dc2a68cec1", func := "sandpile/sandpilelaw29.ParkingParks", spec := "parkingParks", unfollowed := true, recurses := true, apart := false, narrowed := true }
def ParkingParksUptoSaid : Prop := parkingParksUptoRow.holds Try.pinned (OpenSpec.upto parkingParksSpec)

/-- 'sandpilelaw29.ParkingTurns', WHERE WHAT IT READS IS OF BULK AT MOST 1048576: true; the input reads as it did. -/
def parkingTurnsUptoRow : OpenClaim := { program := "ytjeggocindcgaaa", sum := "ba389bcd9d16fc1ecda9c7e99827e3222ba6ec447150930c9ac736dc2a68cec1", func := "sandpile/sandpilelaw29.ParkingTurns", spec := "parkingTurns", unfollowed := true, recurses := true, apart := false, narrowed := true }
def ParkingTurnsUptoSaid : Prop := parkingTurnsUptoRow.holds Try.pinned (OpenSpec.upto parkingTurnsSpec)

/-- 'sandpilelaw29.ParkingCircles', WHERE WHAT IT READS IS OF BULK AT MOST 1048576: true; the input reads as it did. -/
def parkingCirclesUptoRow : OpenClaim := { program := "ytjeggocindcgaaa", sum := "ba389bcd9d16fc1ecda9c7e99827e3222ba6ec447150930c9ac736dc2a68cec1", func := "sandpile/sandpilelaw29.ParkingCircles", spec := "parkingCircles", unfollowed := true, recurses := true, apart := false, narrowed := true }
def ParkingCirclesUptoSaid : Prop := parkingCirclesUptoRow.holds Try.pinned (OpenSpec.upto parkingCirclesSpec)

/-- 'sandpilelaw29.ParkingBurns', WHERE WHAT IT READS IS OF BULK AT MOST 1048576: true; the input reads as it did. -/
def parkingBurnsUptoRow : OpenClaim := { program := "ytjeggocindcgaaa", sum := "ba389bcd9d16fc1ecda9c7e99827e3222ba6ec447150930c9ac736dc2a68cec1", func := "sandpile/sandpilelaw29.ParkingBurns", spec := "parkingBurns", unfollowed := true, recurses := true, apart := false, narrowed := true }
def ParkingBurnsUptoSaid : Prop := parkingBurnsUptoRow.holds Try.pinned (OpenSpec.upto parkingBurnsSpec)

/-- 'sandpilelaw29.ParkingCounts', WHERE WHAT IT READS IS OF BULK AT MOST 1048576: true; the input reads as it did. -/
def parkingCountsUptoRow : OpenClaim := { program := "ytjeggocindcgaaa", sum := "ba389bcd9d16fc1ecda9c7e99827e3222ba6ec447150930c9ac736dc2a68cec1", func := "sandpile/sandpilelaw29.ParkingCounts", spec := "parkingCounts", unfollowed := true, recurses := true, apart := false, narrowed := true }
def ParkingCountsUptoSaid : Prop := parkingCountsUptoRow.holds Try.pinned (OpenSpec.upto parkingCountsSpec)

/-- 'sandpilelaw29.ParkingRearranges', WHERE WHAT IT READS IS OF BULK AT MOST 1048576: true; the input reads as it did. -/
def parkingRearrangesUptoRow : OpenClaim := { program := "ytjeggocindcgaaa", sum := "ba389bcd9d16fc1ecda9c7e99827e3222ba6ec447150930c9ac736dc2a68cec1", func := "sandpile/sandpilelaw29.ParkingRearranges", spec := "parkingRearranges", unfollowed := true, recurses := true, apart := false, narrowed := true }
def ParkingRearrangesUptoSaid : Prop := parkingRearrangesUptoRow.holds Try.pinned (OpenSpec.upto parkingRearrangesSpec)

end Rows
end Go.Proofs.Ytjeggocindcgaaa
