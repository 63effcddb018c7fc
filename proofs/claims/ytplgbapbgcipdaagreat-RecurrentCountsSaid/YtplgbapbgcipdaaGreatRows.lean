/-
  No cell of these rows narrows 'for every input' (looked for: loops, veiled, ifaces, maps, wideKeys, modest, calm, conditions, laid).
  DERIVED. THE GIVEN ROWS OF THIS SEAT. 3 by the template 'for every input the law returns true; each argument reads behind the call as it read before'; 0 by the template 'total and deterministic' (their statements: YtplgbapbgcipdaaGreatTotals.lean).
  GIVEN WITH THE SEED: the statements are not yours to turn. If you find one false, say at which input.
  Laid BY PROGRAM, IN A SANDBOX (cutbox-rows.mjs): the forced cells as the released guide's own fill.sh prints them over the translation b2e57c4555d2d397… (all of the seat's roots in one cut). By AI agents, Wed Nov 11 2026. No macro, syntax, notation, axiom, sorry.
-/
import Derived.Test.YtplgbapbgcipdaaGreatChecked
import GoSem.Claim
import GoSem.ClaimJoined
import GoSem.ClaimMapViews
import Derived.JoinedTies
import Derived.KernelRfl
namespace Go.Proofs.YtplgbapbgcipdaaGreat
/- THE CELL 'sum', in the pinned program and in every row, IS THE sha256 OF THE DUMP (.gsa) THAT YtplgbapbgcipdaaGreatProg.lean LOADS. Nothing in Lean hashes anything: it is a label: what it is worth is what the hold of that sum in a sandbox is worth. -/
noncomputable def Tryz.pinned : Pinned := { name := "ytplgbapbgcipdaagreat", sum := "b2e57c4555d2d397da1e87c1c5b1e21d10d1bd411d3c4347d39b740e8332b110", checked := Tryz.checked }
namespace Rows
def none {H : Type} : Left H := { results := [], args := [] }

/-- 'sandpilelaw24.RecurrentMoves': WHATEVER THE INPUT: true; the input reads as it did. -/
def recurrentMovesSpec : ChangeSpec := { name := "recurrentMoves", fn := fun _ => fun
  | [d1, d2, d3] => { results := [.lit (.bool true)], args := [d1, d2, d3] }
  | _ => none }
def recurrentMovesRow : OpenClaim := { program := "ytplgbapbgcipdaagreat", sum := "b2e57c4555d2d397da1e87c1c5b1e21d10d1bd411d3c4347d39b740e8332b110", func := "sandpile/sandpilelaw24.RecurrentMoves", spec := "recurrentMoves", unfollowed := true, recurses := true, apart := false }
def RecurrentMovesSaid : Prop := recurrentMovesRow.holds Tryz.pinned (OpenSpec.ofChange recurrentMovesSpec)

/-- ITS FALSE NEIGHBOUR: 'it returns false'. Refute it at one input. -/
def recurrentMovesWrong : ChangeSpec := { name := "recurrentMoves", fn := fun _ => fun
  | [d1, d2, d3] => { results := [.lit (.bool false)], args := [d1, d2, d3] }
  | _ => none }
def RecurrentMovesWrongFalsely : Prop := recurrentMovesRow.holds Tryz.pinned (OpenSpec.ofChange recurrentMovesWrong)

/-- 'sandpilelaw24.RecurrentPermutes': WHATEVER THE INPUT: true; the input reads as it did. -/
def recurrentPermutesSpec : ChangeSpec := { name := "recurrentPermutes", fn := fun _ => fun
  | [d1, d2, d3] => { results := [.lit (.bool true)], args := [d1, d2, d3] }
  | _ => none }
def recurrentPermutesRow : OpenClaim := { program := "ytplgbapbgcipdaagreat", sum := "b2e57c4555d2d397da1e87c1c5b1e21d10d1bd411d3c4347d39b740e8332b110", func := "sandpile/sandpilelaw24.RecurrentPermutes", spec := "recurrentPermutes", unfollowed := true, recurses := true, apart := false }
def RecurrentPermutesSaid : Prop := recurrentPermutesRow.holds Tryz.pinned (OpenSpec.ofChange recurrentPermutesSpec)

/-- ITS FALSE NEIGHBOUR: 'it returns false'. Refute it at one input. -/
def recurrentPermutesWrong : ChangeSpec := { name := "recurrentPermutes", fn := fun _ => fun
  | [d1, d2, d3] => { results := [.lit (.bool false)], args := [d1, d2, d3] }
  | _ => none }
def RecurrentPermutesWrongFalsely : Prop := recurrentPermutesRow.holds Tryz.pinned (OpenSpec.ofChange recurrentPermutesWrong)

/-- 'sandpilelaw24.RecurrentCounts': WHATEVER THE INPUT: true; the input reads as it did. -/
def recurrentCountsSpec : ChangeSpec := { name := "recurrentCounts", fn := fun _ => fun
  | [d1, d2] => { results := [.lit (.bool true)], args := [d1, d2] }
  | _ => none }
def recurrentCountsRow : OpenClaim := { program := "ytplgbapbgcipdaagreat", sum := "b2e57c4555d2d397da1e87c1c5b1e21d10d1bd411d3c4347d39b740e8332b110", func := "sandpile/sandpilelaw24.RecurrentCounts", spec := "recurrentCounts", unfollowed := true, recurses := true, apart := false }
def RecurrentCountsSaid : Prop := recurrentCountsRow.holds Tryz.pinned (OpenSpec.ofChange recurrentCountsSpec)

/-- ITS FALSE NEIGHBOUR: 'it returns false'. Refute it at one input. -/
def recurrentCountsWrong : ChangeSpec := { name := "recurrentCounts", fn := fun _ => fun
  | [d1, d2] => { results := [.lit (.bool false)], args := [d1, d2] }
  | _ => none }
def RecurrentCountsWrongFalsely : Prop := recurrentCountsRow.holds Tryz.pinned (OpenSpec.ofChange recurrentCountsWrong)

/- THE SECOND FORM. 'bulk': how many values and letters a reading holds, each counted each time it is reached (what is shared counts as often as it is met; a slice's spare places count too). A statement '..UptoSaid' is the law's where the arguments, and the package variables that the reading takes, are together of bulk at most 1048576: NARROWER than '..Said'. Prove '..Said' where nothing that the law and all that it calls make is longer than what came in: it says more and counts as full. Else prove '..UptoSaid'. A law counts once. -/
mutual
def uptoBulk {H : Type} : DataW H → Nat
  | .lit (.string bytes) => bytes.length + 1
  | .lit _ => 1
  | .nil => 1
  | .ptr d => uptoBulk d + 1
  | .slice elems spare => uptoBulkAll elems + uptoBulkAll spare + 1
  | .agg parts => uptoBulkAll parts + 1
  | .iface _ d => uptoBulk d + 1
  | .map entries => uptoBulkEntries entries + 1
  | .held _ => 1
def uptoBulkAll {H : Type} : List (DataW H) → Nat
  | [] => 0
  | d :: r => uptoBulk d + uptoBulkAll r
def uptoBulkEntries {H : Type} : List (Lit × DataW H) → Nat
  | [] => 0
  | x :: r => uptoBulkEntry x + uptoBulkEntries r
def uptoBulkEntry {H : Type} : Lit × DataW H → Nat
  | (.string bytes, d) => bytes.length + uptoBulk d + 1
  | (_, d) => uptoBulk d + 1
 end
def uptoSmall : (H : Type) → List (DataW H) → Bool := fun _ ds => decide (uptoBulkAll ds ≤ 1048576)
def OpenSpec.upto (s : _root_.Go.ChangeSpec) : _root_.Go.OpenSpec := { _root_.Go.OpenSpec.ofChange s with cond := some uptoSmall }

/-- 'sandpilelaw24.RecurrentMoves', WHERE WHAT IT READS IS OF BULK AT MOST 1048576: true; the input reads as it did. -/
def recurrentMovesUptoRow : OpenClaim := { program := "ytplgbapbgcipdaagreat", sum := "b2e57c4555d2d397da1e87c1c5b1e21d10d1bd411d3c4347d39b740e8332b110", func := "sandpile/sandpilelaw24.RecurrentMoves", spec := "recurrentMoves", unfollowed := true, recurses := true, apart := false, narrowed := true }
def RecurrentMovesUptoSaid : Prop := recurrentMovesUptoRow.holds Tryz.pinned (OpenSpec.upto recurrentMovesSpec)

/-- 'sandpilelaw24.RecurrentPermutes', WHERE WHAT IT READS IS OF BULK AT MOST 1048576: true; the input reads as it did. -/
def recurrentPermutesUptoRow : OpenClaim := { program := "ytplgbapbgcipdaagreat", sum := "b2e57c4555d2d397da1e87c1c5b1e21d10d1bd411d3c4347d39b740e8332b110", func := "sandpile/sandpilelaw24.RecurrentPermutes", spec := "recurrentPermutes", unfollowed := true, recurses := true, apart := false, narrowed := true }
def RecurrentPermutesUptoSaid : Prop := recurrentPermutesUptoRow.holds Tryz.pinned (OpenSpec.upto recurrentPermutesSpec)

/-- 'sandpilelaw24.RecurrentCounts', WHERE WHAT IT READS IS OF BULK AT MOST 1048576: true; the input reads as it did. -/
def recurrentCountsUptoRow : OpenClaim := { program := "ytplgbapbgcipdaagreat", sum := "b2e57c4555d2d397da1e87c1c5b1e21d10d1bd411d3c4347d39b740e8332b110", func := "sandpile/sandpilelaw24.RecurrentCounts", spec := "recurrentCounts", unfollowed := true, recurses := true, apart := false, narrowed := true }
def RecurrentCountsUptoSaid : Prop := recurrentCountsUptoRow.holds Tryz.pinned (OpenSpec.upto recurrentCountsSpec)

end Rows
end Go.Proofs.YtplgbapbgcipdaaGreat
