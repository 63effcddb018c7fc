/-
  LevelsTrees: for every graph, every sink and every list of single edges, levels.Tree returns the level, or the error, of the reference; the examples of the chapter hold.
  Conditions: none but the tables that the card lists and ties.
-/
import Derived.Test.YtnbikkcalcpedaaGreatDoorK50
import Derived.Test.YtnbikkcalcpedaaGreatDoorK42
namespace Go.Proofs.YtnbikkcalcpedaaGreatDoor
open Go.RowKit
namespace lawLevelsTrees
open Go.ChangeShapes Go.WideShapes Go.ChangeAt Go.RowKit
set_option linter.unusedVariables false
set_option maxRecDepth 100000 in
theorem proved : Rows.LevelsTreesCardSaid :=
  Claim7.holds_tied_plain_at .later [] _ _ _ _ said (fun _ h => by cases h) fw (fun _ h => by cases h) levelsTrees_row_tie rfl ⟨rfl, rfl⟩ (by kernel_rfl) rfl plain fg
#print axioms proved
end lawLevelsTrees
end Go.Proofs.YtnbikkcalcpedaaGreatDoor
