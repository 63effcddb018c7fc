/-
  ActivityRenames: for every graph and every list of ints, other numbers of the vertices do not change the polynomial.
  Conditions: none but the tables that the card lists and ties.
-/
import Derived.Test.YtnbikkcalcpedaaGreatDoorK44
import Derived.Test.YtnbikkcalcpedaaGreatDoorK37
namespace Go.Proofs.YtnbikkcalcpedaaGreatDoor
open Go.RowKit
namespace lawActivityRenames
open Go.ChangeShapes Go.WideShapes Go.ChangeAt Go.RowKit
set_option linter.unusedVariables false
set_option maxRecDepth 100000 in
/-- ActivityRenames (P31.5): for every graph and list, other numbers of the vertices do not change the polynomial, and nothing that came in is turned; no condition but the tables that the card ties. -/
theorem proved : Rows.ActivityRenamesCardSaid :=
  Claim7.holds_tied_plain_at .later [] _ _ _ _ said (fun _ h => by cases h) fw (fun _ h => by cases h) activityRenames_row_tie rfl ⟨rfl, rfl⟩ (by kernel_rfl) rfl plain fg
#print axioms proved
end lawActivityRenames

end Go.Proofs.YtnbikkcalcpedaaGreatDoor
