/-
  ActivityValues: for every graph and every list of ints, the value of the polynomial at 1, 1 is the number of spanning trees, that at 2, 2 the number of sets; loops are externally active, bridges internally.
  Conditions: none but the tables that the card lists and ties.
-/
import Derived.Test.YtnbikkcalcpedaaGreatDoorK46
import Derived.Test.YtnbikkcalcpedaaGreatDoorK38
namespace Go.Proofs.YtnbikkcalcpedaaGreatDoor
open Go.RowKit
namespace lawActivityValues
open Go.ChangeShapes Go.WideShapes Go.ChangeAt Go.RowKit
set_option linter.unusedVariables false
set_option maxRecDepth 100000 in
/-- ActivityValues (P31.5): for every graph and list, the value of the polynomial at 1, 1 is the number of spanning trees, that at 2, 2 the number of sets; loops are externally active, bridges internally, and nothing that came in is turned; no condition but the tables that the card ties. -/
theorem proved : Rows.ActivityValuesCardSaid :=
  Claim7.holds_tied_plain_at .later [] _ _ _ _ said (fun _ h => by cases h) fw (fun _ h => by cases h) activityValues_row_tie rfl ⟨rfl, rfl⟩ (by kernel_rfl) rfl plain fg
#print axioms proved
end lawActivityValues

end Go.Proofs.YtnbikkcalcpedaaGreatDoor
