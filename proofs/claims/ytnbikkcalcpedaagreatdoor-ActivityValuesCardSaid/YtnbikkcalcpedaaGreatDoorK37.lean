/-
  Texts of this claim, put together: ActivityValuesF.
-/
import Derived.Test.YtnbikkcalcpedaaGreatDoorK35
/-! ActivityValues: what the row says of the program, fact for fact. -/
namespace Go.Proofs.YtnbikkcalcpedaaGreatDoor
open Go.RowKit
namespace lawActivityValues
open Go.ChangeShapes Go.WideShapes Go.ChangeAt Go.RowKit
set_option linter.unusedVariables false
set_option maxRecDepth 100000 in
theorem fact0 : (Rows.activityValuesRow.inPlace == Tryz.pinned.checked.prog.inPlace 4) = true := by kernel_rfl
theorem fact1 : (Rows.activityValuesRow.unfollowed == Tryz.pinned.checked.prog.unfollowed 4) = true := by kernel_rfl
theorem fact2 : (Rows.activityValuesRow.recurses == Tryz.pinned.checked.prog.recurses 4) = true := by kernel_rfl
theorem fact3 : (Rows.activityValuesRow.named == Tryz.pinned.checked.prog.varsNamed 4) = true := by kernel_rfl
theorem fact4 : laidOutB Tryz.pinned.checked.prog = true := by kernel_rfl
theorem fact5 : mapsRowed Tryz.pinned.checked.prog = true := by kernel_rfl
theorem closed : joinedFacts Tryz.pinned.checked.prog 4 Tryz.f4 (OpenSpec.ofChange Rows.activityValuesSpec).bare Rows.activityValuesRow = true := by
  unfold joinedFacts
  rw [fact0, fact1, fact2, fact3, fact4, fact5]
  kernel_rfl
end lawActivityValues
end Go.Proofs.YtnbikkcalcpedaaGreatDoor

