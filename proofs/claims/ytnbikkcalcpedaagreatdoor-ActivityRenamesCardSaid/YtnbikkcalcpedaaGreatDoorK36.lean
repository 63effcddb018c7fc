/-
  Texts of this claim, put together: ActivityRenamesF.
-/
import Derived.Test.YtnbikkcalcpedaaGreatDoorK34
/-! ActivityRenames: what the row says of the program, fact for fact. -/
namespace Go.Proofs.YtnbikkcalcpedaaGreatDoor
open Go.RowKit
namespace lawActivityRenames
open Go.ChangeShapes Go.WideShapes Go.ChangeAt Go.RowKit
set_option linter.unusedVariables false
set_option maxRecDepth 100000 in
theorem fact0 : (Rows.activityRenamesRow.inPlace == Tryz.pinned.checked.prog.inPlace 3) = true := by kernel_rfl
theorem fact1 : (Rows.activityRenamesRow.unfollowed == Tryz.pinned.checked.prog.unfollowed 3) = true := by kernel_rfl
theorem fact2 : (Rows.activityRenamesRow.recurses == Tryz.pinned.checked.prog.recurses 3) = true := by kernel_rfl
theorem fact3 : (Rows.activityRenamesRow.named == Tryz.pinned.checked.prog.varsNamed 3) = true := by kernel_rfl
theorem fact4 : laidOutB Tryz.pinned.checked.prog = true := by kernel_rfl
theorem fact5 : mapsRowed Tryz.pinned.checked.prog = true := by kernel_rfl
theorem closed : joinedFacts Tryz.pinned.checked.prog 3 Tryz.f3 (OpenSpec.ofChange Rows.activityRenamesSpec).bare Rows.activityRenamesRow = true := by
  unfold joinedFacts
  rw [fact0, fact1, fact2, fact3, fact4, fact5]
  kernel_rfl
end lawActivityRenames
end Go.Proofs.YtnbikkcalcpedaaGreatDoor

