/-
  Texts of this claim, put together: LevelsTellsF.
-/
import Derived.Test.YtnbikkcalcpedaaGreatDoorK40
namespace Go.Proofs.YtnbikkcalcpedaaGreatDoor
open Go.RowKit
namespace lawLevelsTells
open Go.ChangeShapes Go.WideShapes Go.ChangeAt Go.RowKit
set_option linter.unusedVariables false
set_option maxRecDepth 100000 in
theorem fact0 : (Rows.levelsTellsRow.inPlace == Tryz.pinned.checked.prog.inPlace 5) = true := by kernel_rfl
theorem fact1 : (Rows.levelsTellsRow.unfollowed == Tryz.pinned.checked.prog.unfollowed 5) = true := by kernel_rfl
theorem fact2 : (Rows.levelsTellsRow.recurses == Tryz.pinned.checked.prog.recurses 5) = true := by kernel_rfl
theorem fact3 : (Rows.levelsTellsRow.named == Tryz.pinned.checked.prog.varsNamed 5) = true := by kernel_rfl
theorem fact4 : laidOutB Tryz.pinned.checked.prog = true := by kernel_rfl
theorem fact5 : mapsRowed Tryz.pinned.checked.prog = true := by kernel_rfl
theorem closed : joinedFacts Tryz.pinned.checked.prog 5 Tryz.f5 (OpenSpec.ofChange Rows.levelsTellsSpec).bare Rows.levelsTellsRow = true := by
  unfold joinedFacts
  rw [fact0, fact1, fact2, fact3, fact4, fact5]
  kernel_rfl
end lawLevelsTells
end Go.Proofs.YtnbikkcalcpedaaGreatDoor
