/-
 Texts of this claim, put together: LevelsTreesF.
-/
import Derived.Test.YtnbikkcalcpedaaGreatDoorK40
set_option maxRecDepth 100000
namespace Go.Proofs.YtnbikkcalcpedaaGreatDoor
open Go.RowKit
namespace lawLevelsTrees
open Go.ChangeShapes Go.WideShapes Go.ChangeAt Go.RowKit
set_option linter.unusedVariables false
theorem fact0 : (Rows.levelsTreesRow.inPlace == Tryz.pinned.checked.prog.inPlace 6) = true := by kernel_rfl
theorem fact1 : (Rows.levelsTreesRow.unfollowed == Tryz.pinned.checked.prog.unfollowed 6) = true := by kernel_rfl
theorem fact2 : (Rows.levelsTreesRow.recurses == Tryz.pinned.checked.prog.recurses 6) = true := by kernel_rfl
theorem fact3 : (Rows.levelsTreesRow.named == Tryz.pinned.checked.prog.varsNamed 6) = true := by kernel_rfl
theorem fact4 : laidOutB Tryz.pinned.checked.prog = true := by kernel_rfl
theorem fact5 : mapsRowed Tryz.pinned.checked.prog = true := by kernel_rfl
theorem closed : joinedFacts Tryz.pinned.checked.prog 6 Tryz.f6 (OpenSpec.ofChange Rows.levelsTreesSpec).bare Rows.levelsTreesRow = true := by
 unfold joinedFacts
 rw [fact0, fact1, fact2, fact3, fact4, fact5]
 kernel_rfl
end lawLevelsTrees
end Go.Proofs.YtnbikkcalcpedaaGreatDoor
