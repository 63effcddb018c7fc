/-
 Texts of this claim, put together: LevelsTreesP.
-/
import Derived.Test.YtnbikkcalcpedaaGreatDoorK40
set_option maxRecDepth 100000
namespace Go.Proofs.YtnbikkcalcpedaaGreatDoor
open Go.RowKit
namespace lawLevelsTrees
open Go.ChangeShapes Go.WideShapes Go.ChangeAt Go.RowKit
set_option linter.unusedVariables false
theorem plain (f : FuncId) (fn : Func) (hf : Tryz.pinned.checked.prog.funcNamed "sandpile/sandpilelaw33.LevelsTrees" = some f) (hfn : Tryz.pinned.checked.prog.funcs[f]? = some fn) :
  true = Tryz.pinned.checked.prog.looks [] ∧ ∀ (j : Nat) t, fn.params[j]? = some t → Tryz.pinned.checked.prog.wantsStandIn t = false := by
 obtain rfl : f = 6 := Option.some.inj ((show Tryz.prog.funcNamed "sandpile/sandpilelaw33.LevelsTrees" = some 6 by kernel_rfl).symm.trans hf) |>.symm
 obtain rfl : fn = Tryz.f6 := (Option.some.inj (Tryz.func6.symm.trans hfn)).symm
 refine ⟨by kernel_rfl, fun j t ht => ?_⟩
 rw [Tryz.params6] at ht
 rcases (by simpa using Array.mem_of_getElem? ht : t = 24 ∨ t = 3 ∨ t = 25) with rfl | rfl | rfl
 ·exact (show Tryz.prog.wantsStandIn 24 = false by kernel_rfl)
 ·exact (show Tryz.prog.wantsStandIn 3 = false by kernel_rfl)
 ·exact (show Tryz.prog.wantsStandIn 25 = false by kernel_rfl)
theorem fw : Rows.levelsTreesRow.wfByText (OpenSpec.ofChange Rows.levelsTreesSpec) = true := by kernel_rfl
theorem fg : false = Rows.levelsTreesRow.goesBy Tryz.pinned.checked.prog := by kernel_rfl
end lawLevelsTrees
end Go.Proofs.YtnbikkcalcpedaaGreatDoor
