/-
  Texts of this claim, put together: LevelsTellsP.
-/
import Derived.Test.YtnbikkcalcpedaaGreatDoorK40
namespace Go.Proofs.YtnbikkcalcpedaaGreatDoor
open Go.RowKit
namespace lawLevelsTells
open Go.ChangeShapes Go.WideShapes Go.ChangeAt Go.RowKit
set_option linter.unusedVariables false
set_option maxRecDepth 100000 in
theorem plain (f : FuncId) (fn : Func) (hf : Tryz.pinned.checked.prog.funcNamed "sandpile/sandpilelaw33.LevelsTells" = some f) (hfn : Tryz.pinned.checked.prog.funcs[f]? = some fn) :
    true = Tryz.pinned.checked.prog.looks [] ∧ ∀ (j : Nat) t, fn.params[j]? = some t → Tryz.pinned.checked.prog.wantsStandIn t = false := by
  obtain rfl : f = 5 := Option.some.inj ((show Tryz.prog.funcNamed "sandpile/sandpilelaw33.LevelsTells" = some 5 by kernel_rfl).symm.trans hf) |>.symm
  obtain rfl : fn = Tryz.f5 := (Option.some.inj (Tryz.func5.symm.trans hfn)).symm
  refine ⟨by kernel_rfl, fun j t ht => ?_⟩
  rw [Tryz.params5] at ht
  rcases (by simpa using Array.mem_of_getElem? ht : t = 24 ∨ t = 3 ∨ t = 53) with rfl | rfl | rfl
  · exact (show Tryz.prog.wantsStandIn 24 = false by kernel_rfl)
  · exact (show Tryz.prog.wantsStandIn 3 = false by kernel_rfl)
  · exact (show Tryz.prog.wantsStandIn 53 = false by kernel_rfl)
theorem fw : Rows.levelsTellsRow.wfByText (OpenSpec.ofChange Rows.levelsTellsSpec) = true := by kernel_rfl
theorem fg : false = Rows.levelsTellsRow.goesBy Tryz.pinned.checked.prog := by kernel_rfl
end lawLevelsTells
end Go.Proofs.YtnbikkcalcpedaaGreatDoor
