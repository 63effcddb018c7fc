/-
  Texts of this claim, put together: ActivityValuesP.
-/
import Derived.Test.YtnbikkcalcpedaaGreatDoorK35
/-! ActivityValues: what the card asks of the program. -/
namespace Go.Proofs.YtnbikkcalcpedaaGreatDoor
open Go.RowKit
namespace lawActivityValues
open Go.ChangeShapes Go.WideShapes Go.ChangeAt Go.RowKit
set_option linter.unusedVariables false
set_option maxRecDepth 100000 in
/-- No parameter wants a stand-in; the program's own looks are off: what the card asks. -/
theorem plain (f : FuncId) (fn : Func) (hf : Tryz.pinned.checked.prog.funcNamed "sandpile/sandpilelaw31.ActivityValues" = some f) (hfn : Tryz.pinned.checked.prog.funcs[f]? = some fn) :
    true = Tryz.pinned.checked.prog.looks [] ∧ ∀ (j : Nat) t, fn.params[j]? = some t → Tryz.pinned.checked.prog.wantsStandIn t = false := by
  obtain rfl : f = 4 := Option.some.inj ((show Tryz.prog.funcNamed "sandpile/sandpilelaw31.ActivityValues" = some 4 by kernel_rfl).symm.trans hf) |>.symm
  obtain rfl : fn = Tryz.f4 := (Option.some.inj (Tryz.func4.symm.trans hfn)).symm
  refine ⟨by kernel_rfl, fun j t ht => ?_⟩
  rw [Tryz.params4] at ht
  rcases (by simpa using Array.mem_of_getElem? ht : t = 24 ∨ t = 25) with rfl | rfl
  · exact (show Tryz.prog.wantsStandIn 24 = false by kernel_rfl)
  · exact (show Tryz.prog.wantsStandIn 25 = false by kernel_rfl)

theorem fw : Rows.activityValuesRow.wfByText (OpenSpec.ofChange Rows.activityValuesSpec) = true := by kernel_rfl
theorem fg : false = Rows.activityValuesRow.goesBy Tryz.pinned.checked.prog := by kernel_rfl
end lawActivityValues
end Go.Proofs.YtnbikkcalcpedaaGreatDoor

