/-
 Texts of this claim, put together: LevelsTreesL.
-/
import Derived.Test.YtnbikkcalcpedaaGreatDoorK48
set_option maxRecDepth 100000
namespace Go.Proofs.YtnbikkcalcpedaaGreatDoor
open Go.RowKit
namespace lawLevelsTrees
open Go.ChangeShapes Go.WideShapes Go.ChangeAt Go.RowKit
set_option linter.unusedVariables false
theorem laid_met (os : Os) : laidMet Tryz.prog Rows.levelsTreesRow.laid ((laidWorld31b os).forCall (fun _ _ => 0) ⟨#[], #[.agg #[.int .i64 0, .slice none 0 0], .int .i64 0, .slice none 0 0], []⟩).memory :=
 laidMet_of_run' 8 (by kernel_rfl) (by kernel_rfl)
theorem reads (os : Os) {H : Type} (enc : TypeId × Value → H) : ∃ places, DataW.whole enc Tryz.prog ((laidWorld31b os).forCall (fun _ _ => 0) ⟨#[], #[.agg #[.int .i64 0, .slice none 0 0], .int .i64 0, .slice none 0 0], []⟩).memory Tryz.f6.params.toList Rows.levelsTreesSpec.vars false #[.agg #[.int .i64 0, .slice none 0 0], .int .i64 0, .slice none 0 0].toList 8 = some ([.agg [.lit (.int .i64 0), .nil], .lit (.int .i64 0), .nil], [], places) :=
 ⟨[], by kernel_rfl⟩
theorem lifted (os : Os) (started : os.Started) (H : Type) (enc : TypeId × Value → H) (F : Stop.Interp) :
  ReturnsInHanded {} Tryz.checked os 6 .any ((OpenSpec.ofChange Rows.levelsTreesSpec).preRow enc Tryz.prog Tryz.f6 Rows.levelsTreesRow.domain false Rows.levelsTreesRow.laid) (((OpenSpec.ofChange Rows.levelsTreesSpec).at F).post enc Tryz.prog Tryz.f6 false true false false) := by
 obtain ⟨places, hx⟩ := reads os enc
 refine returnsInHanded_of_row (C := Tryz.checked) (s := OpenSpec.ofChange Rows.levelsTreesSpec) own started (by kernel_rfl) Tryz.func6
  (witness_row_at (enc := enc) (C := Tryz.checked) false (laidWorld31b os) #[.agg #[.int .i64 0, .slice none 0 0], .int .i64 0, .slice none 0 0] rfl (by kernel_rfl) (by kernel_rfl) (by kernel_rfl)
   (OpenSpec.preRow_of_cond 8 hx (by kernel_rfl) (fun k hk => by cases hk) (by kernel_rfl) (laid_met os))) ?_
 intro W base args ds gs before hval hW _ _ _ hL _ _
 exact contract H enc W base args ds gs before hval hW hL
end lawLevelsTrees
end Go.Proofs.YtnbikkcalcpedaaGreatDoor
