/-
  DERIVED. GIVEN WITH THE SEED: THE CARDS: each row of YtnbikkcalcpedaaGreatDoorRows.lean that lists a variable, with what it lists TIED to the program's text (the seventh form; the later family's looks); each row that meets fmt, with fmt's text TOLD by the authors' own Lean function (tested against real Go, not proved from fmt's source: count such statements apart). THE CARD IS WHAT COUNTS. Prove the row's statement (the work); the ties are given (YtnbikkcalcpedaaGreatDoorTie.lean); close each card by the builder's one call (the guide's Derived/Test/ToyasCard.lean, 'card_holds'). Laid BY PROGRAM, IN A SANDBOX (cutbox-door.mjs). By AI agents, Wed Nov 11 2026. No macro, syntax, notation, axiom, sorry.
-/
import Derived.Test.YtnbikkcalcpedaaGreatDoorRows
import GoSem.ClaimSeven
namespace Go.Proofs.YtnbikkcalcpedaaGreatDoor
namespace Rows

/-- THE TIED CARD OF 'sandpilelaw31.ActivityRenames'. -/
def activityRenamesCard : Claim7 := { stood := { row := activityRenamesRow, standIns := [], harness := (true, "8c53f92e2f47b2f30be44569ed23465e311218ea1c413fe71d7dd86639600408"), looks := true }, kinds := [], alts := [], laidByText := true, laidKinds := [.data, .data, .data], laidTests := true, laidLooks := .later }
def ActivityRenamesCardSaid : Prop := Claim7.holds Tryz.pinned (.plain (OpenSpec.ofChange activityRenamesSpec)) activityRenamesCard

/-- THE TIED CARD OF 'sandpilelaw31.ActivityValues'. -/
def activityValuesCard : Claim7 := { stood := { row := activityValuesRow, standIns := [], harness := (true, "8c53f92e2f47b2f30be44569ed23465e311218ea1c413fe71d7dd86639600408"), looks := true }, kinds := [], alts := [], laidByText := true, laidKinds := [.data, .data, .data, .sentinel, .sentinel], laidTests := true, laidLooks := .later }
def ActivityValuesCardSaid : Prop := Claim7.holds Tryz.pinned (.plain (OpenSpec.ofChange activityValuesSpec)) activityValuesCard

/-- THE TIED CARD OF 'sandpilelaw33.LevelsTells'. -/
def levelsTellsCard : Claim7 := { stood := { row := levelsTellsRow, standIns := [], harness := (true, "8c53f92e2f47b2f30be44569ed23465e311218ea1c413fe71d7dd86639600408"), looks := true }, kinds := [], alts := [], laidByText := true, laidKinds := [.data, .data, .data, .sentinel, .sentinel], laidTests := true, laidLooks := .later }
def LevelsTellsCardSaid : Prop := Claim7.holds Tryz.pinned (.plain (OpenSpec.ofChange levelsTellsSpec)) levelsTellsCard

/-- THE TIED CARD OF 'sandpilelaw33.LevelsTrees'. -/
def levelsTreesCard : Claim7 := { stood := { row := levelsTreesRow, standIns := [], harness := (true, "8c53f92e2f47b2f30be44569ed23465e311218ea1c413fe71d7dd86639600408"), looks := true }, kinds := [], alts := [], laidByText := true, laidKinds := [.data, .data, .data, .sentinel, .sentinel], laidTests := true, laidLooks := .later }
def LevelsTreesCardSaid : Prop := Claim7.holds Tryz.pinned (.plain (OpenSpec.ofChange levelsTreesSpec)) levelsTreesCard

/-- THE TIED CARD OF 'sandpilelaw33.LevelsCounts'. -/
def levelsCountsCard : Claim7 := { stood := { row := levelsCountsRow, standIns := [], harness := (true, "8c53f92e2f47b2f30be44569ed23465e311218ea1c413fe71d7dd86639600408"), looks := true }, kinds := [], alts := [], laidByText := true, laidKinds := [.data, .data, .data, .sentinel, .sentinel], laidTests := true, laidLooks := .later }
def LevelsCountsCardSaid : Prop := Claim7.holds Tryz.pinned (.plain (OpenSpec.ofChange levelsCountsSpec)) levelsCountsCard

/-- THE TIED CARD OF 'sandpilelaw33.LevelsSinks'. -/
def levelsSinksCard : Claim7 := { stood := { row := levelsSinksRow, standIns := [], harness := (true, "8c53f92e2f47b2f30be44569ed23465e311218ea1c413fe71d7dd86639600408"), looks := true }, kinds := [], alts := [], laidByText := true, laidKinds := [.data, .data, .data, .sentinel, .sentinel], laidTests := true, laidLooks := .later }
def LevelsSinksCardSaid : Prop := Claim7.holds Tryz.pinned (.plain (OpenSpec.ofChange levelsSinksSpec)) levelsSinksCard

/-- THE TIED CARD OF 'sandpilelaw33.LevelsDual'. -/
def levelsDualCard : Claim7 := { stood := { row := levelsDualRow, standIns := [], harness := (true, "8c53f92e2f47b2f30be44569ed23465e311218ea1c413fe71d7dd86639600408"), looks := true }, kinds := [], alts := [], laidByText := true, laidKinds := [.data, .data, .data, .sentinel, .sentinel], laidTests := true, laidLooks := .later }
def LevelsDualCardSaid : Prop := Claim7.holds Tryz.pinned (.plain (OpenSpec.ofChange levelsDualSpec)) levelsDualCard

/-- THE TIED CARD OF 'sandpilelaw33.LevelsActive'. -/
def levelsActiveCard : Claim7 := { stood := { row := levelsActiveRow, standIns := [], harness := (true, "8c53f92e2f47b2f30be44569ed23465e311218ea1c413fe71d7dd86639600408"), looks := true }, kinds := [], alts := [], laidByText := true, laidKinds := [.data, .data, .data, .sentinel, .sentinel], laidTests := true, laidLooks := .later }
def LevelsActiveCardSaid : Prop := Claim7.holds Tryz.pinned (.plain (OpenSpec.ofChange levelsActiveSpec)) levelsActiveCard

/-- THE SECOND FORM's CARD OF 'sandpilelaw31.ActivityRenames'. -/
def activityRenamesUptoCard : Claim7 := { stood := { row := activityRenamesUptoRow, standIns := [], harness := (true, "8c53f92e2f47b2f30be44569ed23465e311218ea1c413fe71d7dd86639600408"), looks := true }, kinds := [], alts := [], laidByText := true, laidKinds := [.data, .data, .data], laidTests := true, laidLooks := .later }
def ActivityRenamesUptoCardSaid : Prop := Claim7.holds Tryz.pinned (.plain (OpenSpec.upto activityRenamesSpec)) activityRenamesUptoCard

/-- THE SECOND FORM's CARD OF 'sandpilelaw31.ActivityValues'. -/
def activityValuesUptoCard : Claim7 := { stood := { row := activityValuesUptoRow, standIns := [], harness := (true, "8c53f92e2f47b2f30be44569ed23465e311218ea1c413fe71d7dd86639600408"), looks := true }, kinds := [], alts := [], laidByText := true, laidKinds := [.data, .data, .data, .sentinel, .sentinel], laidTests := true, laidLooks := .later }
def ActivityValuesUptoCardSaid : Prop := Claim7.holds Tryz.pinned (.plain (OpenSpec.upto activityValuesSpec)) activityValuesUptoCard

/-- THE SECOND FORM's CARD OF 'sandpilelaw33.LevelsTells'. -/
def levelsTellsUptoCard : Claim7 := { stood := { row := levelsTellsUptoRow, standIns := [], harness := (true, "8c53f92e2f47b2f30be44569ed23465e311218ea1c413fe71d7dd86639600408"), looks := true }, kinds := [], alts := [], laidByText := true, laidKinds := [.data, .data, .data, .sentinel, .sentinel], laidTests := true, laidLooks := .later }
def LevelsTellsUptoCardSaid : Prop := Claim7.holds Tryz.pinned (.plain (OpenSpec.upto levelsTellsSpec)) levelsTellsUptoCard

/-- THE SECOND FORM's CARD OF 'sandpilelaw33.LevelsTrees'. -/
def levelsTreesUptoCard : Claim7 := { stood := { row := levelsTreesUptoRow, standIns := [], harness := (true, "8c53f92e2f47b2f30be44569ed23465e311218ea1c413fe71d7dd86639600408"), looks := true }, kinds := [], alts := [], laidByText := true, laidKinds := [.data, .data, .data, .sentinel, .sentinel], laidTests := true, laidLooks := .later }
def LevelsTreesUptoCardSaid : Prop := Claim7.holds Tryz.pinned (.plain (OpenSpec.upto levelsTreesSpec)) levelsTreesUptoCard

/-- THE SECOND FORM's CARD OF 'sandpilelaw33.LevelsCounts'. -/
def levelsCountsUptoCard : Claim7 := { stood := { row := levelsCountsUptoRow, standIns := [], harness := (true, "8c53f92e2f47b2f30be44569ed23465e311218ea1c413fe71d7dd86639600408"), looks := true }, kinds := [], alts := [], laidByText := true, laidKinds := [.data, .data, .data, .sentinel, .sentinel], laidTests := true, laidLooks := .later }
def LevelsCountsUptoCardSaid : Prop := Claim7.holds Tryz.pinned (.plain (OpenSpec.upto levelsCountsSpec)) levelsCountsUptoCard

/-- THE SECOND FORM's CARD OF 'sandpilelaw33.LevelsSinks'. -/
def levelsSinksUptoCard : Claim7 := { stood := { row := levelsSinksUptoRow, standIns := [], harness := (true, "8c53f92e2f47b2f30be44569ed23465e311218ea1c413fe71d7dd86639600408"), looks := true }, kinds := [], alts := [], laidByText := true, laidKinds := [.data, .data, .data, .sentinel, .sentinel], laidTests := true, laidLooks := .later }
def LevelsSinksUptoCardSaid : Prop := Claim7.holds Tryz.pinned (.plain (OpenSpec.upto levelsSinksSpec)) levelsSinksUptoCard

/-- THE SECOND FORM's CARD OF 'sandpilelaw33.LevelsDual'. -/
def levelsDualUptoCard : Claim7 := { stood := { row := levelsDualUptoRow, standIns := [], harness := (true, "8c53f92e2f47b2f30be44569ed23465e311218ea1c413fe71d7dd86639600408"), looks := true }, kinds := [], alts := [], laidByText := true, laidKinds := [.data, .data, .data, .sentinel, .sentinel], laidTests := true, laidLooks := .later }
def LevelsDualUptoCardSaid : Prop := Claim7.holds Tryz.pinned (.plain (OpenSpec.upto levelsDualSpec)) levelsDualUptoCard

/-- THE SECOND FORM's CARD OF 'sandpilelaw33.LevelsActive'. -/
def levelsActiveUptoCard : Claim7 := { stood := { row := levelsActiveUptoRow, standIns := [], harness := (true, "8c53f92e2f47b2f30be44569ed23465e311218ea1c413fe71d7dd86639600408"), looks := true }, kinds := [], alts := [], laidByText := true, laidKinds := [.data, .data, .data, .sentinel, .sentinel], laidTests := true, laidLooks := .later }
def LevelsActiveUptoCardSaid : Prop := Claim7.holds Tryz.pinned (.plain (OpenSpec.upto levelsActiveSpec)) levelsActiveUptoCard
end Rows
end Go.Proofs.YtnbikkcalcpedaaGreatDoor
