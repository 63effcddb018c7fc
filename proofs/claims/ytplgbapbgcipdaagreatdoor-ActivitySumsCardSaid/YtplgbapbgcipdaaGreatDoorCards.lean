/-
  DERIVED. GIVEN WITH THE SEED: THE CARDS: each row of YtplgbapbgcipdaaGreatDoorRows.lean that lists a variable, with what it lists TIED to the program's text (the seventh form; the later family's looks); each row that meets fmt, with fmt's text TOLD by the authors' own Lean function (tested against real Go, not proved from fmt's source: count such statements apart). THE CARD IS WHAT COUNTS. Prove the row's statement (the work); the ties are given (YtplgbapbgcipdaaGreatDoorTie.lean); close each card by the builder's one call (the guide's Derived/Test/ToyasCard.lean, 'card_holds'). Laid BY PROGRAM, IN A SANDBOX (cutbox-door.mjs). By AI agents, Wed Nov 11 2026. No macro, syntax, notation, axiom, sorry.
-/
import Derived.Test.YtplgbapbgcipdaaGreatDoorRows
import GoSem.ClaimSeven
namespace Go.Proofs.YtplgbapbgcipdaaGreatDoor
namespace Rows

/-- THE TIED CARD OF 'sandpilelaw31.ActivityFinds'. -/
def activityFindsCard : Claim7 := { stood := { row := activityFindsRow, standIns := [], harness := (true, "6e67c8c1be2e09c1df4de921629d9751bcdb00747bf1a2c988cca5661d72783b"), looks := true }, kinds := [], alts := [], laidByText := true, laidKinds := [.data, .data, .data], laidTests := true, laidLooks := .later }
def ActivityFindsCardSaid : Prop := Claim7.holds Tryz.pinned (.plain (OpenSpec.ofChange activityFindsSpec)) activityFindsCard

/-- THE TIED CARD OF 'sandpilelaw31.ActivitySums'. -/
def activitySumsCard : Claim7 := { stood := { row := activitySumsRow, standIns := [], harness := (true, "6e67c8c1be2e09c1df4de921629d9751bcdb00747bf1a2c988cca5661d72783b"), looks := true }, kinds := [], alts := [], laidByText := true, laidKinds := [.data, .data, .data], laidTests := true, laidLooks := .later }
def ActivitySumsCardSaid : Prop := Claim7.holds Tryz.pinned (.plain (OpenSpec.ofChange activitySumsSpec)) activitySumsCard

/-- THE TIED CARD OF 'sandpilelaw31.ActivityPlaces'. -/
def activityPlacesCard : Claim7 := { stood := { row := activityPlacesRow, standIns := [], harness := (true, "6e67c8c1be2e09c1df4de921629d9751bcdb00747bf1a2c988cca5661d72783b"), looks := true }, kinds := [], alts := [], laidByText := true, laidKinds := [.data, .data, .data], laidTests := true, laidLooks := .later }
def ActivityPlacesCardSaid : Prop := Claim7.holds Tryz.pinned (.plain (OpenSpec.ofChange activityPlacesSpec)) activityPlacesCard

/-- THE TIED CARD OF 'sandpilelaw31.ActivityWeighs'. -/
def activityWeighsCard : Claim7 := { stood := { row := activityWeighsRow, standIns := [], harness := (true, "6e67c8c1be2e09c1df4de921629d9751bcdb00747bf1a2c988cca5661d72783b"), looks := true }, kinds := [], alts := [], laidByText := true, laidKinds := [.data, .data, .data], laidTests := true, laidLooks := .later }
def ActivityWeighsCardSaid : Prop := Claim7.holds Tryz.pinned (.plain (OpenSpec.ofChange activityWeighsSpec)) activityWeighsCard

/-- THE TIED CARD OF 'sandpilelaw31.ActivityCovers'. -/
def activityCoversCard : Claim7 := { stood := { row := activityCoversRow, standIns := [], harness := (true, "6e67c8c1be2e09c1df4de921629d9751bcdb00747bf1a2c988cca5661d72783b"), looks := true }, kinds := [], alts := [], laidByText := true, laidKinds := [.data, .data, .data], laidTests := true, laidLooks := .later }
def ActivityCoversCardSaid : Prop := Claim7.holds Tryz.pinned (.plain (OpenSpec.ofChange activityCoversSpec)) activityCoversCard

/-- THE TIED CARD OF 'sandpilelaw31.ActivityRenames'. -/
def activityRenamesCard : Claim7 := { stood := { row := activityRenamesRow, standIns := [], harness := (true, "6e67c8c1be2e09c1df4de921629d9751bcdb00747bf1a2c988cca5661d72783b"), looks := true }, kinds := [], alts := [], laidByText := true, laidKinds := [.data, .data, .data], laidTests := true, laidLooks := .later }
def ActivityRenamesCardSaid : Prop := Claim7.holds Tryz.pinned (.plain (OpenSpec.ofChange activityRenamesSpec)) activityRenamesCard

/-- THE TIED CARD OF 'sandpilelaw31.ActivityValues'. -/
def activityValuesCard : Claim7 := { stood := { row := activityValuesRow, standIns := [], harness := (true, "6e67c8c1be2e09c1df4de921629d9751bcdb00747bf1a2c988cca5661d72783b"), looks := true }, kinds := [], alts := [], laidByText := true, laidKinds := [.data, .data, .data, .sentinel, .sentinel], laidTests := true, laidLooks := .later }
def ActivityValuesCardSaid : Prop := Claim7.holds Tryz.pinned (.plain (OpenSpec.ofChange activityValuesSpec)) activityValuesCard

/-- THE SECOND FORM's CARD OF 'sandpilelaw31.ActivityFinds'. -/
def activityFindsUptoCard : Claim7 := { stood := { row := activityFindsUptoRow, standIns := [], harness := (true, "6e67c8c1be2e09c1df4de921629d9751bcdb00747bf1a2c988cca5661d72783b"), looks := true }, kinds := [], alts := [], laidByText := true, laidKinds := [.data, .data, .data], laidTests := true, laidLooks := .later }
def ActivityFindsUptoCardSaid : Prop := Claim7.holds Tryz.pinned (.plain (OpenSpec.upto activityFindsSpec)) activityFindsUptoCard

/-- THE SECOND FORM's CARD OF 'sandpilelaw31.ActivitySums'. -/
def activitySumsUptoCard : Claim7 := { stood := { row := activitySumsUptoRow, standIns := [], harness := (true, "6e67c8c1be2e09c1df4de921629d9751bcdb00747bf1a2c988cca5661d72783b"), looks := true }, kinds := [], alts := [], laidByText := true, laidKinds := [.data, .data, .data], laidTests := true, laidLooks := .later }
def ActivitySumsUptoCardSaid : Prop := Claim7.holds Tryz.pinned (.plain (OpenSpec.upto activitySumsSpec)) activitySumsUptoCard

/-- THE SECOND FORM's CARD OF 'sandpilelaw31.ActivityPlaces'. -/
def activityPlacesUptoCard : Claim7 := { stood := { row := activityPlacesUptoRow, standIns := [], harness := (true, "6e67c8c1be2e09c1df4de921629d9751bcdb00747bf1a2c988cca5661d72783b"), looks := true }, kinds := [], alts := [], laidByText := true, laidKinds := [.data, .data, .data], laidTests := true, laidLooks := .later }
def ActivityPlacesUptoCardSaid : Prop := Claim7.holds Tryz.pinned (.plain (OpenSpec.upto activityPlacesSpec)) activityPlacesUptoCard

/-- THE SECOND FORM's CARD OF 'sandpilelaw31.ActivityWeighs'. -/
def activityWeighsUptoCard : Claim7 := { stood := { row := activityWeighsUptoRow, standIns := [], harness := (true, "6e67c8c1be2e09c1df4de921629d9751bcdb00747bf1a2c988cca5661d72783b"), looks := true }, kinds := [], alts := [], laidByText := true, laidKinds := [.data, .data, .data], laidTests := true, laidLooks := .later }
def ActivityWeighsUptoCardSaid : Prop := Claim7.holds Tryz.pinned (.plain (OpenSpec.upto activityWeighsSpec)) activityWeighsUptoCard

/-- THE SECOND FORM's CARD OF 'sandpilelaw31.ActivityCovers'. -/
def activityCoversUptoCard : Claim7 := { stood := { row := activityCoversUptoRow, standIns := [], harness := (true, "6e67c8c1be2e09c1df4de921629d9751bcdb00747bf1a2c988cca5661d72783b"), looks := true }, kinds := [], alts := [], laidByText := true, laidKinds := [.data, .data, .data], laidTests := true, laidLooks := .later }
def ActivityCoversUptoCardSaid : Prop := Claim7.holds Tryz.pinned (.plain (OpenSpec.upto activityCoversSpec)) activityCoversUptoCard

/-- THE SECOND FORM's CARD OF 'sandpilelaw31.ActivityRenames'. -/
def activityRenamesUptoCard : Claim7 := { stood := { row := activityRenamesUptoRow, standIns := [], harness := (true, "6e67c8c1be2e09c1df4de921629d9751bcdb00747bf1a2c988cca5661d72783b"), looks := true }, kinds := [], alts := [], laidByText := true, laidKinds := [.data, .data, .data], laidTests := true, laidLooks := .later }
def ActivityRenamesUptoCardSaid : Prop := Claim7.holds Tryz.pinned (.plain (OpenSpec.upto activityRenamesSpec)) activityRenamesUptoCard

/-- THE SECOND FORM's CARD OF 'sandpilelaw31.ActivityValues'. -/
def activityValuesUptoCard : Claim7 := { stood := { row := activityValuesUptoRow, standIns := [], harness := (true, "6e67c8c1be2e09c1df4de921629d9751bcdb00747bf1a2c988cca5661d72783b"), looks := true }, kinds := [], alts := [], laidByText := true, laidKinds := [.data, .data, .data, .sentinel, .sentinel], laidTests := true, laidLooks := .later }
def ActivityValuesUptoCardSaid : Prop := Claim7.holds Tryz.pinned (.plain (OpenSpec.upto activityValuesSpec)) activityValuesUptoCard
end Rows
end Go.Proofs.YtplgbapbgcipdaaGreatDoor
