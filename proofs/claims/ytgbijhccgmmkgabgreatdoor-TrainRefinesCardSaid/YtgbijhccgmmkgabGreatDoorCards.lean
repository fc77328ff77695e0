/-
  DERIVED. GIVEN WITH THE SEED: THE CARDS: each row of YtgbijhccgmmkgabGreatDoorRows.lean that lists a variable, with what it lists TIED to the program's text (the seventh form; the later family's looks); each row that meets fmt, with fmt's text TOLD by the authors' own Lean function (tested against real Go, not proved from fmt's source: count such statements apart). THE CARD IS WHAT COUNTS. Prove the row's statement (the work); the ties are given (YtgbijhccgmmkgabGreatDoorTie.lean); close each card by the builder's one call (the guide's Derived/Test/ToyasCard.lean, 'card_holds'). Laid BY PROGRAM, IN A SANDBOX (cutbox-door.mjs). By AI agents, Wed Nov 11 2026. No macro, syntax, notation, axiom, sorry.
-/
import Derived.Test.YtgbijhccgmmkgabGreatDoorRows
import GoSem.ClaimSeven
namespace Go.Proofs.YtgbijhccgmmkgabGreatDoor
namespace Rows

/-- THE TIED CARD OF 'quadformlaw27.TrainCanonical'. -/
def trainCanonicalCard : Claim7 := { stood := { row := trainCanonicalRow, standIns := [], harness := (true, "1bcd07cc23892cbbf0b4b8ad1ce4a654c4a5b30b4056c4e7797680d85bba9356"), looks := false }, kinds := [], alts := [], laidByText := true, laidKinds := [.data, .data, .data], laidTests := true, laidLooks := .later }
def TrainCanonicalCardSaid : Prop := Claim7.holds Tryz.pinned (.plain (OpenSpec.ofChange trainCanonicalSpec)) trainCanonicalCard

/-- THE TIED CARD OF 'quadformlaw27.TrainCanonicalIs'. -/
def trainCanonicalIsCard : Claim7 := { stood := { row := trainCanonicalIsRow, standIns := [], harness := (true, "1bcd07cc23892cbbf0b4b8ad1ce4a654c4a5b30b4056c4e7797680d85bba9356"), looks := false }, kinds := [], alts := [], laidByText := true, laidKinds := [.data, .data, .data], laidTests := true, laidLooks := .later }
def TrainCanonicalIsCardSaid : Prop := Claim7.holds Tryz.pinned (.plain (OpenSpec.ofChange trainCanonicalIsSpec)) trainCanonicalIsCard

/-- THE TIED CARD OF 'quadformlaw27.TrainOrbit'. -/
def trainOrbitCard : Claim7 := { stood := { row := trainOrbitRow, standIns := [], harness := (true, "1bcd07cc23892cbbf0b4b8ad1ce4a654c4a5b30b4056c4e7797680d85bba9356"), looks := false }, kinds := [], alts := [], laidByText := true, laidKinds := [.data, .data, .data], laidTests := true, laidLooks := .later }
def TrainOrbitCardSaid : Prop := Claim7.holds Tryz.pinned (.plain (OpenSpec.ofChange trainOrbitSpec)) trainOrbitCard

/-- THE TIED CARD OF 'quadformlaw27.TrainRefine'. -/
def trainRefineCard : Claim7 := { stood := { row := trainRefineRow, standIns := [], harness := (true, "1bcd07cc23892cbbf0b4b8ad1ce4a654c4a5b30b4056c4e7797680d85bba9356"), looks := false }, kinds := [], alts := [], laidByText := true, laidKinds := [.data, .data, .data], laidTests := true, laidLooks := .later }
def TrainRefineCardSaid : Prop := Claim7.holds Tryz.pinned (.plain (OpenSpec.ofChange trainRefineSpec)) trainRefineCard

/-- THE TIED CARD OF 'quadformlaw27.TrainRefines'. -/
def trainRefinesCard : Claim7 := { stood := { row := trainRefinesRow, standIns := [], harness := (true, "1bcd07cc23892cbbf0b4b8ad1ce4a654c4a5b30b4056c4e7797680d85bba9356"), looks := false }, kinds := [], alts := [], laidByText := true, laidKinds := [.data, .data, .data], laidTests := true, laidLooks := .later }
def TrainRefinesCardSaid : Prop := Claim7.holds Tryz.pinned (.plain (OpenSpec.ofChange trainRefinesSpec)) trainRefinesCard

/-- THE TIED CARD OF 'quadformlaw27.TrainShapes'. -/
def trainShapesCard : Claim7 := { stood := { row := trainShapesRow, standIns := [], harness := (true, "1bcd07cc23892cbbf0b4b8ad1ce4a654c4a5b30b4056c4e7797680d85bba9356"), looks := false }, kinds := [], alts := [], laidByText := true, laidKinds := [.data, .data, .data], laidTests := true, laidLooks := .later }
def TrainShapesCardSaid : Prop := Claim7.holds Tryz.pinned (.plain (OpenSpec.ofChange trainShapesSpec)) trainShapesCard

/-- THE TIED CARD OF 'quadformlaw27.TrainSums'. -/
def trainSumsCard : Claim7 := { stood := { row := trainSumsRow, standIns := [], harness := (true, "1bcd07cc23892cbbf0b4b8ad1ce4a654c4a5b30b4056c4e7797680d85bba9356"), looks := false }, kinds := [], alts := [], laidByText := true, laidKinds := [.data, .data, .data], laidTests := true, laidLooks := .later }
def TrainSumsCardSaid : Prop := Claim7.holds Tryz.pinned (.plain (OpenSpec.ofChange trainSumsSpec)) trainSumsCard

/-- THE TIED CARD OF 'quadformlaw27.TrainFormat'. -/
def trainFormatCard : Claim7 := { stood := { row := trainFormatRow, standIns := [], harness := (true, "1bcd07cc23892cbbf0b4b8ad1ce4a654c4a5b30b4056c4e7797680d85bba9356"), looks := false }, kinds := [], alts := [], laidByText := true, laidKinds := [.data, .data, .data], laidTests := true, laidLooks := .later }
def TrainFormatCardSaid : Prop := Claim7.holds Tryz.pinned (.plain (OpenSpec.ofChange trainFormatSpec)) trainFormatCard

/-- THE TIED CARD OF 'quadformlaw27.TrainParse'. -/
def trainParseCard : Claim7 := { stood := { row := trainParseRow, standIns := [], harness := (true, "1bcd07cc23892cbbf0b4b8ad1ce4a654c4a5b30b4056c4e7797680d85bba9356"), looks := false }, kinds := [], alts := [], laidByText := true, laidKinds := [.data, .data, .data], laidTests := true, laidLooks := .later }
def TrainParseCardSaid : Prop := Claim7.holds Tryz.pinned (.plain (OpenSpec.ofChange trainParseSpec)) trainParseCard

/-- THE SECOND FORM's CARD OF 'quadformlaw27.TrainCanonical'. -/
def trainCanonicalUptoCard : Claim7 := { stood := { row := trainCanonicalUptoRow, standIns := [], harness := (true, "1bcd07cc23892cbbf0b4b8ad1ce4a654c4a5b30b4056c4e7797680d85bba9356"), looks := false }, kinds := [], alts := [], laidByText := true, laidKinds := [.data, .data, .data], laidTests := true, laidLooks := .later }
def TrainCanonicalUptoCardSaid : Prop := Claim7.holds Tryz.pinned (.plain (OpenSpec.upto trainCanonicalSpec)) trainCanonicalUptoCard

/-- THE SECOND FORM's CARD OF 'quadformlaw27.TrainCanonicalIs'. -/
def trainCanonicalIsUptoCard : Claim7 := { stood := { row := trainCanonicalIsUptoRow, standIns := [], harness := (true, "1bcd07cc23892cbbf0b4b8ad1ce4a654c4a5b30b4056c4e7797680d85bba9356"), looks := false }, kinds := [], alts := [], laidByText := true, laidKinds := [.data, .data, .data], laidTests := true, laidLooks := .later }
def TrainCanonicalIsUptoCardSaid : Prop := Claim7.holds Tryz.pinned (.plain (OpenSpec.upto trainCanonicalIsSpec)) trainCanonicalIsUptoCard

/-- THE SECOND FORM's CARD OF 'quadformlaw27.TrainOrbit'. -/
def trainOrbitUptoCard : Claim7 := { stood := { row := trainOrbitUptoRow, standIns := [], harness := (true, "1bcd07cc23892cbbf0b4b8ad1ce4a654c4a5b30b4056c4e7797680d85bba9356"), looks := false }, kinds := [], alts := [], laidByText := true, laidKinds := [.data, .data, .data], laidTests := true, laidLooks := .later }
def TrainOrbitUptoCardSaid : Prop := Claim7.holds Tryz.pinned (.plain (OpenSpec.upto trainOrbitSpec)) trainOrbitUptoCard

/-- THE SECOND FORM's CARD OF 'quadformlaw27.TrainRefine'. -/
def trainRefineUptoCard : Claim7 := { stood := { row := trainRefineUptoRow, standIns := [], harness := (true, "1bcd07cc23892cbbf0b4b8ad1ce4a654c4a5b30b4056c4e7797680d85bba9356"), looks := false }, kinds := [], alts := [], laidByText := true, laidKinds := [.data, .data, .data], laidTests := true, laidLooks := .later }
def TrainRefineUptoCardSaid : Prop := Claim7.holds Tryz.pinned (.plain (OpenSpec.upto trainRefineSpec)) trainRefineUptoCard

/-- THE SECOND FORM's CARD OF 'quadformlaw27.TrainRefines'. -/
def trainRefinesUptoCard : Claim7 := { stood := { row := trainRefinesUptoRow, standIns := [], harness := (true, "1bcd07cc23892cbbf0b4b8ad1ce4a654c4a5b30b4056c4e7797680d85bba9356"), looks := false }, kinds := [], alts := [], laidByText := true, laidKinds := [.data, .data, .data], laidTests := true, laidLooks := .later }
def TrainRefinesUptoCardSaid : Prop := Claim7.holds Tryz.pinned (.plain (OpenSpec.upto trainRefinesSpec)) trainRefinesUptoCard

/-- THE SECOND FORM's CARD OF 'quadformlaw27.TrainShapes'. -/
def trainShapesUptoCard : Claim7 := { stood := { row := trainShapesUptoRow, standIns := [], harness := (true, "1bcd07cc23892cbbf0b4b8ad1ce4a654c4a5b30b4056c4e7797680d85bba9356"), looks := false }, kinds := [], alts := [], laidByText := true, laidKinds := [.data, .data, .data], laidTests := true, laidLooks := .later }
def TrainShapesUptoCardSaid : Prop := Claim7.holds Tryz.pinned (.plain (OpenSpec.upto trainShapesSpec)) trainShapesUptoCard

/-- THE SECOND FORM's CARD OF 'quadformlaw27.TrainSums'. -/
def trainSumsUptoCard : Claim7 := { stood := { row := trainSumsUptoRow, standIns := [], harness := (true, "1bcd07cc23892cbbf0b4b8ad1ce4a654c4a5b30b4056c4e7797680d85bba9356"), looks := false }, kinds := [], alts := [], laidByText := true, laidKinds := [.data, .data, .data], laidTests := true, laidLooks := .later }
def TrainSumsUptoCardSaid : Prop := Claim7.holds Tryz.pinned (.plain (OpenSpec.upto trainSumsSpec)) trainSumsUptoCard

/-- THE SECOND FORM's CARD OF 'quadformlaw27.TrainFormat'. -/
def trainFormatUptoCard : Claim7 := { stood := { row := trainFormatUptoRow, standIns := [], harness := (true, "1bcd07cc23892cbbf0b4b8ad1ce4a654c4a5b30b4056c4e7797680d85bba9356"), looks := false }, kinds := [], alts := [], laidByText := true, laidKinds := [.data, .data, .data], laidTests := true, laidLooks := .later }
def TrainFormatUptoCardSaid : Prop := Claim7.holds Tryz.pinned (.plain (OpenSpec.upto trainFormatSpec)) trainFormatUptoCard

/-- THE SECOND FORM's CARD OF 'quadformlaw27.TrainParse'. -/
def trainParseUptoCard : Claim7 := { stood := { row := trainParseUptoRow, standIns := [], harness := (true, "1bcd07cc23892cbbf0b4b8ad1ce4a654c4a5b30b4056c4e7797680d85bba9356"), looks := false }, kinds := [], alts := [], laidByText := true, laidKinds := [.data, .data, .data], laidTests := true, laidLooks := .later }
def TrainParseUptoCardSaid : Prop := Claim7.holds Tryz.pinned (.plain (OpenSpec.upto trainParseSpec)) trainParseUptoCard
end Rows
end Go.Proofs.YtgbijhccgmmkgabGreatDoor
