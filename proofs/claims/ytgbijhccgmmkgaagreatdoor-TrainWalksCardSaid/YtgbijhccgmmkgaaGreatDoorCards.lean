/-
  DERIVED. GIVEN WITH THE SEED: THE CARDS: each row of YtgbijhccgmmkgaaGreatDoorRows.lean that lists a variable, with what it lists TIED to the program's text (the seventh form; the later family's looks); each row that meets fmt, with fmt's text TOLD by the authors' own Lean function (tested against real Go, not proved from fmt's source: count such statements apart). THE CARD IS WHAT COUNTS. Prove the row's statement (the work); the ties are given (YtgbijhccgmmkgaaGreatDoorTie.lean); close each card by the builder's one call (the guide's Derived/Test/ToyasCard.lean, 'card_holds'). Laid BY PROGRAM, IN A SANDBOX (cutbox-door.mjs). By AI agents, Wed Nov 11 2026. No macro, syntax, notation, axiom, sorry.
-/
import Derived.Test.YtgbijhccgmmkgaaGreatDoorRows
import GoSem.ClaimSeven
namespace Go.Proofs.YtgbijhccgmmkgaaGreatDoor
namespace Rows

/-- THE TIED CARD OF 'quadformlaw27.TrainLegal'. -/
def trainLegalCard : Claim7 := { stood := { row := trainLegalRow, standIns := [], harness := (true, "0bc38e0f9fd25477238738c0dea94d03132b89ab6c148d19e4f29ff5385e3ecd"), looks := false }, kinds := [], alts := [], laidByText := true, laidKinds := [.data, .data, .data], laidTests := true, laidLooks := .later }
def TrainLegalCardSaid : Prop := Claim7.holds Tryz.pinned (.plain (OpenSpec.ofChange trainLegalSpec)) trainLegalCard

/-- THE TIED CARD OF 'quadformlaw27.TrainLegalForms'. -/
def trainLegalFormsCard : Claim7 := { stood := { row := trainLegalFormsRow, standIns := [], harness := (true, "0bc38e0f9fd25477238738c0dea94d03132b89ab6c148d19e4f29ff5385e3ecd"), looks := false }, kinds := [], alts := [], laidByText := true, laidKinds := [.data, .data, .data], laidTests := true, laidLooks := .later }
def TrainLegalFormsCardSaid : Prop := Claim7.holds Tryz.pinned (.plain (OpenSpec.ofChange trainLegalFormsSpec)) trainLegalFormsCard

/-- THE TIED CARD OF 'quadformlaw27.TrainSum'. -/
def trainSumCard : Claim7 := { stood := { row := trainSumRow, standIns := [], harness := (true, "0bc38e0f9fd25477238738c0dea94d03132b89ab6c148d19e4f29ff5385e3ecd"), looks := false }, kinds := [], alts := [], laidByText := true, laidKinds := [.data, .data, .data], laidTests := true, laidLooks := .later }
def TrainSumCardSaid : Prop := Claim7.holds Tryz.pinned (.plain (OpenSpec.ofChange trainSumSpec)) trainSumCard

/-- THE TIED CARD OF 'quadformlaw27.TrainFuse'. -/
def trainFuseCard : Claim7 := { stood := { row := trainFuseRow, standIns := [], harness := (true, "0bc38e0f9fd25477238738c0dea94d03132b89ab6c148d19e4f29ff5385e3ecd"), looks := false }, kinds := [], alts := [], laidByText := true, laidKinds := [.data, .data, .data], laidTests := true, laidLooks := .later }
def TrainFuseCardSaid : Prop := Claim7.holds Tryz.pinned (.plain (OpenSpec.ofChange trainFuseSpec)) trainFuseCard

/-- THE TIED CARD OF 'quadformlaw27.TrainWalk'. -/
def trainWalkCard : Claim7 := { stood := { row := trainWalkRow, standIns := [], harness := (true, "0bc38e0f9fd25477238738c0dea94d03132b89ab6c148d19e4f29ff5385e3ecd"), looks := false }, kinds := [], alts := [], laidByText := true, laidKinds := [.data, .data, .data], laidTests := true, laidLooks := .later }
def TrainWalkCardSaid : Prop := Claim7.holds Tryz.pinned (.plain (OpenSpec.ofChange trainWalkSpec)) trainWalkCard

/-- THE TIED CARD OF 'quadformlaw27.TrainOddity'. -/
def trainOddityCard : Claim7 := { stood := { row := trainOddityRow, standIns := [], harness := (true, "0bc38e0f9fd25477238738c0dea94d03132b89ab6c148d19e4f29ff5385e3ecd"), looks := false }, kinds := [], alts := [], laidByText := true, laidKinds := [.data, .data, .data], laidTests := true, laidLooks := .later }
def TrainOddityCardSaid : Prop := Claim7.holds Tryz.pinned (.plain (OpenSpec.ofChange trainOdditySpec)) trainOddityCard

/-- THE TIED CARD OF 'quadformlaw27.TrainParts'. -/
def trainPartsCard : Claim7 := { stood := { row := trainPartsRow, standIns := [], harness := (true, "0bc38e0f9fd25477238738c0dea94d03132b89ab6c148d19e4f29ff5385e3ecd"), looks := false }, kinds := [], alts := [], laidByText := true, laidKinds := [.data, .data, .data], laidTests := true, laidLooks := .later }
def TrainPartsCardSaid : Prop := Claim7.holds Tryz.pinned (.plain (OpenSpec.ofChange trainPartsSpec)) trainPartsCard

/-- THE TIED CARD OF 'quadformlaw27.TrainCovers'. -/
def trainCoversCard : Claim7 := { stood := { row := trainCoversRow, standIns := [], harness := (true, "0bc38e0f9fd25477238738c0dea94d03132b89ab6c148d19e4f29ff5385e3ecd"), looks := false }, kinds := [], alts := [], laidByText := true, laidKinds := [.data, .data, .data], laidTests := true, laidLooks := .later }
def TrainCoversCardSaid : Prop := Claim7.holds Tryz.pinned (.plain (OpenSpec.ofChange trainCoversSpec)) trainCoversCard

/-- THE TIED CARD OF 'quadformlaw27.TrainWalks'. -/
def trainWalksCard : Claim7 := { stood := { row := trainWalksRow, standIns := [], harness := (true, "0bc38e0f9fd25477238738c0dea94d03132b89ab6c148d19e4f29ff5385e3ecd"), looks := false }, kinds := [], alts := [], laidByText := true, laidKinds := [.data, .data, .data], laidTests := true, laidLooks := .later }
def TrainWalksCardSaid : Prop := Claim7.holds Tryz.pinned (.plain (OpenSpec.ofChange trainWalksSpec)) trainWalksCard

/-- THE SECOND FORM's CARD OF 'quadformlaw27.TrainLegal'. -/
def trainLegalUptoCard : Claim7 := { stood := { row := trainLegalUptoRow, standIns := [], harness := (true, "0bc38e0f9fd25477238738c0dea94d03132b89ab6c148d19e4f29ff5385e3ecd"), looks := false }, kinds := [], alts := [], laidByText := true, laidKinds := [.data, .data, .data], laidTests := true, laidLooks := .later }
def TrainLegalUptoCardSaid : Prop := Claim7.holds Tryz.pinned (.plain (OpenSpec.upto trainLegalSpec)) trainLegalUptoCard

/-- THE SECOND FORM's CARD OF 'quadformlaw27.TrainLegalForms'. -/
def trainLegalFormsUptoCard : Claim7 := { stood := { row := trainLegalFormsUptoRow, standIns := [], harness := (true, "0bc38e0f9fd25477238738c0dea94d03132b89ab6c148d19e4f29ff5385e3ecd"), looks := false }, kinds := [], alts := [], laidByText := true, laidKinds := [.data, .data, .data], laidTests := true, laidLooks := .later }
def TrainLegalFormsUptoCardSaid : Prop := Claim7.holds Tryz.pinned (.plain (OpenSpec.upto trainLegalFormsSpec)) trainLegalFormsUptoCard

/-- THE SECOND FORM's CARD OF 'quadformlaw27.TrainSum'. -/
def trainSumUptoCard : Claim7 := { stood := { row := trainSumUptoRow, standIns := [], harness := (true, "0bc38e0f9fd25477238738c0dea94d03132b89ab6c148d19e4f29ff5385e3ecd"), looks := false }, kinds := [], alts := [], laidByText := true, laidKinds := [.data, .data, .data], laidTests := true, laidLooks := .later }
def TrainSumUptoCardSaid : Prop := Claim7.holds Tryz.pinned (.plain (OpenSpec.upto trainSumSpec)) trainSumUptoCard

/-- THE SECOND FORM's CARD OF 'quadformlaw27.TrainFuse'. -/
def trainFuseUptoCard : Claim7 := { stood := { row := trainFuseUptoRow, standIns := [], harness := (true, "0bc38e0f9fd25477238738c0dea94d03132b89ab6c148d19e4f29ff5385e3ecd"), looks := false }, kinds := [], alts := [], laidByText := true, laidKinds := [.data, .data, .data], laidTests := true, laidLooks := .later }
def TrainFuseUptoCardSaid : Prop := Claim7.holds Tryz.pinned (.plain (OpenSpec.upto trainFuseSpec)) trainFuseUptoCard

/-- THE SECOND FORM's CARD OF 'quadformlaw27.TrainWalk'. -/
def trainWalkUptoCard : Claim7 := { stood := { row := trainWalkUptoRow, standIns := [], harness := (true, "0bc38e0f9fd25477238738c0dea94d03132b89ab6c148d19e4f29ff5385e3ecd"), looks := false }, kinds := [], alts := [], laidByText := true, laidKinds := [.data, .data, .data], laidTests := true, laidLooks := .later }
def TrainWalkUptoCardSaid : Prop := Claim7.holds Tryz.pinned (.plain (OpenSpec.upto trainWalkSpec)) trainWalkUptoCard

/-- THE SECOND FORM's CARD OF 'quadformlaw27.TrainOddity'. -/
def trainOddityUptoCard : Claim7 := { stood := { row := trainOddityUptoRow, standIns := [], harness := (true, "0bc38e0f9fd25477238738c0dea94d03132b89ab6c148d19e4f29ff5385e3ecd"), looks := false }, kinds := [], alts := [], laidByText := true, laidKinds := [.data, .data, .data], laidTests := true, laidLooks := .later }
def TrainOddityUptoCardSaid : Prop := Claim7.holds Tryz.pinned (.plain (OpenSpec.upto trainOdditySpec)) trainOddityUptoCard

/-- THE SECOND FORM's CARD OF 'quadformlaw27.TrainParts'. -/
def trainPartsUptoCard : Claim7 := { stood := { row := trainPartsUptoRow, standIns := [], harness := (true, "0bc38e0f9fd25477238738c0dea94d03132b89ab6c148d19e4f29ff5385e3ecd"), looks := false }, kinds := [], alts := [], laidByText := true, laidKinds := [.data, .data, .data], laidTests := true, laidLooks := .later }
def TrainPartsUptoCardSaid : Prop := Claim7.holds Tryz.pinned (.plain (OpenSpec.upto trainPartsSpec)) trainPartsUptoCard

/-- THE SECOND FORM's CARD OF 'quadformlaw27.TrainCovers'. -/
def trainCoversUptoCard : Claim7 := { stood := { row := trainCoversUptoRow, standIns := [], harness := (true, "0bc38e0f9fd25477238738c0dea94d03132b89ab6c148d19e4f29ff5385e3ecd"), looks := false }, kinds := [], alts := [], laidByText := true, laidKinds := [.data, .data, .data], laidTests := true, laidLooks := .later }
def TrainCoversUptoCardSaid : Prop := Claim7.holds Tryz.pinned (.plain (OpenSpec.upto trainCoversSpec)) trainCoversUptoCard

/-- THE SECOND FORM's CARD OF 'quadformlaw27.TrainWalks'. -/
def trainWalksUptoCard : Claim7 := { stood := { row := trainWalksUptoRow, standIns := [], harness := (true, "0bc38e0f9fd25477238738c0dea94d03132b89ab6c148d19e4f29ff5385e3ecd"), looks := false }, kinds := [], alts := [], laidByText := true, laidKinds := [.data, .data, .data], laidTests := true, laidLooks := .later }
def TrainWalksUptoCardSaid : Prop := Claim7.holds Tryz.pinned (.plain (OpenSpec.upto trainWalksSpec)) trainWalksUptoCard
end Rows
end Go.Proofs.YtgbijhccgmmkgaaGreatDoor
