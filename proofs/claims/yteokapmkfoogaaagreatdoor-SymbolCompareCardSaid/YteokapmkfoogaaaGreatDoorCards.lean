/-
  DERIVED. GIVEN WITH THE SEED: THE CARDS: each row of YteokapmkfoogaaaGreatDoorRows.lean that lists a variable, with what it lists TIED to the program's text (the seventh form; the later family's looks); each row that meets fmt, with fmt's text TOLD by the authors' own Lean function (tested against real Go, not proved from fmt's source: count such statements apart). THE CARD IS WHAT COUNTS. Prove the row's statement (the work); the ties are given (YteokapmkfoogaaaGreatDoorTie.lean); close each card by the builder's one call (the guide's Derived/Test/ToyasCard.lean, 'card_holds'). Laid BY PROGRAM, IN A SANDBOX (cutbox-door.mjs). By AI agents, Wed Nov 11 2026. No macro, syntax, notation, axiom, sorry.
-/
import Derived.Test.YteokapmkfoogaaaGreatDoorRows
import GoSem.ClaimSeven
namespace Go.Proofs.YteokapmkfoogaaaGreatDoor
namespace Rows

/-- THE TIED CARD OF 'quadformlaw26.SymbolValid'. -/
def symbolValidCard : Claim7 := { stood := { row := symbolValidRow, standIns := [], harness := (true, "1c98e271df1eadbf8ebd141cdb0941461db5712faa7ef92adb39c9cddda82518"), looks := false }, kinds := [], alts := [], laidByText := true, laidKinds := [.data, .data, .data], laidTests := true, laidLooks := .later }
def SymbolValidCardSaid : Prop := Claim7.holds Tryz.pinned (.plain (OpenSpec.ofChange symbolValidSpec)) symbolValidCard

/-- THE TIED CARD OF 'quadformlaw26.SymbolExcess'. -/
def symbolExcessCard : Claim7 := { stood := { row := symbolExcessRow, standIns := [], harness := (true, "1c98e271df1eadbf8ebd141cdb0941461db5712faa7ef92adb39c9cddda82518"), looks := false }, kinds := [], alts := [], laidByText := true, laidKinds := [.data, .data, .data], laidTests := true, laidLooks := .later }
def SymbolExcessCardSaid : Prop := Claim7.holds Tryz.pinned (.plain (OpenSpec.ofChange symbolExcessSpec)) symbolExcessCard

/-- THE TIED CARD OF 'quadformlaw26.SymbolSum'. -/
def symbolSumCard : Claim7 := { stood := { row := symbolSumRow, standIns := [], harness := (true, "1c98e271df1eadbf8ebd141cdb0941461db5712faa7ef92adb39c9cddda82518"), looks := false }, kinds := [], alts := [], laidByText := true, laidKinds := [.data, .data, .data], laidTests := true, laidLooks := .later }
def SymbolSumCardSaid : Prop := Claim7.holds Tryz.pinned (.plain (OpenSpec.ofChange symbolSumSpec)) symbolSumCard

/-- THE TIED CARD OF 'quadformlaw26.SymbolSums'. -/
def symbolSumsCard : Claim7 := { stood := { row := symbolSumsRow, standIns := [], harness := (true, "1c98e271df1eadbf8ebd141cdb0941461db5712faa7ef92adb39c9cddda82518"), looks := false }, kinds := [], alts := [], laidByText := true, laidKinds := [.data, .data, .data], laidTests := true, laidLooks := .later }
def SymbolSumsCardSaid : Prop := Claim7.holds Tryz.pinned (.plain (OpenSpec.ofChange symbolSumsSpec)) symbolSumsCard

/-- THE TIED CARD OF 'quadformlaw26.SymbolScale'. -/
def symbolScaleCard : Claim7 := { stood := { row := symbolScaleRow, standIns := [], harness := (true, "1c98e271df1eadbf8ebd141cdb0941461db5712faa7ef92adb39c9cddda82518"), looks := false }, kinds := [], alts := [], laidByText := true, laidKinds := [.data, .data, .data], laidTests := true, laidLooks := .later }
def SymbolScaleCardSaid : Prop := Claim7.holds Tryz.pinned (.plain (OpenSpec.ofChange symbolScaleSpec)) symbolScaleCard

/-- THE TIED CARD OF 'quadformlaw26.SymbolDuals'. -/
def symbolDualsCard : Claim7 := { stood := { row := symbolDualsRow, standIns := [], harness := (true, "1c98e271df1eadbf8ebd141cdb0941461db5712faa7ef92adb39c9cddda82518"), looks := false }, kinds := [], alts := [], laidByText := true, laidKinds := [.data, .data, .data], laidTests := true, laidLooks := .later }
def SymbolDualsCardSaid : Prop := Claim7.holds Tryz.pinned (.plain (OpenSpec.ofChange symbolDualsSpec)) symbolDualsCard

/-- THE TIED CARD OF 'quadformlaw26.SymbolCompare'. -/
def symbolCompareCard : Claim7 := { stood := { row := symbolCompareRow, standIns := [], harness := (true, "1c98e271df1eadbf8ebd141cdb0941461db5712faa7ef92adb39c9cddda82518"), looks := false }, kinds := [], alts := [], laidByText := true, laidKinds := [.data, .data, .data], laidTests := true, laidLooks := .later }
def SymbolCompareCardSaid : Prop := Claim7.holds Tryz.pinned (.plain (OpenSpec.ofChange symbolCompareSpec)) symbolCompareCard

/-- THE SECOND FORM's CARD OF 'quadformlaw26.SymbolValid'. -/
def symbolValidUptoCard : Claim7 := { stood := { row := symbolValidUptoRow, standIns := [], harness := (true, "1c98e271df1eadbf8ebd141cdb0941461db5712faa7ef92adb39c9cddda82518"), looks := false }, kinds := [], alts := [], laidByText := true, laidKinds := [.data, .data, .data], laidTests := true, laidLooks := .later }
def SymbolValidUptoCardSaid : Prop := Claim7.holds Tryz.pinned (.plain (OpenSpec.upto symbolValidSpec)) symbolValidUptoCard

/-- THE SECOND FORM's CARD OF 'quadformlaw26.SymbolExcess'. -/
def symbolExcessUptoCard : Claim7 := { stood := { row := symbolExcessUptoRow, standIns := [], harness := (true, "1c98e271df1eadbf8ebd141cdb0941461db5712faa7ef92adb39c9cddda82518"), looks := false }, kinds := [], alts := [], laidByText := true, laidKinds := [.data, .data, .data], laidTests := true, laidLooks := .later }
def SymbolExcessUptoCardSaid : Prop := Claim7.holds Tryz.pinned (.plain (OpenSpec.upto symbolExcessSpec)) symbolExcessUptoCard

/-- THE SECOND FORM's CARD OF 'quadformlaw26.SymbolSum'. -/
def symbolSumUptoCard : Claim7 := { stood := { row := symbolSumUptoRow, standIns := [], harness := (true, "1c98e271df1eadbf8ebd141cdb0941461db5712faa7ef92adb39c9cddda82518"), looks := false }, kinds := [], alts := [], laidByText := true, laidKinds := [.data, .data, .data], laidTests := true, laidLooks := .later }
def SymbolSumUptoCardSaid : Prop := Claim7.holds Tryz.pinned (.plain (OpenSpec.upto symbolSumSpec)) symbolSumUptoCard

/-- THE SECOND FORM's CARD OF 'quadformlaw26.SymbolSums'. -/
def symbolSumsUptoCard : Claim7 := { stood := { row := symbolSumsUptoRow, standIns := [], harness := (true, "1c98e271df1eadbf8ebd141cdb0941461db5712faa7ef92adb39c9cddda82518"), looks := false }, kinds := [], alts := [], laidByText := true, laidKinds := [.data, .data, .data], laidTests := true, laidLooks := .later }
def SymbolSumsUptoCardSaid : Prop := Claim7.holds Tryz.pinned (.plain (OpenSpec.upto symbolSumsSpec)) symbolSumsUptoCard

/-- THE SECOND FORM's CARD OF 'quadformlaw26.SymbolScale'. -/
def symbolScaleUptoCard : Claim7 := { stood := { row := symbolScaleUptoRow, standIns := [], harness := (true, "1c98e271df1eadbf8ebd141cdb0941461db5712faa7ef92adb39c9cddda82518"), looks := false }, kinds := [], alts := [], laidByText := true, laidKinds := [.data, .data, .data], laidTests := true, laidLooks := .later }
def SymbolScaleUptoCardSaid : Prop := Claim7.holds Tryz.pinned (.plain (OpenSpec.upto symbolScaleSpec)) symbolScaleUptoCard

/-- THE SECOND FORM's CARD OF 'quadformlaw26.SymbolDuals'. -/
def symbolDualsUptoCard : Claim7 := { stood := { row := symbolDualsUptoRow, standIns := [], harness := (true, "1c98e271df1eadbf8ebd141cdb0941461db5712faa7ef92adb39c9cddda82518"), looks := false }, kinds := [], alts := [], laidByText := true, laidKinds := [.data, .data, .data], laidTests := true, laidLooks := .later }
def SymbolDualsUptoCardSaid : Prop := Claim7.holds Tryz.pinned (.plain (OpenSpec.upto symbolDualsSpec)) symbolDualsUptoCard

/-- THE SECOND FORM's CARD OF 'quadformlaw26.SymbolCompare'. -/
def symbolCompareUptoCard : Claim7 := { stood := { row := symbolCompareUptoRow, standIns := [], harness := (true, "1c98e271df1eadbf8ebd141cdb0941461db5712faa7ef92adb39c9cddda82518"), looks := false }, kinds := [], alts := [], laidByText := true, laidKinds := [.data, .data, .data], laidTests := true, laidLooks := .later }
def SymbolCompareUptoCardSaid : Prop := Claim7.holds Tryz.pinned (.plain (OpenSpec.upto symbolCompareSpec)) symbolCompareUptoCard
end Rows
end Go.Proofs.YteokapmkfoogaaaGreatDoor
