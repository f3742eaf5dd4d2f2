/-
  DERIVED. GIVEN WITH THE SEED: THE CARDS: each row of YtedfhallhpkkhaaGreatDoorRows.lean that lists a variable, with what it lists TIED to the program's text (the seventh form; the later family's looks); each row that meets fmt, with fmt's text TOLD by the authors' own Lean function (tested against real Go, not proved from fmt's source: count such statements apart). THE CARD IS WHAT COUNTS. Prove the row's statement (the work); the ties are given (YtedfhallhpkkhaaGreatDoorTie.lean); close each card by the builder's one call (the guide's Derived/Test/ToyasCard.lean, 'card_holds'). Laid BY PROGRAM, IN A SANDBOX (cutbox-door.mjs). By AI agents, Wed Nov 11 2026. No macro, syntax, notation, axiom, sorry.
-/
import Derived.Test.YtedfhallhpkkhaaGreatDoorRows
import GoSem.ClaimSeven
namespace Go.Proofs.YtedfhallhpkkhaaGreatDoor
namespace Rows

/-- THE TIED CARD OF 'replevinlaw55.ReceiptDecodes'. -/
def receiptDecodesCard : Claim7 := { stood := { row := receiptDecodesRow, standIns := [], harness := (true, "a44d8f669c0aeaf146f0cf9989d40e5e8e1763248b9bff555971e566dff3aa7d"), looks := true }, kinds := [], alts := [], laidByText := true, laidKinds := [.data, .data, .data, .data, .sentinel, .sentinel], laidTests := true, laidLooks := .later }
def ReceiptDecodesCardSaid : Prop := Claim7.holds Tryz.pinned (.plain (OpenSpec.ofChange receiptDecodesSpec)) receiptDecodesCard

/-- THE TIED CARD OF 'replevinlaw55.ReceiptMakes'. -/
def receiptMakesCard : Claim7 := { stood := { row := receiptMakesRow, standIns := [], harness := (true, "a44d8f669c0aeaf146f0cf9989d40e5e8e1763248b9bff555971e566dff3aa7d"), looks := true }, kinds := [], alts := [], laidByText := true, laidKinds := [.data, .data, .data, .data, .sentinel, .sentinel], laidTests := true, laidLooks := .later }
def ReceiptMakesCardSaid : Prop := Claim7.holds Tryz.pinned (.plain (OpenSpec.ofChange receiptMakesSpec)) receiptMakesCard

/-- THE TIED CARD OF 'replevinlaw55.ReceiptErrors'. -/
def receiptErrorsCard : Claim7 := { stood := { row := receiptErrorsRow, standIns := [], harness := (true, "a44d8f669c0aeaf146f0cf9989d40e5e8e1763248b9bff555971e566dff3aa7d"), looks := true }, kinds := [], alts := [], laidByText := true, laidKinds := [.data, .data, .data, .data, .sentinel, .sentinel], laidTests := true, laidLooks := .later }
def ReceiptErrorsCardSaid : Prop := Claim7.holds Tryz.pinned (.plain (OpenSpec.ofChange receiptErrorsSpec)) receiptErrorsCard

/-- THE TIED CARD OF 'replevinlaw55.ReceiptMore'. -/
def receiptMoreCard : Claim7 := { stood := { row := receiptMoreRow, standIns := [], harness := (true, "a44d8f669c0aeaf146f0cf9989d40e5e8e1763248b9bff555971e566dff3aa7d"), looks := true }, kinds := [], alts := [], laidByText := true, laidKinds := [.data, .data, .data, .data, .sentinel, .sentinel], laidTests := true, laidLooks := .later }
def ReceiptMoreCardSaid : Prop := Claim7.holds Tryz.pinned (.plain (OpenSpec.ofChange receiptMoreSpec)) receiptMoreCard

/-- THE TIED CARD OF 'replevinlaw55.ReceiptGrows'. -/
def receiptGrowsCard : Claim7 := { stood := { row := receiptGrowsRow, standIns := [], harness := (true, "a44d8f669c0aeaf146f0cf9989d40e5e8e1763248b9bff555971e566dff3aa7d"), looks := true }, kinds := [], alts := [], laidByText := true, laidKinds := [.data, .data, .data, .data, .sentinel, .sentinel], laidTests := true, laidLooks := .later }
def ReceiptGrowsCardSaid : Prop := Claim7.holds Tryz.pinned (.plain (OpenSpec.ofChange receiptGrowsSpec)) receiptGrowsCard

/-- THE TIED CARD OF 'replevinlaw55.ReceiptTexts'. -/
def receiptTextsCard : Claim7 := { stood := { row := receiptTextsRow, standIns := [], harness := (true, "a44d8f669c0aeaf146f0cf9989d40e5e8e1763248b9bff555971e566dff3aa7d"), looks := true }, kinds := [], alts := [], laidByText := true, laidKinds := [.data, .data, .data, .data, .sentinel, .sentinel], laidTests := true, laidLooks := .later }
def ReceiptTextsCardSaid : Prop := Claim7.holds Tryz.pinned (.plain (OpenSpec.ofChange receiptTextsSpec)) receiptTextsCard

/-- THE TIED CARD OF 'replevinlaw55.ReceiptCollides'. -/
def receiptCollidesCard : Claim7 := { stood := { row := receiptCollidesRow, standIns := [], harness := (true, "a44d8f669c0aeaf146f0cf9989d40e5e8e1763248b9bff555971e566dff3aa7d"), looks := true }, kinds := [], alts := [], laidByText := true, laidKinds := [.data, .data, .data, .data, .sentinel, .sentinel], laidTests := true, laidLooks := .later }
def ReceiptCollidesCardSaid : Prop := Claim7.holds Tryz.pinned (.plain (OpenSpec.ofChange receiptCollidesSpec)) receiptCollidesCard

/-- THE SECOND FORM's CARD OF 'replevinlaw55.ReceiptDecodes'. -/
def receiptDecodesUptoCard : Claim7 := { stood := { row := receiptDecodesUptoRow, standIns := [], harness := (true, "a44d8f669c0aeaf146f0cf9989d40e5e8e1763248b9bff555971e566dff3aa7d"), looks := true }, kinds := [], alts := [], laidByText := true, laidKinds := [.data, .data, .data, .data, .sentinel, .sentinel], laidTests := true, laidLooks := .later }
def ReceiptDecodesUptoCardSaid : Prop := Claim7.holds Tryz.pinned (.plain (OpenSpec.upto receiptDecodesSpec)) receiptDecodesUptoCard

/-- THE SECOND FORM's CARD OF 'replevinlaw55.ReceiptMakes'. -/
def receiptMakesUptoCard : Claim7 := { stood := { row := receiptMakesUptoRow, standIns := [], harness := (true, "a44d8f669c0aeaf146f0cf9989d40e5e8e1763248b9bff555971e566dff3aa7d"), looks := true }, kinds := [], alts := [], laidByText := true, laidKinds := [.data, .data, .data, .data, .sentinel, .sentinel], laidTests := true, laidLooks := .later }
def ReceiptMakesUptoCardSaid : Prop := Claim7.holds Tryz.pinned (.plain (OpenSpec.upto receiptMakesSpec)) receiptMakesUptoCard

/-- THE SECOND FORM's CARD OF 'replevinlaw55.ReceiptErrors'. -/
def receiptErrorsUptoCard : Claim7 := { stood := { row := receiptErrorsUptoRow, standIns := [], harness := (true, "a44d8f669c0aeaf146f0cf9989d40e5e8e1763248b9bff555971e566dff3aa7d"), looks := true }, kinds := [], alts := [], laidByText := true, laidKinds := [.data, .data, .data, .data, .sentinel, .sentinel], laidTests := true, laidLooks := .later }
def ReceiptErrorsUptoCardSaid : Prop := Claim7.holds Tryz.pinned (.plain (OpenSpec.upto receiptErrorsSpec)) receiptErrorsUptoCard

/-- THE SECOND FORM's CARD OF 'replevinlaw55.ReceiptMore'. -/
def receiptMoreUptoCard : Claim7 := { stood := { row := receiptMoreUptoRow, standIns := [], harness := (true, "a44d8f669c0aeaf146f0cf9989d40e5e8e1763248b9bff555971e566dff3aa7d"), looks := true }, kinds := [], alts := [], laidByText := true, laidKinds := [.data, .data, .data, .data, .sentinel, .sentinel], laidTests := true, laidLooks := .later }
def ReceiptMoreUptoCardSaid : Prop := Claim7.holds Tryz.pinned (.plain (OpenSpec.upto receiptMoreSpec)) receiptMoreUptoCard

/-- THE SECOND FORM's CARD OF 'replevinlaw55.ReceiptGrows'. -/
def receiptGrowsUptoCard : Claim7 := { stood := { row := receiptGrowsUptoRow, standIns := [], harness := (true, "a44d8f669c0aeaf146f0cf9989d40e5e8e1763248b9bff555971e566dff3aa7d"), looks := true }, kinds := [], alts := [], laidByText := true, laidKinds := [.data, .data, .data, .data, .sentinel, .sentinel], laidTests := true, laidLooks := .later }
def ReceiptGrowsUptoCardSaid : Prop := Claim7.holds Tryz.pinned (.plain (OpenSpec.upto receiptGrowsSpec)) receiptGrowsUptoCard

/-- THE SECOND FORM's CARD OF 'replevinlaw55.ReceiptTexts'. -/
def receiptTextsUptoCard : Claim7 := { stood := { row := receiptTextsUptoRow, standIns := [], harness := (true, "a44d8f669c0aeaf146f0cf9989d40e5e8e1763248b9bff555971e566dff3aa7d"), looks := true }, kinds := [], alts := [], laidByText := true, laidKinds := [.data, .data, .data, .data, .sentinel, .sentinel], laidTests := true, laidLooks := .later }
def ReceiptTextsUptoCardSaid : Prop := Claim7.holds Tryz.pinned (.plain (OpenSpec.upto receiptTextsSpec)) receiptTextsUptoCard

/-- THE SECOND FORM's CARD OF 'replevinlaw55.ReceiptCollides'. -/
def receiptCollidesUptoCard : Claim7 := { stood := { row := receiptCollidesUptoRow, standIns := [], harness := (true, "a44d8f669c0aeaf146f0cf9989d40e5e8e1763248b9bff555971e566dff3aa7d"), looks := true }, kinds := [], alts := [], laidByText := true, laidKinds := [.data, .data, .data, .data, .sentinel, .sentinel], laidTests := true, laidLooks := .later }
def ReceiptCollidesUptoCardSaid : Prop := Claim7.holds Tryz.pinned (.plain (OpenSpec.upto receiptCollidesSpec)) receiptCollidesUptoCard
end Rows
end Go.Proofs.YtedfhallhpkkhaaGreatDoor
