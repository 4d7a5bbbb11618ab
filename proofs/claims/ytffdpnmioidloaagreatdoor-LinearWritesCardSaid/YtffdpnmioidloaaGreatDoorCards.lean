/-
  DERIVED. GIVEN WITH THE SEED: THE CARDS: each row of YtffdpnmioidloaaGreatDoorRows.lean that lists a variable, with what it lists TIED to the program's text (the seventh form; the later family's looks); each row that meets fmt, with fmt's text TOLD by the authors' own Lean function (tested against real Go, not proved from fmt's source: count such statements apart). THE CARD IS WHAT COUNTS. Prove the row's statement (the work); the ties are given (YtffdpnmioidloaaGreatDoorTie.lean); close each card by the builder's one call (the guide's Derived/Test/ToyasCard.lean, 'card_holds'). Laid BY PROGRAM, IN A SANDBOX (cutbox-door.mjs). By AI agents, Wed Nov 11 2026. No macro, syntax, notation, axiom, sorry.
-/
import Derived.Test.YtffdpnmioidloaaGreatDoorRows
import GoSem.ClaimSeven
namespace Go.Proofs.YtffdpnmioidloaaGreatDoor
namespace Rows

/-- THE TIED CARD OF 'scorebooklaw21.BoxbookTexts'. -/
def boxbookTextsCard : Claim7 := { stood := { row := boxbookTextsRow, standIns := [], harness := (true, "0153d2e654d693be89b32985ff651f7138f7a72c3099e321b7fb61be8b664498"), looks := true }, kinds := [], alts := [], laidByText := true, laidKinds := [.data, .data, .data, .data, .sentinel, .sentinel, .pinned], laidTests := true, laidLooks := .later }
def BoxbookTextsCardSaid : Prop := Claim7.holds Tryz.pinned (.plain (OpenSpec.ofChange boxbookTextsSpec)) boxbookTextsCard

/-- THE TIED CARD OF 'scorebooklaw21.BoxbookParses'. -/
def boxbookParsesCard : Claim7 := { stood := { row := boxbookParsesRow, standIns := [], harness := (true, "0153d2e654d693be89b32985ff651f7138f7a72c3099e321b7fb61be8b664498"), looks := true }, kinds := [], alts := [], laidByText := true, laidKinds := [.data, .data, .data, .data, .sentinel, .sentinel, .pinned], laidTests := true, laidLooks := .later }
def BoxbookParsesCardSaid : Prop := Claim7.holds Tryz.pinned (.plain (OpenSpec.ofChange boxbookParsesSpec)) boxbookParsesCard

/-- THE TIED CARD OF 'scorebooklaw20.LinearTexts'. -/
def linearTextsCard : Claim7 := { stood := { row := linearTextsRow, standIns := [], harness := (true, "0153d2e654d693be89b32985ff651f7138f7a72c3099e321b7fb61be8b664498"), looks := true }, kinds := [], alts := [], laidByText := true, laidKinds := [.data, .data, .data, .data, .sentinel, .sentinel, .pinned], laidTests := true, laidLooks := .later }
def LinearTextsCardSaid : Prop := Claim7.holds Tryz.pinned (.plain (OpenSpec.ofChange linearTextsSpec)) linearTextsCard

/-- THE TIED CARD OF 'scorebooklaw20.LinearParses'. -/
def linearParsesCard : Claim7 := { stood := { row := linearParsesRow, standIns := [], harness := (true, "0153d2e654d693be89b32985ff651f7138f7a72c3099e321b7fb61be8b664498"), looks := true }, kinds := [], alts := [], laidByText := true, laidKinds := [.data, .data, .data, .data, .sentinel, .sentinel, .pinned], laidTests := true, laidLooks := .later }
def LinearParsesCardSaid : Prop := Claim7.holds Tryz.pinned (.plain (OpenSpec.ofChange linearParsesSpec)) linearParsesCard

/-- THE TIED CARD OF 'scorebooklaw21.BoxbookWrites'. -/
def boxbookWritesCard : Claim7 := { stood := { row := boxbookWritesRow, standIns := [], harness := (true, "0153d2e654d693be89b32985ff651f7138f7a72c3099e321b7fb61be8b664498"), looks := true }, kinds := [], alts := [], laidByText := true, laidKinds := [.data, .data, .data], laidTests := true, laidLooks := .later }
def BoxbookWritesCardSaid : Prop := Claim7.holds Tryz.pinned (.plain (OpenSpec.ofChange boxbookWritesSpec)) boxbookWritesCard

/-- THE TIED CARD OF 'scorebooklaw20.LinearWrites'. -/
def linearWritesCard : Claim7 := { stood := { row := linearWritesRow, standIns := [], harness := (true, "0153d2e654d693be89b32985ff651f7138f7a72c3099e321b7fb61be8b664498"), looks := true }, kinds := [], alts := [], laidByText := true, laidKinds := [.data, .data, .data], laidTests := true, laidLooks := .later }
def LinearWritesCardSaid : Prop := Claim7.holds Tryz.pinned (.plain (OpenSpec.ofChange linearWritesSpec)) linearWritesCard

/-- THE TIED CARD OF 'scorebooklaw20.LinearAccepts'. -/
def linearAcceptsCard : Claim7 := { stood := { row := linearAcceptsRow, standIns := [], harness := (true, "0153d2e654d693be89b32985ff651f7138f7a72c3099e321b7fb61be8b664498"), looks := true }, kinds := [], alts := [], laidByText := true, laidKinds := [.data, .data, .data], laidTests := true, laidLooks := .later }
def LinearAcceptsCardSaid : Prop := Claim7.holds Tryz.pinned (.plain (OpenSpec.ofChange linearAcceptsSpec)) linearAcceptsCard

/-- THE TIED CARD OF 'scorebooklaw20.LinearFinds'. -/
def linearFindsCard : Claim7 := { stood := { row := linearFindsRow, standIns := [], harness := (true, "0153d2e654d693be89b32985ff651f7138f7a72c3099e321b7fb61be8b664498"), looks := true }, kinds := [], alts := [], laidByText := true, laidKinds := [.data, .data, .data], laidTests := true, laidLooks := .later }
def LinearFindsCardSaid : Prop := Claim7.holds Tryz.pinned (.plain (OpenSpec.ofChange linearFindsSpec)) linearFindsCard

/-- THE SECOND FORM's CARD OF 'scorebooklaw21.BoxbookTexts'. -/
def boxbookTextsUptoCard : Claim7 := { stood := { row := boxbookTextsUptoRow, standIns := [], harness := (true, "0153d2e654d693be89b32985ff651f7138f7a72c3099e321b7fb61be8b664498"), looks := true }, kinds := [], alts := [], laidByText := true, laidKinds := [.data, .data, .data, .data, .sentinel, .sentinel, .pinned], laidTests := true, laidLooks := .later }
def BoxbookTextsUptoCardSaid : Prop := Claim7.holds Tryz.pinned (.plain (OpenSpec.upto boxbookTextsSpec)) boxbookTextsUptoCard

/-- THE SECOND FORM's CARD OF 'scorebooklaw21.BoxbookParses'. -/
def boxbookParsesUptoCard : Claim7 := { stood := { row := boxbookParsesUptoRow, standIns := [], harness := (true, "0153d2e654d693be89b32985ff651f7138f7a72c3099e321b7fb61be8b664498"), looks := true }, kinds := [], alts := [], laidByText := true, laidKinds := [.data, .data, .data, .data, .sentinel, .sentinel, .pinned], laidTests := true, laidLooks := .later }
def BoxbookParsesUptoCardSaid : Prop := Claim7.holds Tryz.pinned (.plain (OpenSpec.upto boxbookParsesSpec)) boxbookParsesUptoCard

/-- THE SECOND FORM's CARD OF 'scorebooklaw20.LinearTexts'. -/
def linearTextsUptoCard : Claim7 := { stood := { row := linearTextsUptoRow, standIns := [], harness := (true, "0153d2e654d693be89b32985ff651f7138f7a72c3099e321b7fb61be8b664498"), looks := true }, kinds := [], alts := [], laidByText := true, laidKinds := [.data, .data, .data, .data, .sentinel, .sentinel, .pinned], laidTests := true, laidLooks := .later }
def LinearTextsUptoCardSaid : Prop := Claim7.holds Tryz.pinned (.plain (OpenSpec.upto linearTextsSpec)) linearTextsUptoCard

/-- THE SECOND FORM's CARD OF 'scorebooklaw20.LinearParses'. -/
def linearParsesUptoCard : Claim7 := { stood := { row := linearParsesUptoRow, standIns := [], harness := (true, "0153d2e654d693be89b32985ff651f7138f7a72c3099e321b7fb61be8b664498"), looks := true }, kinds := [], alts := [], laidByText := true, laidKinds := [.data, .data, .data, .data, .sentinel, .sentinel, .pinned], laidTests := true, laidLooks := .later }
def LinearParsesUptoCardSaid : Prop := Claim7.holds Tryz.pinned (.plain (OpenSpec.upto linearParsesSpec)) linearParsesUptoCard

/-- THE SECOND FORM's CARD OF 'scorebooklaw21.BoxbookWrites'. -/
def boxbookWritesUptoCard : Claim7 := { stood := { row := boxbookWritesUptoRow, standIns := [], harness := (true, "0153d2e654d693be89b32985ff651f7138f7a72c3099e321b7fb61be8b664498"), looks := true }, kinds := [], alts := [], laidByText := true, laidKinds := [.data, .data, .data], laidTests := true, laidLooks := .later }
def BoxbookWritesUptoCardSaid : Prop := Claim7.holds Tryz.pinned (.plain (OpenSpec.upto boxbookWritesSpec)) boxbookWritesUptoCard

/-- THE SECOND FORM's CARD OF 'scorebooklaw20.LinearWrites'. -/
def linearWritesUptoCard : Claim7 := { stood := { row := linearWritesUptoRow, standIns := [], harness := (true, "0153d2e654d693be89b32985ff651f7138f7a72c3099e321b7fb61be8b664498"), looks := true }, kinds := [], alts := [], laidByText := true, laidKinds := [.data, .data, .data], laidTests := true, laidLooks := .later }
def LinearWritesUptoCardSaid : Prop := Claim7.holds Tryz.pinned (.plain (OpenSpec.upto linearWritesSpec)) linearWritesUptoCard

/-- THE SECOND FORM's CARD OF 'scorebooklaw20.LinearAccepts'. -/
def linearAcceptsUptoCard : Claim7 := { stood := { row := linearAcceptsUptoRow, standIns := [], harness := (true, "0153d2e654d693be89b32985ff651f7138f7a72c3099e321b7fb61be8b664498"), looks := true }, kinds := [], alts := [], laidByText := true, laidKinds := [.data, .data, .data], laidTests := true, laidLooks := .later }
def LinearAcceptsUptoCardSaid : Prop := Claim7.holds Tryz.pinned (.plain (OpenSpec.upto linearAcceptsSpec)) linearAcceptsUptoCard

/-- THE SECOND FORM's CARD OF 'scorebooklaw20.LinearFinds'. -/
def linearFindsUptoCard : Claim7 := { stood := { row := linearFindsUptoRow, standIns := [], harness := (true, "0153d2e654d693be89b32985ff651f7138f7a72c3099e321b7fb61be8b664498"), looks := true }, kinds := [], alts := [], laidByText := true, laidKinds := [.data, .data, .data], laidTests := true, laidLooks := .later }
def LinearFindsUptoCardSaid : Prop := Claim7.holds Tryz.pinned (.plain (OpenSpec.upto linearFindsSpec)) linearFindsUptoCard
end Rows
end Go.Proofs.YtffdpnmioidloaaGreatDoor
