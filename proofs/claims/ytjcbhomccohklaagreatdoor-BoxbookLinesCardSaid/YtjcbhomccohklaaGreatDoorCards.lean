/-
  DERIVED. GIVEN WITH THE SEED: THE CARDS: each row of YtjcbhomccohklaaGreatDoorRows.lean that lists a variable, with what it lists TIED to the program's text (the seventh form; the later family's looks); each row that meets fmt, with fmt's text TOLD by the authors' own Lean function (tested against real Go, not proved from fmt's source: count such statements apart). THE CARD IS WHAT COUNTS. Prove the row's statement (the work); the ties are given (YtjcbhomccohklaaGreatDoorTie.lean); close each card by the builder's one call (the guide's Derived/Test/ToyasCard.lean, 'card_holds'). Laid BY PROGRAM, IN A SANDBOX (cutbox-door.mjs). By AI agents, Wed Nov 11 2026. No macro, syntax, notation, axiom, sorry.
-/
import Derived.Test.YtjcbhomccohklaaGreatDoorRows
import GoSem.ClaimSeven
namespace Go.Proofs.YtjcbhomccohklaaGreatDoor
namespace Rows

/-- THE TIED CARD OF 'scorebooklaw21.BoxbookChecks'. -/
def boxbookChecksCard : Claim7 := { stood := { row := boxbookChecksRow, standIns := [], harness := (true, "68072eab865b09d483aac2b8c8504e5f8903c7a7d1fbcb26e4d20cb9d039a293"), looks := true }, kinds := [], alts := [], laidByText := true, laidKinds := [.data, .data, .data, .data, .sentinel, .sentinel, .pinned], laidTests := true, laidLooks := .later }
def BoxbookChecksCardSaid : Prop := Claim7.holds Tryz.pinned (.plain (OpenSpec.ofChange boxbookChecksSpec)) boxbookChecksCard

/-- THE TIED CARD OF 'scorebooklaw21.BoxbookLines'. -/
def boxbookLinesCard : Claim7 := { stood := { row := boxbookLinesRow, standIns := [], harness := (true, "68072eab865b09d483aac2b8c8504e5f8903c7a7d1fbcb26e4d20cb9d039a293"), looks := true }, kinds := [], alts := [], laidByText := true, laidKinds := [.data, .data, .data, .data, .sentinel, .sentinel, .pinned], laidTests := true, laidLooks := .later }
def BoxbookLinesCardSaid : Prop := Claim7.holds Tryz.pinned (.plain (OpenSpec.ofChange boxbookLinesSpec)) boxbookLinesCard

/-- THE TIED CARD OF 'scorebooklaw21.BoxbookWrites'. -/
def boxbookWritesCard : Claim7 := { stood := { row := boxbookWritesRow, standIns := [], harness := (true, "68072eab865b09d483aac2b8c8504e5f8903c7a7d1fbcb26e4d20cb9d039a293"), looks := true }, kinds := [], alts := [], laidByText := true, laidKinds := [.data, .data, .data], laidTests := true, laidLooks := .later }
def BoxbookWritesCardSaid : Prop := Claim7.holds Tryz.pinned (.plain (OpenSpec.ofChange boxbookWritesSpec)) boxbookWritesCard

/-- THE SECOND FORM's CARD OF 'scorebooklaw21.BoxbookChecks'. -/
def boxbookChecksUptoCard : Claim7 := { stood := { row := boxbookChecksUptoRow, standIns := [], harness := (true, "68072eab865b09d483aac2b8c8504e5f8903c7a7d1fbcb26e4d20cb9d039a293"), looks := true }, kinds := [], alts := [], laidByText := true, laidKinds := [.data, .data, .data, .data, .sentinel, .sentinel, .pinned], laidTests := true, laidLooks := .later }
def BoxbookChecksUptoCardSaid : Prop := Claim7.holds Tryz.pinned (.plain (OpenSpec.upto boxbookChecksSpec)) boxbookChecksUptoCard

/-- THE SECOND FORM's CARD OF 'scorebooklaw21.BoxbookLines'. -/
def boxbookLinesUptoCard : Claim7 := { stood := { row := boxbookLinesUptoRow, standIns := [], harness := (true, "68072eab865b09d483aac2b8c8504e5f8903c7a7d1fbcb26e4d20cb9d039a293"), looks := true }, kinds := [], alts := [], laidByText := true, laidKinds := [.data, .data, .data, .data, .sentinel, .sentinel, .pinned], laidTests := true, laidLooks := .later }
def BoxbookLinesUptoCardSaid : Prop := Claim7.holds Tryz.pinned (.plain (OpenSpec.upto boxbookLinesSpec)) boxbookLinesUptoCard

/-- THE SECOND FORM's CARD OF 'scorebooklaw21.BoxbookWrites'. -/
def boxbookWritesUptoCard : Claim7 := { stood := { row := boxbookWritesUptoRow, standIns := [], harness := (true, "68072eab865b09d483aac2b8c8504e5f8903c7a7d1fbcb26e4d20cb9d039a293"), looks := true }, kinds := [], alts := [], laidByText := true, laidKinds := [.data, .data, .data], laidTests := true, laidLooks := .later }
def BoxbookWritesUptoCardSaid : Prop := Claim7.holds Tryz.pinned (.plain (OpenSpec.upto boxbookWritesSpec)) boxbookWritesUptoCard
end Rows
end Go.Proofs.YtjcbhomccohklaaGreatDoor
