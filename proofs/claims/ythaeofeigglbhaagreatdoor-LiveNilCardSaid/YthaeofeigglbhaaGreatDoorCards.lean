/-
  DERIVED. GIVEN WITH THE SEED: THE CARDS: each row of YthaeofeigglbhaaGreatDoorRows.lean that lists a variable, with what it lists TIED to the program's text (the seventh form; the later family's looks); each row that meets fmt, with fmt's text TOLD by the authors' own Lean function (tested against real Go, not proved from fmt's source: count such statements apart). THE CARD IS WHAT COUNTS. Prove the row's statement (the work); the ties are given (YthaeofeigglbhaaGreatDoorTie.lean); close each card by the builder's one call (the guide's Derived/Test/ToyasCard.lean, 'card_holds'). Laid BY PROGRAM, IN A SANDBOX (cutbox-door.mjs). By AI agents, Wed Nov 11 2026. No macro, syntax, notation, axiom, sorry.
-/
import Derived.Test.YthaeofeigglbhaaGreatDoorRows
import GoSem.ClaimSeven
namespace Go.Proofs.YthaeofeigglbhaaGreatDoor
namespace Rows

/-- THE TIED CARD OF 'scorebooklaw59.LiveNil'. -/
def liveNilCard : Claim7 := { stood := { row := liveNilRow, standIns := [], harness := (true, "42470c201330fdf257f07e56b1f645fbcf52e9ad1bcf78f934780263464b64e9"), looks := true }, kinds := [], alts := [], laidByText := true, laidKinds := [.data, .data, .data], laidTests := true, laidLooks := .later }
def LiveNilCardSaid : Prop := Claim7.holds Tryz.pinned (.plain (OpenSpec.ofChange liveNilSpec)) liveNilCard

/-- THE TIED CARD OF 'scorebooklaw28.MilestoneTexts'. -/
def milestoneTextsCard : Claim7 := { stood := { row := milestoneTextsRow, standIns := [], harness := (true, "42470c201330fdf257f07e56b1f645fbcf52e9ad1bcf78f934780263464b64e9"), looks := true }, kinds := [], alts := [], laidByText := true, laidKinds := [.data, .data, .data, .data, .sentinel, .sentinel, .pinned], laidTests := true, laidLooks := .later }
def MilestoneTextsCardSaid : Prop := Claim7.holds Tryz.pinned (.plain (OpenSpec.ofChange milestoneTextsSpec)) milestoneTextsCard

/-- THE TIED CARD OF 'scorebooklaw26.PartnerTexts'. -/
def partnerTextsCard : Claim7 := { stood := { row := partnerTextsRow, standIns := [], harness := (true, "42470c201330fdf257f07e56b1f645fbcf52e9ad1bcf78f934780263464b64e9"), looks := true }, kinds := [], alts := [], laidByText := true, laidKinds := [.data, .data, .data, .data, .sentinel, .sentinel, .pinned], laidTests := true, laidLooks := .later }
def PartnerTextsCardSaid : Prop := Claim7.holds Tryz.pinned (.plain (OpenSpec.ofChange partnerTextsSpec)) partnerTextsCard

/-- THE TIED CARD OF 'scorebooklaw26.PartnerParses'. -/
def partnerParsesCard : Claim7 := { stood := { row := partnerParsesRow, standIns := [], harness := (true, "42470c201330fdf257f07e56b1f645fbcf52e9ad1bcf78f934780263464b64e9"), looks := true }, kinds := [], alts := [], laidByText := true, laidKinds := [.data, .data, .data, .data, .sentinel, .sentinel, .pinned], laidTests := true, laidLooks := .later }
def PartnerParsesCardSaid : Prop := Claim7.holds Tryz.pinned (.plain (OpenSpec.ofChange partnerParsesSpec)) partnerParsesCard

/-- THE TIED CARD OF 'scorebooklaw20.LinearTexts'. -/
def linearTextsCard : Claim7 := { stood := { row := linearTextsRow, standIns := [], harness := (true, "42470c201330fdf257f07e56b1f645fbcf52e9ad1bcf78f934780263464b64e9"), looks := true }, kinds := [], alts := [], laidByText := true, laidKinds := [.data, .data, .data, .data, .sentinel, .sentinel, .pinned], laidTests := true, laidLooks := .later }
def LinearTextsCardSaid : Prop := Claim7.holds Tryz.pinned (.plain (OpenSpec.ofChange linearTextsSpec)) linearTextsCard

/-- THE TIED CARD OF 'scorebooklaw20.LinearParses'. -/
def linearParsesCard : Claim7 := { stood := { row := linearParsesRow, standIns := [], harness := (true, "42470c201330fdf257f07e56b1f645fbcf52e9ad1bcf78f934780263464b64e9"), looks := true }, kinds := [], alts := [], laidByText := true, laidKinds := [.data, .data, .data, .data, .sentinel, .sentinel, .pinned], laidTests := true, laidLooks := .later }
def LinearParsesCardSaid : Prop := Claim7.holds Tryz.pinned (.plain (OpenSpec.ofChange linearParsesSpec)) linearParsesCard

/-- THE TIED CARD OF 'scorebooklaw21.BoxbookTexts'. -/
def boxbookTextsCard : Claim7 := { stood := { row := boxbookTextsRow, standIns := [], harness := (true, "42470c201330fdf257f07e56b1f645fbcf52e9ad1bcf78f934780263464b64e9"), looks := true }, kinds := [], alts := [], laidByText := true, laidKinds := [.data, .data, .data, .data, .sentinel, .sentinel, .pinned], laidTests := true, laidLooks := .later }
def BoxbookTextsCardSaid : Prop := Claim7.holds Tryz.pinned (.plain (OpenSpec.ofChange boxbookTextsSpec)) boxbookTextsCard

/-- THE TIED CARD OF 'scorebooklaw21.BoxbookParses'. -/
def boxbookParsesCard : Claim7 := { stood := { row := boxbookParsesRow, standIns := [], harness := (true, "42470c201330fdf257f07e56b1f645fbcf52e9ad1bcf78f934780263464b64e9"), looks := true }, kinds := [], alts := [], laidByText := true, laidKinds := [.data, .data, .data, .data, .sentinel, .sentinel, .pinned], laidTests := true, laidLooks := .later }
def BoxbookParsesCardSaid : Prop := Claim7.holds Tryz.pinned (.plain (OpenSpec.ofChange boxbookParsesSpec)) boxbookParsesCard

/-- THE TIED CARD OF 'scorebooklaw59.LiveDecodes'. -/
def liveDecodesCard : Claim7 := { stood := { row := liveDecodesRow, standIns := [], harness := (true, "42470c201330fdf257f07e56b1f645fbcf52e9ad1bcf78f934780263464b64e9"), looks := true }, kinds := [], alts := [], laidByText := true, laidKinds := [.data, .data, .data, .data, .sentinel, .sentinel, .pinned], laidTests := true, laidLooks := .later }
def LiveDecodesCardSaid : Prop := Claim7.holds Tryz.pinned (.plain (OpenSpec.ofChange liveDecodesSpec)) liveDecodesCard

/-- THE SECOND FORM's CARD OF 'scorebooklaw59.LiveNil'. -/
def liveNilUptoCard : Claim7 := { stood := { row := liveNilUptoRow, standIns := [], harness := (true, "42470c201330fdf257f07e56b1f645fbcf52e9ad1bcf78f934780263464b64e9"), looks := true }, kinds := [], alts := [], laidByText := true, laidKinds := [.data, .data, .data], laidTests := true, laidLooks := .later }
def LiveNilUptoCardSaid : Prop := Claim7.holds Tryz.pinned (.plain (OpenSpec.upto liveNilSpec)) liveNilUptoCard

/-- THE SECOND FORM's CARD OF 'scorebooklaw28.MilestoneTexts'. -/
def milestoneTextsUptoCard : Claim7 := { stood := { row := milestoneTextsUptoRow, standIns := [], harness := (true, "42470c201330fdf257f07e56b1f645fbcf52e9ad1bcf78f934780263464b64e9"), looks := true }, kinds := [], alts := [], laidByText := true, laidKinds := [.data, .data, .data, .data, .sentinel, .sentinel, .pinned], laidTests := true, laidLooks := .later }
def MilestoneTextsUptoCardSaid : Prop := Claim7.holds Tryz.pinned (.plain (OpenSpec.upto milestoneTextsSpec)) milestoneTextsUptoCard

/-- THE SECOND FORM's CARD OF 'scorebooklaw26.PartnerTexts'. -/
def partnerTextsUptoCard : Claim7 := { stood := { row := partnerTextsUptoRow, standIns := [], harness := (true, "42470c201330fdf257f07e56b1f645fbcf52e9ad1bcf78f934780263464b64e9"), looks := true }, kinds := [], alts := [], laidByText := true, laidKinds := [.data, .data, .data, .data, .sentinel, .sentinel, .pinned], laidTests := true, laidLooks := .later }
def PartnerTextsUptoCardSaid : Prop := Claim7.holds Tryz.pinned (.plain (OpenSpec.upto partnerTextsSpec)) partnerTextsUptoCard

/-- THE SECOND FORM's CARD OF 'scorebooklaw26.PartnerParses'. -/
def partnerParsesUptoCard : Claim7 := { stood := { row := partnerParsesUptoRow, standIns := [], harness := (true, "42470c201330fdf257f07e56b1f645fbcf52e9ad1bcf78f934780263464b64e9"), looks := true }, kinds := [], alts := [], laidByText := true, laidKinds := [.data, .data, .data, .data, .sentinel, .sentinel, .pinned], laidTests := true, laidLooks := .later }
def PartnerParsesUptoCardSaid : Prop := Claim7.holds Tryz.pinned (.plain (OpenSpec.upto partnerParsesSpec)) partnerParsesUptoCard

/-- THE SECOND FORM's CARD OF 'scorebooklaw20.LinearTexts'. -/
def linearTextsUptoCard : Claim7 := { stood := { row := linearTextsUptoRow, standIns := [], harness := (true, "42470c201330fdf257f07e56b1f645fbcf52e9ad1bcf78f934780263464b64e9"), looks := true }, kinds := [], alts := [], laidByText := true, laidKinds := [.data, .data, .data, .data, .sentinel, .sentinel, .pinned], laidTests := true, laidLooks := .later }
def LinearTextsUptoCardSaid : Prop := Claim7.holds Tryz.pinned (.plain (OpenSpec.upto linearTextsSpec)) linearTextsUptoCard

/-- THE SECOND FORM's CARD OF 'scorebooklaw20.LinearParses'. -/
def linearParsesUptoCard : Claim7 := { stood := { row := linearParsesUptoRow, standIns := [], harness := (true, "42470c201330fdf257f07e56b1f645fbcf52e9ad1bcf78f934780263464b64e9"), looks := true }, kinds := [], alts := [], laidByText := true, laidKinds := [.data, .data, .data, .data, .sentinel, .sentinel, .pinned], laidTests := true, laidLooks := .later }
def LinearParsesUptoCardSaid : Prop := Claim7.holds Tryz.pinned (.plain (OpenSpec.upto linearParsesSpec)) linearParsesUptoCard

/-- THE SECOND FORM's CARD OF 'scorebooklaw21.BoxbookTexts'. -/
def boxbookTextsUptoCard : Claim7 := { stood := { row := boxbookTextsUptoRow, standIns := [], harness := (true, "42470c201330fdf257f07e56b1f645fbcf52e9ad1bcf78f934780263464b64e9"), looks := true }, kinds := [], alts := [], laidByText := true, laidKinds := [.data, .data, .data, .data, .sentinel, .sentinel, .pinned], laidTests := true, laidLooks := .later }
def BoxbookTextsUptoCardSaid : Prop := Claim7.holds Tryz.pinned (.plain (OpenSpec.upto boxbookTextsSpec)) boxbookTextsUptoCard

/-- THE SECOND FORM's CARD OF 'scorebooklaw21.BoxbookParses'. -/
def boxbookParsesUptoCard : Claim7 := { stood := { row := boxbookParsesUptoRow, standIns := [], harness := (true, "42470c201330fdf257f07e56b1f645fbcf52e9ad1bcf78f934780263464b64e9"), looks := true }, kinds := [], alts := [], laidByText := true, laidKinds := [.data, .data, .data, .data, .sentinel, .sentinel, .pinned], laidTests := true, laidLooks := .later }
def BoxbookParsesUptoCardSaid : Prop := Claim7.holds Tryz.pinned (.plain (OpenSpec.upto boxbookParsesSpec)) boxbookParsesUptoCard

/-- THE SECOND FORM's CARD OF 'scorebooklaw59.LiveDecodes'. -/
def liveDecodesUptoCard : Claim7 := { stood := { row := liveDecodesUptoRow, standIns := [], harness := (true, "42470c201330fdf257f07e56b1f645fbcf52e9ad1bcf78f934780263464b64e9"), looks := true }, kinds := [], alts := [], laidByText := true, laidKinds := [.data, .data, .data, .data, .sentinel, .sentinel, .pinned], laidTests := true, laidLooks := .later }
def LiveDecodesUptoCardSaid : Prop := Claim7.holds Tryz.pinned (.plain (OpenSpec.upto liveDecodesSpec)) liveDecodesUptoCard
end Rows
end Go.Proofs.YthaeofeigglbhaaGreatDoor
