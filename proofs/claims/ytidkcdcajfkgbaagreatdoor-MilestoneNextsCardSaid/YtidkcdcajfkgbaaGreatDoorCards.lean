/-
  DERIVED. GIVEN WITH THE SEED: THE CARDS: each row of YtidkcdcajfkgbaaGreatDoorRows.lean that lists a variable, with what it lists TIED to the program's text (the seventh form; the later family's looks); each row that meets fmt, with fmt's text TOLD by the authors' own Lean function (tested against real Go, not proved from fmt's source: count such statements apart). THE CARD IS WHAT COUNTS. Prove the row's statement (the work); the ties are given (YtidkcdcajfkgbaaGreatDoorTie.lean); close each card by the builder's one call (the guide's Derived/Test/ToyasCard.lean, 'card_holds'). Laid BY PROGRAM, IN A SANDBOX (cutbox-door.mjs). By AI agents, Wed Nov 11 2026. No macro, syntax, notation, axiom, sorry.
-/
import Derived.Test.YtidkcdcajfkgbaaGreatDoorRows
import GoSem.ClaimSeven
namespace Go.Proofs.YtidkcdcajfkgbaaGreatDoor
namespace Rows

/-- THE TIED CARD OF 'scorebooklaw28.MilestoneNexts'. -/
def milestoneNextsCard : Claim7 := { stood := { row := milestoneNextsRow, standIns := [], harness := (true, "b08478799106967dc0ba60dc5c40e1eb14af256991ad4f5f0c80fe73471acec4"), looks := true }, kinds := [], alts := [], laidByText := true, laidKinds := [.data, .data, .data], laidTests := true, laidLooks := .later }
def MilestoneNextsCardSaid : Prop := Claim7.holds Tryz.pinned (.plain (OpenSpec.ofChange milestoneNextsSpec)) milestoneNextsCard

/-- THE TIED CARD OF 'scorebooklaw28.MilestoneFewer'. -/
def milestoneFewerCard : Claim7 := { stood := { row := milestoneFewerRow, standIns := [], harness := (true, "b08478799106967dc0ba60dc5c40e1eb14af256991ad4f5f0c80fe73471acec4"), looks := true }, kinds := [], alts := [], laidByText := true, laidKinds := [.data, .data, .data], laidTests := true, laidLooks := .later }
def MilestoneFewerCardSaid : Prop := Claim7.holds Tryz.pinned (.plain (OpenSpec.ofChange milestoneFewerSpec)) milestoneFewerCard

/-- THE TIED CARD OF 'scorebooklaw28.MilestoneFinds'. -/
def milestoneFindsCard : Claim7 := { stood := { row := milestoneFindsRow, standIns := [], harness := (true, "b08478799106967dc0ba60dc5c40e1eb14af256991ad4f5f0c80fe73471acec4"), looks := true }, kinds := [], alts := [], laidByText := true, laidKinds := [.data, .data, .data], laidTests := true, laidLooks := .later }
def MilestoneFindsCardSaid : Prop := Claim7.holds Tryz.pinned (.plain (OpenSpec.ofChange milestoneFindsSpec)) milestoneFindsCard

/-- THE TIED CARD OF 'scorebooklaw28.MilestoneAscends'. -/
def milestoneAscendsCard : Claim7 := { stood := { row := milestoneAscendsRow, standIns := [], harness := (true, "b08478799106967dc0ba60dc5c40e1eb14af256991ad4f5f0c80fe73471acec4"), looks := true }, kinds := [], alts := [], laidByText := true, laidKinds := [.data, .data, .data], laidTests := true, laidLooks := .later }
def MilestoneAscendsCardSaid : Prop := Claim7.holds Tryz.pinned (.plain (OpenSpec.ofChange milestoneAscendsSpec)) milestoneAscendsCard

/-- THE TIED CARD OF 'scorebooklaw28.MilestoneTexts'. -/
def milestoneTextsCard : Claim7 := { stood := { row := milestoneTextsRow, standIns := [], harness := (true, "b08478799106967dc0ba60dc5c40e1eb14af256991ad4f5f0c80fe73471acec4"), looks := true }, kinds := [], alts := [], laidByText := true, laidKinds := [.data, .data, .data, .data, .sentinel, .sentinel, .pinned], laidTests := true, laidLooks := .later }
def MilestoneTextsCardSaid : Prop := Claim7.holds Tryz.pinned (.plain (OpenSpec.ofChange milestoneTextsSpec)) milestoneTextsCard

/-- THE SECOND FORM's CARD OF 'scorebooklaw28.MilestoneNexts'. -/
def milestoneNextsUptoCard : Claim7 := { stood := { row := milestoneNextsUptoRow, standIns := [], harness := (true, "b08478799106967dc0ba60dc5c40e1eb14af256991ad4f5f0c80fe73471acec4"), looks := true }, kinds := [], alts := [], laidByText := true, laidKinds := [.data, .data, .data], laidTests := true, laidLooks := .later }
def MilestoneNextsUptoCardSaid : Prop := Claim7.holds Tryz.pinned (.plain (OpenSpec.upto milestoneNextsSpec)) milestoneNextsUptoCard

/-- THE SECOND FORM's CARD OF 'scorebooklaw28.MilestoneFewer'. -/
def milestoneFewerUptoCard : Claim7 := { stood := { row := milestoneFewerUptoRow, standIns := [], harness := (true, "b08478799106967dc0ba60dc5c40e1eb14af256991ad4f5f0c80fe73471acec4"), looks := true }, kinds := [], alts := [], laidByText := true, laidKinds := [.data, .data, .data], laidTests := true, laidLooks := .later }
def MilestoneFewerUptoCardSaid : Prop := Claim7.holds Tryz.pinned (.plain (OpenSpec.upto milestoneFewerSpec)) milestoneFewerUptoCard

/-- THE SECOND FORM's CARD OF 'scorebooklaw28.MilestoneFinds'. -/
def milestoneFindsUptoCard : Claim7 := { stood := { row := milestoneFindsUptoRow, standIns := [], harness := (true, "b08478799106967dc0ba60dc5c40e1eb14af256991ad4f5f0c80fe73471acec4"), looks := true }, kinds := [], alts := [], laidByText := true, laidKinds := [.data, .data, .data], laidTests := true, laidLooks := .later }
def MilestoneFindsUptoCardSaid : Prop := Claim7.holds Tryz.pinned (.plain (OpenSpec.upto milestoneFindsSpec)) milestoneFindsUptoCard

/-- THE SECOND FORM's CARD OF 'scorebooklaw28.MilestoneAscends'. -/
def milestoneAscendsUptoCard : Claim7 := { stood := { row := milestoneAscendsUptoRow, standIns := [], harness := (true, "b08478799106967dc0ba60dc5c40e1eb14af256991ad4f5f0c80fe73471acec4"), looks := true }, kinds := [], alts := [], laidByText := true, laidKinds := [.data, .data, .data], laidTests := true, laidLooks := .later }
def MilestoneAscendsUptoCardSaid : Prop := Claim7.holds Tryz.pinned (.plain (OpenSpec.upto milestoneAscendsSpec)) milestoneAscendsUptoCard

/-- THE SECOND FORM's CARD OF 'scorebooklaw28.MilestoneTexts'. -/
def milestoneTextsUptoCard : Claim7 := { stood := { row := milestoneTextsUptoRow, standIns := [], harness := (true, "b08478799106967dc0ba60dc5c40e1eb14af256991ad4f5f0c80fe73471acec4"), looks := true }, kinds := [], alts := [], laidByText := true, laidKinds := [.data, .data, .data, .data, .sentinel, .sentinel, .pinned], laidTests := true, laidLooks := .later }
def MilestoneTextsUptoCardSaid : Prop := Claim7.holds Tryz.pinned (.plain (OpenSpec.upto milestoneTextsSpec)) milestoneTextsUptoCard
end Rows
end Go.Proofs.YtidkcdcajfkgbaaGreatDoor
