/-
  No cell of these rows narrows 'for every input' (looked for: loops, veiled, ifaces, maps, wideKeys, modest, calm, conditions, laid).
  DERIVED. THE GIVEN ROWS OF THIS SEAT. 13 by the template 'for every input the law returns true; each argument reads behind the call as it read before'; 0 by the template 'total and deterministic' (their statements: YtogdeefpidccmaaTotals.lean).
  GIVEN WITH THE SEED: the statements are not yours to turn. If you find one false, say at which input.
  Laid BY PROGRAM, IN A SANDBOX (cutbox-rows.mjs): the forced cells as the released guide's own fill.sh prints them over the translation 21ba086fb716ba51… (all of the seat's roots in one cut). By AI agents, Wed Nov 11 2026. No macro, syntax, notation, axiom, sorry.
-/
import Derived.Test.YtogdeefpidccmaaChecked
import GoSem.Claim
import GoSem.ClaimJoined
import GoSem.ClaimMapViews
import Derived.JoinedTies
import Derived.KernelRfl
namespace Go.Proofs.Ytogdeefpidccmaa
/- THE CELL 'sum', in the pinned program and in every row, IS THE sha256 OF THE DUMP (.gsa) THAT YtogdeefpidccmaaProg.lean LOADS. Nothing in Lean hashes anything: it is a label: what it is worth is what the hold of that sum in a sandbox is worth. -/
noncomputable def Try.pinned : Pinned := { name := "ytogdeefpidccmaa", sum := "21ba086fb716ba5138022c73d6ae41b53454754fe664591c37f640844ff155ba", checked := Try.checked }
namespace Rows
def none {H : Type} : Left H := { results := [], args := [] }

/-- 'scorebooklaw10.DismissalPossible': WHATEVER THE INPUT: true; the input reads as it did. -/
def dismissalPossibleSpec : ChangeSpec := { name := "dismissalPossible", fn := fun _ => fun
  | [d1, d2] => { results := [.lit (.bool true)], args := [d1, d2] }
  | _ => none }
def dismissalPossibleRow : OpenClaim := { program := "ytogdeefpidccmaa", sum := "21ba086fb716ba5138022c73d6ae41b53454754fe664591c37f640844ff155ba", func := "scorebook/scorebooklaw10.DismissalPossible", spec := "dismissalPossible", unfollowed := true, recurses := true, apart := false }
def DismissalPossibleSaid : Prop := dismissalPossibleRow.holds Try.pinned (OpenSpec.ofChange dismissalPossibleSpec)

/-- ITS FALSE NEIGHBOUR: 'it returns false'. Refute it at one input. -/
def dismissalPossibleWrong : ChangeSpec := { name := "dismissalPossible", fn := fun _ => fun
  | [d1, d2] => { results := [.lit (.bool false)], args := [d1, d2] }
  | _ => none }
def DismissalPossibleWrongFalsely : Prop := dismissalPossibleRow.holds Try.pinned (OpenSpec.ofChange dismissalPossibleWrong)

/-- 'scorebooklaw10.DismissalFree': WHATEVER THE INPUT: true; the input reads as it did. -/
def dismissalFreeSpec : ChangeSpec := { name := "dismissalFree", fn := fun _ => fun
  | [d] => { results := [.lit (.bool true)], args := [d] }
  | _ => none }
def dismissalFreeRow : OpenClaim := { program := "ytogdeefpidccmaa", sum := "21ba086fb716ba5138022c73d6ae41b53454754fe664591c37f640844ff155ba", func := "scorebook/scorebooklaw10.DismissalFree", spec := "dismissalFree", unfollowed := true, recurses := true, apart := false }
def DismissalFreeSaid : Prop := dismissalFreeRow.holds Try.pinned (OpenSpec.ofChange dismissalFreeSpec)

/-- ITS FALSE NEIGHBOUR: 'it returns false'. Refute it at one input. -/
def dismissalFreeWrong : ChangeSpec := { name := "dismissalFree", fn := fun _ => fun
  | [d] => { results := [.lit (.bool false)], args := [d] }
  | _ => none }
def DismissalFreeWrongFalsely : Prop := dismissalFreeRow.holds Try.pinned (OpenSpec.ofChange dismissalFreeWrong)

/-- 'scorebooklaw10.DismissalListed': WHATEVER THE INPUT: true; the input reads as it did. -/
def dismissalListedSpec : ChangeSpec := { name := "dismissalListed", fn := fun _ => fun
  | [d1, d2] => { results := [.lit (.bool true)], args := [d1, d2] }
  | _ => none }
def dismissalListedRow : OpenClaim := { program := "ytogdeefpidccmaa", sum := "21ba086fb716ba5138022c73d6ae41b53454754fe664591c37f640844ff155ba", func := "scorebook/scorebooklaw10.DismissalListed", spec := "dismissalListed", unfollowed := true, recurses := true, apart := false }
def DismissalListedSaid : Prop := dismissalListedRow.holds Try.pinned (OpenSpec.ofChange dismissalListedSpec)

/-- ITS FALSE NEIGHBOUR: 'it returns false'. Refute it at one input. -/
def dismissalListedWrong : ChangeSpec := { name := "dismissalListed", fn := fun _ => fun
  | [d1, d2] => { results := [.lit (.bool false)], args := [d1, d2] }
  | _ => none }
def DismissalListedWrongFalsely : Prop := dismissalListedRow.holds Try.pinned (OpenSpec.ofChange dismissalListedWrong)

/-- 'scorebooklaw10.DismissalNames': WHATEVER THE INPUT: true; the input reads as it did. -/
def dismissalNamesSpec : ChangeSpec := { name := "dismissalNames", fn := fun _ => fun
  | [d1, d2] => { results := [.lit (.bool true)], args := [d1, d2] }
  | _ => none }
def dismissalNamesRow : OpenClaim := { program := "ytogdeefpidccmaa", sum := "21ba086fb716ba5138022c73d6ae41b53454754fe664591c37f640844ff155ba", func := "scorebook/scorebooklaw10.DismissalNames", spec := "dismissalNames", unfollowed := true, recurses := true, apart := false }
def DismissalNamesSaid : Prop := dismissalNamesRow.holds Try.pinned (OpenSpec.ofChange dismissalNamesSpec)

/-- ITS FALSE NEIGHBOUR: 'it returns false'. Refute it at one input. -/
def dismissalNamesWrong : ChangeSpec := { name := "dismissalNames", fn := fun _ => fun
  | [d1, d2] => { results := [.lit (.bool false)], args := [d1, d2] }
  | _ => none }
def DismissalNamesWrongFalsely : Prop := dismissalNamesRow.holds Try.pinned (OpenSpec.ofChange dismissalNamesWrong)

/-- 'scorebooklaw10.DismissalVictims': WHATEVER THE INPUT: true; the input reads as it did. -/
def dismissalVictimsSpec : ChangeSpec := { name := "dismissalVictims", fn := fun _ => fun
  | [d1, d2, d3] => { results := [.lit (.bool true)], args := [d1, d2, d3] }
  | _ => none }
def dismissalVictimsRow : OpenClaim := { program := "ytogdeefpidccmaa", sum := "21ba086fb716ba5138022c73d6ae41b53454754fe664591c37f640844ff155ba", func := "scorebook/scorebooklaw10.DismissalVictims", spec := "dismissalVictims", unfollowed := true, recurses := true, apart := false }
def DismissalVictimsSaid : Prop := dismissalVictimsRow.holds Try.pinned (OpenSpec.ofChange dismissalVictimsSpec)

/-- ITS FALSE NEIGHBOUR: 'it returns false'. Refute it at one input. -/
def dismissalVictimsWrong : ChangeSpec := { name := "dismissalVictims", fn := fun _ => fun
  | [d1, d2, d3] => { results := [.lit (.bool false)], args := [d1, d2, d3] }
  | _ => none }
def DismissalVictimsWrongFalsely : Prop := dismissalVictimsRow.holds Try.pinned (OpenSpec.ofChange dismissalVictimsWrong)

/-- 'scorebooklaw10.DismissalWays': WHATEVER THE INPUT: true; the input reads as it did. -/
def dismissalWaysSpec : ChangeSpec := { name := "dismissalWays", fn := fun _ => fun
  | [d1, d2, d3] => { results := [.lit (.bool true)], args := [d1, d2, d3] }
  | _ => none }
def dismissalWaysRow : OpenClaim := { program := "ytogdeefpidccmaa", sum := "21ba086fb716ba5138022c73d6ae41b53454754fe664591c37f640844ff155ba", func := "scorebook/scorebooklaw10.DismissalWays", spec := "dismissalWays", unfollowed := true, recurses := true, apart := false }
def DismissalWaysSaid : Prop := dismissalWaysRow.holds Try.pinned (OpenSpec.ofChange dismissalWaysSpec)

/-- ITS FALSE NEIGHBOUR: 'it returns false'. Refute it at one input. -/
def dismissalWaysWrong : ChangeSpec := { name := "dismissalWays", fn := fun _ => fun
  | [d1, d2, d3] => { results := [.lit (.bool false)], args := [d1, d2, d3] }
  | _ => none }
def DismissalWaysWrongFalsely : Prop := dismissalWaysRow.holds Try.pinned (OpenSpec.ofChange dismissalWaysWrong)

/-- 'scorebooklaw11.FieldPlays': WHATEVER THE INPUT: true; the input reads as it did. -/
def fieldPlaysSpec : ChangeSpec := { name := "fieldPlays", fn := fun _ => fun
  | [d1, d2] => { results := [.lit (.bool true)], args := [d1, d2] }
  | _ => none }
def fieldPlaysRow : OpenClaim := { program := "ytogdeefpidccmaa", sum := "21ba086fb716ba5138022c73d6ae41b53454754fe664591c37f640844ff155ba", func := "scorebook/scorebooklaw11.FieldPlays", spec := "fieldPlays", apart := false }
def FieldPlaysSaid : Prop := fieldPlaysRow.holds Try.pinned (OpenSpec.ofChange fieldPlaysSpec)

/-- ITS FALSE NEIGHBOUR: 'it returns false'. Refute it at one input. -/
def fieldPlaysWrong : ChangeSpec := { name := "fieldPlays", fn := fun _ => fun
  | [d1, d2] => { results := [.lit (.bool false)], args := [d1, d2] }
  | _ => none }
def FieldPlaysWrongFalsely : Prop := fieldPlaysRow.holds Try.pinned (OpenSpec.ofChange fieldPlaysWrong)

/-- 'scorebooklaw11.FieldReady': WHATEVER THE INPUT: true; the input reads as it did. -/
def fieldReadySpec : ChangeSpec := { name := "fieldReady", fn := fun _ => fun
  | [d1, d2, d3] => { results := [.lit (.bool true)], args := [d1, d2, d3] }
  | _ => none }
def fieldReadyRow : OpenClaim := { program := "ytogdeefpidccmaa", sum := "21ba086fb716ba5138022c73d6ae41b53454754fe664591c37f640844ff155ba", func := "scorebook/scorebooklaw11.FieldReady", spec := "fieldReady", apart := false }
def FieldReadySaid : Prop := fieldReadyRow.holds Try.pinned (OpenSpec.ofChange fieldReadySpec)

/-- ITS FALSE NEIGHBOUR: 'it returns false'. Refute it at one input. -/
def fieldReadyWrong : ChangeSpec := { name := "fieldReady", fn := fun _ => fun
  | [d1, d2, d3] => { results := [.lit (.bool false)], args := [d1, d2, d3] }
  | _ => none }
def FieldReadyWrongFalsely : Prop := fieldReadyRow.holds Try.pinned (OpenSpec.ofChange fieldReadyWrong)

/-- 'scorebooklaw11.FieldKeeps': WHATEVER THE INPUT: true; the input reads as it did. -/
def fieldKeepsSpec : ChangeSpec := { name := "fieldKeeps", fn := fun _ => fun
  | [d1, d2] => { results := [.lit (.bool true)], args := [d1, d2] }
  | _ => none }
def fieldKeepsRow : OpenClaim := { program := "ytogdeefpidccmaa", sum := "21ba086fb716ba5138022c73d6ae41b53454754fe664591c37f640844ff155ba", func := "scorebook/scorebooklaw11.FieldKeeps", spec := "fieldKeeps", apart := false }
def FieldKeepsSaid : Prop := fieldKeepsRow.holds Try.pinned (OpenSpec.ofChange fieldKeepsSpec)

/-- ITS FALSE NEIGHBOUR: 'it returns false'. Refute it at one input. -/
def fieldKeepsWrong : ChangeSpec := { name := "fieldKeeps", fn := fun _ => fun
  | [d1, d2] => { results := [.lit (.bool false)], args := [d1, d2] }
  | _ => none }
def FieldKeepsWrongFalsely : Prop := fieldKeepsRow.holds Try.pinned (OpenSpec.ofChange fieldKeepsWrong)

/-- 'scorebooklaw11.FieldSwaps': WHATEVER THE INPUT: true; the input reads as it did. -/
def fieldSwapsSpec : ChangeSpec := { name := "fieldSwaps", fn := fun _ => fun
  | [d1, d2] => { results := [.lit (.bool true)], args := [d1, d2] }
  | _ => none }
def fieldSwapsRow : OpenClaim := { program := "ytogdeefpidccmaa", sum := "21ba086fb716ba5138022c73d6ae41b53454754fe664591c37f640844ff155ba", func := "scorebook/scorebooklaw11.FieldSwaps", spec := "fieldSwaps", apart := false }
def FieldSwapsSaid : Prop := fieldSwapsRow.holds Try.pinned (OpenSpec.ofChange fieldSwapsSpec)

/-- ITS FALSE NEIGHBOUR: 'it returns false'. Refute it at one input. -/
def fieldSwapsWrong : ChangeSpec := { name := "fieldSwaps", fn := fun _ => fun
  | [d1, d2] => { results := [.lit (.bool false)], args := [d1, d2] }
  | _ => none }
def FieldSwapsWrongFalsely : Prop := fieldSwapsRow.holds Try.pinned (OpenSpec.ofChange fieldSwapsWrong)

/-- 'scorebooklaw13.SpellCounts': WHATEVER THE INPUT: true; the input reads as it did. -/
def spellCountsSpec : ChangeSpec := { name := "spellCounts", fn := fun _ => fun
  | [d1, d2] => { results := [.lit (.bool true)], args := [d1, d2] }
  | _ => none }
def spellCountsRow : OpenClaim := { program := "ytogdeefpidccmaa", sum := "21ba086fb716ba5138022c73d6ae41b53454754fe664591c37f640844ff155ba", func := "scorebook/scorebooklaw13.SpellCounts", spec := "spellCounts", apart := false }
def SpellCountsSaid : Prop := spellCountsRow.holds Try.pinned (OpenSpec.ofChange spellCountsSpec)

/-- ITS FALSE NEIGHBOUR: 'it returns false'. Refute it at one input. -/
def spellCountsWrong : ChangeSpec := { name := "spellCounts", fn := fun _ => fun
  | [d1, d2] => { results := [.lit (.bool false)], args := [d1, d2] }
  | _ => none }
def SpellCountsWrongFalsely : Prop := spellCountsRow.holds Try.pinned (OpenSpec.ofChange spellCountsWrong)

/-- 'scorebooklaw13.SpellBalls': WHATEVER THE INPUT: true; the input reads as it did. -/
def spellBallsSpec : ChangeSpec := { name := "spellBalls", fn := fun _ => fun
  | [d1, d2, d3] => { results := [.lit (.bool true)], args := [d1, d2, d3] }
  | _ => none }
def spellBallsRow : OpenClaim := { program := "ytogdeefpidccmaa", sum := "21ba086fb716ba5138022c73d6ae41b53454754fe664591c37f640844ff155ba", func := "scorebook/scorebooklaw13.SpellBalls", spec := "spellBalls", apart := false }
def SpellBallsSaid : Prop := spellBallsRow.holds Try.pinned (OpenSpec.ofChange spellBallsSpec)

/-- ITS FALSE NEIGHBOUR: 'it returns false'. Refute it at one input. -/
def spellBallsWrong : ChangeSpec := { name := "spellBalls", fn := fun _ => fun
  | [d1, d2, d3] => { results := [.lit (.bool false)], args := [d1, d2, d3] }
  | _ => none }
def SpellBallsWrongFalsely : Prop := spellBallsRow.holds Try.pinned (OpenSpec.ofChange spellBallsWrong)

/-- 'scorebooklaw13.SpellKeeps': WHATEVER THE INPUT: true; the input reads as it did. -/
def spellKeepsSpec : ChangeSpec := { name := "spellKeeps", fn := fun _ => fun
  | [d1, d2, d3] => { results := [.lit (.bool true)], args := [d1, d2, d3] }
  | _ => none }
def spellKeepsRow : OpenClaim := { program := "ytogdeefpidccmaa", sum := "21ba086fb716ba5138022c73d6ae41b53454754fe664591c37f640844ff155ba", func := "scorebook/scorebooklaw13.SpellKeeps", spec := "spellKeeps", apart := false }
def SpellKeepsSaid : Prop := spellKeepsRow.holds Try.pinned (OpenSpec.ofChange spellKeepsSpec)

/-- ITS FALSE NEIGHBOUR: 'it returns false'. Refute it at one input. -/
def spellKeepsWrong : ChangeSpec := { name := "spellKeeps", fn := fun _ => fun
  | [d1, d2, d3] => { results := [.lit (.bool false)], args := [d1, d2, d3] }
  | _ => none }
def SpellKeepsWrongFalsely : Prop := spellKeepsRow.holds Try.pinned (OpenSpec.ofChange spellKeepsWrong)

/- THE SECOND FORM. 'bulk': how many values and letters a reading holds, each counted each time it is reached (what is shared counts as often as it is met; a slice's spare places count too). A statement '..UptoSaid' is the law's where the arguments, and the package variables that the reading takes, are together of bulk at most 1048576: NARROWER than '..Said'. Prove '..Said' where nothing that the law and all that it calls make is longer than what came in: it says more and counts as full. Else prove '..UptoSaid'. A law counts once. -/
mutual
def uptoBulk {H : Type} : DataW H → Nat
  | .lit (.string bytes) => bytes.length + 1
  | .lit _ => 1
  | .nil => 1
  | .ptr d => uptoBulk d + 1
  | .slice elems spare => uptoBulkAll elems + uptoBulkAll spare + 1
  | .agg parts => uptoBulkAll parts + 1
  | .iface _ d => uptoBulk d + 1
  | .map entries => uptoBulkEntries entries + 1
  | .held _ => 1
def uptoBulkAll {H : Type} : List (DataW H) → Nat
  | [] => 0
  | d :: r => uptoBulk d + uptoBulkAll r
def uptoBulkEntries {H : Type} : List (Lit × DataW H) → Nat
  | [] => 0
  | x :: r => uptoBulkEntry x + uptoBulkEntries r
def uptoBulkEntry {H : Type} : Lit × DataW H → Nat
  | (.string bytes, d) => bytes.length + uptoBulk d + 1
  | (_, d) => uptoBulk d + 1
 end
def uptoSmall : (H : Type) → List (DataW H) → Bool := fun _ ds => decide (uptoBulkAll ds ≤ 1048576)
def OpenSpec.upto (s : _root_.Go.ChangeSpec) : _root_.Go.OpenSpec := { _root_.Go.OpenSpec.ofChange s with cond := some uptoSmall }

/-- 'scorebooklaw10.DismissalPossible', WHERE WHAT IT READS IS OF BULK AT MOST 1048576: true; the input reads as it did. -/
def dismissalPossibleUptoRow : OpenClaim := { program := "ytogdeefpidccmaa", sum := "21ba086fb716ba5138022c73d6ae41b53454754fe664591c37f640844ff155ba", func := "scorebook/scorebooklaw10.DismissalPossible", spec := "dismissalPossible", unfollowed := true, recurses := true, apart := false, narrowed := true }
def DismissalPossibleUptoSaid : Prop := dismissalPossibleUptoRow.holds Try.pinned (OpenSpec.upto dismissalPossibleSpec)

/-- 'scorebooklaw10.DismissalFree', WHERE WHAT IT READS IS OF BULK AT MOST 1048576: true; the input reads as it did. -/
def dismissalFreeUptoRow : OpenClaim := { program := "ytogdeefpidccmaa", sum := "21ba086fb716ba5138022c73d6ae41b53454754fe664591c37f640844ff155ba", func := "scorebook/scorebooklaw10.DismissalFree", spec := "dismissalFree", unfollowed := true, recurses := true, apart := false, narrowed := true }
def DismissalFreeUptoSaid : Prop := dismissalFreeUptoRow.holds Try.pinned (OpenSpec.upto dismissalFreeSpec)

/-- 'scorebooklaw10.DismissalListed', WHERE WHAT IT READS IS OF BULK AT MOST 1048576: true; the input reads as it did. -/
def dismissalListedUptoRow : OpenClaim := { program := "ytogdeefpidccmaa", sum := "21ba086fb716ba5138022c73d6ae41b53454754fe664591c37f640844ff155ba", func := "scorebook/scorebooklaw10.DismissalListed", spec := "dismissalListed", unfollowed := true, recurses := true, apart := false, narrowed := true }
def DismissalListedUptoSaid : Prop := dismissalListedUptoRow.holds Try.pinned (OpenSpec.upto dismissalListedSpec)

/-- 'scorebooklaw10.DismissalNames', WHERE WHAT IT READS IS OF BULK AT MOST 1048576: true; the input reads as it did. -/
def dismissalNamesUptoRow : OpenClaim := { program := "ytogdeefpidccmaa", sum := "21ba086fb716ba5138022c73d6ae41b53454754fe664591c37f640844ff155ba", func := "scorebook/scorebooklaw10.DismissalNames", spec := "dismissalNames", unfollowed := true, recurses := true, apart := false, narrowed := true }
def DismissalNamesUptoSaid : Prop := dismissalNamesUptoRow.holds Try.pinned (OpenSpec.upto dismissalNamesSpec)

/-- 'scorebooklaw10.DismissalVictims', WHERE WHAT IT READS IS OF BULK AT MOST 1048576: true; the input reads as it did. -/
def dismissalVictimsUptoRow : OpenClaim := { program := "ytogdeefpidccmaa", sum := "21ba086fb716ba5138022c73d6ae41b53454754fe664591c37f640844ff155ba", func := "scorebook/scorebooklaw10.DismissalVictims", spec := "dismissalVictims", unfollowed := true, recurses := true, apart := false, narrowed := true }
def DismissalVictimsUptoSaid : Prop := dismissalVictimsUptoRow.holds Try.pinned (OpenSpec.upto dismissalVictimsSpec)

/-- 'scorebooklaw10.DismissalWays', WHERE WHAT IT READS IS OF BULK AT MOST 1048576: true; the input reads as it did. -/
def dismissalWaysUptoRow : OpenClaim := { program := "ytogdeefpidccmaa", sum := "21ba086fb716ba5138022c73d6ae41b53454754fe664591c37f640844ff155ba", func := "scorebook/scorebooklaw10.DismissalWays", spec := "dismissalWays", unfollowed := true, recurses := true, apart := false, narrowed := true }
def DismissalWaysUptoSaid : Prop := dismissalWaysUptoRow.holds Try.pinned (OpenSpec.upto dismissalWaysSpec)

/-- 'scorebooklaw11.FieldPlays', WHERE WHAT IT READS IS OF BULK AT MOST 1048576: true; the input reads as it did. -/
def fieldPlaysUptoRow : OpenClaim := { program := "ytogdeefpidccmaa", sum := "21ba086fb716ba5138022c73d6ae41b53454754fe664591c37f640844ff155ba", func := "scorebook/scorebooklaw11.FieldPlays", spec := "fieldPlays", apart := false, narrowed := true }
def FieldPlaysUptoSaid : Prop := fieldPlaysUptoRow.holds Try.pinned (OpenSpec.upto fieldPlaysSpec)

/-- 'scorebooklaw11.FieldReady', WHERE WHAT IT READS IS OF BULK AT MOST 1048576: true; the input reads as it did. -/
def fieldReadyUptoRow : OpenClaim := { program := "ytogdeefpidccmaa", sum := "21ba086fb716ba5138022c73d6ae41b53454754fe664591c37f640844ff155ba", func := "scorebook/scorebooklaw11.FieldReady", spec := "fieldReady", apart := false, narrowed := true }
def FieldReadyUptoSaid : Prop := fieldReadyUptoRow.holds Try.pinned (OpenSpec.upto fieldReadySpec)

/-- 'scorebooklaw11.FieldKeeps', WHERE WHAT IT READS IS OF BULK AT MOST 1048576: true; the input reads as it did. -/
def fieldKeepsUptoRow : OpenClaim := { program := "ytogdeefpidccmaa", sum := "21ba086fb716ba5138022c73d6ae41b53454754fe664591c37f640844ff155ba", func := "scorebook/scorebooklaw11.FieldKeeps", spec := "fieldKeeps", apart := false, narrowed := true }
def FieldKeepsUptoSaid : Prop := fieldKeepsUptoRow.holds Try.pinned (OpenSpec.upto fieldKeepsSpec)

/-- 'scorebooklaw11.FieldSwaps', WHERE WHAT IT READS IS OF BULK AT MOST 1048576: true; the input reads as it did. -/
def fieldSwapsUptoRow : OpenClaim := { program := "ytogdeefpidccmaa", sum := "21ba086fb716ba5138022c73d6ae41b53454754fe664591c37f640844ff155ba", func := "scorebook/scorebooklaw11.FieldSwaps", spec := "fieldSwaps", apart := false, narrowed := true }
def FieldSwapsUptoSaid : Prop := fieldSwapsUptoRow.holds Try.pinned (OpenSpec.upto fieldSwapsSpec)

/-- 'scorebooklaw13.SpellCounts', WHERE WHAT IT READS IS OF BULK AT MOST 1048576: true; the input reads as it did. -/
def spellCountsUptoRow : OpenClaim := { program := "ytogdeefpidccmaa", sum := "21ba086fb716ba5138022c73d6ae41b53454754fe664591c37f640844ff155ba", func := "scorebook/scorebooklaw13.SpellCounts", spec := "spellCounts", apart := false, narrowed := true }
def SpellCountsUptoSaid : Prop := spellCountsUptoRow.holds Try.pinned (OpenSpec.upto spellCountsSpec)

/-- 'scorebooklaw13.SpellBalls', WHERE WHAT IT READS IS OF BULK AT MOST 1048576: true; the input reads as it did. -/
def spellBallsUptoRow : OpenClaim := { program := "ytogdeefpidccmaa", sum := "21ba086fb716ba5138022c73d6ae41b53454754fe664591c37f640844ff155ba", func := "scorebook/scorebooklaw13.SpellBalls", spec := "spellBalls", apart := false, narrowed := true }
def SpellBallsUptoSaid : Prop := spellBallsUptoRow.holds Try.pinned (OpenSpec.upto spellBallsSpec)

/-- 'scorebooklaw13.SpellKeeps', WHERE WHAT IT READS IS OF BULK AT MOST 1048576: true; the input reads as it did. -/
def spellKeepsUptoRow : OpenClaim := { program := "ytogdeefpidccmaa", sum := "21ba086fb716ba5138022c73d6ae41b53454754fe664591c37f640844ff155ba", func := "scorebook/scorebooklaw13.SpellKeeps", spec := "spellKeeps", apart := false, narrowed := true }
def SpellKeepsUptoSaid : Prop := spellKeepsUptoRow.holds Try.pinned (OpenSpec.upto spellKeepsSpec)

end Rows
end Go.Proofs.Ytogdeefpidccmaa
