/-
  DERIVED. GIVEN WITH THE SEED: THE CARDS: each row of YtknhjdkjjfijlaaGreatDoorRows.lean that lists a variable, with what it lists TIED to the program's text (the seventh form; the later family's looks); each row that meets fmt, with fmt's text TOLD by the authors' own Lean function (tested against real Go, not proved from fmt's source: count such statements apart). THE CARD IS WHAT COUNTS. Prove the row's statement (the work); the ties are given (YtknhjdkjjfijlaaGreatDoorTie.lean); close each card by the builder's one call (the guide's Derived/Test/ToyasCard.lean, 'card_holds'). Laid BY PROGRAM, IN A SANDBOX (cutbox-door.mjs). By AI agents, Wed Nov 11 2026. No macro, syntax, notation, axiom, sorry.
-/
import Derived.Test.YtknhjdkjjfijlaaGreatDoorRows
import GoSem.ClaimSeven
namespace Go.Proofs.YtknhjdkjjfijlaaGreatDoor
namespace Rows

/-- THE TIED CARD OF 'pyxlaw12.EntryEven'. -/
def entryEvenCard : Claim7 := { stood := { row := entryEvenRow, standIns := [], harness := (true, "d3ee74b28c92f9d97c4a67996734638446a20959197d7c9669e5768d54cdb500"), looks := true }, kinds := [], alts := [], laidByText := true, laidKinds := [.data, .data, .data, .data, .sentinel, .sentinel, .pinned], laidTests := true, laidLooks := .later }
def EntryEvenCardSaid : Prop := Claim7.holds Tryz.pinned (.plain (OpenSpec.ofChange entryEvenSpec)) entryEvenCard

/-- THE TIED CARD OF 'pyxlaw12.EntryLimits'. -/
def entryLimitsCard : Claim7 := { stood := { row := entryLimitsRow, standIns := [], harness := (true, "d3ee74b28c92f9d97c4a67996734638446a20959197d7c9669e5768d54cdb500"), looks := true }, kinds := [], alts := [], laidByText := true, laidKinds := [.data, .data, .data, .data, .sentinel, .sentinel, .pinned], laidTests := true, laidLooks := .later }
def EntryLimitsCardSaid : Prop := Claim7.holds Tryz.pinned (.plain (OpenSpec.ofChange entryLimitsSpec)) entryLimitsCard

/-- THE TIED CARD OF 'pyxlaw12.EntryKnown'. -/
def entryKnownCard : Claim7 := { stood := { row := entryKnownRow, standIns := [], harness := (true, "d3ee74b28c92f9d97c4a67996734638446a20959197d7c9669e5768d54cdb500"), looks := true }, kinds := [], alts := [], laidByText := true, laidKinds := [.data, .data, .data, .data, .sentinel, .sentinel, .pinned], laidTests := true, laidLooks := .later }
def EntryKnownCardSaid : Prop := Claim7.holds Tryz.pinned (.plain (OpenSpec.ofChange entryKnownSpec)) entryKnownCard

/-- THE TIED CARD OF 'pyxlaw12.EntryTells'. -/
def entryTellsCard : Claim7 := { stood := { row := entryTellsRow, standIns := [], harness := (true, "d3ee74b28c92f9d97c4a67996734638446a20959197d7c9669e5768d54cdb500"), looks := true }, kinds := [], alts := [], laidByText := true, laidKinds := [.data, .data, .data, .data, .sentinel, .sentinel, .pinned], laidTests := true, laidLooks := .later }
def EntryTellsCardSaid : Prop := Claim7.holds Tryz.pinned (.plain (OpenSpec.ofChange entryTellsSpec)) entryTellsCard

/-- THE TIED CARD OF 'pyxlaw12.EntryBack'. -/
def entryBackCard : Claim7 := { stood := { row := entryBackRow, standIns := [], harness := (true, "d3ee74b28c92f9d97c4a67996734638446a20959197d7c9669e5768d54cdb500"), looks := true }, kinds := [], alts := [], laidByText := true, laidKinds := [.data, .data, .data, .data, .sentinel, .sentinel, .pinned], laidTests := true, laidLooks := .later }
def EntryBackCardSaid : Prop := Claim7.holds Tryz.pinned (.plain (OpenSpec.ofChange entryBackSpec)) entryBackCard

/-- THE TIED CARD OF 'pyxlaw26.CmdKnown'. -/
def cmdKnownCard : Claim7 := { stood := { row := cmdKnownRow, standIns := [], harness := (true, "d3ee74b28c92f9d97c4a67996734638446a20959197d7c9669e5768d54cdb500"), looks := true }, kinds := [], alts := [], laidByText := true, laidKinds := [.data, .data, .data, .data, .sentinel, .sentinel, .pinned], laidTests := true, laidLooks := .later }
def CmdKnownCardSaid : Prop := Claim7.holds Tryz.pinned (.plain (OpenSpec.ofChange cmdKnownSpec)) cmdKnownCard

/-- THE TIED CARD OF 'pyxlaw26.CmdTells'. -/
def cmdTellsCard : Claim7 := { stood := { row := cmdTellsRow, standIns := [], harness := (true, "d3ee74b28c92f9d97c4a67996734638446a20959197d7c9669e5768d54cdb500"), looks := true }, kinds := [], alts := [], laidByText := true, laidKinds := [.data, .data, .data, .data, .sentinel, .sentinel, .pinned], laidTests := true, laidLooks := .later }
def CmdTellsCardSaid : Prop := Claim7.holds Tryz.pinned (.plain (OpenSpec.ofChange cmdTellsSpec)) cmdTellsCard

/-- THE TIED CARD OF 'pyxlaw26.CmdBack'. -/
def cmdBackCard : Claim7 := { stood := { row := cmdBackRow, standIns := [], harness := (true, "d3ee74b28c92f9d97c4a67996734638446a20959197d7c9669e5768d54cdb500"), looks := true }, kinds := [], alts := [], laidByText := true, laidKinds := [.data, .data, .data, .data, .sentinel, .sentinel, .pinned], laidTests := true, laidLooks := .later }
def CmdBackCardSaid : Prop := Claim7.holds Tryz.pinned (.plain (OpenSpec.ofChange cmdBackSpec)) cmdBackCard

/-- THE TIED CARD OF 'pyxlaw26.CmdNumbers'. -/
def cmdNumbersCard : Claim7 := { stood := { row := cmdNumbersRow, standIns := [], harness := (true, "d3ee74b28c92f9d97c4a67996734638446a20959197d7c9669e5768d54cdb500"), looks := true }, kinds := [], alts := [], laidByText := true, laidKinds := [.data, .data, .data, .data, .sentinel, .sentinel, .pinned], laidTests := true, laidLooks := .later }
def CmdNumbersCardSaid : Prop := Claim7.holds Tryz.pinned (.plain (OpenSpec.ofChange cmdNumbersSpec)) cmdNumbersCard

/-- THE SECOND FORM's CARD OF 'pyxlaw12.EntryEven'. -/
def entryEvenUptoCard : Claim7 := { stood := { row := entryEvenUptoRow, standIns := [], harness := (true, "d3ee74b28c92f9d97c4a67996734638446a20959197d7c9669e5768d54cdb500"), looks := true }, kinds := [], alts := [], laidByText := true, laidKinds := [.data, .data, .data, .data, .sentinel, .sentinel, .pinned], laidTests := true, laidLooks := .later }
def EntryEvenUptoCardSaid : Prop := Claim7.holds Tryz.pinned (.plain (OpenSpec.upto entryEvenSpec)) entryEvenUptoCard

/-- THE SECOND FORM's CARD OF 'pyxlaw12.EntryLimits'. -/
def entryLimitsUptoCard : Claim7 := { stood := { row := entryLimitsUptoRow, standIns := [], harness := (true, "d3ee74b28c92f9d97c4a67996734638446a20959197d7c9669e5768d54cdb500"), looks := true }, kinds := [], alts := [], laidByText := true, laidKinds := [.data, .data, .data, .data, .sentinel, .sentinel, .pinned], laidTests := true, laidLooks := .later }
def EntryLimitsUptoCardSaid : Prop := Claim7.holds Tryz.pinned (.plain (OpenSpec.upto entryLimitsSpec)) entryLimitsUptoCard

/-- THE SECOND FORM's CARD OF 'pyxlaw12.EntryKnown'. -/
def entryKnownUptoCard : Claim7 := { stood := { row := entryKnownUptoRow, standIns := [], harness := (true, "d3ee74b28c92f9d97c4a67996734638446a20959197d7c9669e5768d54cdb500"), looks := true }, kinds := [], alts := [], laidByText := true, laidKinds := [.data, .data, .data, .data, .sentinel, .sentinel, .pinned], laidTests := true, laidLooks := .later }
def EntryKnownUptoCardSaid : Prop := Claim7.holds Tryz.pinned (.plain (OpenSpec.upto entryKnownSpec)) entryKnownUptoCard

/-- THE SECOND FORM's CARD OF 'pyxlaw12.EntryTells'. -/
def entryTellsUptoCard : Claim7 := { stood := { row := entryTellsUptoRow, standIns := [], harness := (true, "d3ee74b28c92f9d97c4a67996734638446a20959197d7c9669e5768d54cdb500"), looks := true }, kinds := [], alts := [], laidByText := true, laidKinds := [.data, .data, .data, .data, .sentinel, .sentinel, .pinned], laidTests := true, laidLooks := .later }
def EntryTellsUptoCardSaid : Prop := Claim7.holds Tryz.pinned (.plain (OpenSpec.upto entryTellsSpec)) entryTellsUptoCard

/-- THE SECOND FORM's CARD OF 'pyxlaw12.EntryBack'. -/
def entryBackUptoCard : Claim7 := { stood := { row := entryBackUptoRow, standIns := [], harness := (true, "d3ee74b28c92f9d97c4a67996734638446a20959197d7c9669e5768d54cdb500"), looks := true }, kinds := [], alts := [], laidByText := true, laidKinds := [.data, .data, .data, .data, .sentinel, .sentinel, .pinned], laidTests := true, laidLooks := .later }
def EntryBackUptoCardSaid : Prop := Claim7.holds Tryz.pinned (.plain (OpenSpec.upto entryBackSpec)) entryBackUptoCard

/-- THE SECOND FORM's CARD OF 'pyxlaw26.CmdKnown'. -/
def cmdKnownUptoCard : Claim7 := { stood := { row := cmdKnownUptoRow, standIns := [], harness := (true, "d3ee74b28c92f9d97c4a67996734638446a20959197d7c9669e5768d54cdb500"), looks := true }, kinds := [], alts := [], laidByText := true, laidKinds := [.data, .data, .data, .data, .sentinel, .sentinel, .pinned], laidTests := true, laidLooks := .later }
def CmdKnownUptoCardSaid : Prop := Claim7.holds Tryz.pinned (.plain (OpenSpec.upto cmdKnownSpec)) cmdKnownUptoCard

/-- THE SECOND FORM's CARD OF 'pyxlaw26.CmdTells'. -/
def cmdTellsUptoCard : Claim7 := { stood := { row := cmdTellsUptoRow, standIns := [], harness := (true, "d3ee74b28c92f9d97c4a67996734638446a20959197d7c9669e5768d54cdb500"), looks := true }, kinds := [], alts := [], laidByText := true, laidKinds := [.data, .data, .data, .data, .sentinel, .sentinel, .pinned], laidTests := true, laidLooks := .later }
def CmdTellsUptoCardSaid : Prop := Claim7.holds Tryz.pinned (.plain (OpenSpec.upto cmdTellsSpec)) cmdTellsUptoCard

/-- THE SECOND FORM's CARD OF 'pyxlaw26.CmdBack'. -/
def cmdBackUptoCard : Claim7 := { stood := { row := cmdBackUptoRow, standIns := [], harness := (true, "d3ee74b28c92f9d97c4a67996734638446a20959197d7c9669e5768d54cdb500"), looks := true }, kinds := [], alts := [], laidByText := true, laidKinds := [.data, .data, .data, .data, .sentinel, .sentinel, .pinned], laidTests := true, laidLooks := .later }
def CmdBackUptoCardSaid : Prop := Claim7.holds Tryz.pinned (.plain (OpenSpec.upto cmdBackSpec)) cmdBackUptoCard

/-- THE SECOND FORM's CARD OF 'pyxlaw26.CmdNumbers'. -/
def cmdNumbersUptoCard : Claim7 := { stood := { row := cmdNumbersUptoRow, standIns := [], harness := (true, "d3ee74b28c92f9d97c4a67996734638446a20959197d7c9669e5768d54cdb500"), looks := true }, kinds := [], alts := [], laidByText := true, laidKinds := [.data, .data, .data, .data, .sentinel, .sentinel, .pinned], laidTests := true, laidLooks := .later }
def CmdNumbersUptoCardSaid : Prop := Claim7.holds Tryz.pinned (.plain (OpenSpec.upto cmdNumbersSpec)) cmdNumbersUptoCard
end Rows
end Go.Proofs.YtknhjdkjjfijlaaGreatDoor
