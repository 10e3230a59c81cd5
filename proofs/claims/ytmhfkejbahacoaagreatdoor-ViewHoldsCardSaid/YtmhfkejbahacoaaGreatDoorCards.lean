/-
  DERIVED. GIVEN WITH THE SEED: THE CARDS: each row of YtmhfkejbahacoaaGreatDoorRows.lean that lists a variable, with what it lists TIED to the program's text (the seventh form; the later family's looks); each row that meets fmt, with fmt's text TOLD by the authors' own Lean function (tested against real Go, not proved from fmt's source: count such statements apart). THE CARD IS WHAT COUNTS. Prove the row's statement (the work); the ties are given (YtmhfkejbahacoaaGreatDoorTie.lean); close each card by the builder's one call (the guide's Derived/Test/ToyasCard.lean, 'card_holds'). Laid BY PROGRAM, IN A SANDBOX (cutbox-door.mjs). By AI agents, Wed Nov 11 2026. No macro, syntax, notation, axiom, sorry.
-/
import Derived.Test.YtmhfkejbahacoaaGreatDoorRows
import GoSem.ClaimSeven
namespace Go.Proofs.YtmhfkejbahacoaaGreatDoor
namespace Rows

/-- THE TIED CARD OF 'pyxlaw22.ParsePrints'. -/
def parsePrintsCard : Claim7 := { stood := { row := parsePrintsRow, standIns := [], harness := (true, "d1518a3aad451efa27d599683c795335bb262c4f20018060c6b8673bfb15a09e"), looks := false }, kinds := [], alts := [], laidByText := true, laidKinds := [.data, .data, .data, .data, .pinned], laidTests := true, laidLooks := .later }
def ParsePrintsCardSaid : Prop := Claim7.holds Tryz.pinned (.plain (OpenSpec.ofChange parsePrintsSpec)) parsePrintsCard

/-- THE TIED CARD OF 'pyxlaw22.ParseBack'. -/
def parseBackCard : Claim7 := { stood := { row := parseBackRow, standIns := [], harness := (true, "d1518a3aad451efa27d599683c795335bb262c4f20018060c6b8673bfb15a09e"), looks := false }, kinds := [], alts := [], laidByText := true, laidKinds := [.data, .data, .data, .data, .pinned], laidTests := true, laidLooks := .later }
def ParseBackCardSaid : Prop := Claim7.holds Tryz.pinned (.plain (OpenSpec.ofChange parseBackSpec)) parseBackCard

/-- THE TIED CARD OF 'pyxlaw22.ParseParens'. -/
def parseParensCard : Claim7 := { stood := { row := parseParensRow, standIns := [], harness := (true, "d1518a3aad451efa27d599683c795335bb262c4f20018060c6b8673bfb15a09e"), looks := false }, kinds := [], alts := [], laidByText := true, laidKinds := [.data, .data, .data, .data, .pinned], laidTests := true, laidLooks := .later }
def ParseParensCardSaid : Prop := Claim7.holds Tryz.pinned (.plain (OpenSpec.ofChange parseParensSpec)) parseParensCard

/-- THE TIED CARD OF 'pyxlaw23.ViewSums'. -/
def viewSumsCard : Claim7 := { stood := { row := viewSumsRow, standIns := [], harness := (true, "d1518a3aad451efa27d599683c795335bb262c4f20018060c6b8673bfb15a09e"), looks := false }, kinds := [], alts := [], laidByText := true, laidKinds := [.data, .pinned], laidTests := true, laidLooks := .later }
def ViewSumsCardSaid : Prop := Claim7.holds Tryz.pinned (.plain (OpenSpec.ofChange viewSumsSpec)) viewSumsCard

/-- THE TIED CARD OF 'pyxlaw23.ViewHolds'. -/
def viewHoldsCard : Claim7 := { stood := { row := viewHoldsRow, standIns := [], harness := (true, "d1518a3aad451efa27d599683c795335bb262c4f20018060c6b8673bfb15a09e"), looks := false }, kinds := [], alts := [], laidByText := true, laidKinds := [.data, .pinned], laidTests := true, laidLooks := .later }
def ViewHoldsCardSaid : Prop := Claim7.holds Tryz.pinned (.plain (OpenSpec.ofChange viewHoldsSpec)) viewHoldsCard

/-- THE TIED CARD OF 'pyxlaw23.ViewKnown'. -/
def viewKnownCard : Claim7 := { stood := { row := viewKnownRow, standIns := [], harness := (true, "d1518a3aad451efa27d599683c795335bb262c4f20018060c6b8673bfb15a09e"), looks := false }, kinds := [], alts := [], laidByText := true, laidKinds := [.data, .pinned], laidTests := true, laidLooks := .later }
def ViewKnownCardSaid : Prop := Claim7.holds Tryz.pinned (.plain (OpenSpec.ofChange viewKnownSpec)) viewKnownCard

/-- THE TIED CARD OF 'pyxlaw23.ViewBlind'. -/
def viewBlindCard : Claim7 := { stood := { row := viewBlindRow, standIns := [], harness := (true, "d1518a3aad451efa27d599683c795335bb262c4f20018060c6b8673bfb15a09e"), looks := false }, kinds := [], alts := [], laidByText := true, laidKinds := [.data, .pinned], laidTests := true, laidLooks := .later }
def ViewBlindCardSaid : Prop := Claim7.holds Tryz.pinned (.plain (OpenSpec.ofChange viewBlindSpec)) viewBlindCard

/-- THE SECOND FORM's CARD OF 'pyxlaw22.ParsePrints'. -/
def parsePrintsUptoCard : Claim7 := { stood := { row := parsePrintsUptoRow, standIns := [], harness := (true, "d1518a3aad451efa27d599683c795335bb262c4f20018060c6b8673bfb15a09e"), looks := false }, kinds := [], alts := [], laidByText := true, laidKinds := [.data, .data, .data, .data, .pinned], laidTests := true, laidLooks := .later }
def ParsePrintsUptoCardSaid : Prop := Claim7.holds Tryz.pinned (.plain (OpenSpec.upto parsePrintsSpec)) parsePrintsUptoCard

/-- THE SECOND FORM's CARD OF 'pyxlaw22.ParseBack'. -/
def parseBackUptoCard : Claim7 := { stood := { row := parseBackUptoRow, standIns := [], harness := (true, "d1518a3aad451efa27d599683c795335bb262c4f20018060c6b8673bfb15a09e"), looks := false }, kinds := [], alts := [], laidByText := true, laidKinds := [.data, .data, .data, .data, .pinned], laidTests := true, laidLooks := .later }
def ParseBackUptoCardSaid : Prop := Claim7.holds Tryz.pinned (.plain (OpenSpec.upto parseBackSpec)) parseBackUptoCard

/-- THE SECOND FORM's CARD OF 'pyxlaw22.ParseParens'. -/
def parseParensUptoCard : Claim7 := { stood := { row := parseParensUptoRow, standIns := [], harness := (true, "d1518a3aad451efa27d599683c795335bb262c4f20018060c6b8673bfb15a09e"), looks := false }, kinds := [], alts := [], laidByText := true, laidKinds := [.data, .data, .data, .data, .pinned], laidTests := true, laidLooks := .later }
def ParseParensUptoCardSaid : Prop := Claim7.holds Tryz.pinned (.plain (OpenSpec.upto parseParensSpec)) parseParensUptoCard

/-- THE SECOND FORM's CARD OF 'pyxlaw23.ViewSums'. -/
def viewSumsUptoCard : Claim7 := { stood := { row := viewSumsUptoRow, standIns := [], harness := (true, "d1518a3aad451efa27d599683c795335bb262c4f20018060c6b8673bfb15a09e"), looks := false }, kinds := [], alts := [], laidByText := true, laidKinds := [.data, .pinned], laidTests := true, laidLooks := .later }
def ViewSumsUptoCardSaid : Prop := Claim7.holds Tryz.pinned (.plain (OpenSpec.upto viewSumsSpec)) viewSumsUptoCard

/-- THE SECOND FORM's CARD OF 'pyxlaw23.ViewHolds'. -/
def viewHoldsUptoCard : Claim7 := { stood := { row := viewHoldsUptoRow, standIns := [], harness := (true, "d1518a3aad451efa27d599683c795335bb262c4f20018060c6b8673bfb15a09e"), looks := false }, kinds := [], alts := [], laidByText := true, laidKinds := [.data, .pinned], laidTests := true, laidLooks := .later }
def ViewHoldsUptoCardSaid : Prop := Claim7.holds Tryz.pinned (.plain (OpenSpec.upto viewHoldsSpec)) viewHoldsUptoCard

/-- THE SECOND FORM's CARD OF 'pyxlaw23.ViewKnown'. -/
def viewKnownUptoCard : Claim7 := { stood := { row := viewKnownUptoRow, standIns := [], harness := (true, "d1518a3aad451efa27d599683c795335bb262c4f20018060c6b8673bfb15a09e"), looks := false }, kinds := [], alts := [], laidByText := true, laidKinds := [.data, .pinned], laidTests := true, laidLooks := .later }
def ViewKnownUptoCardSaid : Prop := Claim7.holds Tryz.pinned (.plain (OpenSpec.upto viewKnownSpec)) viewKnownUptoCard

/-- THE SECOND FORM's CARD OF 'pyxlaw23.ViewBlind'. -/
def viewBlindUptoCard : Claim7 := { stood := { row := viewBlindUptoRow, standIns := [], harness := (true, "d1518a3aad451efa27d599683c795335bb262c4f20018060c6b8673bfb15a09e"), looks := false }, kinds := [], alts := [], laidByText := true, laidKinds := [.data, .pinned], laidTests := true, laidLooks := .later }
def ViewBlindUptoCardSaid : Prop := Claim7.holds Tryz.pinned (.plain (OpenSpec.upto viewBlindSpec)) viewBlindUptoCard
end Rows
end Go.Proofs.YtmhfkejbahacoaaGreatDoor
