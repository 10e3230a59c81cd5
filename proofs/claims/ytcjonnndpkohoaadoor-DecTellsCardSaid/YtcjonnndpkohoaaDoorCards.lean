/-
  DERIVED. GIVEN WITH THE SEED: THE CARDS: each row of YtcjonnndpkohoaaDoorRows.lean that lists a variable, with what it lists TIED to the program's text (the seventh form; the later family's looks); each row that meets fmt, with fmt's text TOLD by the authors' own Lean function (tested against real Go, not proved from fmt's source: count such statements apart). THE CARD IS WHAT COUNTS. Prove the row's statement (the work); the ties are given (YtcjonnndpkohoaaDoorTie.lean); close each card by the builder's one call (the guide's Derived/Test/ToyasCard.lean, 'card_holds'). Laid BY PROGRAM, IN A SANDBOX (cutbox-door.mjs). By AI agents, Wed Nov 11 2026. No macro, syntax, notation, axiom, sorry.
-/
import Derived.Test.YtcjonnndpkohoaaDoorRows
import GoSem.ClaimSeven
namespace Go.Proofs.YtcjonnndpkohoaaDoor
namespace Rows

/-- THE TIED CARD OF 'pyxlaw2.DecBack'. -/
def decBackCard : Claim7 := { stood := { row := decBackRow, standIns := [], harness := (true, "4f77bc642cc0f9cb83e07cf73a9562a47ab9bf9b754ea6f037c311ea0c620e41"), looks := false }, kinds := [], alts := [], laidByText := true, laidKinds := [.data, .pinned], laidTests := true, laidLooks := .later }
def DecBackCardSaid : Prop := Claim7.holds Tryd.pinned (.plain (OpenSpec.ofChange decBackSpec)) decBackCard

/-- THE TIED CARD OF 'pyxlaw2.DecScales'. -/
def decScalesCard : Claim7 := { stood := { row := decScalesRow, standIns := [], harness := (true, "4f77bc642cc0f9cb83e07cf73a9562a47ab9bf9b754ea6f037c311ea0c620e41"), looks := false }, kinds := [], alts := [], laidByText := true, laidKinds := [.data, .pinned], laidTests := true, laidLooks := .later }
def DecScalesCardSaid : Prop := Claim7.holds Tryd.pinned (.plain (OpenSpec.ofChange decScalesSpec)) decScalesCard

/-- THE TIED CARD OF 'pyxlaw2.DecSigns'. -/
def decSignsCard : Claim7 := { stood := { row := decSignsRow, standIns := [], harness := (true, "4f77bc642cc0f9cb83e07cf73a9562a47ab9bf9b754ea6f037c311ea0c620e41"), looks := false }, kinds := [], alts := [], laidByText := true, laidKinds := [.data, .pinned], laidTests := true, laidLooks := .later }
def DecSignsCardSaid : Prop := Claim7.holds Tryd.pinned (.plain (OpenSpec.ofChange decSignsSpec)) decSignsCard

/-- THE TIED CARD OF 'pyxlaw2.DecSums'. -/
def decSumsCard : Claim7 := { stood := { row := decSumsRow, standIns := [], harness := (true, "4f77bc642cc0f9cb83e07cf73a9562a47ab9bf9b754ea6f037c311ea0c620e41"), looks := false }, kinds := [], alts := [], laidByText := true, laidKinds := [.data, .pinned], laidTests := true, laidLooks := .later }
def DecSumsCardSaid : Prop := Claim7.holds Tryd.pinned (.plain (OpenSpec.ofChange decSumsSpec)) decSumsCard

/-- THE TIED CARD OF 'pyxlaw2.DecKnown'. -/
def decKnownCard : Claim7 := { stood := { row := decKnownRow, standIns := [], harness := (true, "4f77bc642cc0f9cb83e07cf73a9562a47ab9bf9b754ea6f037c311ea0c620e41"), looks := false }, kinds := [], alts := [], laidByText := true, laidKinds := [.data, .pinned], laidTests := true, laidLooks := .later }
def DecKnownCardSaid : Prop := Claim7.holds Tryd.pinned (.plain (OpenSpec.ofChange decKnownSpec)) decKnownCard

/-- THE TIED CARD OF 'pyxlaw2.DecTells'. -/
def decTellsCard : Claim7 := { stood := { row := decTellsRow, standIns := [], harness := (true, "4f77bc642cc0f9cb83e07cf73a9562a47ab9bf9b754ea6f037c311ea0c620e41"), looks := false }, kinds := [], alts := [], laidByText := true, laidKinds := [.data, .pinned], laidTests := true, laidLooks := .later }
def DecTellsCardSaid : Prop := Claim7.holds Tryd.pinned (.plain (OpenSpec.ofChange decTellsSpec)) decTellsCard

/-- THE TIED CARD OF 'pyxlaw3.QuantKnown'. -/
def quantKnownCard : Claim7 := { stood := { row := quantKnownRow, standIns := [], harness := (true, "4f77bc642cc0f9cb83e07cf73a9562a47ab9bf9b754ea6f037c311ea0c620e41"), looks := false }, kinds := [], alts := [], laidByText := true, laidKinds := [.data, .pinned], laidTests := true, laidLooks := .later }
def QuantKnownCardSaid : Prop := Claim7.holds Tryd.pinned (.plain (OpenSpec.ofChange quantKnownSpec)) quantKnownCard

/-- THE SECOND FORM's CARD OF 'pyxlaw2.DecBack'. -/
def decBackUptoCard : Claim7 := { stood := { row := decBackUptoRow, standIns := [], harness := (true, "4f77bc642cc0f9cb83e07cf73a9562a47ab9bf9b754ea6f037c311ea0c620e41"), looks := false }, kinds := [], alts := [], laidByText := true, laidKinds := [.data, .pinned], laidTests := true, laidLooks := .later }
def DecBackUptoCardSaid : Prop := Claim7.holds Tryd.pinned (.plain (OpenSpec.upto decBackSpec)) decBackUptoCard

/-- THE SECOND FORM's CARD OF 'pyxlaw2.DecScales'. -/
def decScalesUptoCard : Claim7 := { stood := { row := decScalesUptoRow, standIns := [], harness := (true, "4f77bc642cc0f9cb83e07cf73a9562a47ab9bf9b754ea6f037c311ea0c620e41"), looks := false }, kinds := [], alts := [], laidByText := true, laidKinds := [.data, .pinned], laidTests := true, laidLooks := .later }
def DecScalesUptoCardSaid : Prop := Claim7.holds Tryd.pinned (.plain (OpenSpec.upto decScalesSpec)) decScalesUptoCard

/-- THE SECOND FORM's CARD OF 'pyxlaw2.DecSigns'. -/
def decSignsUptoCard : Claim7 := { stood := { row := decSignsUptoRow, standIns := [], harness := (true, "4f77bc642cc0f9cb83e07cf73a9562a47ab9bf9b754ea6f037c311ea0c620e41"), looks := false }, kinds := [], alts := [], laidByText := true, laidKinds := [.data, .pinned], laidTests := true, laidLooks := .later }
def DecSignsUptoCardSaid : Prop := Claim7.holds Tryd.pinned (.plain (OpenSpec.upto decSignsSpec)) decSignsUptoCard

/-- THE SECOND FORM's CARD OF 'pyxlaw2.DecSums'. -/
def decSumsUptoCard : Claim7 := { stood := { row := decSumsUptoRow, standIns := [], harness := (true, "4f77bc642cc0f9cb83e07cf73a9562a47ab9bf9b754ea6f037c311ea0c620e41"), looks := false }, kinds := [], alts := [], laidByText := true, laidKinds := [.data, .pinned], laidTests := true, laidLooks := .later }
def DecSumsUptoCardSaid : Prop := Claim7.holds Tryd.pinned (.plain (OpenSpec.upto decSumsSpec)) decSumsUptoCard

/-- THE SECOND FORM's CARD OF 'pyxlaw2.DecKnown'. -/
def decKnownUptoCard : Claim7 := { stood := { row := decKnownUptoRow, standIns := [], harness := (true, "4f77bc642cc0f9cb83e07cf73a9562a47ab9bf9b754ea6f037c311ea0c620e41"), looks := false }, kinds := [], alts := [], laidByText := true, laidKinds := [.data, .pinned], laidTests := true, laidLooks := .later }
def DecKnownUptoCardSaid : Prop := Claim7.holds Tryd.pinned (.plain (OpenSpec.upto decKnownSpec)) decKnownUptoCard

/-- THE SECOND FORM's CARD OF 'pyxlaw2.DecTells'. -/
def decTellsUptoCard : Claim7 := { stood := { row := decTellsUptoRow, standIns := [], harness := (true, "4f77bc642cc0f9cb83e07cf73a9562a47ab9bf9b754ea6f037c311ea0c620e41"), looks := false }, kinds := [], alts := [], laidByText := true, laidKinds := [.data, .pinned], laidTests := true, laidLooks := .later }
def DecTellsUptoCardSaid : Prop := Claim7.holds Tryd.pinned (.plain (OpenSpec.upto decTellsSpec)) decTellsUptoCard

/-- THE SECOND FORM's CARD OF 'pyxlaw3.QuantKnown'. -/
def quantKnownUptoCard : Claim7 := { stood := { row := quantKnownUptoRow, standIns := [], harness := (true, "4f77bc642cc0f9cb83e07cf73a9562a47ab9bf9b754ea6f037c311ea0c620e41"), looks := false }, kinds := [], alts := [], laidByText := true, laidKinds := [.data, .pinned], laidTests := true, laidLooks := .later }
def QuantKnownUptoCardSaid : Prop := Claim7.holds Tryd.pinned (.plain (OpenSpec.upto quantKnownSpec)) quantKnownUptoCard
end Rows
end Go.Proofs.YtcjonnndpkohoaaDoor
