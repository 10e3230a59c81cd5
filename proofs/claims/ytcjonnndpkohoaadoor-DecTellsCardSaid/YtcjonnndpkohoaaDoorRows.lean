/-
  NARROWER THAN 'FOR EVERY INPUT', by the rows' own cells (each row's printed sentence says how): DecBack: laid · DecScales: laid · DecSigns: laid · DecSums: laid · DecKnown: laid · DecTells: laid · QuantKnown: laid.
  DERIVED. THE GIVEN ROWS OF THIS SEAT. 7 by the template 'for every input the law returns true; each argument reads behind the call as it read before'; 0 by the template 'total and deterministic' (their statements: YtcjonnndpkohoaaDoorTotals.lean).
  GIVEN WITH THE SEED: the statements are not yours to turn. If you find one false, say at which input.
  Laid BY PROGRAM, IN A SANDBOX (cutbox-rows.mjs): the forced cells as the released guide's own fill.sh prints them over the translation cf26a42b178239c6… (all of the seat's roots in one cut). By AI agents, Wed Nov 11 2026. No macro, syntax, notation, axiom, sorry.
-/
import Derived.Test.YtcjonnndpkohoaaDoorChecked
import GoSem.PinnedTables
import GoSem.Claim
import GoSem.ClaimJoined
import GoSem.ClaimMapViews
import Derived.JoinedTies
import Derived.KernelRfl
namespace Go.Proofs.YtcjonnndpkohoaaDoor
/- THE CELL 'sum', in the pinned program and in every row, IS THE sha256 OF THE DUMP (.gsa) THAT YtcjonnndpkohoaaDoorProg.lean LOADS. Nothing in Lean hashes anything: it is a label: what it is worth is what the hold of that sum in a sandbox is worth. -/
noncomputable def Tryd.pinned : Pinned := { name := "ytcjonnndpkohoaadoor", sum := "cf26a42b178239c64da4283f3f7e5c476f31798815705afea395898b44466d50", checked := Tryd.checked }
namespace Rows
def none {H : Type} : Left H := { results := [], args := [] }

/- WHAT THE LISTED PACKAGE-LEVEL VARIABLES READ AS WHEN THE CALL BEGINS. Each datum BY PROGRAM (the guide's laid-datum.mjs) off the statement by which the dump's own 'gosem.cut.vars' lays the variable. In a bare row this is a premise. The card (YtcjonnndpkohoaaDoorCards.lean) ties it to the program's text. -/
def laid_unicode_utf8_acceptRanges {H : Type} : DataW H := .agg [.agg [.lit (.int .u8 128), .lit (.int .u8 191)], .agg [.lit (.int .u8 160), .lit (.int .u8 191)], .agg [.lit (.int .u8 128), .lit (.int .u8 159)], .agg [.lit (.int .u8 144), .lit (.int .u8 191)], .agg [.lit (.int .u8 128), .lit (.int .u8 143)], .agg [.lit (.int .u8 0), .lit (.int .u8 0)], .agg [.lit (.int .u8 0), .lit (.int .u8 0)], .agg [.lit (.int .u8 0), .lit (.int .u8 0)], .agg [.lit (.int .u8 0), .lit (.int .u8 0)], .agg [.lit (.int .u8 0), .lit (.int .u8 0)], .agg [.lit (.int .u8 0), .lit (.int .u8 0)], .agg [.lit (.int .u8 0), .lit (.int .u8 0)], .agg [.lit (.int .u8 0), .lit (.int .u8 0)], .agg [.lit (.int .u8 0), .lit (.int .u8 0)], .agg [.lit (.int .u8 0), .lit (.int .u8 0)], .agg [.lit (.int .u8 0), .lit (.int .u8 0)]]
/-- One of Go's own tables, pinned by name: the form's constant. -/
def laid_unicode_utf8_first : DataW Unit := Go.Pinned.utf8First

/-- 'pyxlaw2.DecBack': WHATEVER THE INPUT: true; the input reads as it did. -/
def decBackSpec : ChangeSpec := { name := "decBack", fn := fun _ => fun
  | [d1, d2, d3, d4] => { results := [.lit (.bool true)], args := [d1, d2, d3, d4] }
  | _ => none }
def decBackRow : OpenClaim := { program := "ytcjonnndpkohoaadoor", sum := "cf26a42b178239c64da4283f3f7e5c476f31798815705afea395898b44466d50", func := "pyx/pyxlaw2.DecBack", spec := "decBack", inPlace := ["internal/bytealg.IndexByteString", "internal/bytealg.IndexString"], named := ["internal/bytealg.MaxLen", "unicode/utf8.first", "unicode/utf8.acceptRanges"], apart := false, laid := [("unicode/utf8.acceptRanges", laid_unicode_utf8_acceptRanges), ("unicode/utf8.first", laid_unicode_utf8_first)] }
def DecBackSaid : Prop := decBackRow.holds Tryd.pinned (OpenSpec.ofChange decBackSpec)

/-- ITS FALSE NEIGHBOUR: 'it returns false'. Refute it at one input. -/
def decBackWrong : ChangeSpec := { name := "decBack", fn := fun _ => fun
  | [d1, d2, d3, d4] => { results := [.lit (.bool false)], args := [d1, d2, d3, d4] }
  | _ => none }
def DecBackWrongFalsely : Prop := decBackRow.holds Tryd.pinned (OpenSpec.ofChange decBackWrong)

/-- 'pyxlaw2.DecScales': WHATEVER THE INPUT: true; the input reads as it did. -/
def decScalesSpec : ChangeSpec := { name := "decScales", fn := fun _ => fun
  | [d1, d2, d3] => { results := [.lit (.bool true)], args := [d1, d2, d3] }
  | _ => none }
def decScalesRow : OpenClaim := { program := "ytcjonnndpkohoaadoor", sum := "cf26a42b178239c64da4283f3f7e5c476f31798815705afea395898b44466d50", func := "pyx/pyxlaw2.DecScales", spec := "decScales", inPlace := ["internal/bytealg.IndexByteString", "internal/bytealg.IndexString"], named := ["internal/bytealg.MaxLen", "unicode/utf8.first", "unicode/utf8.acceptRanges"], apart := false, laid := [("unicode/utf8.acceptRanges", laid_unicode_utf8_acceptRanges), ("unicode/utf8.first", laid_unicode_utf8_first)] }
def DecScalesSaid : Prop := decScalesRow.holds Tryd.pinned (OpenSpec.ofChange decScalesSpec)

/-- ITS FALSE NEIGHBOUR: 'it returns false'. Refute it at one input. -/
def decScalesWrong : ChangeSpec := { name := "decScales", fn := fun _ => fun
  | [d1, d2, d3] => { results := [.lit (.bool false)], args := [d1, d2, d3] }
  | _ => none }
def DecScalesWrongFalsely : Prop := decScalesRow.holds Tryd.pinned (OpenSpec.ofChange decScalesWrong)

/-- 'pyxlaw2.DecSigns': WHATEVER THE INPUT: true; the input reads as it did. -/
def decSignsSpec : ChangeSpec := { name := "decSigns", fn := fun _ => fun
  | [d1, d2, d3, d4] => { results := [.lit (.bool true)], args := [d1, d2, d3, d4] }
  | _ => none }
def decSignsRow : OpenClaim := { program := "ytcjonnndpkohoaadoor", sum := "cf26a42b178239c64da4283f3f7e5c476f31798815705afea395898b44466d50", func := "pyx/pyxlaw2.DecSigns", spec := "decSigns", inPlace := ["internal/bytealg.IndexByteString", "internal/bytealg.IndexString"], named := ["internal/bytealg.MaxLen", "unicode/utf8.first", "unicode/utf8.acceptRanges"], apart := false, laid := [("unicode/utf8.acceptRanges", laid_unicode_utf8_acceptRanges), ("unicode/utf8.first", laid_unicode_utf8_first)] }
def DecSignsSaid : Prop := decSignsRow.holds Tryd.pinned (OpenSpec.ofChange decSignsSpec)

/-- ITS FALSE NEIGHBOUR: 'it returns false'. Refute it at one input. -/
def decSignsWrong : ChangeSpec := { name := "decSigns", fn := fun _ => fun
  | [d1, d2, d3, d4] => { results := [.lit (.bool false)], args := [d1, d2, d3, d4] }
  | _ => none }
def DecSignsWrongFalsely : Prop := decSignsRow.holds Tryd.pinned (OpenSpec.ofChange decSignsWrong)

/-- 'pyxlaw2.DecSums': WHATEVER THE INPUT: true; the input reads as it did. -/
def decSumsSpec : ChangeSpec := { name := "decSums", fn := fun _ => fun
  | [d1, d2, d3, d4, d5, d6] => { results := [.lit (.bool true)], args := [d1, d2, d3, d4, d5, d6] }
  | _ => none }
def decSumsRow : OpenClaim := { program := "ytcjonnndpkohoaadoor", sum := "cf26a42b178239c64da4283f3f7e5c476f31798815705afea395898b44466d50", func := "pyx/pyxlaw2.DecSums", spec := "decSums", inPlace := ["internal/bytealg.IndexByteString", "internal/bytealg.IndexString"], named := ["internal/bytealg.MaxLen", "unicode/utf8.first", "unicode/utf8.acceptRanges"], apart := false, laid := [("unicode/utf8.acceptRanges", laid_unicode_utf8_acceptRanges), ("unicode/utf8.first", laid_unicode_utf8_first)] }
def DecSumsSaid : Prop := decSumsRow.holds Tryd.pinned (OpenSpec.ofChange decSumsSpec)

/-- ITS FALSE NEIGHBOUR: 'it returns false'. Refute it at one input. -/
def decSumsWrong : ChangeSpec := { name := "decSums", fn := fun _ => fun
  | [d1, d2, d3, d4, d5, d6] => { results := [.lit (.bool false)], args := [d1, d2, d3, d4, d5, d6] }
  | _ => none }
def DecSumsWrongFalsely : Prop := decSumsRow.holds Tryd.pinned (OpenSpec.ofChange decSumsWrong)

/-- 'pyxlaw2.DecKnown': WHATEVER THE INPUT: true; the input reads as it did. -/
def decKnownSpec : ChangeSpec := { name := "decKnown", fn := fun _ => fun
  | [] => { results := [.lit (.bool true)], args := [] }
  | _ => none }
def decKnownRow : OpenClaim := { program := "ytcjonnndpkohoaadoor", sum := "cf26a42b178239c64da4283f3f7e5c476f31798815705afea395898b44466d50", func := "pyx/pyxlaw2.DecKnown", spec := "decKnown", inPlace := ["internal/bytealg.IndexByteString", "internal/bytealg.IndexString"], named := ["internal/bytealg.MaxLen", "unicode/utf8.first", "unicode/utf8.acceptRanges"], apart := false, laid := [("unicode/utf8.acceptRanges", laid_unicode_utf8_acceptRanges), ("unicode/utf8.first", laid_unicode_utf8_first)] }
def DecKnownSaid : Prop := decKnownRow.holds Tryd.pinned (OpenSpec.ofChange decKnownSpec)

/-- ITS FALSE NEIGHBOUR: 'it returns false'. Refute it at one input. -/
def decKnownWrong : ChangeSpec := { name := "decKnown", fn := fun _ => fun
  | [] => { results := [.lit (.bool false)], args := [] }
  | _ => none }
def DecKnownWrongFalsely : Prop := decKnownRow.holds Tryd.pinned (OpenSpec.ofChange decKnownWrong)

/-- 'pyxlaw2.DecTells': WHATEVER THE INPUT: true; the input reads as it did. -/
def decTellsSpec : ChangeSpec := { name := "decTells", fn := fun _ => fun
  | [d1, d2, d3, d4, d5, d6, d7, d8] => { results := [.lit (.bool true)], args := [d1, d2, d3, d4, d5, d6, d7, d8] }
  | _ => none }
def decTellsRow : OpenClaim := { program := "ytcjonnndpkohoaadoor", sum := "cf26a42b178239c64da4283f3f7e5c476f31798815705afea395898b44466d50", func := "pyx/pyxlaw2.DecTells", spec := "decTells", inPlace := ["internal/bytealg.IndexByteString", "internal/bytealg.IndexString"], named := ["internal/bytealg.MaxLen", "unicode/utf8.first", "unicode/utf8.acceptRanges"], apart := false, laid := [("unicode/utf8.acceptRanges", laid_unicode_utf8_acceptRanges), ("unicode/utf8.first", laid_unicode_utf8_first)] }
def DecTellsSaid : Prop := decTellsRow.holds Tryd.pinned (OpenSpec.ofChange decTellsSpec)

/-- ITS FALSE NEIGHBOUR: 'it returns false'. Refute it at one input. -/
def decTellsWrong : ChangeSpec := { name := "decTells", fn := fun _ => fun
  | [d1, d2, d3, d4, d5, d6, d7, d8] => { results := [.lit (.bool false)], args := [d1, d2, d3, d4, d5, d6, d7, d8] }
  | _ => none }
def DecTellsWrongFalsely : Prop := decTellsRow.holds Tryd.pinned (OpenSpec.ofChange decTellsWrong)

/-- 'pyxlaw3.QuantKnown': WHATEVER THE INPUT: true; the input reads as it did. -/
def quantKnownSpec : ChangeSpec := { name := "quantKnown", fn := fun _ => fun
  | [] => { results := [.lit (.bool true)], args := [] }
  | _ => none }
def quantKnownRow : OpenClaim := { program := "ytcjonnndpkohoaadoor", sum := "cf26a42b178239c64da4283f3f7e5c476f31798815705afea395898b44466d50", func := "pyx/pyxlaw3.QuantKnown", spec := "quantKnown", inPlace := ["internal/bytealg.IndexByteString", "internal/bytealg.IndexString"], named := ["internal/bytealg.MaxLen", "unicode/utf8.first", "unicode/utf8.acceptRanges"], apart := false, laid := [("unicode/utf8.acceptRanges", laid_unicode_utf8_acceptRanges), ("unicode/utf8.first", laid_unicode_utf8_first)] }
def QuantKnownSaid : Prop := quantKnownRow.holds Tryd.pinned (OpenSpec.ofChange quantKnownSpec)

/-- ITS FALSE NEIGHBOUR: 'it returns false'. Refute it at one input. -/
def quantKnownWrong : ChangeSpec := { name := "quantKnown", fn := fun _ => fun
  | [] => { results := [.lit (.bool false)], args := [] }
  | _ => none }
def QuantKnownWrongFalsely : Prop := quantKnownRow.holds Tryd.pinned (OpenSpec.ofChange quantKnownWrong)

/- THE SECOND FORM. 'bulk': how many values and letters a reading holds, each counted each time it is reached (what is shared counts as often as it is met; a slice's spare places count too). A statement '..UptoSaid' is the law's where the arguments, and the package variables that the reading takes, are together of bulk at most 1048576: NARROWER than '..Said'. Prove '..Said' where nothing that the law and all that it calls make is longer than what came in: it says more and counts as full. Else prove '..UptoSaid'. A law counts once. -/
mutual
def uptoBulk {H : Type} : DataW H → Nat
  | .lit (.string bytes) => bytes.length + 1
  | .lit _ => 1
  | .nil => 1
  | .ptr d => uptoBulk d + 1
  | .slice elems spare => uptoBulkAll elems + uptoBulkAll spare + 1
  | .agg parts => uptoBulkAll parts + 1
  | .iface _ d => uptoBulk d + 1
  | .map entries => uptoBulkEntries entries + 1
  | .held _ => 1
def uptoBulkAll {H : Type} : List (DataW H) → Nat
  | [] => 0
  | d :: r => uptoBulk d + uptoBulkAll r
def uptoBulkEntries {H : Type} : List (Lit × DataW H) → Nat
  | [] => 0
  | x :: r => uptoBulkEntry x + uptoBulkEntries r
def uptoBulkEntry {H : Type} : Lit × DataW H → Nat
  | (.string bytes, d) => bytes.length + uptoBulk d + 1
  | (_, d) => uptoBulk d + 1
 end
def uptoSmall : (H : Type) → List (DataW H) → Bool := fun _ ds => decide (uptoBulkAll ds ≤ 1048576)
def OpenSpec.upto (s : _root_.Go.ChangeSpec) : _root_.Go.OpenSpec := { _root_.Go.OpenSpec.ofChange s with cond := some uptoSmall }

/-- 'pyxlaw2.DecBack', WHERE WHAT IT READS IS OF BULK AT MOST 1048576: true; the input reads as it did. -/
def decBackUptoRow : OpenClaim := { program := "ytcjonnndpkohoaadoor", sum := "cf26a42b178239c64da4283f3f7e5c476f31798815705afea395898b44466d50", func := "pyx/pyxlaw2.DecBack", spec := "decBack", inPlace := ["internal/bytealg.IndexByteString", "internal/bytealg.IndexString"], named := ["internal/bytealg.MaxLen", "unicode/utf8.first", "unicode/utf8.acceptRanges"], apart := false, laid := [("unicode/utf8.acceptRanges", laid_unicode_utf8_acceptRanges), ("unicode/utf8.first", laid_unicode_utf8_first)], narrowed := true }
def DecBackUptoSaid : Prop := decBackUptoRow.holds Tryd.pinned (OpenSpec.upto decBackSpec)

/-- 'pyxlaw2.DecScales', WHERE WHAT IT READS IS OF BULK AT MOST 1048576: true; the input reads as it did. -/
def decScalesUptoRow : OpenClaim := { program := "ytcjonnndpkohoaadoor", sum := "cf26a42b178239c64da4283f3f7e5c476f31798815705afea395898b44466d50", func := "pyx/pyxlaw2.DecScales", spec := "decScales", inPlace := ["internal/bytealg.IndexByteString", "internal/bytealg.IndexString"], named := ["internal/bytealg.MaxLen", "unicode/utf8.first", "unicode/utf8.acceptRanges"], apart := false, laid := [("unicode/utf8.acceptRanges", laid_unicode_utf8_acceptRanges), ("unicode/utf8.first", laid_unicode_utf8_first)], narrowed := true }
def DecScalesUptoSaid : Prop := decScalesUptoRow.holds Tryd.pinned (OpenSpec.upto decScalesSpec)

/-- 'pyxlaw2.DecSigns', WHERE WHAT IT READS IS OF BULK AT MOST 1048576: true; the input reads as it did. -/
def decSignsUptoRow : OpenClaim := { program := "ytcjonnndpkohoaadoor", sum := "cf26a42b178239c64da4283f3f7e5c476f31798815705afea395898b44466d50", func := "pyx/pyxlaw2.DecSigns", spec := "decSigns", inPlace := ["internal/bytealg.IndexByteString", "internal/bytealg.IndexString"], named := ["internal/bytealg.MaxLen", "unicode/utf8.first", "unicode/utf8.acceptRanges"], apart := false, laid := [("unicode/utf8.acceptRanges", laid_unicode_utf8_acceptRanges), ("unicode/utf8.first", laid_unicode_utf8_first)], narrowed := true }
def DecSignsUptoSaid : Prop := decSignsUptoRow.holds Tryd.pinned (OpenSpec.upto decSignsSpec)

/-- 'pyxlaw2.DecSums', WHERE WHAT IT READS IS OF BULK AT MOST 1048576: true; the input reads as it did. -/
def decSumsUptoRow : OpenClaim := { program := "ytcjonnndpkohoaadoor", sum := "cf26a42b178239c64da4283f3f7e5c476f31798815705afea395898b44466d50", func := "pyx/pyxlaw2.DecSums", spec := "decSums", inPlace := ["internal/bytealg.IndexByteString", "internal/bytealg.IndexString"], named := ["internal/bytealg.MaxLen", "unicode/utf8.first", "unicode/utf8.acceptRanges"], apart := false, laid := [("unicode/utf8.acceptRanges", laid_unicode_utf8_acceptRanges), ("unicode/utf8.first", laid_unicode_utf8_first)], narrowed := true }
def DecSumsUptoSaid : Prop := decSumsUptoRow.holds Tryd.pinned (OpenSpec.upto decSumsSpec)

/-- 'pyxlaw2.DecKnown', WHERE WHAT IT READS IS OF BULK AT MOST 1048576: true; the input reads as it did. -/
def decKnownUptoRow : OpenClaim := { program := "ytcjonnndpkohoaadoor", sum := "cf26a42b178239c64da4283f3f7e5c476f31798815705afea395898b44466d50", func := "pyx/pyxlaw2.DecKnown", spec := "decKnown", inPlace := ["internal/bytealg.IndexByteString", "internal/bytealg.IndexString"], named := ["internal/bytealg.MaxLen", "unicode/utf8.first", "unicode/utf8.acceptRanges"], apart := false, laid := [("unicode/utf8.acceptRanges", laid_unicode_utf8_acceptRanges), ("unicode/utf8.first", laid_unicode_utf8_first)], narrowed := true }
def DecKnownUptoSaid : Prop := decKnownUptoRow.holds Tryd.pinned (OpenSpec.upto decKnownSpec)

/-- 'pyxlaw2.DecTells', WHERE WHAT IT READS IS OF BULK AT MOST 1048576: true; the input reads as it did. -/
def decTellsUptoRow : OpenClaim := { program := "ytcjonnndpkohoaadoor", sum := "cf26a42b178239c64da4283f3f7e5c476f31798815705afea395898b44466d50", func := "pyx/pyxlaw2.DecTells", spec := "decTells", inPlace := ["internal/bytealg.IndexByteString", "internal/bytealg.IndexString"], named := ["internal/bytealg.MaxLen", "unicode/utf8.first", "unicode/utf8.acceptRanges"], apart := false, laid := [("unicode/utf8.acceptRanges", laid_unicode_utf8_acceptRanges), ("unicode/utf8.first", laid_unicode_utf8_first)], narrowed := true }
def DecTellsUptoSaid : Prop := decTellsUptoRow.holds Tryd.pinned (OpenSpec.upto decTellsSpec)

/-- 'pyxlaw3.QuantKnown', WHERE WHAT IT READS IS OF BULK AT MOST 1048576: true; the input reads as it did. -/
def quantKnownUptoRow : OpenClaim := { program := "ytcjonnndpkohoaadoor", sum := "cf26a42b178239c64da4283f3f7e5c476f31798815705afea395898b44466d50", func := "pyx/pyxlaw3.QuantKnown", spec := "quantKnown", inPlace := ["internal/bytealg.IndexByteString", "internal/bytealg.IndexString"], named := ["internal/bytealg.MaxLen", "unicode/utf8.first", "unicode/utf8.acceptRanges"], apart := false, laid := [("unicode/utf8.acceptRanges", laid_unicode_utf8_acceptRanges), ("unicode/utf8.first", laid_unicode_utf8_first)], narrowed := true }
def QuantKnownUptoSaid : Prop := quantKnownUptoRow.holds Tryd.pinned (OpenSpec.upto quantKnownSpec)

end Rows
end Go.Proofs.YtcjonnndpkohoaaDoor
