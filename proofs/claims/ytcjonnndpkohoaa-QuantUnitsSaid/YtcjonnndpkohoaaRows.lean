/-
  No cell of these rows narrows 'for every input' (looked for: loops, veiled, ifaces, maps, wideKeys, modest, calm, conditions, laid).
  DERIVED. THE GIVEN ROWS OF THIS SEAT. 4 by the template 'for every input the law returns true; each argument reads behind the call as it read before'; 0 by the template 'total and deterministic' (their statements: YtcjonnndpkohoaaTotals.lean).
  GIVEN WITH THE SEED: the statements are not yours to turn. If you find one false, say at which input.
  Laid BY PROGRAM, IN A SANDBOX (cutbox-rows.mjs): the forced cells as the released guide's own fill.sh prints them over the translation 923e2752353964e2… (all of the seat's roots in one cut). By AI agents, Wed Nov 11 2026. No macro, syntax, notation, axiom, sorry.
-/
import Derived.Test.YtcjonnndpkohoaaChecked
import GoSem.Claim
import GoSem.ClaimJoined
import GoSem.ClaimMapViews
import Derived.JoinedTies
import Derived.KernelRfl
namespace Go.Proofs.Ytcjonnndpkohoaa
/- THE CELL 'sum', in the pinned program and in every row, IS THE sha256 OF THE DUMP (.gsa) THAT YtcjonnndpkohoaaProg.lean LOADS. Nothing in Lean hashes anything: it is a label: what it is worth is what the hold of that sum in a sandbox is worth. -/
noncomputable def Try.pinned : Pinned := { name := "ytcjonnndpkohoaa", sum := "923e2752353964e2d414cd5c4fc6cd3b98a8f78a65d8c8ed21fbf7d244754b01", checked := Try.checked }
namespace Rows
def none {H : Type} : Left H := { results := [], args := [] }

/-- 'pyxlaw3.QuantSigns': WHATEVER THE INPUT: true; the input reads as it did. -/
def quantSignsSpec : ChangeSpec := { name := "quantSigns", fn := fun _ => fun
  | [d1, d2, d3, d4, d5] => { results := [.lit (.bool true)], args := [d1, d2, d3, d4, d5] }
  | _ => none }
def quantSignsRow : OpenClaim := { program := "ytcjonnndpkohoaa", sum := "923e2752353964e2d414cd5c4fc6cd3b98a8f78a65d8c8ed21fbf7d244754b01", func := "pyx/pyxlaw3.QuantSigns", spec := "quantSigns", apart := false }
def QuantSignsSaid : Prop := quantSignsRow.holds Try.pinned (OpenSpec.ofChange quantSignsSpec)

/-- ITS FALSE NEIGHBOUR: 'it returns false'. Refute it at one input. -/
def quantSignsWrong : ChangeSpec := { name := "quantSigns", fn := fun _ => fun
  | [d1, d2, d3, d4, d5] => { results := [.lit (.bool false)], args := [d1, d2, d3, d4, d5] }
  | _ => none }
def QuantSignsWrongFalsely : Prop := quantSignsRow.holds Try.pinned (OpenSpec.ofChange quantSignsWrong)

/-- 'pyxlaw3.QuantTells': WHATEVER THE INPUT: true; the input reads as it did. -/
def quantTellsSpec : ChangeSpec := { name := "quantTells", fn := fun _ => fun
  | [d1, d2, d3, d4, d5, d6, d7, d8] => { results := [.lit (.bool true)], args := [d1, d2, d3, d4, d5, d6, d7, d8] }
  | _ => none }
def quantTellsRow : OpenClaim := { program := "ytcjonnndpkohoaa", sum := "923e2752353964e2d414cd5c4fc6cd3b98a8f78a65d8c8ed21fbf7d244754b01", func := "pyx/pyxlaw3.QuantTells", spec := "quantTells", apart := false }
def QuantTellsSaid : Prop := quantTellsRow.holds Try.pinned (OpenSpec.ofChange quantTellsSpec)

/-- ITS FALSE NEIGHBOUR: 'it returns false'. Refute it at one input. -/
def quantTellsWrong : ChangeSpec := { name := "quantTells", fn := fun _ => fun
  | [d1, d2, d3, d4, d5, d6, d7, d8] => { results := [.lit (.bool false)], args := [d1, d2, d3, d4, d5, d6, d7, d8] }
  | _ => none }
def QuantTellsWrongFalsely : Prop := quantTellsRow.holds Try.pinned (OpenSpec.ofChange quantTellsWrong)

/-- 'pyxlaw3.QuantNear': WHATEVER THE INPUT: true; the input reads as it did. -/
def quantNearSpec : ChangeSpec := { name := "quantNear", fn := fun _ => fun
  | [d1, d2, d3, d4] => { results := [.lit (.bool true)], args := [d1, d2, d3, d4] }
  | _ => none }
def quantNearRow : OpenClaim := { program := "ytcjonnndpkohoaa", sum := "923e2752353964e2d414cd5c4fc6cd3b98a8f78a65d8c8ed21fbf7d244754b01", func := "pyx/pyxlaw3.QuantNear", spec := "quantNear", apart := false }
def QuantNearSaid : Prop := quantNearRow.holds Try.pinned (OpenSpec.ofChange quantNearSpec)

/-- ITS FALSE NEIGHBOUR: 'it returns false'. Refute it at one input. -/
def quantNearWrong : ChangeSpec := { name := "quantNear", fn := fun _ => fun
  | [d1, d2, d3, d4] => { results := [.lit (.bool false)], args := [d1, d2, d3, d4] }
  | _ => none }
def QuantNearWrongFalsely : Prop := quantNearRow.holds Try.pinned (OpenSpec.ofChange quantNearWrong)

/-- 'pyxlaw3.QuantUnits': WHATEVER THE INPUT: true; the input reads as it did. -/
def quantUnitsSpec : ChangeSpec := { name := "quantUnits", fn := fun _ => fun
  | [d1, d2, d3, d4, d5, d6] => { results := [.lit (.bool true)], args := [d1, d2, d3, d4, d5, d6] }
  | _ => none }
def quantUnitsRow : OpenClaim := { program := "ytcjonnndpkohoaa", sum := "923e2752353964e2d414cd5c4fc6cd3b98a8f78a65d8c8ed21fbf7d244754b01", func := "pyx/pyxlaw3.QuantUnits", spec := "quantUnits", apart := false }
def QuantUnitsSaid : Prop := quantUnitsRow.holds Try.pinned (OpenSpec.ofChange quantUnitsSpec)

/-- ITS FALSE NEIGHBOUR: 'it returns false'. Refute it at one input. -/
def quantUnitsWrong : ChangeSpec := { name := "quantUnits", fn := fun _ => fun
  | [d1, d2, d3, d4, d5, d6] => { results := [.lit (.bool false)], args := [d1, d2, d3, d4, d5, d6] }
  | _ => none }
def QuantUnitsWrongFalsely : Prop := quantUnitsRow.holds Try.pinned (OpenSpec.ofChange quantUnitsWrong)

/- THE SECOND FORM. 'bulk': how many values and letters a reading holds, each counted each time it is reached (what is shared counts as often as it is met; a slice's spare places count too). A statement '..UptoSaid' is the law's where the arguments, and the package variables that the reading takes, are together of bulk at most 1048576: NARROWER than '..Said'. Prove '..Said' where nothing that the law and all that it calls make is longer than what came in: it says more and counts as full. Else prove '..UptoSaid'. A law counts once. -/
mutual
def uptoBulk {H : Type} : DataW H → Nat
  | .lit (.string bytes) => bytes.length + 1
  | .lit _ => 1
  | .nil => 1
  | .ptr d => uptoBulk d + 1
  | .slice elems spare => uptoBulkAll elems + uptoBulkAll spare + 1
  | .agg parts => uptoBulkAll parts + 1
  | .iface _ d => uptoBulk d + 1
  | .map entries => uptoBulkEntries entries + 1
  | .held _ => 1
def uptoBulkAll {H : Type} : List (DataW H) → Nat
  | [] => 0
  | d :: r => uptoBulk d + uptoBulkAll r
def uptoBulkEntries {H : Type} : List (Lit × DataW H) → Nat
  | [] => 0
  | x :: r => uptoBulkEntry x + uptoBulkEntries r
def uptoBulkEntry {H : Type} : Lit × DataW H → Nat
  | (.string bytes, d) => bytes.length + uptoBulk d + 1
  | (_, d) => uptoBulk d + 1
 end
def uptoSmall : (H : Type) → List (DataW H) → Bool := fun _ ds => decide (uptoBulkAll ds ≤ 1048576)
def OpenSpec.upto (s : _root_.Go.ChangeSpec) : _root_.Go.OpenSpec := { _root_.Go.OpenSpec.ofChange s with cond := some uptoSmall }

/-- 'pyxlaw3.QuantSigns', WHERE WHAT IT READS IS OF BULK AT MOST 1048576: true; the input reads as it did. -/
def quantSignsUptoRow : OpenClaim := { program := "ytcjonnndpkohoaa", sum := "923e2752353964e2d414cd5c4fc6cd3b98a8f78a65d8c8ed21fbf7d244754b01", func := "pyx/pyxlaw3.QuantSigns", spec := "quantSigns", apart := false, narrowed := true }
def QuantSignsUptoSaid : Prop := quantSignsUptoRow.holds Try.pinned (OpenSpec.upto quantSignsSpec)

/-- 'pyxlaw3.QuantTells', WHERE WHAT IT READS IS OF BULK AT MOST 1048576: true; the input reads as it did. -/
def quantTellsUptoRow : OpenClaim := { program := "ytcjonnndpkohoaa", sum := "923e2752353964e2d414cd5c4fc6cd3b98a8f78a65d8c8ed21fbf7d244754b01", func := "pyx/pyxlaw3.QuantTells", spec := "quantTells", apart := false, narrowed := true }
def QuantTellsUptoSaid : Prop := quantTellsUptoRow.holds Try.pinned (OpenSpec.upto quantTellsSpec)

/-- 'pyxlaw3.QuantNear', WHERE WHAT IT READS IS OF BULK AT MOST 1048576: true; the input reads as it did. -/
def quantNearUptoRow : OpenClaim := { program := "ytcjonnndpkohoaa", sum := "923e2752353964e2d414cd5c4fc6cd3b98a8f78a65d8c8ed21fbf7d244754b01", func := "pyx/pyxlaw3.QuantNear", spec := "quantNear", apart := false, narrowed := true }
def QuantNearUptoSaid : Prop := quantNearUptoRow.holds Try.pinned (OpenSpec.upto quantNearSpec)

/-- 'pyxlaw3.QuantUnits', WHERE WHAT IT READS IS OF BULK AT MOST 1048576: true; the input reads as it did. -/
def quantUnitsUptoRow : OpenClaim := { program := "ytcjonnndpkohoaa", sum := "923e2752353964e2d414cd5c4fc6cd3b98a8f78a65d8c8ed21fbf7d244754b01", func := "pyx/pyxlaw3.QuantUnits", spec := "quantUnits", apart := false, narrowed := true }
def QuantUnitsUptoSaid : Prop := quantUnitsUptoRow.holds Try.pinned (OpenSpec.upto quantUnitsSpec)

end Rows
end Go.Proofs.Ytcjonnndpkohoaa
