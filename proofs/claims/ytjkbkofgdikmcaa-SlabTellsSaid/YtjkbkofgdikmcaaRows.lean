/-
  No cell of these rows narrows 'for every input' (looked for: loops, veiled, ifaces, maps, wideKeys, modest, calm, conditions, laid).
  DERIVED. THE GIVEN ROWS OF THIS SEAT. 9 by the template 'for every input the law returns true; each argument reads behind the call as it read before'; 0 by the template 'total and deterministic' (their statements: YtjkbkofgdikmcaaTotals.lean).
  GIVEN WITH THE SEED: the statements are not yours to turn. If you find one false, say at which input.
  Laid BY PROGRAM, IN A SANDBOX (cutbox-rows.mjs): the forced cells as the released guide's own fill.sh prints them over the translation 054af0ed33904eb6… (all of the seat's roots in one cut). By AI agents, Wed Nov 11 2026. No macro, syntax, notation, axiom, sorry.
-/
import Derived.Test.YtjkbkofgdikmcaaChecked
import GoSem.Claim
import GoSem.ClaimJoined
import GoSem.ClaimMapViews
import Derived.JoinedTies
import Derived.KernelRfl
namespace Go.Proofs.Ytjkbkofgdikmcaa
/- THE CELL 'sum', in the pinned program and in every row, IS THE sha256 OF THE DUMP (.gsa) THAT YtjkbkofgdikmcaaProg.lean LOADS. Nothing in Lean hashes anything: it is a label: what it is worth is what the hold of that sum in a sandbox is worth. -/
noncomputable def Try.pinned : Pinned := { name := "ytjkbkofgdikmcaa", sum := "054af0ed33904eb6b4c411ea08134a8ba75df6d01c81454fa5081b99dcf8a9c3", checked := Try.checked }
namespace Rows
def none {H : Type} : Left H := { results := [], args := [] }

/-- 'pyxlaw6.SlabParts': WHATEVER THE INPUT: true; the input reads as it did. -/
def slabPartsSpec : ChangeSpec := { name := "slabParts", fn := fun _ => fun
  | [d1, d2, d3, d4, d5, d6] => { results := [.lit (.bool true)], args := [d1, d2, d3, d4, d5, d6] }
  | _ => none }
def slabPartsRow : OpenClaim := { program := "ytjkbkofgdikmcaa", sum := "054af0ed33904eb6b4c411ea08134a8ba75df6d01c81454fa5081b99dcf8a9c3", func := "pyx/pyxlaw6.SlabParts", spec := "slabParts", plainKeys := false, apart := false }
def SlabPartsSaid : Prop := slabPartsRow.holds Try.pinned (OpenSpec.ofChange slabPartsSpec)

/-- ITS FALSE NEIGHBOUR: 'it returns false'. Refute it at one input. -/
def slabPartsWrong : ChangeSpec := { name := "slabParts", fn := fun _ => fun
  | [d1, d2, d3, d4, d5, d6] => { results := [.lit (.bool false)], args := [d1, d2, d3, d4, d5, d6] }
  | _ => none }
def SlabPartsWrongFalsely : Prop := slabPartsRow.holds Try.pinned (OpenSpec.ofChange slabPartsWrong)

/-- 'pyxlaw6.SlabTorn': WHATEVER THE INPUT: true; the input reads as it did. -/
def slabTornSpec : ChangeSpec := { name := "slabTorn", fn := fun _ => fun
  | [d1, d2, d3, d4, d5, d6] => { results := [.lit (.bool true)], args := [d1, d2, d3, d4, d5, d6] }
  | _ => none }
def slabTornRow : OpenClaim := { program := "ytjkbkofgdikmcaa", sum := "054af0ed33904eb6b4c411ea08134a8ba75df6d01c81454fa5081b99dcf8a9c3", func := "pyx/pyxlaw6.SlabTorn", spec := "slabTorn", plainKeys := false, apart := false }
def SlabTornSaid : Prop := slabTornRow.holds Try.pinned (OpenSpec.ofChange slabTornSpec)

/-- ITS FALSE NEIGHBOUR: 'it returns false'. Refute it at one input. -/
def slabTornWrong : ChangeSpec := { name := "slabTorn", fn := fun _ => fun
  | [d1, d2, d3, d4, d5, d6] => { results := [.lit (.bool false)], args := [d1, d2, d3, d4, d5, d6] }
  | _ => none }
def SlabTornWrongFalsely : Prop := slabTornRow.holds Try.pinned (OpenSpec.ofChange slabTornWrong)

/-- 'pyxlaw6.SlabOwn': WHATEVER THE INPUT: true; the input reads as it did. -/
def slabOwnSpec : ChangeSpec := { name := "slabOwn", fn := fun _ => fun
  | [d1, d2] => { results := [.lit (.bool true)], args := [d1, d2] }
  | _ => none }
def slabOwnRow : OpenClaim := { program := "ytjkbkofgdikmcaa", sum := "054af0ed33904eb6b4c411ea08134a8ba75df6d01c81454fa5081b99dcf8a9c3", func := "pyx/pyxlaw6.SlabOwn", spec := "slabOwn", plainKeys := false, apart := false }
def SlabOwnSaid : Prop := slabOwnRow.holds Try.pinned (OpenSpec.ofChange slabOwnSpec)

/-- ITS FALSE NEIGHBOUR: 'it returns false'. Refute it at one input. -/
def slabOwnWrong : ChangeSpec := { name := "slabOwn", fn := fun _ => fun
  | [d1, d2] => { results := [.lit (.bool false)], args := [d1, d2] }
  | _ => none }
def SlabOwnWrongFalsely : Prop := slabOwnRow.holds Try.pinned (OpenSpec.ofChange slabOwnWrong)

/-- 'pyxlaw6.SlabKnown': WHATEVER THE INPUT: true; the input reads as it did. -/
def slabKnownSpec : ChangeSpec := { name := "slabKnown", fn := fun _ => fun
  | [] => { results := [.lit (.bool true)], args := [] }
  | _ => none }
def slabKnownRow : OpenClaim := { program := "ytjkbkofgdikmcaa", sum := "054af0ed33904eb6b4c411ea08134a8ba75df6d01c81454fa5081b99dcf8a9c3", func := "pyx/pyxlaw6.SlabKnown", spec := "slabKnown", plainKeys := false, apart := false }
def SlabKnownSaid : Prop := slabKnownRow.holds Try.pinned (OpenSpec.ofChange slabKnownSpec)

/-- ITS FALSE NEIGHBOUR: 'it returns false'. Refute it at one input. -/
def slabKnownWrong : ChangeSpec := { name := "slabKnown", fn := fun _ => fun
  | [] => { results := [.lit (.bool false)], args := [] }
  | _ => none }
def SlabKnownWrongFalsely : Prop := slabKnownRow.holds Try.pinned (OpenSpec.ofChange slabKnownWrong)

/-- 'pyxlaw6.SlabTells': WHATEVER THE INPUT: true; the input reads as it did. -/
def slabTellsSpec : ChangeSpec := { name := "slabTells", fn := fun _ => fun
  | [d1, d2] => { results := [.lit (.bool true)], args := [d1, d2] }
  | _ => none }
def slabTellsRow : OpenClaim := { program := "ytjkbkofgdikmcaa", sum := "054af0ed33904eb6b4c411ea08134a8ba75df6d01c81454fa5081b99dcf8a9c3", func := "pyx/pyxlaw6.SlabTells", spec := "slabTells", plainKeys := false, apart := false }
def SlabTellsSaid : Prop := slabTellsRow.holds Try.pinned (OpenSpec.ofChange slabTellsSpec)

/-- ITS FALSE NEIGHBOUR: 'it returns false'. Refute it at one input. -/
def slabTellsWrong : ChangeSpec := { name := "slabTells", fn := fun _ => fun
  | [d1, d2] => { results := [.lit (.bool false)], args := [d1, d2] }
  | _ => none }
def SlabTellsWrongFalsely : Prop := slabTellsRow.holds Try.pinned (OpenSpec.ofChange slabTellsWrong)

/-- 'pyxlaw24.ChainKnown': WHATEVER THE INPUT: true; the input reads as it did. -/
def chainKnownSpec : ChangeSpec := { name := "chainKnown", fn := fun _ => fun
  | [] => { results := [.lit (.bool true)], args := [] }
  | _ => none }
def chainKnownRow : OpenClaim := { program := "ytjkbkofgdikmcaa", sum := "054af0ed33904eb6b4c411ea08134a8ba75df6d01c81454fa5081b99dcf8a9c3", func := "pyx/pyxlaw24.ChainKnown", spec := "chainKnown", plainKeys := false, apart := false }
def ChainKnownSaid : Prop := chainKnownRow.holds Try.pinned (OpenSpec.ofChange chainKnownSpec)

/-- ITS FALSE NEIGHBOUR: 'it returns false'. Refute it at one input. -/
def chainKnownWrong : ChangeSpec := { name := "chainKnown", fn := fun _ => fun
  | [] => { results := [.lit (.bool false)], args := [] }
  | _ => none }
def ChainKnownWrongFalsely : Prop := chainKnownRow.holds Try.pinned (OpenSpec.ofChange chainKnownWrong)

/-- 'pyxlaw24.ChainTells': WHATEVER THE INPUT: true; the input reads as it did. -/
def chainTellsSpec : ChangeSpec := { name := "chainTells", fn := fun _ => fun
  | [d1, d2, d3, d4] => { results := [.lit (.bool true)], args := [d1, d2, d3, d4] }
  | _ => none }
def chainTellsRow : OpenClaim := { program := "ytjkbkofgdikmcaa", sum := "054af0ed33904eb6b4c411ea08134a8ba75df6d01c81454fa5081b99dcf8a9c3", func := "pyx/pyxlaw24.ChainTells", spec := "chainTells", plainKeys := false, apart := false }
def ChainTellsSaid : Prop := chainTellsRow.holds Try.pinned (OpenSpec.ofChange chainTellsSpec)

/-- ITS FALSE NEIGHBOUR: 'it returns false'. Refute it at one input. -/
def chainTellsWrong : ChangeSpec := { name := "chainTells", fn := fun _ => fun
  | [d1, d2, d3, d4] => { results := [.lit (.bool false)], args := [d1, d2, d3, d4] }
  | _ => none }
def ChainTellsWrongFalsely : Prop := chainTellsRow.holds Try.pinned (OpenSpec.ofChange chainTellsWrong)

/-- 'pyxlaw24.ChainTurns': WHATEVER THE INPUT: true; the input reads as it did. -/
def chainTurnsSpec : ChangeSpec := { name := "chainTurns", fn := fun _ => fun
  | [d1, d2, d3, d4] => { results := [.lit (.bool true)], args := [d1, d2, d3, d4] }
  | _ => none }
def chainTurnsRow : OpenClaim := { program := "ytjkbkofgdikmcaa", sum := "054af0ed33904eb6b4c411ea08134a8ba75df6d01c81454fa5081b99dcf8a9c3", func := "pyx/pyxlaw24.ChainTurns", spec := "chainTurns", plainKeys := false, apart := false }
def ChainTurnsSaid : Prop := chainTurnsRow.holds Try.pinned (OpenSpec.ofChange chainTurnsSpec)

/-- ITS FALSE NEIGHBOUR: 'it returns false'. Refute it at one input. -/
def chainTurnsWrong : ChangeSpec := { name := "chainTurns", fn := fun _ => fun
  | [d1, d2, d3, d4] => { results := [.lit (.bool false)], args := [d1, d2, d3, d4] }
  | _ => none }
def ChainTurnsWrongFalsely : Prop := chainTurnsRow.holds Try.pinned (OpenSpec.ofChange chainTurnsWrong)

/-- 'pyxlaw24.ChainOwn': WHATEVER THE INPUT: true; the input reads as it did. -/
def chainOwnSpec : ChangeSpec := { name := "chainOwn", fn := fun _ => fun
  | [d] => { results := [.lit (.bool true)], args := [d] }
  | _ => none }
def chainOwnRow : OpenClaim := { program := "ytjkbkofgdikmcaa", sum := "054af0ed33904eb6b4c411ea08134a8ba75df6d01c81454fa5081b99dcf8a9c3", func := "pyx/pyxlaw24.ChainOwn", spec := "chainOwn", plainKeys := false, apart := false }
def ChainOwnSaid : Prop := chainOwnRow.holds Try.pinned (OpenSpec.ofChange chainOwnSpec)

/-- ITS FALSE NEIGHBOUR: 'it returns false'. Refute it at one input. -/
def chainOwnWrong : ChangeSpec := { name := "chainOwn", fn := fun _ => fun
  | [d] => { results := [.lit (.bool false)], args := [d] }
  | _ => none }
def ChainOwnWrongFalsely : Prop := chainOwnRow.holds Try.pinned (OpenSpec.ofChange chainOwnWrong)

/- THE SECOND FORM. 'bulk': how many values and letters a reading holds, each counted each time it is reached (what is shared counts as often as it is met; a slice's spare places count too). A statement '..UptoSaid' is the law's where the arguments, and the package variables that the reading takes, are together of bulk at most 1048576: NARROWER than '..Said'. Prove '..Said' where nothing that the law and all that it calls make is longer than what came in: it says more and counts as full. Else prove '..UptoSaid'. A law counts once. -/
mutual
def uptoBulk {H : Type} : DataW H → Nat
  | .lit (.string bytes) => bytes.length + 1
  | .lit _ => 1
  | .nil => 1
  | .ptr d => uptoBulk d + 1
  | .slice elems spare => uptoBulkAll elems + uptoBulkAll spare + 1
  | .agg parts => uptoBulkAll parts + 1
  | .iface _ d => uptoBulk d + 1
  | .map entries => uptoBulkEntries entries + 1
  | .held _ => 1
def uptoBulkAll {H : Type} : List (DataW H) → Nat
  | [] => 0
  | d :: r => uptoBulk d + uptoBulkAll r
def uptoBulkEntries {H : Type} : List (Lit × DataW H) → Nat
  | [] => 0
  | x :: r => uptoBulkEntry x + uptoBulkEntries r
def uptoBulkEntry {H : Type} : Lit × DataW H → Nat
  | (.string bytes, d) => bytes.length + uptoBulk d + 1
  | (_, d) => uptoBulk d + 1
 end
def uptoSmall : (H : Type) → List (DataW H) → Bool := fun _ ds => decide (uptoBulkAll ds ≤ 1048576)
def OpenSpec.upto (s : _root_.Go.ChangeSpec) : _root_.Go.OpenSpec := { _root_.Go.OpenSpec.ofChange s with cond := some uptoSmall }

/-- 'pyxlaw6.SlabParts', WHERE WHAT IT READS IS OF BULK AT MOST 1048576: true; the input reads as it did. -/
def slabPartsUptoRow : OpenClaim := { program := "ytjkbkofgdikmcaa", sum := "054af0ed33904eb6b4c411ea08134a8ba75df6d01c81454fa5081b99dcf8a9c3", func := "pyx/pyxlaw6.SlabParts", spec := "slabParts", plainKeys := false, apart := false, narrowed := true }
def SlabPartsUptoSaid : Prop := slabPartsUptoRow.holds Try.pinned (OpenSpec.upto slabPartsSpec)

/-- 'pyxlaw6.SlabTorn', WHERE WHAT IT READS IS OF BULK AT MOST 1048576: true; the input reads as it did. -/
def slabTornUptoRow : OpenClaim := { program := "ytjkbkofgdikmcaa", sum := "054af0ed33904eb6b4c411ea08134a8ba75df6d01c81454fa5081b99dcf8a9c3", func := "pyx/pyxlaw6.SlabTorn", spec := "slabTorn", plainKeys := false, apart := false, narrowed := true }
def SlabTornUptoSaid : Prop := slabTornUptoRow.holds Try.pinned (OpenSpec.upto slabTornSpec)

/-- 'pyxlaw6.SlabOwn', WHERE WHAT IT READS IS OF BULK AT MOST 1048576: true; the input reads as it did. -/
def slabOwnUptoRow : OpenClaim := { program := "ytjkbkofgdikmcaa", sum := "054af0ed33904eb6b4c411ea08134a8ba75df6d01c81454fa5081b99dcf8a9c3", func := "pyx/pyxlaw6.SlabOwn", spec := "slabOwn", plainKeys := false, apart := false, narrowed := true }
def SlabOwnUptoSaid : Prop := slabOwnUptoRow.holds Try.pinned (OpenSpec.upto slabOwnSpec)

/-- 'pyxlaw6.SlabKnown', WHERE WHAT IT READS IS OF BULK AT MOST 1048576: true; the input reads as it did. -/
def slabKnownUptoRow : OpenClaim := { program := "ytjkbkofgdikmcaa", sum := "054af0ed33904eb6b4c411ea08134a8ba75df6d01c81454fa5081b99dcf8a9c3", func := "pyx/pyxlaw6.SlabKnown", spec := "slabKnown", plainKeys := false, apart := false, narrowed := true }
def SlabKnownUptoSaid : Prop := slabKnownUptoRow.holds Try.pinned (OpenSpec.upto slabKnownSpec)

/-- 'pyxlaw6.SlabTells', WHERE WHAT IT READS IS OF BULK AT MOST 1048576: true; the input reads as it did. -/
def slabTellsUptoRow : OpenClaim := { program := "ytjkbkofgdikmcaa", sum := "054af0ed33904eb6b4c411ea08134a8ba75df6d01c81454fa5081b99dcf8a9c3", func := "pyx/pyxlaw6.SlabTells", spec := "slabTells", plainKeys := false, apart := false, narrowed := true }
def SlabTellsUptoSaid : Prop := slabTellsUptoRow.holds Try.pinned (OpenSpec.upto slabTellsSpec)

/-- 'pyxlaw24.ChainKnown', WHERE WHAT IT READS IS OF BULK AT MOST 1048576: true; the input reads as it did. -/
def chainKnownUptoRow : OpenClaim := { program := "ytjkbkofgdikmcaa", sum := "054af0ed33904eb6b4c411ea08134a8ba75df6d01c81454fa5081b99dcf8a9c3", func := "pyx/pyxlaw24.ChainKnown", spec := "chainKnown", plainKeys := false, apart := false, narrowed := true }
def ChainKnownUptoSaid : Prop := chainKnownUptoRow.holds Try.pinned (OpenSpec.upto chainKnownSpec)

/-- 'pyxlaw24.ChainTells', WHERE WHAT IT READS IS OF BULK AT MOST 1048576: true; the input reads as it did. -/
def chainTellsUptoRow : OpenClaim := { program := "ytjkbkofgdikmcaa", sum := "054af0ed33904eb6b4c411ea08134a8ba75df6d01c81454fa5081b99dcf8a9c3", func := "pyx/pyxlaw24.ChainTells", spec := "chainTells", plainKeys := false, apart := false, narrowed := true }
def ChainTellsUptoSaid : Prop := chainTellsUptoRow.holds Try.pinned (OpenSpec.upto chainTellsSpec)

/-- 'pyxlaw24.ChainTurns', WHERE WHAT IT READS IS OF BULK AT MOST 1048576: true; the input reads as it did. -/
def chainTurnsUptoRow : OpenClaim := { program := "ytjkbkofgdikmcaa", sum := "054af0ed33904eb6b4c411ea08134a8ba75df6d01c81454fa5081b99dcf8a9c3", func := "pyx/pyxlaw24.ChainTurns", spec := "chainTurns", plainKeys := false, apart := false, narrowed := true }
def ChainTurnsUptoSaid : Prop := chainTurnsUptoRow.holds Try.pinned (OpenSpec.upto chainTurnsSpec)

/-- 'pyxlaw24.ChainOwn', WHERE WHAT IT READS IS OF BULK AT MOST 1048576: true; the input reads as it did. -/
def chainOwnUptoRow : OpenClaim := { program := "ytjkbkofgdikmcaa", sum := "054af0ed33904eb6b4c411ea08134a8ba75df6d01c81454fa5081b99dcf8a9c3", func := "pyx/pyxlaw24.ChainOwn", spec := "chainOwn", plainKeys := false, apart := false, narrowed := true }
def ChainOwnUptoSaid : Prop := chainOwnUptoRow.holds Try.pinned (OpenSpec.upto chainOwnSpec)

end Rows
end Go.Proofs.Ytjkbkofgdikmcaa
