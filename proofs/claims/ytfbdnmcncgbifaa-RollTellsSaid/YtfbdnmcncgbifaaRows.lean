/-
  No cell of these rows narrows 'for every input' (looked for: loops, veiled, ifaces, maps, wideKeys, modest, calm, conditions, laid).
  DERIVED. THE GIVEN ROWS OF THIS SEAT. 5 by the template 'for every input the law returns true; each argument reads behind the call as it read before'; 0 by the template 'total and deterministic' (their statements: YtfbdnmcncgbifaaTotals.lean).
  GIVEN WITH THE SEED: the statements are not yours to turn. If you find one false, say at which input.
  Laid BY PROGRAM, IN A SANDBOX (cutbox-rows.mjs): the forced cells as the released guide's own fill.sh prints them over the translation 685f0c532e7b9099… (all of the seat's roots in one cut). By AI agents, Wed Nov 11 2026. No macro, syntax, notation, axiom, sorry.
-/
import Derived.Test.YtfbdnmcncgbifaaChecked
import GoSem.Claim
import GoSem.ClaimJoined
import GoSem.ClaimMapViews
import Derived.JoinedTies
import Derived.KernelRfl
namespace Go.Proofs.Ytfbdnmcncgbifaa
/- THE CELL 'sum', in the pinned program and in every row, IS THE sha256 OF THE DUMP (.gsa) THAT YtfbdnmcncgbifaaProg.lean LOADS. Nothing in Lean hashes anything: it is a label: what it is worth is what the hold of that sum in a sandbox is worth. -/
noncomputable def Try.pinned : Pinned := { name := "ytfbdnmcncgbifaa", sum := "685f0c532e7b9099669bc244c55da8953d8b8a7f0a5b858bd36331d1efbc50e9", checked := Try.checked }
namespace Rows
def none {H : Type} : Left H := { results := [], args := [] }

/-- 'pyxlaw7.RollTurns': WHATEVER THE INPUT: true; the input reads as it did. -/
def rollTurnsSpec : ChangeSpec := { name := "rollTurns", fn := fun _ => fun
  | [d1, d2, d3] => { results := [.lit (.bool true)], args := [d1, d2, d3] }
  | _ => none }
def rollTurnsRow : OpenClaim := { program := "ytfbdnmcncgbifaa", sum := "685f0c532e7b9099669bc244c55da8953d8b8a7f0a5b858bd36331d1efbc50e9", func := "pyx/pyxlaw7.RollTurns", spec := "rollTurns", unfollowed := true, recurses := true, apart := false }
def RollTurnsSaid : Prop := rollTurnsRow.holds Try.pinned (OpenSpec.ofChange rollTurnsSpec)

/-- ITS FALSE NEIGHBOUR: 'it returns false'. Refute it at one input. -/
def rollTurnsWrong : ChangeSpec := { name := "rollTurns", fn := fun _ => fun
  | [d1, d2, d3] => { results := [.lit (.bool false)], args := [d1, d2, d3] }
  | _ => none }
def RollTurnsWrongFalsely : Prop := rollTurnsRow.holds Try.pinned (OpenSpec.ofChange rollTurnsWrong)

/-- 'pyxlaw7.RollRooms': WHATEVER THE INPUT: true; the input reads as it did. -/
def rollRoomsSpec : ChangeSpec := { name := "rollRooms", fn := fun _ => fun
  | [d1, d2] => { results := [.lit (.bool true)], args := [d1, d2] }
  | _ => none }
def rollRoomsRow : OpenClaim := { program := "ytfbdnmcncgbifaa", sum := "685f0c532e7b9099669bc244c55da8953d8b8a7f0a5b858bd36331d1efbc50e9", func := "pyx/pyxlaw7.RollRooms", spec := "rollRooms", unfollowed := true, recurses := true, apart := false }
def RollRoomsSaid : Prop := rollRoomsRow.holds Try.pinned (OpenSpec.ofChange rollRoomsSpec)

/-- ITS FALSE NEIGHBOUR: 'it returns false'. Refute it at one input. -/
def rollRoomsWrong : ChangeSpec := { name := "rollRooms", fn := fun _ => fun
  | [d1, d2] => { results := [.lit (.bool false)], args := [d1, d2] }
  | _ => none }
def RollRoomsWrongFalsely : Prop := rollRoomsRow.holds Try.pinned (OpenSpec.ofChange rollRoomsWrong)

/-- 'pyxlaw7.RollKnown': WHATEVER THE INPUT: true; the input reads as it did. -/
def rollKnownSpec : ChangeSpec := { name := "rollKnown", fn := fun _ => fun
  | [] => { results := [.lit (.bool true)], args := [] }
  | _ => none }
def rollKnownRow : OpenClaim := { program := "ytfbdnmcncgbifaa", sum := "685f0c532e7b9099669bc244c55da8953d8b8a7f0a5b858bd36331d1efbc50e9", func := "pyx/pyxlaw7.RollKnown", spec := "rollKnown", unfollowed := true, recurses := true, apart := false }
def RollKnownSaid : Prop := rollKnownRow.holds Try.pinned (OpenSpec.ofChange rollKnownSpec)

/-- ITS FALSE NEIGHBOUR: 'it returns false'. Refute it at one input. -/
def rollKnownWrong : ChangeSpec := { name := "rollKnown", fn := fun _ => fun
  | [] => { results := [.lit (.bool false)], args := [] }
  | _ => none }
def RollKnownWrongFalsely : Prop := rollKnownRow.holds Try.pinned (OpenSpec.ofChange rollKnownWrong)

/-- 'pyxlaw7.RollTells': WHATEVER THE INPUT: true; the input reads as it did. -/
def rollTellsSpec : ChangeSpec := { name := "rollTells", fn := fun _ => fun
  | [d1, d2, d3, d4] => { results := [.lit (.bool true)], args := [d1, d2, d3, d4] }
  | _ => none }
def rollTellsRow : OpenClaim := { program := "ytfbdnmcncgbifaa", sum := "685f0c532e7b9099669bc244c55da8953d8b8a7f0a5b858bd36331d1efbc50e9", func := "pyx/pyxlaw7.RollTells", spec := "rollTells", unfollowed := true, recurses := true, apart := false }
def RollTellsSaid : Prop := rollTellsRow.holds Try.pinned (OpenSpec.ofChange rollTellsSpec)

/-- ITS FALSE NEIGHBOUR: 'it returns false'. Refute it at one input. -/
def rollTellsWrong : ChangeSpec := { name := "rollTells", fn := fun _ => fun
  | [d1, d2, d3, d4] => { results := [.lit (.bool false)], args := [d1, d2, d3, d4] }
  | _ => none }
def RollTellsWrongFalsely : Prop := rollTellsRow.holds Try.pinned (OpenSpec.ofChange rollTellsWrong)

/-- 'pyxlaw7.RollFalls': WHATEVER THE INPUT: true; the input reads as it did. -/
def rollFallsSpec : ChangeSpec := { name := "rollFalls", fn := fun _ => fun
  | [d1, d2, d3, d4] => { results := [.lit (.bool true)], args := [d1, d2, d3, d4] }
  | _ => none }
def rollFallsRow : OpenClaim := { program := "ytfbdnmcncgbifaa", sum := "685f0c532e7b9099669bc244c55da8953d8b8a7f0a5b858bd36331d1efbc50e9", func := "pyx/pyxlaw7.RollFalls", spec := "rollFalls", unfollowed := true, recurses := true, apart := false }
def RollFallsSaid : Prop := rollFallsRow.holds Try.pinned (OpenSpec.ofChange rollFallsSpec)

/-- ITS FALSE NEIGHBOUR: 'it returns false'. Refute it at one input. -/
def rollFallsWrong : ChangeSpec := { name := "rollFalls", fn := fun _ => fun
  | [d1, d2, d3, d4] => { results := [.lit (.bool false)], args := [d1, d2, d3, d4] }
  | _ => none }
def RollFallsWrongFalsely : Prop := rollFallsRow.holds Try.pinned (OpenSpec.ofChange rollFallsWrong)

/- THE SECOND FORM. 'bulk': how many values and letters a reading holds, each counted each time it is reached (what is shared counts as often as it is met; a slice's spare places count too). A statement '..UptoSaid' is the law's where the arguments, and the package variables that the reading takes, are together of bulk at most 1048576: NARROWER than '..Said'. Prove '..Said' where nothing that the law and all that it calls make is longer than what came in: it says more and counts as full. Else prove '..UptoSaid'. A law counts once. -/
mutual
def uptoBulk {H : Type} : DataW H → Nat
  | .lit (.string bytes) => bytes.length + 1
  | .lit _ => 1
  | .nil => 1
  | .ptr d => uptoBulk d + 1
  | .slice elems spare => uptoBulkAll elems + uptoBulkAll spare + 1
  | .agg parts => uptoBulkAll parts + 1
  | .iface _ d => uptoBulk d + 1
  | .map entries => uptoBulkEntries entries + 1
  | .held _ => 1
def uptoBulkAll {H : Type} : List (DataW H) → Nat
  | [] => 0
  | d :: r => uptoBulk d + uptoBulkAll r
def uptoBulkEntries {H : Type} : List (Lit × DataW H) → Nat
  | [] => 0
  | x :: r => uptoBulkEntry x + uptoBulkEntries r
def uptoBulkEntry {H : Type} : Lit × DataW H → Nat
  | (.string bytes, d) => bytes.length + uptoBulk d + 1
  | (_, d) => uptoBulk d + 1
 end
def uptoSmall : (H : Type) → List (DataW H) → Bool := fun _ ds => decide (uptoBulkAll ds ≤ 1048576)
def OpenSpec.upto (s : _root_.Go.ChangeSpec) : _root_.Go.OpenSpec := { _root_.Go.OpenSpec.ofChange s with cond := some uptoSmall }

/-- 'pyxlaw7.RollTurns', WHERE WHAT IT READS IS OF BULK AT MOST 1048576: true; the input reads as it did. -/
def rollTurnsUptoRow : OpenClaim := { program := "ytfbdnmcncgbifaa", sum := "685f0c532e7b9099669bc244c55da8953d8b8a7f0a5b858bd36331d1efbc50e9", func := "pyx/pyxlaw7.RollTurns", spec := "rollTurns", unfollowed := true, recurses := true, apart := false, narrowed := true }
def RollTurnsUptoSaid : Prop := rollTurnsUptoRow.holds Try.pinned (OpenSpec.upto rollTurnsSpec)

/-- 'pyxlaw7.RollRooms', WHERE WHAT IT READS IS OF BULK AT MOST 1048576: true; the input reads as it did. -/
def rollRoomsUptoRow : OpenClaim := { program := "ytfbdnmcncgbifaa", sum := "685f0c532e7b9099669bc244c55da8953d8b8a7f0a5b858bd36331d1efbc50e9", func := "pyx/pyxlaw7.RollRooms", spec := "rollRooms", unfollowed := true, recurses := true, apart := false, narrowed := true }
def RollRoomsUptoSaid : Prop := rollRoomsUptoRow.holds Try.pinned (OpenSpec.upto rollRoomsSpec)

/-- 'pyxlaw7.RollKnown', WHERE WHAT IT READS IS OF BULK AT MOST 1048576: true; the input reads as it did. -/
def rollKnownUptoRow : OpenClaim := { program := "ytfbdnmcncgbifaa", sum := "685f0c532e7b9099669bc244c55da8953d8b8a7f0a5b858bd36331d1efbc50e9", func := "pyx/pyxlaw7.RollKnown", spec := "rollKnown", unfollowed := true, recurses := true, apart := false, narrowed := true }
def RollKnownUptoSaid : Prop := rollKnownUptoRow.holds Try.pinned (OpenSpec.upto rollKnownSpec)

/-- 'pyxlaw7.RollTells', WHERE WHAT IT READS IS OF BULK AT MOST 1048576: true; the input reads as it did. -/
def rollTellsUptoRow : OpenClaim := { program := "ytfbdnmcncgbifaa", sum := "685f0c532e7b9099669bc244c55da8953d8b8a7f0a5b858bd36331d1efbc50e9", func := "pyx/pyxlaw7.RollTells", spec := "rollTells", unfollowed := true, recurses := true, apart := false, narrowed := true }
def RollTellsUptoSaid : Prop := rollTellsUptoRow.holds Try.pinned (OpenSpec.upto rollTellsSpec)

/-- 'pyxlaw7.RollFalls', WHERE WHAT IT READS IS OF BULK AT MOST 1048576: true; the input reads as it did. -/
def rollFallsUptoRow : OpenClaim := { program := "ytfbdnmcncgbifaa", sum := "685f0c532e7b9099669bc244c55da8953d8b8a7f0a5b858bd36331d1efbc50e9", func := "pyx/pyxlaw7.RollFalls", spec := "rollFalls", unfollowed := true, recurses := true, apart := false, narrowed := true }
def RollFallsUptoSaid : Prop := rollFallsUptoRow.holds Try.pinned (OpenSpec.upto rollFallsSpec)

end Rows
end Go.Proofs.Ytfbdnmcncgbifaa
