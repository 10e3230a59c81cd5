-- PRINTED BY print.sh 35421559b90ae4d0a3588c463048766b98c2df88dd9212a6774a882060cdf62d: not written by this session
import Derived.Test.YtbhccillpdlamaaProg
import Derived.Below
import Derived.Deep.Draws
import Derived.Deep.AppendLies
import Derived.Maps.AppendAt
import Derived.OwnWalk
import Derived.Laws.BytesArg
import Derived.Laws.MakeOwn
import Derived.Laws.OwnMore
import Derived.Deep.OwnRows
import Derived.Tactics
import Derived.Lib.ConvBytes
import Derived.Laws.Slices
import Derived.WalkKit
import Derived.KernelRfl
import Derived.RowKit3
import Derived.Deep.LoopGhost
import Derived.Deep.QuietTactic
import Derived.BigQuiet
import Derived.WideLaws
import Derived.Deep.DeepCutAuto
import Derived.Deep.CutBlock
import Derived.Deep.RegionHeld3
import Derived.Laws.Rows
import Derived.Lib.AppendStr
import Derived.ArgAppend
import Derived.Laws.IdiomCopy
import Derived.OrdersHeld
import Derived.Laws.BitsLemmas
import Derived.RowKit
import Derived.Test.YtbhccillpdlamaaWWords
import Derived.Test.YtbhccillpdlamaaWLast
import Derived.Test.YtbhccillpdlamaaWTab
import Derived.Test.YtbhccillpdlamaaWFour
import Derived.Test.YtbhccillpdlamaaWQPut
import Derived.Test.YtbhccillpdlamaaWApart
import Derived.Test.YtbhccillpdlamaaWArr
import Derived.Test.YtbhccillpdlamaaWZeros
import Derived.Test.YtbhccillpdlamaaWFoot
import Derived.Test.YtbhccillpdlamaaWKept
import Derived.Test.YtbhccillpdlamaaWShare
import Derived.Test.YtbhccillpdlamaaWN
import Derived.Test.YtbhccillpdlamaaWFootNe
import Derived.Test.YtbhccillpdlamaaWAt
import Derived.Test.YtbhccillpdlamaaWEqStruct
import Derived.Test.YtbhccillpdlamaaWRepsOne
import Derived.Test.YtbhccillpdlamaaWInv
import Derived.Test.YtbhccillpdlamaaWInvWords
import Derived.Test.YtbhccillpdlamaaWGuard
import Derived.Test.YtbhccillpdlamaaWNEv
import Derived.Test.YtbhccillpdlamaaWMore
namespace Go.Proofs.Ytbhccillpdlamaa.PMarkSteps
open Go.RowKit Go.Proofs.YtbhccillpdlamaaW.PrintWords Go.Proofs.YtbhccillpdlamaaW.PrintLast Go.Proofs.YtbhccillpdlamaaW.PrintMore
attribute [local go_sem] max2_int min2_int max_two min_two max_three min_three max_four min_four   -- for this text's walks alone
set_option linter.unusedVariables false
set_option linter.unusedSimpArgs false



def errW : Option Int → Value
  | none => .nilIface
  | some c => .iface 0 (.int .i64 c)
theorem errW_none : errW none = .nilIface := rfl
theorem errW_some (c : Int) : errW (some c) = .iface 0 (.int .i64 c) := rfl

theorem info5 : (Try.prog.info? 5).map (fun i => (i.zero, i.size, i.bytes)) = some (some (.int .u8 0), 1, 1) := by kernel_rfl
-- the values' own types

end Go.Proofs.Ytbhccillpdlamaa.PMarkSteps
