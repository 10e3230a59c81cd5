/- A proved evaluator, part 17: from what the evaluator gives to a law without parameters. No condition. -/
import Derived.Test.YtmhfkejbahacoaaGreatDoorKViewHoldsE16
noncomputable section
namespace Go.Ev
open Go.RowKit
set_option linter.unusedVariables false
variable [Lk]
set_option linter.unusedSectionVars false

def s0 : St := { heap := .nil, fams := .nil, tys := .nil, next := 0, low := 0 }
/-- It answers true. -/
def says (r : Option (Value × St)) : Bool :=
  match r with
  | some (.bool b, _) => b
  | _ => false
/-- What is asked of a program, to be computed. -/
def goodB (P : Program) : Bool := P.funcs.toList.all (fun fn => !(fn.name == "runtime.NumGoroutine") && (!extName fn.name || (Extern.findNext fn).isNone)) && P.follows .mixedOrders
theorem goodB_good {P : Program} (h : goodB P = true) : Good P := by
  unfold goodB at h
  simp only [Bool.and_eq_true] at h
  refine ⟨fun g fn hg => ?_, fun g fn hg he => ?_, h.2⟩
  · have := List.all_eq_true.1 h.1 fn (List.mem_of_getElem? (i := g) (by simpa using hg))
    simp only [Bool.and_eq_true] at this
    simpa using this.1
  · have := List.all_eq_true.1 h.1 fn (List.mem_of_getElem? (i := g) (by simpa using hg))
    simp only [Bool.and_eq_true, he, Bool.not_true, Bool.false_or] at this
    simpa using this.2

end Go.Ev
