/- A proved evaluator, part 15: regions that draw their order. No condition. -/
import Derived.Test.YtbhccillpdlamaaE14
namespace Go.Ev
open Go.RowKit

@[irreducible] def evDraw (_P : Program) (_call : Call) (_n : Nat) (_ops : Array Oper) (_t : T Value) (_s : St) : Option (T Value × St) := none
theorem draw_U {P : Program} {call : Call} (_hc : CallSim P call) {n : Nat} {ops : Array Oper} {t t' : T Value} {s s' : St} (_wf : WF s) (h : evDraw P call n ops t s = some (t', s')) : U s s' := by unfold evDraw at h; cases h
theorem draw_sim {P : Program} (_hP : Good P) {call : Call} (_hc : CallSim P call) {B0 : Nat} {w0 : World} {n id : Nat} {ops : Array Oper} {Q : Exit → Act → World → Prop} {β : B} {t t' : T Value} {s s' : St} {a : Act} {w : World}
    (_wf : WF s) (_hR : Rel B0 w0 β s w) (_hf : FR β n t a) (h : evDraw P call n ops t s = some (t', s')) (_hQ : ∀ β' a' w', Step B0 w0 β s w β' s' w' → FR β' n t' a' → Q .normal a' w') : (Code.region id ops true).wp P Q a w := by unfold evDraw at h; cases h

end Go.Ev
