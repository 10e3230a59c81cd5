/- Memory in parts, further: blocks of which it is known what their elements are, package variables, iterators, texts out of buffers. No condition. -/
import Derived.Test.YtmhfkejbahacoaaGreatDoorKViewHoldsS5
noncomputable section
namespace Go.Ev
open Go.RowKit
variable [Lk]
set_option linter.unusedSectionVars false
set_option linter.unusedVariables false

section
variable {X : Nat → Prop} {s0 s s' s1 : St} {R F F' G : List At} {a a' : At} {P : Program} {t : TypeId} {K : Value → Prop} {b off k e : Nat} {C C' : List Value} {v : Value} {i : TypeInfo} {d : TypeDesc}
end

end Go.Ev
