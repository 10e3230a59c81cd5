/- A proved evaluator, part 17: from what the evaluator gives to a law without parameters. No condition. -/
import Derived.Test.YtjkbkofgdikmcaaE16
noncomputable section
namespace Go.Ev
open Go.RowKit
set_option linter.unusedVariables false

def s0 : St := { heap := .nil, fams := .nil, next := 0, low := 0 }
theorem s0_wf : WF s0 := ⟨fun b cb h => by simp [s0] at h, fun b cs k base esz h => by simp [s0] at h, Nat.le_refl _⟩
theorem s0_rel (J : Nat) (W : World) : Rel J W.heap.size W (fun _ => none) s0 W where
  nx := Nat.zero_le _
  dom := fun b bi h => by cases h
  rd := fun b bi cs h => by cases h
  own := fun b bi cs k base esz h => by cases h
  ro := fun b bi cs k base esz h => by cases h
  map := fun b bi es h => by cases h
  fam := fun b1 b2 bi1 bi2 cs1 cs2 k1 k2 base1 base2 e1 e2 h => by cases h
  inj := fun b1 b2 bi1 bi2 es h => by cases h
  below := .refl _ _
  base := Nat.le_refl _

/-- It answers true. -/
def says (r : Option (Value × St)) : Bool :=
  match r with
  | some (.bool b, _) => b
  | _ => false
theorem says_some {r : Option (Value × St)} (h : says r = true) : ∃ s', r = some (.bool true, s') := by
  unfold says at h
  split at h
  · rename_i b s'; subst h; exact ⟨s', rfl⟩
  · cases h

theorem closed_calls {P : Program} (hP : Good P) {k f : Nat} (h : says (ev P k f [] s0) = true) (W : World) :
    Calls P f #[] W (fun e W' => e = .returned (.bool true) ∧ Below W.heap.size W W') := by
  obtain ⟨s', hs⟩ := says_some h
  obtain ⟨_, _, hc⟩ := ev_sim hP k _ _ _ _ _ hs s0_wf
  refine (hc s'.next W.heap.size W _ W #[] (Nat.le_refl _) (s0_rel _ W) .nil).mono ?_
  rintro e W' ⟨β', v', rfl, hst, hv⟩
  cases hv
  exact ⟨rfl, hst.rel.below⟩

/-- What is asked of a program, to be computed. -/
def goodB (P : Program) : Bool := P.funcs.toList.all (fun fn => !(fn.name == "runtime.NumGoroutine") && (!extName fn.name || (Extern.findNext fn).isNone)) && P.follows .mixedOrders
theorem goodB_good {P : Program} (h : goodB P = true) : Good P := by
  unfold goodB at h
  simp only [Bool.and_eq_true] at h
  refine ⟨fun g fn hg => ?_, fun g fn hg he => ?_, h.2⟩
  · have := List.all_eq_true.1 h.1 fn (List.mem_of_getElem? (i := g) (by simpa using hg))
    simp only [Bool.and_eq_true] at this
    simpa using this.1
  · have := List.all_eq_true.1 h.1 fn (List.mem_of_getElem? (i := g) (by simpa using hg))
    simp only [Bool.and_eq_true, he, Bool.not_true, Bool.false_or] at this
    simpa using this.2

end Go.Ev
