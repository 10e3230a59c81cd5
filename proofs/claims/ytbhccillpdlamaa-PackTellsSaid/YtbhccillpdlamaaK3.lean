/- The helpers, and what PackOne says. No condition. -/
import Derived.Test.YtbhccillpdlamaaK2
noncomputable section
namespace Go.Ev
open Go.Proofs
set_option linter.unusedVariables false
set_option maxRecDepth 100000

theorem known_spec {s : St} (wf : WF s) : Cw Try.prog 22 [] s fun r s' => r = .bool true ∧ K0 s s' := by
  refine Cw.enter Try.func22 rfl rfl ?_
  conv => whnf
  refine (int_spec wf (l := []) (Sl.nil s 1) (by simp) (n := -1) (by unfold Pk.inR; omega)).mono ?_
  rintro v1 s1 ⟨k1, o1⟩
  conv => whnf
  refine Om.of _ (ob_str o1) ?_
  conv => whnf
  refine Om.of (.bool true) (congrArg (fun b => some (Value.bool b)) (show (([] ++ Pk.encI (-1)) == [1]) = true by decide +kernel)) ?_
  conv => whnf
  refine Br.yes rfl ?_
  conv => whnf
  refine (int_spec k1.wf (l := []) (Sl.nil s1 1) (by simp) (n := 300) (by unfold Pk.inR; omega)).mono ?_
  rintro v2 s2 ⟨k2, o2⟩
  conv => whnf
  refine Br.yes rfl ?_
  conv => whnf
  refine Om.of _ (ob_str o2) ?_
  conv => whnf
  refine Br.yes rfl ?_
  conv => whnf
  refine Om.of (.bool true) (congrArg (fun b => some (Value.bool b)) (show (([] ++ Pk.encI 300) == [216, 4]) = true by decide +kernel)) ?_
  conv => whnf
  refine Br.yes rfl ?_
  conv => whnf
  exact ⟨⟨rfl, k1.then k2⟩⟩
end Go.Ev
