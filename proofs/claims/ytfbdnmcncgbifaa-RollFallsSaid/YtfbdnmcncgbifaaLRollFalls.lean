/- What RollFalls says of a roll that falls, and is opened again. No condition. -/
import Derived.Test.YtfbdnmcncgbifaaRows
import Derived.Test.YtfbdnmcncgbifaaF1
import Derived.Test.YtfbdnmcncgbifaaR15
import Derived.Test.YtfbdnmcncgbifaaF4
namespace Go.Proofs.Ytfbdnmcncgbifaa.rollFalls
open Go.ChangeShapes Go.WideShapes Go.ChangeAt Go.RowKit Go.Ev
open Go.ChangeMaps (open_string shut_string)
set_option linter.unusedVariables false
theorem own : ownKnob Try.prog.godebug = none := by kernel_rfl
theorem laidOut : laidOutB Try.prog = true := by kernel_rfl
theorem good : Go.Ev.goodB Try.prog = true := by kernel_rfl
set_option maxRecDepth 100000 in
theorem lifted (os : Os) (started : os.Started) (H : Type) (enc : TypeId × Value → H) :
    ReturnsInHanded {} Try.checked os 7 .any (Rows.rollFallsSpec.pre6 enc Try.prog Try.f7 Rows.rollFallsRow.domain false) (Rows.rollFallsSpec.post enc Try.prog Try.f7 false true false false) := by
  refine returnsInHanded_of_change_sized (C := Try.checked) own started (by kernel_rfl) Try.func7
    (ChangeSpec.witness6 (enc := enc) (C := Try.checked) false ⟨#[], #[.slice none 0 0, .int .i64 0, .int .i64 0, .slice none 0 0], []⟩ 8 (by kernel_rfl) (by kernel_rfl) (by kernel_rfl) (by kernel_rfl)) ?_
  intro W base args ds gs before hval0 hW hcnd hsz0 _
  have hsz : (DataW.weightsEach Try.prog (Try.f7.params.toList ++ Rows.rollFallsSpec.plain.varTypes Try.prog) (ds ++ gs)).all (· ≤ reachBytes) = true := hsz0
  have hval : ∀ (j : Nat) t v, Try.f7.params[j]? = some t → args[j]? = some v → Value.okWide Try.prog W .any base t v := hval0
  have hW' := hW
  obtain ⟨p, q, hA0, hV, rfl, hfz, hnd⟩ := hW
  have hA : DataW.TrodAll enc Try.prog W 0 (fun _ => true) true Try.f7.params.toList args.toList ds p := hA0
  rw [Try.params7] at hA hval hsz
  obtain ⟨v0, vs0, d0, ds0, p0, q0, hargs, rfl, rfl, h0, r0⟩ := trodAll_cons hA
  obtain ⟨v1, vs1, d1, ds1, p1, q1, rfl, rfl, rfl, h1, r1⟩ := trodAll_cons r0
  obtain ⟨v2, vs2, d2, ds2, p2, q2, rfl, rfl, rfl, h2, r2⟩ := trodAll_cons r1
  obtain ⟨v3, vs3, d3, ds3, p3, q3, rfl, rfl, rfl, h3, r3⟩ := trodAll_cons r2
  obtain ⟨rfl, rfl, rfl⟩ := trodAll_nil r3
  obtain rfl : args = #[v0, v1, v2, v3] := by cases args; simp_all
  obtain ⟨rfl, rfl⟩ := trodVars_none hV
  have k0 := h0
  have lt0 : ∀ x ∈ p0, x.block < W.heap.size := by obtain ⟨m, hm⟩ := k0; exact DataW.trod_lt m _ _ _ hm
  obtain ⟨z0, c0, w0⟩ := open_strs Try.underlying22 Try.underlying9 (by kernel_rfl) (hval 0 22 v0 rfl rfl) h0
  have wt0 : ∀ m ∈ d0.weights Try.prog 22, m ≤ 140737488351232 := fun m hm => by have h := List.all_eq_true.1 hsz _ (DataW.weights_mem_each (j := 0) (t := 22) rfl rfl m hm); rw [show reachBytes = 140737488351232 by decide] at h; simpa using h
  obtain ⟨y0, x0⟩ := strs_small Try.underlying22 (of_decide_eq_true (by kernel_rfl)) w0 wt0
  obtain ⟨a1, rfl, rfl, rfl, w1⟩ := open_int Try.underlying3 (hval 1 3 v1 rfl rfl) h1
  obtain ⟨a2, rfl, rfl, rfl, w2⟩ := open_int Try.underlying3 (hval 2 3 v2 rfl rfl) h2
  have k3 := h3
  have lt3 : ∀ x ∈ p3, x.block < W.heap.size := by obtain ⟨m, hm⟩ := k3; exact DataW.trod_lt m _ _ _ hm
  obtain ⟨z3, c3, w3⟩ := open_row Try.underlying31 Try.underlying3 (by kernel_rfl) (hval 3 31 v3 rfl rfl) h3
  have y3 := c3.len hsz (j := 3) (t := 31) rfl rfl Try.underlying31 Try.underlying3 (by kernel_rfl) (of_decide_eq_true (by kernel_rfl)) h3
  clear hA0 hval0 hsz0 hsz
  have hβ : ∀ (i : Nat) (v : Value) (e : Nat), ([(v0, 1), (v3, 1)] : List (Value × Nat))[i]? = some (v, e) → ∃ n cs, ([(z0.map Value.string, 1), (z3.map (Value.int .i64), 1)] : List (List Value × Nat))[i]? = some (cs, e) ∧ CArg W v e n cs := by
    intro i v e hi
    rcases i with _ | i
    · simp at hi; obtain ⟨rfl, rfl⟩ := hi; exact ⟨_, _, rfl, c0⟩
    rcases i with _ | i
    · simp at hi; obtain ⟨rfl, rfl⟩ := hi; exact ⟨_, _, rfl, c3⟩
    · simp at hi
  have walk := Go.Ev.falls_walk (initC_wf [(z0.map Value.string, 1), (z3.map (Value.int .i64), 1)]) (c0.sl (i := 0) rfl) y0 x0 (i64_wf w1) (i64_wf w2) (c3.sl (i := 1) rfl) y3 (fun n hn => i64_wf (w3 n hn))
  refine (calls_of_cw (goodB_good good) Try.func7 rfl (args := [canV 0 v0, .int .i64 a1, .int .i64 a2, canV 1 v3]) walk (W := W) (beta_ok hβ) (args' := #[v0, .int .i64 a1, .int .i64 a2, v3]) (.cons (c0.vr (i := 0) rfl) (.cons (.int _ _) (.cons (.int _ _) (.cons (c3.vr (i := 1) rfl) (.nil)))))).mono fun e W' ⟨he, bel⟩ => ?_
  subst he
  exact ⟨_, rfl, _, _, _, [], _, [], hW', trodAll_mk1 (shut_bool Try.underlying4 _), (trodAll_cons_mk (Below.trod laidOut (by kernel_rfl) (of_decide_eq_true (by kernel_rfl)) k0 bel lt0) (trodAll_cons_mk (shut_int Try.underlying3 w1) (trodAll_cons_mk (shut_int Try.underlying3 w2) (trodAll_cons_mk (Below.trod laidOut (by kernel_rfl) (of_decide_eq_true (by kernel_rfl)) k3 bel lt3) trodAll_mk0)))), rfl, bel.frame _, fun h => by cases h⟩
theorem over : Rows.rollFallsRow.holds Try.pinned (OpenSpec.ofChange Rows.rollFallsSpec) :=
  OpenClaim.holds_of_wide 7 Try.f7 rfl rfl rfl rfl rfl rfl rfl ⟨rfl, rfl, rfl, rfl, rfl⟩ rfl rfl rfl rfl rfl (by kernel_rfl) Try.func7 (by kernel_rfl)
    (of_decide_eq_true (by kernel_rfl)) (by unfold Func.isWrapper; first | (rw [if_pos (by decide +kernel)]; kernel_rfl) | (rw [if_neg (by decide +kernel)]; exact ⟨rfl, rfl⟩))
    (fun os started H enc _ => lifted os started H enc)
theorem proved : Rows.RollFallsSaid := over
end Go.Proofs.Ytfbdnmcncgbifaa.rollFalls
namespace Go.Proofs.Ytfbdnmcncgbifaa
theorem rollFalls_holds : Rows.RollFallsSaid := rollFalls.proved
end Go.Proofs.Ytfbdnmcncgbifaa
