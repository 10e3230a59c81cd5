/- Any region of any slab, any appends, cuts and openings: each answer, and each byte of the slab, is as the document says. No condition. -/
import Derived.Test.YtfbdnmcncgbifaaRows
import Derived.Test.YtfbdnmcncgbifaaF1
import Derived.Test.YtfbdnmcncgbifaaGRollTells2
namespace Go.Proofs.Ytfbdnmcncgbifaa.rollTells
open Go.ChangeShapes Go.WideShapes Go.ChangeAt Go.RowKit Go.Ev
open Go.ChangeMaps (open_string shut_string)
set_option linter.unusedVariables false
theorem own : ownKnob Try.prog.godebug = none := by kernel_rfl
theorem laidOut : laidOutB Try.prog = true := by kernel_rfl
theorem good : Go.Ev.goodB Try.prog = true := by kernel_rfl
set_option maxRecDepth 100000 in
theorem lifted (os : Os) (started : os.Started) (H : Type) (enc : TypeId × Value → H) :
    ReturnsInHanded {} Try.checked os 6 .any (Rows.rollTellsSpec.pre6 enc Try.prog Try.f6 Rows.rollTellsRow.domain false) (Rows.rollTellsSpec.post enc Try.prog Try.f6 false true false false) := by
  refine returnsInHanded_of_change_sized (C := Try.checked) own started (by kernel_rfl) Try.func6
    (ChangeSpec.witness6 (enc := enc) (C := Try.checked) false ⟨#[], #[.int .i64 0, .int .i64 0, .slice none 0 0, .slice none 0 0], []⟩ 8 (by kernel_rfl) (by kernel_rfl) (by kernel_rfl) (by kernel_rfl)) ?_
  intro W base args ds gs before hval0 hW hcnd hsz0 _
  have hsz : (DataW.weightsEach Try.prog (Try.f6.params.toList ++ Rows.rollTellsSpec.plain.varTypes Try.prog) (ds ++ gs)).all (· ≤ reachBytes) = true := hsz0
  have hval : ∀ (j : Nat) t v, Try.f6.params[j]? = some t → args[j]? = some v → Value.okWide Try.prog W .any base t v := hval0
  have hW' := hW
  obtain ⟨p, q, hA0, hV, rfl, hfz, hnd⟩ := hW
  have hA : DataW.TrodAll enc Try.prog W 0 (fun _ => true) true Try.f6.params.toList args.toList ds p := hA0
  rw [Try.params6] at hA hval hsz
  obtain ⟨v0, vs0, d0, ds0, p0, q0, hargs, rfl, rfl, h0, r0⟩ := trodAll_cons hA
  obtain ⟨v1, vs1, d1, ds1, p1, q1, rfl, rfl, rfl, h1, r1⟩ := trodAll_cons r0
  obtain ⟨v2, vs2, d2, ds2, p2, q2, rfl, rfl, rfl, h2, r2⟩ := trodAll_cons r1
  obtain ⟨v3, vs3, d3, ds3, p3, q3, rfl, rfl, rfl, h3, r3⟩ := trodAll_cons r2
  obtain ⟨rfl, rfl, rfl⟩ := trodAll_nil r3
  obtain rfl : args = #[v0, v1, v2, v3] := by cases args; simp_all
  obtain ⟨rfl, rfl⟩ := trodVars_none hV
  obtain ⟨a0, rfl, rfl, rfl, w0⟩ := open_int Try.underlying3 (hval 0 3 v0 rfl rfl) h0
  obtain ⟨a1, rfl, rfl, rfl, w1⟩ := open_int Try.underlying3 (hval 1 3 v1 rfl rfl) h1
  have k2 := h2
  have lt2 : ∀ x ∈ p2, x.block < W.heap.size := by obtain ⟨m, hm⟩ := k2; exact DataW.trod_lt m _ _ _ hm
  obtain ⟨z2, c2, w2⟩ := open_row Try.underlying32 Try.underlying5 (by kernel_rfl) (hval 2 32 v2 rfl rfl) h2
  have y2 := c2.len hsz (j := 2) (t := 32) rfl rfl Try.underlying32 Try.underlying5 (by kernel_rfl) (of_decide_eq_true (by kernel_rfl)) h2
  obtain ⟨l2, hl2, hz2⟩ := u8_bytes w2
  rw [hl2, ← hz2] at c2
  rw [← hz2] at y2
  have k3 := h3
  have lt3 : ∀ x ∈ p3, x.block < W.heap.size := by obtain ⟨m, hm⟩ := k3; exact DataW.trod_lt m _ _ _ hm
  have wt3 : ∀ m ∈ d3.weights Try.prog 46, m ≤ 140737488351232 := fun m hm => by have h := List.all_eq_true.1 hsz _ (DataW.weights_mem_each (j := 3) (t := 46) rfl rfl m hm); rw [show reachBytes = 140737488351232 by decide] at h; simpa using h
  obtain ⟨rows3, c3, w3, y3⟩ := open_flat [.int .i64, .int .i64, .int .i64, .str] Try.underlying46 Try.underlying53 (by decide +kernel) (by kernel_rfl) rfl (of_decide_eq_true (by kernel_rfl)) (hval 3 46 v3 rfl rfl) h3 wt3
  obtain ⟨z3, rfl, x3⟩ := rows_map (f := Rw7.cells) (ok := Rw7.ok) (fun r hr => rw7_fits (w3 r hr))
  rw [List.length_map] at c3 y3
  clear hA0 hval0 hsz0 hsz
  have hβ : ∀ (i : Nat) (v : Value) (e : Nat), ([(v2, 1), (v3, 4)] : List (Value × Nat))[i]? = some (v, e) → ∃ n cs, ([(byteVals l2, 1), (rw7Cells z3, 4)] : List (List Value × Nat))[i]? = some (cs, e) ∧ CArg W v e n cs := by
    intro i v e hi
    rcases i with _ | i
    · simp at hi; obtain ⟨rfl, rfl⟩ := hi; exact ⟨_, _, rfl, c2⟩
    rcases i with _ | i
    · simp at hi; obtain ⟨rfl, rfl⟩ := hi; exact ⟨_, _, rfl, c3⟩
    · simp at hi
  have walk := Go.Ev.tells7_walk (initC_wf [(byteVals l2, 1), (rw7Cells z3, 4)]) (i64_wf w0) (i64_wf w1) (c2.sl (i := 0) rfl) y2 (c3.sl (i := 1) rfl) x3 y3
  refine (calls_of_cw (goodB_good good) Try.func6 rfl (args := [.int .i64 a0, .int .i64 a1, canV 0 v2, canV 1 v3]) walk (W := W) (beta_ok hβ) (args' := #[.int .i64 a0, .int .i64 a1, v2, v3]) (.cons (.int _ _) (.cons (.int _ _) (.cons (c2.vr (i := 0) rfl) (.cons (c3.vr (i := 1) rfl) (.nil)))))).mono fun e W' ⟨he, bel⟩ => ?_
  subst he
  exact ⟨_, rfl, _, _, _, [], _, [], hW', trodAll_mk1 (shut_bool Try.underlying4 _), (trodAll_cons_mk (shut_int Try.underlying3 w0) (trodAll_cons_mk (shut_int Try.underlying3 w1) (trodAll_cons_mk (Below.trod laidOut (by kernel_rfl) (of_decide_eq_true (by kernel_rfl)) k2 bel lt2) (trodAll_cons_mk (Below.trod laidOut (by kernel_rfl) (of_decide_eq_true (by kernel_rfl)) k3 bel lt3) trodAll_mk0)))), rfl, bel.frame _, fun h => by cases h⟩
theorem over : Rows.rollTellsRow.holds Try.pinned (OpenSpec.ofChange Rows.rollTellsSpec) :=
  OpenClaim.holds_of_wide 6 Try.f6 rfl rfl rfl rfl rfl rfl rfl ⟨rfl, rfl, rfl, rfl, rfl⟩ rfl rfl rfl rfl rfl (by kernel_rfl) Try.func6 (by kernel_rfl)
    (of_decide_eq_true (by kernel_rfl)) (by unfold Func.isWrapper; first | (rw [if_pos (by decide +kernel)]; kernel_rfl) | (rw [if_neg (by decide +kernel)]; exact ⟨rfl, rfl⟩))
    (fun os started H enc _ => lifted os started H enc)
theorem proved : Rows.RollTellsSaid := over
end Go.Proofs.Ytfbdnmcncgbifaa.rollTells
namespace Go.Proofs.Ytfbdnmcncgbifaa
theorem rollTells_holds : Rows.RollTellsSaid := rollTells.proved
end Go.Proofs.Ytfbdnmcncgbifaa
