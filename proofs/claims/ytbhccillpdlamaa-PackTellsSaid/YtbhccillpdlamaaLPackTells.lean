/- Any number's bytes, any bytes as a number or a text, are as the document says. No condition. -/
import Derived.Test.YtbhccillpdlamaaRows
import Derived.Test.YtbhccillpdlamaaF1
import Derived.Test.YtbhccillpdlamaaK9
namespace Go.Proofs.Ytbhccillpdlamaa.packTells
open Go.ChangeShapes Go.WideShapes Go.ChangeAt Go.RowKit Go.Ev
open Go.ChangeMaps (open_string shut_string)
set_option linter.unusedVariables false
theorem own : ownKnob Try.prog.godebug = none := by kernel_rfl
theorem laidOut : laidOutB Try.prog = true := by kernel_rfl
theorem good : Go.Ev.goodB Try.prog = true := by kernel_rfl
set_option maxRecDepth 100000 in
theorem lifted (os : Os) (started : os.Started) (H : Type) (enc : TypeId × Value → H) :
    ReturnsInHanded {} Try.checked os 9 .any (Rows.packTellsSpec.pre6 enc Try.prog Try.f9 Rows.packTellsRow.domain false) (Rows.packTellsSpec.post enc Try.prog Try.f9 false true false false) := by
  refine returnsInHanded_of_change_sized (C := Try.checked) own started (by kernel_rfl) Try.func9
    (ChangeSpec.witness6 (enc := enc) (C := Try.checked) false ⟨#[], #[.int .i64 0, .int .i64 0, .slice none 0 0, .string ⟨#[]⟩, .int .i64 0, .int .i64 0, .int .u8 0], []⟩ 8 (by kernel_rfl) (by kernel_rfl) (by kernel_rfl) (by kernel_rfl)) ?_
  intro W base args ds gs before hval0 hW hcnd hsz0 _
  have hsz : (DataW.weightsEach Try.prog (Try.f9.params.toList ++ Rows.packTellsSpec.plain.varTypes Try.prog) (ds ++ gs)).all (· ≤ reachBytes) = true := hsz0
  have hval : ∀ (j : Nat) t v, Try.f9.params[j]? = some t → args[j]? = some v → Value.okWide Try.prog W .any base t v := hval0
  have hW' := hW
  obtain ⟨p, q, hA0, hV, rfl, hfz, hnd⟩ := hW
  have hA : DataW.TrodAll enc Try.prog W 0 (fun _ => true) true Try.f9.params.toList args.toList ds p := hA0
  rw [Try.params9] at hA hval hsz
  obtain ⟨v0, vs0, d0, ds0, p0, q0, hargs, rfl, rfl, h0, r0⟩ := trodAll_cons hA
  obtain ⟨v1, vs1, d1, ds1, p1, q1, rfl, rfl, rfl, h1, r1⟩ := trodAll_cons r0
  obtain ⟨v2, vs2, d2, ds2, p2, q2, rfl, rfl, rfl, h2, r2⟩ := trodAll_cons r1
  obtain ⟨v3, vs3, d3, ds3, p3, q3, rfl, rfl, rfl, h3, r3⟩ := trodAll_cons r2
  obtain ⟨v4, vs4, d4, ds4, p4, q4, rfl, rfl, rfl, h4, r4⟩ := trodAll_cons r3
  obtain ⟨v5, vs5, d5, ds5, p5, q5, rfl, rfl, rfl, h5, r5⟩ := trodAll_cons r4
  obtain ⟨v6, vs6, d6, ds6, p6, q6, rfl, rfl, rfl, h6, r6⟩ := trodAll_cons r5
  obtain ⟨rfl, rfl, rfl⟩ := trodAll_nil r6
  obtain rfl : args = #[v0, v1, v2, v3, v4, v5, v6] := by cases args; simp_all
  obtain ⟨rfl, rfl⟩ := trodVars_none hV
  obtain ⟨a0, rfl, rfl, rfl, w0⟩ := open_int Try.underlying3 (hval 0 3 v0 rfl rfl) h0
  obtain ⟨a1, rfl, rfl, rfl, w1⟩ := open_int Try.underlying3 (hval 1 3 v1 rfl rfl) h1
  have k2 := h2
  have lt2 : ∀ x ∈ p2, x.block < W.heap.size := by obtain ⟨m, hm⟩ := k2; exact DataW.trod_lt m _ _ _ hm
  obtain ⟨z2, c2, w2⟩ := open_row Try.underlying26 Try.underlying5 (by kernel_rfl) (hval 2 26 v2 rfl rfl) h2
  have y2 := c2.len hsz (j := 2) (t := 26) rfl rfl Try.underlying26 Try.underlying5 (by kernel_rfl) (of_decide_eq_true (by kernel_rfl)) h2
  obtain ⟨l2, hl2, hz2⟩ := u8_bytes w2
  rw [hl2, ← hz2] at c2
  rw [← hz2] at y2
  obtain ⟨a3, rfl, rfl, rfl, m3⟩ := open_string Try.underlying9 (hval 3 9 v3 rfl rfl) h3
  have y3 : (bs a3).length ≤ 140737488351232 := by have h := sized_string hsz (j := 3) (t := 9) rfl rfl; rw [show reachBytes = 140737488351232 by decide] at h; exact h
  obtain ⟨a4, rfl, rfl, rfl, w4⟩ := open_int Try.underlying3 (hval 4 3 v4 rfl rfl) h4
  obtain ⟨a5, rfl, rfl, rfl, w5⟩ := open_int Try.underlying3 (hval 5 3 v5 rfl rfl) h5
  obtain ⟨a6, rfl, rfl, rfl, w6⟩ := open_int Try.underlying5 (hval 6 5 v6 rfl rfl) h6
  clear hA0 hval0 hsz0 hsz
  have hβ : ∀ (i : Nat) (v : Value) (e : Nat), ([(v2, 1)] : List (Value × Nat))[i]? = some (v, e) → ∃ n cs, ([(byteVals l2, 1)] : List (List Value × Nat))[i]? = some (cs, e) ∧ CArg W v e n cs := by
    intro i v e hi
    rcases i with _ | i
    · simp at hi; obtain ⟨rfl, rfl⟩ := hi; exact ⟨_, _, rfl, c2⟩
    · simp at hi
  have walk := Go.Ev.tells_walk (s := initC [(byteVals l2, 1)]) (initC_wf _) (i64_wf w0) (i64_wf w1) (c2.sl (i := 0) rfl) y2 y3 (i64_wf w4) (i64_wf w5) (u8_wf w6)
  refine (calls_of_cw (goodB_good good) Try.func9 rfl (args := [.int .i64 a0, .int .i64 a1, canV 0 v2, .string a3, .int .i64 a4, .int .i64 a5, .int .u8 a6]) walk (W := W) (beta_ok hβ) (args' := #[.int .i64 a0, .int .i64 a1, v2, .string a3, .int .i64 a4, .int .i64 a5, .int .u8 a6]) (.cons (.int _ _) (.cons (.int _ _) (.cons (c2.vr (i := 0) rfl) (.cons (.string _) (.cons (.int _ _) (.cons (.int _ _) (.cons (.int _ _) (.nil))))))))).mono fun e W' ⟨he, bel⟩ => ?_
  subst he
  exact ⟨_, rfl, _, _, _, [], _, [], hW', trodAll_mk1 (shut_bool Try.underlying4 _), (trodAll_cons_mk (shut_int Try.underlying3 w0) (trodAll_cons_mk (shut_int Try.underlying3 w1) (trodAll_cons_mk (Below.trod laidOut (by kernel_rfl) (of_decide_eq_true (by kernel_rfl)) k2 bel lt2) (trodAll_cons_mk (shut_string Try.underlying9 m3) (trodAll_cons_mk (shut_int Try.underlying3 w4) (trodAll_cons_mk (shut_int Try.underlying3 w5) (trodAll_cons_mk (shut_int Try.underlying5 w6) trodAll_mk0))))))), rfl, bel.frame _, fun h => by cases h⟩
theorem over : Rows.packTellsRow.holds Try.pinned (OpenSpec.ofChange Rows.packTellsSpec) :=
  OpenClaim.holds_of_wide 9 Try.f9 rfl rfl rfl rfl rfl rfl rfl ⟨rfl, rfl, rfl, rfl, rfl⟩ rfl rfl rfl rfl rfl (by kernel_rfl) Try.func9 (by kernel_rfl)
    (of_decide_eq_true (by kernel_rfl)) (by unfold Func.isWrapper; first | (rw [if_pos (by decide +kernel)]; kernel_rfl) | (rw [if_neg (by decide +kernel)]; exact ⟨rfl, rfl⟩))
    (fun os started H enc _ => lifted os started H enc)
theorem proved : Rows.PackTellsSaid := over
end Go.Proofs.Ytbhccillpdlamaa.packTells
namespace Go.Proofs.Ytbhccillpdlamaa
theorem packTells_holds : Rows.PackTellsSaid := packTells.proved
end Go.Proofs.Ytbhccillpdlamaa
