/- Any slab, any calls: each answer is as the document says. No condition. -/
import Derived.Test.YtjkbkofgdikmcaaRows
import Derived.Test.YtjkbkofgdikmcaaF1
import Derived.Test.YtjkbkofgdikmcaaGSlabTells1
namespace Go.Proofs.Ytjkbkofgdikmcaa.slabTells
open Go.ChangeShapes Go.WideShapes Go.ChangeAt Go.RowKit Go.Ev
open Go.ChangeMaps (open_string shut_string)
set_option linter.unusedVariables false
theorem own : ownKnob Try.prog.godebug = none := by kernel_rfl
theorem laidOut : laidOutB Try.prog = true := by kernel_rfl
theorem good : Go.Ev.goodB Try.prog = true := by kernel_rfl
set_option maxRecDepth 100000 in
theorem lifted (os : Os) (started : os.Started) (H : Type) (enc : TypeId × Value → H) :
    ReturnsInHanded {} Try.checked os 7 .any (Rows.slabTellsSpec.pre6 enc Try.prog Try.f7 Rows.slabTellsRow.domain false) (Rows.slabTellsSpec.post enc Try.prog Try.f7 false true false false) := by
  refine returnsInHanded_of_change_sized (C := Try.checked) own started (by kernel_rfl) Try.func7
    (ChangeSpec.witness6 (enc := enc) (C := Try.checked) false ⟨#[], #[.int .i64 0, .slice none 0 0], []⟩ 8 (by kernel_rfl) (by kernel_rfl) (by kernel_rfl) (by kernel_rfl)) ?_
  intro W base args ds gs before hval0 hW hcnd hsz0 _
  have hsz : (DataW.weightsEach Try.prog (Try.f7.params.toList ++ Rows.slabTellsSpec.plain.varTypes Try.prog) (ds ++ gs)).all (· ≤ reachBytes) = true := hsz0
  have hval : ∀ (j : Nat) t v, Try.f7.params[j]? = some t → args[j]? = some v → Value.okWide Try.prog W .any base t v := hval0
  have hW' := hW
  obtain ⟨p, q, hA0, hV, rfl, hfz, hnd⟩ := hW
  have hA : DataW.TrodAll enc Try.prog W 0 (fun _ => true) true Try.f7.params.toList args.toList ds p := hA0
  rw [Try.params7] at hA hval hsz
  obtain ⟨v0, vs0, d0, ds0, p0, q0, hargs, rfl, rfl, h0, r0⟩ := trodAll_cons hA
  obtain ⟨v1, vs1, d1, ds1, p1, q1, rfl, rfl, rfl, h1, r1⟩ := trodAll_cons r0
  obtain ⟨rfl, rfl, rfl⟩ := trodAll_nil r1
  obtain rfl : args = #[v0, v1] := by cases args; simp_all
  obtain ⟨rfl, rfl⟩ := trodVars_none hV
  obtain ⟨a0, rfl, rfl, rfl, w0⟩ := open_int Try.underlying3 (hval 0 3 v0 rfl rfl) h0
  have k1 := h1
  have lt1 : ∀ x ∈ p1, x.block < W.heap.size := by obtain ⟨m, hm⟩ := k1; exact DataW.trod_lt m _ _ _ hm
  have wt1 : ∀ m ∈ d1.weights Try.prog 36, m ≤ 140737488351232 := fun m hm => by have h := List.all_eq_true.1 hsz _ (DataW.weights_mem_each (j := 1) (t := 36) rfl rfl m hm); rw [show reachBytes = 140737488351232 by decide] at h; simpa using h
  obtain ⟨rows1, c1⟩ := open_rowsB Try.underlying36 Try.underlying42 (by decide +kernel) (by kernel_rfl) (of_decide_eq_true (by kernel_rfl)) (hval 1 36 v1 rfl rfl) h1 wt1
  clear hA0 hval0 hsz0 hsz
  have hβ := betaB_ok c1
  have walk := Go.Ev.tells6_walk (initC_wf (bsB rows1)) (i64_wf w0) c1.sl c1.each (by rw [canRows_len]; exact c1.len)
  refine (calls_of_cw (goodB_good good) Try.func7 rfl (args := [.int .i64 a0, canV 0 v1]) walk (W := W) hβ (args' := #[.int .i64 a0, v1]) (.cons (.int _ _) (.cons (c1.vr) (.nil)))).mono fun e W' ⟨he, bel⟩ => ?_
  subst he
  exact ⟨_, rfl, _, _, _, [], _, [], hW', trodAll_mk1 (shut_bool Try.underlying4 _), (trodAll_cons_mk (shut_int Try.underlying3 w0) (trodAll_cons_mk (Below.trod laidOut (by kernel_rfl) (of_decide_eq_true (by kernel_rfl)) k1 bel lt1) trodAll_mk0)), rfl, bel.frame _, fun h => by cases h⟩
theorem over : Rows.slabTellsRow.holds Try.pinned (OpenSpec.ofChange Rows.slabTellsSpec) :=
  OpenClaim.holds_of_wide 7 Try.f7 rfl rfl rfl rfl rfl rfl rfl ⟨rfl, rfl, rfl, rfl, rfl⟩ rfl rfl rfl rfl rfl (by kernel_rfl) Try.func7 (by kernel_rfl)
    (of_decide_eq_true (by kernel_rfl)) (by unfold Func.isWrapper; first | (rw [if_pos (by decide +kernel)]; kernel_rfl) | (rw [if_neg (by decide +kernel)]; exact ⟨rfl, rfl⟩))
    (fun os started H enc _ => lifted os started H enc)
theorem proved : Rows.SlabTellsSaid := over
end Go.Proofs.Ytjkbkofgdikmcaa.slabTells
namespace Go.Proofs.Ytjkbkofgdikmcaa
theorem slabTells_holds : Rows.SlabTellsSaid := slabTells.proved
end Go.Proofs.Ytjkbkofgdikmcaa
