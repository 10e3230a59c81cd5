/- What RollRooms says of a roll's room. No condition. -/
import Derived.Test.YtfbdnmcncgbifaaRows
import Derived.Test.YtfbdnmcncgbifaaF1
import Derived.Test.YtfbdnmcncgbifaaR11
import Derived.Test.YtfbdnmcncgbifaaF4
namespace Go.Proofs.Ytfbdnmcncgbifaa.rollRooms
open Go.ChangeShapes Go.WideShapes Go.ChangeAt Go.RowKit Go.Ev
open Go.ChangeMaps (open_string shut_string)
set_option linter.unusedVariables false
theorem own : ownKnob Try.prog.godebug = none := by kernel_rfl
theorem laidOut : laidOutB Try.prog = true := by kernel_rfl
theorem good : Go.Ev.goodB Try.prog = true := by kernel_rfl
set_option maxRecDepth 100000 in
theorem lifted (os : Os) (started : os.Started) (H : Type) (enc : TypeId × Value → H) :
    ReturnsInHanded {} Try.checked os 4 .any (Rows.rollRoomsSpec.pre6 enc Try.prog Try.f4 Rows.rollRoomsRow.domain false) (Rows.rollRoomsSpec.post enc Try.prog Try.f4 false true false false) := by
  refine returnsInHanded_of_change_sized (C := Try.checked) own started (by kernel_rfl) Try.func4
    (ChangeSpec.witness6 (enc := enc) (C := Try.checked) false ⟨#[], #[.int .i64 0, .slice none 0 0], []⟩ 8 (by kernel_rfl) (by kernel_rfl) (by kernel_rfl) (by kernel_rfl)) ?_
  intro W base args ds gs before hval0 hW hcnd hsz0 _
  have hsz : (DataW.weightsEach Try.prog (Try.f4.params.toList ++ Rows.rollRoomsSpec.plain.varTypes Try.prog) (ds ++ gs)).all (· ≤ reachBytes) = true := hsz0
  have hval : ∀ (j : Nat) t v, Try.f4.params[j]? = some t → args[j]? = some v → Value.okWide Try.prog W .any base t v := hval0
  have hW' := hW
  obtain ⟨p, q, hA0, hV, rfl, hfz, hnd⟩ := hW
  have hA : DataW.TrodAll enc Try.prog W 0 (fun _ => true) true Try.f4.params.toList args.toList ds p := hA0
  rw [Try.params4] at hA hval hsz
  obtain ⟨v0, vs0, d0, ds0, p0, q0, hargs, rfl, rfl, h0, r0⟩ := trodAll_cons hA
  obtain ⟨v1, vs1, d1, ds1, p1, q1, rfl, rfl, rfl, h1, r1⟩ := trodAll_cons r0
  obtain ⟨rfl, rfl, rfl⟩ := trodAll_nil r1
  obtain rfl : args = #[v0, v1] := by cases args; simp_all
  obtain ⟨rfl, rfl⟩ := trodVars_none hV
  obtain ⟨a0, rfl, rfl, rfl, w0⟩ := open_int Try.underlying3 (hval 0 3 v0 rfl rfl) h0
  have k1 := h1
  have lt1 : ∀ x ∈ p1, x.block < W.heap.size := by obtain ⟨m, hm⟩ := k1; exact DataW.trod_lt m _ _ _ hm
  obtain ⟨z1, c1, w1⟩ := open_strs Try.underlying22 Try.underlying9 (by kernel_rfl) (hval 1 22 v1 rfl rfl) h1
  have wt1 : ∀ m ∈ d1.weights Try.prog 22, m ≤ 140737488351232 := fun m hm => by have h := List.all_eq_true.1 hsz _ (DataW.weights_mem_each (j := 1) (t := 22) rfl rfl m hm); rw [show reachBytes = 140737488351232 by decide] at h; simpa using h
  obtain ⟨y1, x1⟩ := strs_small Try.underlying22 (of_decide_eq_true (by kernel_rfl)) w1 wt1
  clear hA0 hval0 hsz0 hsz
  have hβ : ∀ (i : Nat) (v : Value) (e : Nat), ([(v1, 1)] : List (Value × Nat))[i]? = some (v, e) → ∃ n cs, ([(z1.map Value.string, 1)] : List (List Value × Nat))[i]? = some (cs, e) ∧ CArg W v e n cs := by
    intro i v e hi
    rcases i with _ | i
    · simp at hi; obtain ⟨rfl, rfl⟩ := hi; exact ⟨_, _, rfl, c1⟩
    · simp at hi
  have walk := Go.Ev.rooms_walk (initC_wf [(z1.map Value.string, 1)]) (i64_wf w0) (c1.sl (i := 0) rfl) y1 x1
  refine (calls_of_cw (goodB_good good) Try.func4 rfl (args := [.int .i64 a0, canV 0 v1]) walk (W := W) (beta_ok hβ) (args' := #[.int .i64 a0, v1]) (.cons (.int _ _) (.cons (c1.vr (i := 0) rfl) (.nil)))).mono fun e W' ⟨he, bel⟩ => ?_
  subst he
  exact ⟨_, rfl, _, _, _, [], _, [], hW', trodAll_mk1 (shut_bool Try.underlying4 _), (trodAll_cons_mk (shut_int Try.underlying3 w0) (trodAll_cons_mk (Below.trod laidOut (by kernel_rfl) (of_decide_eq_true (by kernel_rfl)) k1 bel lt1) trodAll_mk0)), rfl, bel.frame _, fun h => by cases h⟩
theorem over : Rows.rollRoomsRow.holds Try.pinned (OpenSpec.ofChange Rows.rollRoomsSpec) :=
  OpenClaim.holds_of_wide 4 Try.f4 rfl rfl rfl rfl rfl rfl rfl ⟨rfl, rfl, rfl, rfl, rfl⟩ rfl rfl rfl rfl rfl (by kernel_rfl) Try.func4 (by kernel_rfl)
    (of_decide_eq_true (by kernel_rfl)) (by unfold Func.isWrapper; first | (rw [if_pos (by decide +kernel)]; kernel_rfl) | (rw [if_neg (by decide +kernel)]; exact ⟨rfl, rfl⟩))
    (fun os started H enc _ => lifted os started H enc)
theorem proved : Rows.RollRoomsSaid := over
end Go.Proofs.Ytfbdnmcncgbifaa.rollRooms
namespace Go.Proofs.Ytfbdnmcncgbifaa
theorem rollRooms_holds : Rows.RollRoomsSaid := rollRooms.proved
end Go.Proofs.Ytfbdnmcncgbifaa
