/- Numbers and texts, one behind the other, are read the same, each of its own bytes alone; what is in front, and behind, stays. No condition. -/
import Derived.Test.YtbhccillpdlamaaRows
import Derived.Test.YtbhccillpdlamaaBk
import Derived.Test.YtbhccillpdlamaaK7
namespace Go.Proofs.Ytbhccillpdlamaa.packBack
open Go.ChangeShapes Go.WideShapes Go.ChangeAt Go.RowKit Go.Ev
open Go.ChangeMaps (open_string shut_string)
set_option linter.unusedVariables false
theorem own : ownKnob Try.prog.godebug = none := by kernel_rfl
theorem laidOut : laidOutB Try.prog = true := by kernel_rfl
theorem good : Go.Ev.goodB Try.prog = true := by kernel_rfl
set_option maxRecDepth 100000 in
theorem lifted (os : Os) (started : os.Started) (H : Type) (enc : TypeId × Value → H) (Fi : Stop.Interp) :
    ReturnsInHanded {} Try.checked os 10 .any ((Rows.OpenSpec.upto Rows.packBackSpec).pre6 enc Try.prog Try.f10 Rows.packBackUptoRow.domain false) (((Rows.OpenSpec.upto Rows.packBackSpec).at Fi).post enc Try.prog Try.f10 false true false false) := by
  refine returnsInHanded_of_cond (C := Try.checked) (s := Rows.OpenSpec.upto Rows.packBackSpec) (k := Rows.uptoSmall) rfl own started (by kernel_rfl) Try.func10
    (OpenSpec.witness (enc := enc) (C := Try.checked) (s := Rows.OpenSpec.upto Rows.packBackSpec) (k := Rows.uptoSmall) rfl false ⟨#[], #[.slice none 0 0, .slice none 0 0, .slice none 0 0, .slice none 0 0], []⟩ 8 (by kernel_rfl) (by kernel_rfl) (by kernel_rfl)
      (x := ([.nil, .nil, .nil, .nil], [], [])) (by kernel_rfl) rfl (by kernel_rfl)) ?_
  intro W base args ds gs before hval0 hW _ hk _
  show Calls Try.prog 10 args W fun e W' => ∃ v, e = .returned v ∧ Rows.packBackSpec.post enc Try.prog Try.f10 false true false false W args v W'
  have hval : ∀ (j : Nat) t v, Try.f10.params[j]? = some t → args[j]? = some v → Value.okWide Try.prog W .any base t v := hval0
  have hW' := hW
  obtain ⟨p, q, hA0, hV, rfl, hfz, hnd⟩ := hW
  have hA : DataW.TrodAll enc Try.prog W 0 (fun _ => true) true Try.f10.params.toList args.toList ds p := hA0
  rw [Try.params10] at hA hval
  obtain ⟨v0, vs0, d0, ds0, p0, q0, hargs, rfl, rfl, h0, r0⟩ := trodAll_cons hA
  obtain ⟨v1, vs1, d1, ds1, p1, q1, rfl, rfl, rfl, h1, r1⟩ := trodAll_cons r0
  obtain ⟨v2, vs2, d2, ds2, p2, q2, rfl, rfl, rfl, h2, r2⟩ := trodAll_cons r1
  obtain ⟨v3, vs3, d3, ds3, p3, q3, rfl, rfl, rfl, h3, r3⟩ := trodAll_cons r2
  obtain ⟨rfl, rfl, rfl⟩ := trodAll_nil r3
  obtain rfl : args = #[v0, v1, v2, v3] := by cases args; simp_all
  obtain ⟨rfl, rfl⟩ := trodVars_none hV
  have hbulk : Rows.uptoBulkAll [d0, d1, d2, d3] ≤ 1048576 := Bk.bound hk
  simp only [Rows.uptoBulkAll] at hbulk
  have k0 := h0
  have lt0 : ∀ x ∈ p0, x.block < W.heap.size := by obtain ⟨m, hm⟩ := k0; exact DataW.trod_lt m _ _ _ hm
  obtain ⟨z0, c0, w0⟩ := open_row Try.underlying43 Try.underlying3 (by kernel_rfl) (hval 0 43 v0 rfl rfl) h0
  have b0 := Bk.row_le (row_datum Try.underlying43 Try.underlying3 (by kernel_rfl) c0 h0)
  have y0 : z0.length ≤ 1048576 := by omega
  have k1 := h1
  have lt1 : ∀ x ∈ p1, x.block < W.heap.size := by obtain ⟨m, hm⟩ := k1; exact DataW.trod_lt m _ _ _ hm
  obtain ⟨z1, c1, w1⟩ := open_strs Try.underlying44 Try.underlying9 (by kernel_rfl) (hval 1 44 v1 rfl rfl) h1
  have b1 := Bk.strs_le w1
  have y1 : sumLen z1 ≤ 1048576 := by omega
  have x1 : z1.length ≤ 1048576 := by omega
  have k2 := h2
  have lt2 : ∀ x ∈ p2, x.block < W.heap.size := by obtain ⟨m, hm⟩ := k2; exact DataW.trod_lt m _ _ _ hm
  obtain ⟨z2, c2, w2⟩ := open_row Try.underlying26 Try.underlying5 (by kernel_rfl) (hval 2 26 v2 rfl rfl) h2
  have b2 := Bk.row_le (row_datum Try.underlying26 Try.underlying5 (by kernel_rfl) c2 h2)
  have y2 : z2.length ≤ 1048576 := by omega
  obtain ⟨l2, hl2, hz2⟩ := u8_bytes w2
  rw [hl2, ← hz2] at c2
  rw [← hz2] at y2
  have k3 := h3
  have lt3 : ∀ x ∈ p3, x.block < W.heap.size := by obtain ⟨m, hm⟩ := k3; exact DataW.trod_lt m _ _ _ hm
  obtain ⟨z3, c3, w3⟩ := open_row Try.underlying26 Try.underlying5 (by kernel_rfl) (hval 3 26 v3 rfl rfl) h3
  have b3 := Bk.row_le (row_datum Try.underlying26 Try.underlying5 (by kernel_rfl) c3 h3)
  have y3 : z3.length ≤ 1048576 := by omega
  obtain ⟨l3, hl3, hz3⟩ := u8_bytes w3
  rw [hl3, ← hz3] at c3
  rw [← hz3] at y3
  clear hA0 hval0
  have hβ : ∀ (i : Nat) (v : Value) (e : Nat), ([(v0, 1), (v1, 1), (v2, 1), (v3, 1)] : List (Value × Nat))[i]? = some (v, e) → ∃ n cs, ([(z0.map (Value.int .i64), 1), (z1.map Value.string, 1), (byteVals l2, 1), (byteVals l3, 1)] : List (List Value × Nat))[i]? = some (cs, e) ∧ CArg W v e n cs := by
    intro i v e hi
    rcases i with _ | i
    · simp at hi; obtain ⟨rfl, rfl⟩ := hi; exact ⟨_, _, rfl, c0⟩
    rcases i with _ | i
    · simp at hi; obtain ⟨rfl, rfl⟩ := hi; exact ⟨_, _, rfl, c1⟩
    rcases i with _ | i
    · simp at hi; obtain ⟨rfl, rfl⟩ := hi; exact ⟨_, _, rfl, c2⟩
    rcases i with _ | i
    · simp at hi; obtain ⟨rfl, rfl⟩ := hi; exact ⟨_, _, rfl, c3⟩
    · simp at hi
  have walk := Go.Ev.packBack_walk (s := initC [(z0.map (Value.int .i64), 1), (z1.map Value.string, 1), (byteVals l2, 1), (byteVals l3, 1)]) (initC_wf _) (c0.sl (i := 0) rfl) y0 (fun n hn => i64_wf (w0 n hn)) (c1.sl (i := 1) rfl) y1 x1 (c2.sl (i := 2) rfl) y2 (c3.sl (i := 3) rfl) y3
  refine (calls_of_cw (goodB_good good) Try.func10 rfl (args := [canV 0 v0, canV 1 v1, canV 2 v2, canV 3 v3]) walk (W := W) (beta_ok hβ) (args' := #[v0, v1, v2, v3]) (.cons (c0.vr (i := 0) rfl) (.cons (c1.vr (i := 1) rfl) (.cons (c2.vr (i := 2) rfl) (.cons (c3.vr (i := 3) rfl) (.nil)))))).mono fun e W' ⟨he, bel⟩ => ?_
  subst he
  exact ⟨_, rfl, _, _, _, [], _, [], hW', trodAll_mk1 (shut_bool Try.underlying4 _), (trodAll_cons_mk (Below.trod laidOut (by kernel_rfl) (of_decide_eq_true (by kernel_rfl)) k0 bel lt0) (trodAll_cons_mk (Below.trod laidOut (by kernel_rfl) (of_decide_eq_true (by kernel_rfl)) k1 bel lt1) (trodAll_cons_mk (Below.trod laidOut (by kernel_rfl) (of_decide_eq_true (by kernel_rfl)) k2 bel lt2) (trodAll_cons_mk (Below.trod laidOut (by kernel_rfl) (of_decide_eq_true (by kernel_rfl)) k3 bel lt3) trodAll_mk0)))), rfl, bel.frame _, fun h => by cases h⟩
theorem over : Rows.packBackUptoRow.holds Try.pinned (Rows.OpenSpec.upto Rows.packBackSpec) :=
  OpenClaim.holds_of_cond 10 Try.f10 rfl rfl rfl rfl rfl rfl rfl ⟨rfl, rfl, rfl, rfl, rfl⟩ rfl rfl rfl rfl rfl (by kernel_rfl) Try.func10 (by kernel_rfl)
    (of_decide_eq_true (by kernel_rfl)) (by unfold Func.isWrapper; first | (rw [if_pos (by decide +kernel)]; kernel_rfl) | (rw [if_neg (by decide +kernel)]; exact ⟨rfl, rfl⟩))
    (fun os started H enc _ F => lifted os started H enc F)
theorem proved : Rows.PackBackUptoSaid := over
end Go.Proofs.Ytbhccillpdlamaa.packBack
namespace Go.Proofs.Ytbhccillpdlamaa
theorem packBackUpto_holds : Rows.PackBackUptoSaid := packBack.proved
end Go.Proofs.Ytbhccillpdlamaa
