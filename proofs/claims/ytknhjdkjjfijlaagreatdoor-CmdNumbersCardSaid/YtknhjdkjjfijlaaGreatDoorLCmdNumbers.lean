/- Numbers of one or two digits are read as they are, whichever verb; of three, below nought, none is; rates are read and printed as they are. No condition but what the card lists. -/
import Derived.Test.YtknhjdkjjfijlaaGreatDoorCards
import Derived.Test.YtknhjdkjjfijlaaGreatDoorTie
import Derived.Test.YtknhjdkjjfijlaaGreatDoorKCmdNumbersF1
import Derived.Test.YtknhjdkjjfijlaaGreatDoorGCmdNumbers3
import Derived.Deep.DeepHandedRow
namespace Go.Proofs.YtknhjdkjjfijlaaGreatDoor.cmdNumbers
open Go.ChangeShapes Go.WideShapes Go.ChangeAt Go.RowKit Go.Ev
open Go.ChangeMaps (open_string shut_string)
set_option linter.unusedVariables false
local instance lk : Go.Ev.Lk := Go.Ev.lkT 0 4 5 1
theorem own : ownKnob Tryz.prog.godebug = none := by kernel_rfl
theorem laidOut : laidOutB Tryz.prog = true := by kernel_rfl
theorem good : Go.Ev.goodB Tryz.prog = true := by kernel_rfl
/-- The cells of a plain datum. -/
def flatD : Nat → DataW Unit → List Value
  | 0, _ => []
  | _ + 1, .lit l => [l.toCell]
  | n + 1, .agg ds => ds.flatMap (flatD n)
  | _ + 1, _ => []
noncomputable def low : Nat := (World.holding Tryz.prog default ⟨#[], #[], []⟩).heap.size
theorem star : "*" ++ "errors.errorString" = "*errors.errorString" := by decide
theorem rowE (u : TypeId) (h : Tryz.prog.typeName? 3 u = some "*errors.errorString") : u = 242 :=
  typeName_ptr_named (nm := "errors.errorString") (by rw [star]; kernel_rfl) (by kernel_rfl) (by decide) u (by rw [star]; exact h)
theorem sent (n : String) (g : Nat) (text : List UInt8) (hg : Tryz.prog.globalNamed n = some g) (ht : (Tryz.prog.globals[g]?).map (·.type) = some 161) (hr : ((Rows.cmdNumbersRow.laid.filter fun x => x.1 == n).filter fun x => x.2.handleName?.isNone) = [(n, .iface "*errors.errorString" (.ptr (.agg [.lit (.string text)])))]) {W : World}
    (hL : laidMetH Tryz.prog Rows.cmdNumbersRow.laid W) : ∃ (v : Value) (t : TypeId) (fr : Nat × Nat), W.heap[g]? = some (.cells #[.iface 242 v] t fr) := by
  have L1 := (laidMetH_iff.1 (laidMetH.filter (fun x => x.1 == n) hL)).1
  rw [hr] at L1
  obtain ⟨a0, s0, hv0, -, -, -⟩ := laid_sentinel L1 hg ht Tryz.underlying161 rowE Tryz.underlying242 Tryz.underlying244 rfl rfl Tryz.underlying9 (by kernel_rfl) (by kernel_rfl)
  obtain ⟨t, fr, h⟩ := var_heap hg hv0
  exact ⟨_, t, fr, h⟩
theorem tabl {W : World} (hL : laidMetH Tryz.prog Rows.cmdNumbersRow.laid W) : ∃ (C : Array Value) (t : TypeId) (fr : Nat × Nat), W.heap[1]? = some (.cells C t fr) ∧ ∀ j, j < 20 → C[j]? = p10C[j]? := by
  have L1 := (laidMetH_iff.1 (laidMetH.filter (fun x => x.1 == "internal/strconv.uint64pow10") hL)).1
  rw [show ((Rows.cmdNumbersRow.laid.filter fun x => x.1 == "internal/strconv.uint64pow10").filter fun x => x.2.handleName?.isNone) = [("internal/strconv.uint64pow10", .agg (tens.map fun n => .lit (.int .u64 n)))] by kernel_rfl] at L1
  obtain ⟨C, t, fr, h1, h2⟩ := tab_heap (ns := tens) (by decide) L1 (by kernel_rfl) (by kernel_rfl)
  exact ⟨C, t, fr, h1, fun j hj => by rw [h2 j hj, p10_get j hj]⟩
/-- A world for the witness: the listed variables hold what their texts lay. -/
noncomputable def laidWorld (os : Os) : World :=
  { (World.holding Tryz.prog os ⟨#[.cells #[.string ⟨#[118, 97, 108, 117, 101, 32, 111, 117, 116, 32, 111, 102, 32, 114, 97, 110, 103, 101]⟩] 244, .cells #[.string ⟨#[105, 110, 118, 97, 108, 105, 100, 32, 115, 121, 110, 116, 97, 120]⟩] 244], #[], []⟩) with heap := ((((((((World.holding Tryz.prog os ⟨#[.cells #[.string ⟨#[118, 97, 108, 117, 101, 32, 111, 117, 116, 32, 111, 102, 32, 114, 97, 110, 103, 101]⟩] 244, .cells #[.string ⟨#[105, 110, 118, 97, 108, 105, 100, 32, 115, 121, 110, 116, 97, 120]⟩] 244], #[], []⟩).heap.modify 6 fun
      | .cells _ t frozen => .cells (flatD 8 (Rows.laid_math_bits_deBruijn32tab : DataW Unit)).toArray t frozen
      | o => o).modify 7 fun
      | .cells _ t frozen => .cells (flatD 8 (Rows.laid_math_bits_deBruijn64tab : DataW Unit)).toArray t frozen
      | o => o).modify 1 fun
      | .cells _ t frozen => .cells (flatD 8 (Rows.laid_internal_strconv_uint64pow10 : DataW Unit)).toArray t frozen
      | o => o).modify 3 fun
      | .cells _ t frozen => .cells (flatD 8 (Rows.laid_unicode_utf8_acceptRanges : DataW Unit)).toArray t frozen
      | o => o).modify 5 fun
      | .cells _ t frozen => .cells #[.iface 242 (.pointer (some ⟨low + 0, 0, none⟩))] t frozen
      | o => o).modify 4 fun
      | .cells _ t frozen => .cells #[.iface 242 (.pointer (some ⟨low + 1, 0, none⟩))] t frozen
      | o => o).modify 2 fun
      | .cells _ t frozen => .cells (flatD 8 (Rows.laid_unicode_utf8_first : DataW Unit)).toArray t frozen
      | o => o) }
theorem laid_met (os : Os) : laidMet Tryz.prog Rows.cmdNumbersRow.laid ((laidWorld os).forCall (fun _ _ => 0) ⟨#[], #[.int .i64 0, .int .i64 0, .int .i64 0, .int .i64 0, .int .i64 0], []⟩).memory :=
  laidMet_of_run' 8 (by kernel_rfl) (by kernel_rfl)
theorem reads (os : Os) {H : Type} (enc : TypeId × Value → H) : ∃ places, DataW.whole enc Tryz.prog ((laidWorld os).forCall (fun _ _ => 0) ⟨#[], #[.int .i64 0, .int .i64 0, .int .i64 0, .int .i64 0, .int .i64 0], []⟩).memory Tryz.f11.params.toList Rows.cmdNumbersSpec.vars false (#[.int .i64 0, .int .i64 0, .int .i64 0, .int .i64 0, .int .i64 0] : Array Value).toList 8 = some ([.lit (.int .i64 0), .lit (.int .i64 0), .lit (.int .i64 0), .lit (.int .i64 0), .lit (.int .i64 0)], [], places) :=
  ⟨[], by kernel_rfl⟩
set_option maxRecDepth 100000 in
theorem lifted (os : Os) (started : os.Started) (H : Type) (enc : TypeId × Value → H) (Fi : Stop.Interp) :
    ReturnsInHanded {} Tryz.checked os 11 .any ((OpenSpec.ofChange Rows.cmdNumbersSpec).preRow enc Tryz.prog Tryz.f11 Rows.cmdNumbersRow.domain false Rows.cmdNumbersRow.laid) (((OpenSpec.ofChange Rows.cmdNumbersSpec).at Fi).post enc Tryz.prog Tryz.f11 false true false false) := by
  obtain ⟨places, hx⟩ := reads os enc
  refine returnsInHanded_of_row (C := Tryz.checked) (s := (OpenSpec.ofChange Rows.cmdNumbersSpec)) own started (by kernel_rfl) Tryz.func11
    (witness_row_at (enc := enc) (C := Tryz.checked) false (laidWorld os) #[.int .i64 0, .int .i64 0, .int .i64 0, .int .i64 0, .int .i64 0] rfl (by kernel_rfl) (by kernel_rfl) (by kernel_rfl)
      (OpenSpec.preRow_of_cond 8 hx (by kernel_rfl) (fun k hk => by cases hk) (by kernel_rfl) (laid_met os))) ?_
  intro W base args ds gs before hval0 hW hcnd hk0 hsz0 hL _ _
  have hsz : (DataW.weightsEach Tryz.prog (Tryz.f11.params.toList ++ Rows.cmdNumbersSpec.plain.varTypes Tryz.prog) (ds ++ gs)).all (· ≤ reachBytes) = true := hsz0
  have hval : ∀ (j : Nat) t v, Tryz.f11.params[j]? = some t → args[j]? = some v → Value.okWide Tryz.prog W .any base t v := hval0
  have hW' := hW
  obtain ⟨p, q, hA0, hV, rfl, hfz, hnd⟩ := hW
  have hA : DataW.TrodAll enc Tryz.prog W 0 (fun _ => true) true Tryz.f11.params.toList args.toList ds p := hA0
  rw [Tryz.params11] at hA hval hsz
  obtain ⟨v0, vs0, d0, ds0, p0, q0, hargs, rfl, rfl, h0, r0⟩ := trodAll_cons hA
  obtain ⟨v1, vs1, d1, ds1, p1, q1, rfl, rfl, rfl, h1, r1⟩ := trodAll_cons r0
  obtain ⟨v2, vs2, d2, ds2, p2, q2, rfl, rfl, rfl, h2, r2⟩ := trodAll_cons r1
  obtain ⟨v3, vs3, d3, ds3, p3, q3, rfl, rfl, rfl, h3, r3⟩ := trodAll_cons r2
  obtain ⟨v4, vs4, d4, ds4, p4, q4, rfl, rfl, rfl, h4, r4⟩ := trodAll_cons r3
  obtain ⟨rfl, rfl, rfl⟩ := trodAll_nil r4
  obtain rfl : args = #[v0, v1, v2, v3, v4] := by cases args; simp_all
  obtain ⟨rfl, rfl⟩ := trodVars_none hV
  obtain ⟨a0, rfl, rfl, rfl, w0⟩ := open_int Tryz.underlying3 (hval 0 3 v0 rfl rfl) h0
  obtain ⟨a1, rfl, rfl, rfl, w1⟩ := open_int Tryz.underlying3 (hval 1 3 v1 rfl rfl) h1
  obtain ⟨a2, rfl, rfl, rfl, w2⟩ := open_int Tryz.underlying3 (hval 2 3 v2 rfl rfl) h2
  obtain ⟨a3, rfl, rfl, rfl, w3⟩ := open_int Tryz.underlying3 (hval 3 3 v3 rfl rfl) h3
  obtain ⟨a4, rfl, rfl, rfl, w4⟩ := open_int Tryz.underlying3 (hval 4 3 v4 rfl rfl) h4
  clear hA0 hval0 hsz0 hsz
  obtain ⟨eva, eta, efa, eha⟩ := sent "strconv.ErrSyntax" 4 [105, 110, 118, 97, 108, 105, 100, 32, 115, 121, 110, 116, 97, 120] (by kernel_rfl) (by kernel_rfl) (by kernel_rfl) hL
  obtain ⟨evb, etb, efb, ehb⟩ := sent "strconv.ErrRange" 5 [118, 97, 108, 117, 101, 32, 111, 117, 116, 32, 111, 102, 32, 114, 97, 110, 103, 101] (by kernel_rfl) (by kernel_rfl) (by kernel_rfl) hL
  obtain ⟨tbC, tbt, tbf, tbh, tbv⟩ := tabl hL
  have gs : Gs (initC ([] ++ gsT)) := ⟨0, 1, rfl, rfl, initC_ro rfl, initC_ro rfl⟩
  have gt : Gt (initC ([] ++ gsT)) := ⟨2, rfl, initC_ro rfl⟩
  have hβ : ∀ (i : Nat) (v : Value) (e : Nat), ([] : List (Value × Nat))[i]? = some (v, e) → ∃ n cs, ([] : List (List Value × Nat))[i]? = some (cs, e) ∧ CArg W v e n cs := by
    intro i v e hi
    simp at hi
  have walk := Go.Ev.cmdNumbers_walk (initC_wf ([] ++ gsT)) gs gt (i64_wf w0) (i64_wf w1) (i64_wf w2) (i64_wf w3) (i64_wf w4)
  refine (calls_of_cw (goodB_good good) Tryz.func11 rfl (args := [.int .i64 a0, .int .i64 a1, .int .i64 a2, .int .i64 a3, .int .i64 a4]) walk (W := W) (betaT_ok (k := 0) rfl hβ eha ehb tbh tbv) (hglT _ _ _ _ _) (args' := #[.int .i64 a0, .int .i64 a1, .int .i64 a2, .int .i64 a3, .int .i64 a4]) (.cons (.int _ _) (.cons (.int _ _) (.cons (.int _ _) (.cons (.int _ _) (.cons (.int _ _) (.nil))))))).mono fun e W' ⟨he, bel⟩ => ?_
  subst he
  exact ⟨_, rfl, _, _, _, [], _, [], hW', trodAll_mk1 (shut_bool Tryz.underlying4 _), (trodAll_cons_mk (shut_int Tryz.underlying3 w0) (trodAll_cons_mk (shut_int Tryz.underlying3 w1) (trodAll_cons_mk (shut_int Tryz.underlying3 w2) (trodAll_cons_mk (shut_int Tryz.underlying3 w3) (trodAll_cons_mk (shut_int Tryz.underlying3 w4) trodAll_mk0))))), rfl, bel.frame _, fun h => by cases h⟩
theorem said : Rows.CmdNumbersSaid :=
  OpenClaim.holds_of_cond 11 Tryz.f11 rfl rfl rfl rfl rfl rfl rfl ⟨rfl, rfl, rfl, rfl, rfl⟩ rfl rfl rfl rfl rfl (by kernel_rfl) Tryz.func11 (by kernel_rfl)
    (of_decide_eq_true (by kernel_rfl)) (by unfold Func.isWrapper; first | (rw [if_pos (by decide +kernel)]; kernel_rfl) | (rw [if_neg (by decide +kernel)]; exact ⟨rfl, rfl⟩))
    (fun os started H enc _ Fi => by rw [OpenClaim.pre_eq_preRow]; exact lifted os started H enc Fi)
theorem plain (f : FuncId) (fn : Func) (hf : Tryz.pinned.checked.prog.funcNamed "pyx/pyxlaw26.CmdNumbers" = some f) (hfn : Tryz.pinned.checked.prog.funcs[f]? = some fn) :
    true = Tryz.pinned.checked.prog.looks [] ∧ ∀ (j : Nat) t, fn.params[j]? = some t → Tryz.pinned.checked.prog.wantsStandIn t = false := by
  obtain rfl : f = 11 := Option.some.inj ((show Tryz.prog.funcNamed "pyx/pyxlaw26.CmdNumbers" = some 11 by kernel_rfl).symm.trans hf) |>.symm
  obtain rfl : fn = Tryz.f11 := (Option.some.inj (Tryz.func11.symm.trans hfn)).symm
  refine ⟨by kernel_rfl, fun j t ht => ?_⟩
  rw [Tryz.params11] at ht
  rcases j with _ | j
  · have : t = 3 := by simpa using ht.symm
    subst this
    exact (show Tryz.prog.wantsStandIn 3 = false by kernel_rfl)
  rcases j with _ | j
  · have : t = 3 := by simpa using ht.symm
    subst this
    exact (show Tryz.prog.wantsStandIn 3 = false by kernel_rfl)
  rcases j with _ | j
  · have : t = 3 := by simpa using ht.symm
    subst this
    exact (show Tryz.prog.wantsStandIn 3 = false by kernel_rfl)
  rcases j with _ | j
  · have : t = 3 := by simpa using ht.symm
    subst this
    exact (show Tryz.prog.wantsStandIn 3 = false by kernel_rfl)
  rcases j with _ | j
  · have : t = 3 := by simpa using ht.symm
    subst this
    exact (show Tryz.prog.wantsStandIn 3 = false by kernel_rfl)
  simp at ht
theorem card : Rows.CmdNumbersCardSaid :=
  Claim7.holds_tied_plain_at .later [] _ _ _ _ said (fun _ h => by cases h) (by kernel_rfl) (fun _ h => by cases h) cmdNumbers_row_tie rfl ⟨rfl, rfl⟩ (by kernel_rfl) rfl plain (by kernel_rfl)
end Go.Proofs.YtknhjdkjjfijlaaGreatDoor.cmdNumbers
namespace Go.Proofs.YtknhjdkjjfijlaaGreatDoor
theorem cmdNumbers_card_holds : Rows.CmdNumbersCardSaid := cmdNumbers.card
end Go.Proofs.YtknhjdkjjfijlaaGreatDoor
