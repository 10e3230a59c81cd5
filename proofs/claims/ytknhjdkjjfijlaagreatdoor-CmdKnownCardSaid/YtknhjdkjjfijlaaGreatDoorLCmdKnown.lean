/- The examples of the chapter on commands, each verb, each refusal. No condition but what the card lists. -/
import Derived.Test.YtknhjdkjjfijlaaGreatDoorCards
import Derived.Test.YtknhjdkjjfijlaaGreatDoorTie
import Derived.Test.YtknhjdkjjfijlaaGreatDoorKCmdKnownF1
import Derived.Test.YtknhjdkjjfijlaaGreatDoorGCmdKnown3
import Derived.Deep.DeepHandedRow
namespace Go.Proofs.YtknhjdkjjfijlaaGreatDoor.cmdKnown
open Go.ChangeShapes Go.WideShapes Go.ChangeAt Go.RowKit Go.Ev
open Go.ChangeMaps (open_string shut_string)
set_option linter.unusedVariables false
local instance lk : Go.Ev.Lk := Go.Ev.lkT 0 4 5 1
theorem own : ownKnob Tryz.prog.godebug = none := by kernel_rfl
theorem laidOut : laidOutB Tryz.prog = true := by kernel_rfl
theorem good : Go.Ev.goodB Tryz.prog = true := by kernel_rfl
/-- The cells of a plain datum. -/
def flatD : Nat → DataW Unit → List Value
  | 0, _ => []
  | _ + 1, .lit l => [l.toCell]
  | n + 1, .agg ds => ds.flatMap (flatD n)
  | _ + 1, _ => []
noncomputable def low : Nat := (World.holding Tryz.prog default ⟨#[], #[], []⟩).heap.size
theorem star : "*" ++ "errors.errorString" = "*errors.errorString" := by decide
theorem rowE (u : TypeId) (h : Tryz.prog.typeName? 3 u = some "*errors.errorString") : u = 242 :=
  typeName_ptr_named (nm := "errors.errorString") (by rw [star]; kernel_rfl) (by kernel_rfl) (by decide) u (by rw [star]; exact h)
theorem sent (n : String) (g : Nat) (text : List UInt8) (hg : Tryz.prog.globalNamed n = some g) (ht : (Tryz.prog.globals[g]?).map (·.type) = some 161) (hr : ((Rows.cmdKnownRow.laid.filter fun x => x.1 == n).filter fun x => x.2.handleName?.isNone) = [(n, .iface "*errors.errorString" (.ptr (.agg [.lit (.string text)])))]) {W : World}
    (hL : laidMetH Tryz.prog Rows.cmdKnownRow.laid W) : ∃ (v : Value) (t : TypeId) (fr : Nat × Nat), W.heap[g]? = some (.cells #[.iface 242 v] t fr) := by
  have L1 := (laidMetH_iff.1 (laidMetH.filter (fun x => x.1 == n) hL)).1
  rw [hr] at L1
  obtain ⟨a0, s0, hv0, -, -, -⟩ := laid_sentinel L1 hg ht Tryz.underlying161 rowE Tryz.underlying242 Tryz.underlying244 rfl rfl Tryz.underlying9 (by kernel_rfl) (by kernel_rfl)
  obtain ⟨t, fr, h⟩ := var_heap hg hv0
  exact ⟨_, t, fr, h⟩
theorem tabl {W : World} (hL : laidMetH Tryz.prog Rows.cmdKnownRow.laid W) : ∃ (C : Array Value) (t : TypeId) (fr : Nat × Nat), W.heap[1]? = some (.cells C t fr) ∧ ∀ j, j < 20 → C[j]? = p10C[j]? := by
  have L1 := (laidMetH_iff.1 (laidMetH.filter (fun x => x.1 == "internal/strconv.uint64pow10") hL)).1
  rw [show ((Rows.cmdKnownRow.laid.filter fun x => x.1 == "internal/strconv.uint64pow10").filter fun x => x.2.handleName?.isNone) = [("internal/strconv.uint64pow10", .agg (tens.map fun n => .lit (.int .u64 n)))] by kernel_rfl] at L1
  obtain ⟨C, t, fr, h1, h2⟩ := tab_heap (ns := tens) (by decide) L1 (by kernel_rfl) (by kernel_rfl)
  exact ⟨C, t, fr, h1, fun j hj => by rw [h2 j hj, p10_get j hj]⟩
/-- A world for the witness: the listed variables hold what their texts lay. -/
noncomputable def laidWorld (os : Os) : World :=
  { (World.holding Tryz.prog os ⟨#[.cells #[.string ⟨#[118, 97, 108, 117, 101, 32, 111, 117, 116, 32, 111, 102, 32, 114, 97, 110, 103, 101]⟩] 244, .cells #[.string ⟨#[105, 110, 118, 97, 108, 105, 100, 32, 115, 121, 110, 116, 97, 120]⟩] 244], #[], []⟩) with heap := ((((((((World.holding Tryz.prog os ⟨#[.cells #[.string ⟨#[118, 97, 108, 117, 101, 32, 111, 117, 116, 32, 111, 102, 32, 114, 97, 110, 103, 101]⟩] 244, .cells #[.string ⟨#[105, 110, 118, 97, 108, 105, 100, 32, 115, 121, 110, 116, 97, 120]⟩] 244], #[], []⟩).heap.modify 6 fun
      | .cells _ t frozen => .cells (flatD 8 (Rows.laid_math_bits_deBruijn32tab : DataW Unit)).toArray t frozen
      | o => o).modify 7 fun
      | .cells _ t frozen => .cells (flatD 8 (Rows.laid_math_bits_deBruijn64tab : DataW Unit)).toArray t frozen
      | o => o).modify 1 fun
      | .cells _ t frozen => .cells (flatD 8 (Rows.laid_internal_strconv_uint64pow10 : DataW Unit)).toArray t frozen
      | o => o).modify 3 fun
      | .cells _ t frozen => .cells (flatD 8 (Rows.laid_unicode_utf8_acceptRanges : DataW Unit)).toArray t frozen
      | o => o).modify 5 fun
      | .cells _ t frozen => .cells #[.iface 242 (.pointer (some ⟨low + 0, 0, none⟩))] t frozen
      | o => o).modify 4 fun
      | .cells _ t frozen => .cells #[.iface 242 (.pointer (some ⟨low + 1, 0, none⟩))] t frozen
      | o => o).modify 2 fun
      | .cells _ t frozen => .cells (flatD 8 (Rows.laid_unicode_utf8_first : DataW Unit)).toArray t frozen
      | o => o) }
theorem laid_met (os : Os) : laidMet Tryz.prog Rows.cmdKnownRow.laid ((laidWorld os).forCall (fun _ _ => 0) ⟨#[], #[], []⟩).memory :=
  laidMet_of_run' 8 (by kernel_rfl) (by kernel_rfl)
theorem reads (os : Os) {H : Type} (enc : TypeId × Value → H) : ∃ places, DataW.whole enc Tryz.prog ((laidWorld os).forCall (fun _ _ => 0) ⟨#[], #[], []⟩).memory Tryz.f8.params.toList Rows.cmdKnownSpec.vars false (#[] : Array Value).toList 8 = some ([], [], places) :=
  ⟨[], by kernel_rfl⟩
set_option maxRecDepth 100000 in
theorem lifted (os : Os) (started : os.Started) (H : Type) (enc : TypeId × Value → H) (Fi : Stop.Interp) :
    ReturnsInHanded {} Tryz.checked os 8 .any ((OpenSpec.ofChange Rows.cmdKnownSpec).preRow enc Tryz.prog Tryz.f8 Rows.cmdKnownRow.domain false Rows.cmdKnownRow.laid) (((OpenSpec.ofChange Rows.cmdKnownSpec).at Fi).post enc Tryz.prog Tryz.f8 false true false false) := by
  obtain ⟨places, hx⟩ := reads os enc
  refine returnsInHanded_of_row (C := Tryz.checked) (s := (OpenSpec.ofChange Rows.cmdKnownSpec)) own started (by kernel_rfl) Tryz.func8
    (witness_row_at (enc := enc) (C := Tryz.checked) false (laidWorld os) #[] rfl (by kernel_rfl) (by kernel_rfl) (by kernel_rfl)
      (OpenSpec.preRow_of_cond 8 hx (by kernel_rfl) (fun k hk => by cases hk) (by kernel_rfl) (laid_met os))) ?_
  intro W base args ds gs before hval0 hW hcnd hk0 hsz0 hL _ _
  have hsz : (DataW.weightsEach Tryz.prog (Tryz.f8.params.toList ++ Rows.cmdKnownSpec.plain.varTypes Tryz.prog) (ds ++ gs)).all (· ≤ reachBytes) = true := hsz0
  have hval : ∀ (j : Nat) t v, Tryz.f8.params[j]? = some t → args[j]? = some v → Value.okWide Tryz.prog W .any base t v := hval0
  have hW' := hW
  obtain ⟨p, q, hA0, hV, rfl, hfz, hnd⟩ := hW
  have hA : DataW.TrodAll enc Tryz.prog W 0 (fun _ => true) true Tryz.f8.params.toList args.toList ds p := hA0
  rw [Tryz.params8] at hA hval hsz
  obtain ⟨hargs, rfl, rfl⟩ := trodAll_nil hA
  obtain rfl : args = #[] := by cases args; simp_all
  obtain ⟨rfl, rfl⟩ := trodVars_none hV
  clear hA0 hval0 hsz0 hsz
  obtain ⟨eva, eta, efa, eha⟩ := sent "strconv.ErrSyntax" 4 [105, 110, 118, 97, 108, 105, 100, 32, 115, 121, 110, 116, 97, 120] (by kernel_rfl) (by kernel_rfl) (by kernel_rfl) hL
  obtain ⟨evb, etb, efb, ehb⟩ := sent "strconv.ErrRange" 5 [118, 97, 108, 117, 101, 32, 111, 117, 116, 32, 111, 102, 32, 114, 97, 110, 103, 101] (by kernel_rfl) (by kernel_rfl) (by kernel_rfl) hL
  obtain ⟨tbC, tbt, tbf, tbh, tbv⟩ := tabl hL
  have gs : Gs (initC ([] ++ gsT)) := ⟨0, 1, rfl, rfl, initC_ro rfl, initC_ro rfl⟩
  have gt : Gt (initC ([] ++ gsT)) := ⟨2, rfl, initC_ro rfl⟩
  have hβ : ∀ (i : Nat) (v : Value) (e : Nat), ([] : List (Value × Nat))[i]? = some (v, e) → ∃ n cs, ([] : List (List Value × Nat))[i]? = some (cs, e) ∧ CArg W v e n cs := by
    intro i v e hi
    simp at hi
  have walk := Go.Ev.cmdKnown_walk (initC_wf ([] ++ gsT)) gs gt 
  refine (calls_of_cw (goodB_good good) Tryz.func8 rfl (args := []) walk (W := W) (betaT_ok (k := 0) rfl hβ eha ehb tbh tbv) (hglT _ _ _ _ _) (args' := #[]) (.nil)).mono fun e W' ⟨he, bel⟩ => ?_
  subst he
  exact ⟨_, rfl, _, _, _, [], _, [], hW', trodAll_mk1 (shut_bool Tryz.underlying4 _), trodAll_mk0, rfl, bel.frame _, fun h => by cases h⟩
theorem said : Rows.CmdKnownSaid :=
  OpenClaim.holds_of_cond 8 Tryz.f8 rfl rfl rfl rfl rfl rfl rfl ⟨rfl, rfl, rfl, rfl, rfl⟩ rfl rfl rfl rfl rfl (by kernel_rfl) Tryz.func8 (by kernel_rfl)
    (of_decide_eq_true (by kernel_rfl)) (by unfold Func.isWrapper; first | (rw [if_pos (by decide +kernel)]; kernel_rfl) | (rw [if_neg (by decide +kernel)]; exact ⟨rfl, rfl⟩))
    (fun os started H enc _ Fi => by rw [OpenClaim.pre_eq_preRow]; exact lifted os started H enc Fi)
theorem plain (f : FuncId) (fn : Func) (hf : Tryz.pinned.checked.prog.funcNamed "pyx/pyxlaw26.CmdKnown" = some f) (hfn : Tryz.pinned.checked.prog.funcs[f]? = some fn) :
    true = Tryz.pinned.checked.prog.looks [] ∧ ∀ (j : Nat) t, fn.params[j]? = some t → Tryz.pinned.checked.prog.wantsStandIn t = false := by
  obtain rfl : f = 8 := Option.some.inj ((show Tryz.prog.funcNamed "pyx/pyxlaw26.CmdKnown" = some 8 by kernel_rfl).symm.trans hf) |>.symm
  obtain rfl : fn = Tryz.f8 := (Option.some.inj (Tryz.func8.symm.trans hfn)).symm
  refine ⟨by kernel_rfl, fun j t ht => ?_⟩
  rw [Tryz.params8] at ht
  simp at ht
theorem card : Rows.CmdKnownCardSaid :=
  Claim7.holds_tied_plain_at .later [] _ _ _ _ said (fun _ h => by cases h) (by kernel_rfl) (fun _ h => by cases h) cmdKnown_row_tie rfl ⟨rfl, rfl⟩ (by kernel_rfl) rfl plain (by kernel_rfl)
end Go.Proofs.YtknhjdkjjfijlaaGreatDoor.cmdKnown
namespace Go.Proofs.YtknhjdkjjfijlaaGreatDoor
theorem cmdKnown_card_holds : Rows.CmdKnownCardSaid := cmdKnown.card
end Go.Proofs.YtknhjdkjjfijlaaGreatDoor
