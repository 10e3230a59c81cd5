/- LabelTells: each call's answer is as the document says. No condition but what the card lists. -/
import Derived.Test.YtlmjeodogaaooaaDoorCards
import Derived.Test.YtlmjeodogaaooaaDoorTie
import Derived.Test.YtlmjeodogaaooaaDoorF1
import Derived.Test.YtlmjeodogaaooaaDoorGLabel3
import Derived.Deep.DeepHandedRow
namespace Go.Proofs.YtlmjeodogaaooaaDoor.labelTells
open Go.ChangeShapes Go.WideShapes Go.ChangeAt Go.RowKit Go.Ev
open Go.ChangeMaps (open_string shut_string)
set_option linter.unusedVariables false
local instance lk : Go.Ev.Lk := Go.Ev.lk2 1 2
theorem own : ownKnob Tryd.prog.godebug = none := by kernel_rfl
theorem laidOut : laidOutB Tryd.prog = true := by kernel_rfl
theorem good : Go.Ev.goodB Tryd.prog = true := by kernel_rfl
/-- The cells of a plain datum. -/
def flatD : Nat → DataW Unit → List Value
  | 0, _ => []
  | _ + 1, .lit l => [l.toCell]
  | n + 1, .agg ds => ds.flatMap (flatD n)
  | _ + 1, _ => []
noncomputable def low : Nat := (World.holding Tryd.prog default ⟨#[], #[], []⟩).heap.size
theorem star : "*" ++ "errors.errorString" = "*errors.errorString" := by decide
theorem rowE (u : TypeId) (h : Tryd.prog.typeName? 3 u = some "*errors.errorString") : u = 153 :=
  typeName_ptr_named (nm := "errors.errorString") (by rw [star]; kernel_rfl) (by kernel_rfl) (by decide) u (by rw [star]; exact h)
theorem sent (n : String) (g : Nat) (text : List UInt8) (hg : Tryd.prog.globalNamed n = some g) (ht : (Tryd.prog.globals[g]?).map (·.type) = some 73) (hr : ((Rows.labelTellsRow.laid.filter fun x => x.1 == n).filter fun x => x.2.handleName?.isNone) = [(n, .iface "*errors.errorString" (.ptr (.agg [.lit (.string text)])))]) {W : World}
    (hL : laidMetH Tryd.prog Rows.labelTellsRow.laid W) : ∃ (v : Value) (t : TypeId) (fr : Nat × Nat), W.heap[g]? = some (.cells #[.iface 153 v] t fr) := by
  have L1 := (laidMetH_iff.1 (laidMetH.filter (fun x => x.1 == n) hL)).1
  rw [hr] at L1
  obtain ⟨a0, s0, hv0, -, -, -⟩ := laid_sentinel L1 hg ht Tryd.underlying73 rowE Tryd.underlying153 Tryd.underlying155 rfl rfl Tryd.underlying9 (by kernel_rfl) (by kernel_rfl)
  obtain ⟨t, fr, h⟩ := var_heap hg hv0
  exact ⟨_, t, fr, h⟩
/-- A world for the witness: the listed variables hold what their texts lay. -/
noncomputable def laidWorld (os : Os) : World :=
  { (World.holding Tryd.prog os ⟨#[.cells #[.string ⟨#[118, 97, 108, 117, 101, 32, 111, 117, 116, 32, 111, 102, 32, 114, 97, 110, 103, 101]⟩] 155, .cells #[.string ⟨#[105, 110, 118, 97, 108, 105, 100, 32, 115, 121, 110, 116, 97, 120]⟩] 155], #[], []⟩) with heap := ((((((World.holding Tryd.prog os ⟨#[.cells #[.string ⟨#[118, 97, 108, 117, 101, 32, 111, 117, 116, 32, 111, 102, 32, 114, 97, 110, 103, 101]⟩] 155, .cells #[.string ⟨#[105, 110, 118, 97, 108, 105, 100, 32, 115, 121, 110, 116, 97, 120]⟩] 155], #[], []⟩).heap.modify 4 fun
      | .cells _ t frozen => .cells (flatD 8 (Rows.laid_math_bits_deBruijn32tab : DataW Unit)).toArray t frozen
      | o => o).modify 5 fun
      | .cells _ t frozen => .cells (flatD 8 (Rows.laid_math_bits_deBruijn64tab : DataW Unit)).toArray t frozen
      | o => o).modify 3 fun
      | .cells _ t frozen => .cells (flatD 8 (Rows.laid_internal_strconv_uint64pow10 : DataW Unit)).toArray t frozen
      | o => o).modify 2 fun
      | .cells _ t frozen => .cells #[.iface 153 (.pointer (some ⟨low + 0, 0, none⟩))] t frozen
      | o => o).modify 1 fun
      | .cells _ t frozen => .cells #[.iface 153 (.pointer (some ⟨low + 1, 0, none⟩))] t frozen
      | o => o) }
theorem laid_met (os : Os) : laidMet Tryd.prog Rows.labelTellsRow.laid ((laidWorld os).forCall (fun _ _ => 0) ⟨#[], #[.int .i64 0, .int .i64 0, .int .i64 0, .int .i64 0, .int .i64 0, .string ⟨#[]⟩, .int .i64 0], []⟩).memory :=
  laidMet_of_run' 8 (by kernel_rfl) (by kernel_rfl)
theorem reads (os : Os) {H : Type} (enc : TypeId × Value → H) : ∃ places, DataW.whole enc Tryd.prog ((laidWorld os).forCall (fun _ _ => 0) ⟨#[], #[.int .i64 0, .int .i64 0, .int .i64 0, .int .i64 0, .int .i64 0, .string ⟨#[]⟩, .int .i64 0], []⟩).memory Tryd.f11.params.toList Rows.labelTellsSpec.vars false (#[.int .i64 0, .int .i64 0, .int .i64 0, .int .i64 0, .int .i64 0, .string ⟨#[]⟩, .int .i64 0] : Array Value).toList 8 = some ([.lit (.int .i64 0), .lit (.int .i64 0), .lit (.int .i64 0), .lit (.int .i64 0), .lit (.int .i64 0), .lit (.string []), .lit (.int .i64 0)], [], places) :=
  ⟨[], by kernel_rfl⟩
set_option maxRecDepth 100000 in
theorem lifted (os : Os) (started : os.Started) (H : Type) (enc : TypeId × Value → H) (Fi : Stop.Interp) :
    ReturnsInHanded {} Tryd.checked os 11 .any ((OpenSpec.ofChange Rows.labelTellsSpec).preRow enc Tryd.prog Tryd.f11 Rows.labelTellsRow.domain false Rows.labelTellsRow.laid) (((OpenSpec.ofChange Rows.labelTellsSpec).at Fi).post enc Tryd.prog Tryd.f11 false true false false) := by
  obtain ⟨places, hx⟩ := reads os enc
  refine returnsInHanded_of_row (C := Tryd.checked) (s := (OpenSpec.ofChange Rows.labelTellsSpec)) own started (by kernel_rfl) Tryd.func11
    (witness_row_at (enc := enc) (C := Tryd.checked) false (laidWorld os) #[.int .i64 0, .int .i64 0, .int .i64 0, .int .i64 0, .int .i64 0, .string ⟨#[]⟩, .int .i64 0] rfl (by kernel_rfl) (by kernel_rfl) (by kernel_rfl)
      (OpenSpec.preRow_of_cond 8 hx (by kernel_rfl) (fun k hk => by cases hk) (by kernel_rfl) (laid_met os))) ?_
  intro W base args ds gs before hval0 hW hcnd hk0 hsz0 hL _ _
  have hsz : (DataW.weightsEach Tryd.prog (Tryd.f11.params.toList ++ Rows.labelTellsSpec.plain.varTypes Tryd.prog) (ds ++ gs)).all (· ≤ reachBytes) = true := hsz0
  have hval : ∀ (j : Nat) t v, Tryd.f11.params[j]? = some t → args[j]? = some v → Value.okWide Tryd.prog W .any base t v := hval0
  have hW' := hW
  obtain ⟨p, q, hA0, hV, rfl, hfz, hnd⟩ := hW
  have hA : DataW.TrodAll enc Tryd.prog W 0 (fun _ => true) true Tryd.f11.params.toList args.toList ds p := hA0
  rw [Tryd.params11] at hA hval hsz
  obtain ⟨v0, vs0, d0, ds0, p0, q0, hargs, rfl, rfl, h0, r0⟩ := trodAll_cons hA
  obtain ⟨v1, vs1, d1, ds1, p1, q1, rfl, rfl, rfl, h1, r1⟩ := trodAll_cons r0
  obtain ⟨v2, vs2, d2, ds2, p2, q2, rfl, rfl, rfl, h2, r2⟩ := trodAll_cons r1
  obtain ⟨v3, vs3, d3, ds3, p3, q3, rfl, rfl, rfl, h3, r3⟩ := trodAll_cons r2
  obtain ⟨v4, vs4, d4, ds4, p4, q4, rfl, rfl, rfl, h4, r4⟩ := trodAll_cons r3
  obtain ⟨v5, vs5, d5, ds5, p5, q5, rfl, rfl, rfl, h5, r5⟩ := trodAll_cons r4
  obtain ⟨v6, vs6, d6, ds6, p6, q6, rfl, rfl, rfl, h6, r6⟩ := trodAll_cons r5
  obtain ⟨rfl, rfl, rfl⟩ := trodAll_nil r6
  obtain rfl : args = #[v0, v1, v2, v3, v4, v5, v6] := by cases args; simp_all
  obtain ⟨rfl, rfl⟩ := trodVars_none hV
  obtain ⟨a0, rfl, rfl, rfl, w0⟩ := open_int Tryd.underlying3 (hval 0 3 v0 rfl rfl) h0
  obtain ⟨a1, rfl, rfl, rfl, w1⟩ := open_int Tryd.underlying3 (hval 1 3 v1 rfl rfl) h1
  obtain ⟨a2, rfl, rfl, rfl, w2⟩ := open_int Tryd.underlying3 (hval 2 3 v2 rfl rfl) h2
  obtain ⟨a3, rfl, rfl, rfl, w3⟩ := open_int Tryd.underlying3 (hval 3 3 v3 rfl rfl) h3
  obtain ⟨a4, rfl, rfl, rfl, w4⟩ := open_int Tryd.underlying3 (hval 4 3 v4 rfl rfl) h4
  obtain ⟨a5, rfl, rfl, rfl, m5⟩ := open_string Tryd.underlying9 (hval 5 9 v5 rfl rfl) h5
  have y5 : (bs a5).length ≤ 140737488351232 := by have h := sized_string hsz (j := 5) (t := 9) rfl rfl; rw [show reachBytes = 140737488351232 by decide] at h; exact h
  obtain ⟨a6, rfl, rfl, rfl, w6⟩ := open_int Tryd.underlying3 (hval 6 3 v6 rfl rfl) h6
  clear hA0 hval0 hsz0 hsz
  obtain ⟨eva, eta, efa, eha⟩ := sent "strconv.ErrSyntax" 1 [105, 110, 118, 97, 108, 105, 100, 32, 115, 121, 110, 116, 97, 120] (by kernel_rfl) (by kernel_rfl) (by kernel_rfl) hL
  obtain ⟨evb, etb, efb, ehb⟩ := sent "strconv.ErrRange" 2 [118, 97, 108, 117, 101, 32, 111, 117, 116, 32, 111, 102, 32, 114, 97, 110, 103, 101] (by kernel_rfl) (by kernel_rfl) (by kernel_rfl) hL
  have gs : Gs (initC gsB) := ⟨0, 1, rfl, rfl, initC_ro rfl, initC_ro rfl⟩
  have walk := Go.Ev.labelTells_walk (initC_wf gsB) gs (i64_wf w0) (i64_wf w1) (i64_wf w2) (i64_wf w3) (i64_wf w4) y5 (i64_wf w6)
  refine (calls_of_cw (goodB_good good) Tryd.func11 rfl (args := [.int .i64 a0, .int .i64 a1, .int .i64 a2, .int .i64 a3, .int .i64 a4, .string a5, .int .i64 a6]) walk (W := W) (beta2_ok eha ehb) (hgl2 _ _) (args' := #[.int .i64 a0, .int .i64 a1, .int .i64 a2, .int .i64 a3, .int .i64 a4, .string a5, .int .i64 a6]) (.cons (.int _ _) (.cons (.int _ _) (.cons (.int _ _) (.cons (.int _ _) (.cons (.int _ _) (.cons (.string _) (.cons (.int _ _) (.nil))))))))).mono fun e W' ⟨he, bel⟩ => ?_
  subst he
  exact ⟨_, rfl, _, _, _, [], _, [], hW', trodAll_mk1 (shut_bool Tryd.underlying4 _), (trodAll_cons_mk (shut_int Tryd.underlying3 w0) (trodAll_cons_mk (shut_int Tryd.underlying3 w1) (trodAll_cons_mk (shut_int Tryd.underlying3 w2) (trodAll_cons_mk (shut_int Tryd.underlying3 w3) (trodAll_cons_mk (shut_int Tryd.underlying3 w4) (trodAll_cons_mk (shut_string Tryd.underlying9 m5) (trodAll_cons_mk (shut_int Tryd.underlying3 w6) trodAll_mk0))))))), rfl, bel.frame _, fun h => by cases h⟩
theorem said : Rows.LabelTellsSaid :=
  OpenClaim.holds_of_cond 11 Tryd.f11 rfl rfl rfl rfl rfl rfl rfl ⟨rfl, rfl, rfl, rfl, rfl⟩ rfl rfl rfl rfl rfl (by kernel_rfl) Tryd.func11 (by kernel_rfl)
    (of_decide_eq_true (by kernel_rfl)) (by unfold Func.isWrapper; first | (rw [if_pos (by decide +kernel)]; kernel_rfl) | (rw [if_neg (by decide +kernel)]; exact ⟨rfl, rfl⟩))
    (fun os started H enc _ Fi => by rw [OpenClaim.pre_eq_preRow]; exact lifted os started H enc Fi)
theorem plain (f : FuncId) (fn : Func) (hf : Tryd.pinned.checked.prog.funcNamed "pyx/pyxlaw8.LabelTells" = some f) (hfn : Tryd.pinned.checked.prog.funcs[f]? = some fn) :
    true = Tryd.pinned.checked.prog.looks [] ∧ ∀ (j : Nat) t, fn.params[j]? = some t → Tryd.pinned.checked.prog.wantsStandIn t = false := by
  obtain rfl : f = 11 := Option.some.inj ((show Tryd.prog.funcNamed "pyx/pyxlaw8.LabelTells" = some 11 by kernel_rfl).symm.trans hf) |>.symm
  obtain rfl : fn = Tryd.f11 := (Option.some.inj (Tryd.func11.symm.trans hfn)).symm
  refine ⟨by kernel_rfl, fun j t ht => ?_⟩
  rw [Tryd.params11] at ht
  rcases j with _ | j
  · have : t = 3 := by simpa using ht.symm
    subst this
    exact (show Tryd.prog.wantsStandIn 3 = false by kernel_rfl)
  rcases j with _ | j
  · have : t = 3 := by simpa using ht.symm
    subst this
    exact (show Tryd.prog.wantsStandIn 3 = false by kernel_rfl)
  rcases j with _ | j
  · have : t = 3 := by simpa using ht.symm
    subst this
    exact (show Tryd.prog.wantsStandIn 3 = false by kernel_rfl)
  rcases j with _ | j
  · have : t = 3 := by simpa using ht.symm
    subst this
    exact (show Tryd.prog.wantsStandIn 3 = false by kernel_rfl)
  rcases j with _ | j
  · have : t = 3 := by simpa using ht.symm
    subst this
    exact (show Tryd.prog.wantsStandIn 3 = false by kernel_rfl)
  rcases j with _ | j
  · have : t = 9 := by simpa using ht.symm
    subst this
    exact (show Tryd.prog.wantsStandIn 9 = false by kernel_rfl)
  rcases j with _ | j
  · have : t = 3 := by simpa using ht.symm
    subst this
    exact (show Tryd.prog.wantsStandIn 3 = false by kernel_rfl)
  simp at ht
theorem card : Rows.LabelTellsCardSaid :=
  Claim7.holds_tied_plain_at .later [] _ _ _ _ said (fun _ h => by cases h) (by kernel_rfl) (fun _ h => by cases h) labelTells_row_tie rfl ⟨rfl, rfl⟩ (by kernel_rfl) rfl plain (by kernel_rfl)
end Go.Proofs.YtlmjeodogaaooaaDoor.labelTells
namespace Go.Proofs.YtlmjeodogaaooaaDoor
theorem labelTells_card_holds : Rows.LabelTellsCardSaid := labelTells.card
end Go.Proofs.YtlmjeodogaaooaaDoor
