/- LexPlaces: each token stands in the text at its place. No condition but what the card lists. -/
import Derived.Test.YtlmjeodogaaooaaDoorCards
import Derived.Test.YtlmjeodogaaooaaDoorTie
import Derived.Test.YtlmjeodogaaooaaDoorF1
import Derived.Test.YtlmjeodogaaooaaDoorGLexPlaces3
import Derived.Deep.DeepHandedRow
namespace Go.Proofs.YtlmjeodogaaooaaDoor.lexPlaces
open Go.ChangeShapes Go.WideShapes Go.ChangeAt Go.RowKit Go.Ev
open Go.ChangeMaps (open_string shut_string)
set_option linter.unusedVariables false
local instance lk : Go.Ev.Lk := ⟨fun _ => none⟩
theorem own : ownKnob Tryd.prog.godebug = none := by kernel_rfl
theorem laidOut : laidOutB Tryd.prog = true := by kernel_rfl
theorem good : Go.Ev.goodB Tryd.prog = true := by kernel_rfl
/-- The cells of a plain datum. -/
def flatD : Nat → DataW Unit → List Value
  | 0, _ => []
  | _ + 1, .lit l => [l.toCell]
  | n + 1, .agg ds => ds.flatMap (flatD n)
  | _ + 1, _ => []
/-- A world for the witness: the listed variables hold what their texts lay. -/
noncomputable def laidWorld (os : Os) : World :=
  { (World.holding Tryd.prog os ⟨#[], #[], []⟩) with heap := (((World.holding Tryd.prog os ⟨#[], #[], []⟩).heap.modify 7 fun
      | .cells _ t frozen => .cells (flatD 8 (Rows.laid_unicode_utf8_acceptRanges : DataW Unit)).toArray t frozen
      | o => o).modify 6 fun
      | .cells _ t frozen => .cells (flatD 8 (Rows.laid_unicode_utf8_first : DataW Unit)).toArray t frozen
      | o => o) }
theorem laid_met (os : Os) : laidMet Tryd.prog Rows.lexPlacesRow.laid ((laidWorld os).forCall (fun _ _ => 0) ⟨#[], #[.slice none 0 0], []⟩).memory :=
  laidMet_of_run' 8 (by kernel_rfl) (by kernel_rfl)
theorem reads (os : Os) {H : Type} (enc : TypeId × Value → H) : ∃ places, DataW.whole enc Tryd.prog ((laidWorld os).forCall (fun _ _ => 0) ⟨#[], #[.slice none 0 0], []⟩).memory Tryd.f5.params.toList Rows.lexPlacesSpec.vars false (#[.slice none 0 0] : Array Value).toList 8 = some ([.nil], [], places) :=
  ⟨[], by kernel_rfl⟩
set_option maxRecDepth 100000 in
theorem lifted (os : Os) (started : os.Started) (H : Type) (enc : TypeId × Value → H) (Fi : Stop.Interp) :
    ReturnsInHanded {} Tryd.checked os 5 .any ((OpenSpec.ofChange Rows.lexPlacesSpec).preRow enc Tryd.prog Tryd.f5 Rows.lexPlacesRow.domain false Rows.lexPlacesRow.laid) (((OpenSpec.ofChange Rows.lexPlacesSpec).at Fi).post enc Tryd.prog Tryd.f5 false true false false) := by
  obtain ⟨places, hx⟩ := reads os enc
  refine returnsInHanded_of_row (C := Tryd.checked) (s := (OpenSpec.ofChange Rows.lexPlacesSpec)) own started (by kernel_rfl) Tryd.func5
    (witness_row_at (enc := enc) (C := Tryd.checked) false (laidWorld os) #[.slice none 0 0] rfl (by kernel_rfl) (by kernel_rfl) (by kernel_rfl)
      (OpenSpec.preRow_of_cond 8 hx (by kernel_rfl) (fun k hk => by cases hk) (by kernel_rfl) (laid_met os))) ?_
  intro W base args ds gs before hval0 hW hcnd hk0 hsz0 hL _ _
  have hsz : (DataW.weightsEach Tryd.prog (Tryd.f5.params.toList ++ Rows.lexPlacesSpec.plain.varTypes Tryd.prog) (ds ++ gs)).all (· ≤ reachBytes) = true := hsz0
  have hval : ∀ (j : Nat) t v, Tryd.f5.params[j]? = some t → args[j]? = some v → Value.okWide Tryd.prog W .any base t v := hval0
  have hW' := hW
  obtain ⟨p, q, hA0, hV, rfl, hfz, hnd⟩ := hW
  have hA : DataW.TrodAll enc Tryd.prog W 0 (fun _ => true) true Tryd.f5.params.toList args.toList ds p := hA0
  rw [Tryd.params5] at hA hval hsz
  obtain ⟨v0, vs0, d0, ds0, p0, q0, hargs, rfl, rfl, h0, r0⟩ := trodAll_cons hA
  obtain ⟨rfl, rfl, rfl⟩ := trodAll_nil r0
  obtain rfl : args = #[v0] := by cases args; simp_all
  obtain ⟨rfl, rfl⟩ := trodVars_none hV
  have k0 := h0
  have lt0 : ∀ x ∈ p0, x.block < W.heap.size := by obtain ⟨m, hm⟩ := k0; exact DataW.trod_lt m _ _ _ hm
  obtain ⟨z0, c0, w0⟩ := open_row Tryd.underlying32 Tryd.underlying3 (by kernel_rfl) (hval 0 32 v0 rfl rfl) h0
  have y0 := c0.len hsz (j := 0) (t := 32) rfl rfl Tryd.underlying32 Tryd.underlying3 (by kernel_rfl) (of_decide_eq_true (by kernel_rfl)) h0
  clear hA0 hval0 hsz0 hsz
  have hβ : ∀ (i : Nat) (v : Value) (e : Nat), ([(v0, 1)] : List (Value × Nat))[i]? = some (v, e) → ∃ n cs, ([(z0.map (Value.int .i64), 1)] : List (List Value × Nat))[i]? = some (cs, e) ∧ CArg W v e n cs := by
    intro i v e hi
    rcases i with _ | i
    · simp at hi; obtain ⟨rfl, rfl⟩ := hi; exact ⟨_, _, rfl, c0⟩
    · simp at hi
  have walk := Go.Ev.lexPlaces_walk (initC_wf [(z0.map (Value.int .i64), 1)]) (c0.sl (i := 0) rfl) y0 (fun n hn => i64_wf (w0 n hn))
  refine (calls_of_cw (goodB_good good) Tryd.func5 rfl (args := [canV 0 v0]) walk (W := W) (beta_ok hβ) (fun g i h => by cases h) (args' := #[v0]) (.cons (c0.vr (i := 0) rfl) (.nil))).mono fun e W' ⟨he, bel⟩ => ?_
  subst he
  exact ⟨_, rfl, _, _, _, [], _, [], hW', trodAll_mk1 (shut_bool Tryd.underlying4 _), (trodAll_cons_mk (Below.trod laidOut (by kernel_rfl) (of_decide_eq_true (by kernel_rfl)) k0 bel lt0) trodAll_mk0), rfl, bel.frame _, fun h => by cases h⟩
theorem said : Rows.LexPlacesSaid :=
  OpenClaim.holds_of_cond 5 Tryd.f5 rfl rfl rfl rfl rfl rfl rfl ⟨rfl, rfl, rfl, rfl, rfl⟩ rfl rfl rfl rfl rfl (by kernel_rfl) Tryd.func5 (by kernel_rfl)
    (of_decide_eq_true (by kernel_rfl)) (by unfold Func.isWrapper; first | (rw [if_pos (by decide +kernel)]; kernel_rfl) | (rw [if_neg (by decide +kernel)]; exact ⟨rfl, rfl⟩))
    (fun os started H enc _ Fi => by rw [OpenClaim.pre_eq_preRow]; exact lifted os started H enc Fi)
theorem plain (f : FuncId) (fn : Func) (hf : Tryd.pinned.checked.prog.funcNamed "pyx/pyxlaw21.LexPlaces" = some f) (hfn : Tryd.pinned.checked.prog.funcs[f]? = some fn) :
    true = Tryd.pinned.checked.prog.looks [] ∧ ∀ (j : Nat) t, fn.params[j]? = some t → Tryd.pinned.checked.prog.wantsStandIn t = false := by
  obtain rfl : f = 5 := Option.some.inj ((show Tryd.prog.funcNamed "pyx/pyxlaw21.LexPlaces" = some 5 by kernel_rfl).symm.trans hf) |>.symm
  obtain rfl : fn = Tryd.f5 := (Option.some.inj (Tryd.func5.symm.trans hfn)).symm
  refine ⟨by kernel_rfl, fun j t ht => ?_⟩
  rw [Tryd.params5] at ht
  rcases j with _ | j
  · have : t = 32 := by simpa using ht.symm
    subst this
    exact (show Tryd.prog.wantsStandIn 32 = false by kernel_rfl)
  simp at ht
theorem card : Rows.LexPlacesCardSaid :=
  Claim7.holds_tied_plain_at .later [] _ _ _ _ said (fun _ h => by cases h) (by kernel_rfl) (fun _ h => by cases h) lexPlaces_row_tie rfl ⟨rfl, rfl⟩ (by kernel_rfl) rfl plain (by kernel_rfl)
end Go.Proofs.YtlmjeodogaaooaaDoor.lexPlaces
namespace Go.Proofs.YtlmjeodogaaooaaDoor
theorem lexPlaces_card_holds : Rows.LexPlacesCardSaid := lexPlaces.card
end Go.Proofs.YtlmjeodogaaooaaDoor
