/- The program's entries and the document's print, read, turn and judge lines alike. No condition but what the card lists. -/
import Derived.Test.YtknhjdkjjfijlaaGreatDoorCards
import Derived.Test.YtknhjdkjjfijlaaGreatDoorTie
import Derived.Test.YtknhjdkjjfijlaaGreatDoorKEntryTellsBk
import Derived.Test.YtknhjdkjjfijlaaGreatDoorGEntryTells4
import Derived.Deep.DeepHandedRow
namespace Go.Proofs.YtknhjdkjjfijlaaGreatDoor.entryTells
open Go.ChangeShapes Go.WideShapes Go.ChangeAt Go.RowKit Go.Ev
open Go.ChangeMaps (open_string shut_string)
set_option linter.unusedVariables false
local instance lk : Go.Ev.Lk := Go.Ev.lkS 1 4 5
theorem own : ownKnob Tryz.prog.godebug = none := by kernel_rfl
theorem laidOut : laidOutB Tryz.prog = true := by kernel_rfl
theorem good : Go.Ev.goodB Tryz.prog = true := by kernel_rfl
/-- The cells of a plain datum. -/
def flatD : Nat → DataW Unit → List Value
  | 0, _ => []
  | _ + 1, .lit l => [l.toCell]
  | n + 1, .agg ds => ds.flatMap (flatD n)
  | _ + 1, _ => []
noncomputable def low : Nat := (World.holding Tryz.prog default ⟨#[], #[], []⟩).heap.size
theorem star : "*" ++ "errors.errorString" = "*errors.errorString" := by decide
theorem rowE (u : TypeId) (h : Tryz.prog.typeName? 3 u = some "*errors.errorString") : u = 242 :=
  typeName_ptr_named (nm := "errors.errorString") (by rw [star]; kernel_rfl) (by kernel_rfl) (by decide) u (by rw [star]; exact h)
theorem sent (n : String) (g : Nat) (text : List UInt8) (hg : Tryz.prog.globalNamed n = some g) (ht : (Tryz.prog.globals[g]?).map (·.type) = some 161) (hr : ((Rows.entryTellsUptoRow.laid.filter fun x => x.1 == n).filter fun x => x.2.handleName?.isNone) = [(n, .iface "*errors.errorString" (.ptr (.agg [.lit (.string text)])))]) {W : World}
    (hL : laidMetH Tryz.prog Rows.entryTellsUptoRow.laid W) : ∃ (v : Value) (t : TypeId) (fr : Nat × Nat), W.heap[g]? = some (.cells #[.iface 242 v] t fr) := by
  have L1 := (laidMetH_iff.1 (laidMetH.filter (fun x => x.1 == n) hL)).1
  rw [hr] at L1
  obtain ⟨a0, s0, hv0, -, -, -⟩ := laid_sentinel L1 hg ht Tryz.underlying161 rowE Tryz.underlying242 Tryz.underlying244 rfl rfl Tryz.underlying9 (by kernel_rfl) (by kernel_rfl)
  obtain ⟨t, fr, h⟩ := var_heap hg hv0
  exact ⟨_, t, fr, h⟩
/-- A world for the witness: the listed variables hold what their texts lay. -/
noncomputable def laidWorld (os : Os) : World :=
  { (World.holding Tryz.prog os ⟨#[.cells #[.string ⟨#[118, 97, 108, 117, 101, 32, 111, 117, 116, 32, 111, 102, 32, 114, 97, 110, 103, 101]⟩] 244, .cells #[.string ⟨#[105, 110, 118, 97, 108, 105, 100, 32, 115, 121, 110, 116, 97, 120]⟩] 244], #[], []⟩) with heap := ((((((((World.holding Tryz.prog os ⟨#[.cells #[.string ⟨#[118, 97, 108, 117, 101, 32, 111, 117, 116, 32, 111, 102, 32, 114, 97, 110, 103, 101]⟩] 244, .cells #[.string ⟨#[105, 110, 118, 97, 108, 105, 100, 32, 115, 121, 110, 116, 97, 120]⟩] 244], #[], []⟩).heap.modify 6 fun
      | .cells _ t frozen => .cells (flatD 8 (Rows.laid_math_bits_deBruijn32tab : DataW Unit)).toArray t frozen
      | o => o).modify 7 fun
      | .cells _ t frozen => .cells (flatD 8 (Rows.laid_math_bits_deBruijn64tab : DataW Unit)).toArray t frozen
      | o => o).modify 1 fun
      | .cells _ t frozen => .cells (flatD 8 (Rows.laid_internal_strconv_uint64pow10 : DataW Unit)).toArray t frozen
      | o => o).modify 3 fun
      | .cells _ t frozen => .cells (flatD 8 (Rows.laid_unicode_utf8_acceptRanges : DataW Unit)).toArray t frozen
      | o => o).modify 5 fun
      | .cells _ t frozen => .cells #[.iface 242 (.pointer (some ⟨low + 0, 0, none⟩))] t frozen
      | o => o).modify 4 fun
      | .cells _ t frozen => .cells #[.iface 242 (.pointer (some ⟨low + 1, 0, none⟩))] t frozen
      | o => o).modify 2 fun
      | .cells _ t frozen => .cells (flatD 8 (Rows.laid_unicode_utf8_first : DataW Unit)).toArray t frozen
      | o => o) }
theorem laid_met (os : Os) : laidMet Tryz.prog Rows.entryTellsUptoRow.laid ((laidWorld os).forCall (fun _ _ => 0) ⟨#[], #[.slice none 0 0, .int .i64 0, .int .i64 0, .string ⟨#[]⟩, .int .i64 0], []⟩).memory :=
  laidMet_of_run' 8 (by kernel_rfl) (by kernel_rfl)
theorem reads (os : Os) {H : Type} (enc : TypeId × Value → H) : ∃ places, DataW.whole enc Tryz.prog ((laidWorld os).forCall (fun _ _ => 0) ⟨#[], #[.slice none 0 0, .int .i64 0, .int .i64 0, .string ⟨#[]⟩, .int .i64 0], []⟩).memory Tryz.f6.params.toList Rows.entryTellsSpec.vars false (#[.slice none 0 0, .int .i64 0, .int .i64 0, .string ⟨#[]⟩, .int .i64 0] : Array Value).toList 8 = some ([.nil, .lit (.int .i64 0), .lit (.int .i64 0), .lit (.string []), .lit (.int .i64 0)], [], places) :=
  ⟨[], by kernel_rfl⟩
set_option maxRecDepth 100000 in
theorem lifted (os : Os) (started : os.Started) (H : Type) (enc : TypeId × Value → H) (Fi : Stop.Interp) :
    ReturnsInHanded {} Tryz.checked os 6 .any ((Rows.OpenSpec.upto Rows.entryTellsSpec).preRow enc Tryz.prog Tryz.f6 Rows.entryTellsUptoRow.domain false Rows.entryTellsUptoRow.laid) (((Rows.OpenSpec.upto Rows.entryTellsSpec).at Fi).post enc Tryz.prog Tryz.f6 false true false false) := by
  obtain ⟨places, hx⟩ := reads os enc
  refine returnsInHanded_of_row (C := Tryz.checked) (s := (Rows.OpenSpec.upto Rows.entryTellsSpec)) own started (by kernel_rfl) Tryz.func6
    (witness_row_at (enc := enc) (C := Tryz.checked) false (laidWorld os) #[.slice none 0 0, .int .i64 0, .int .i64 0, .string ⟨#[]⟩, .int .i64 0] rfl (by kernel_rfl) (by kernel_rfl) (by kernel_rfl)
      (OpenSpec.preRow_of_cond 8 hx (by kernel_rfl) (fun k hk => by cases hk; kernel_rfl) (by kernel_rfl) (laid_met os))) ?_
  intro W base args ds gs before hval0 hW hcnd hk0 hsz0 hL _ _
  have hsz : (DataW.weightsEach Tryz.prog (Tryz.f6.params.toList ++ Rows.entryTellsSpec.plain.varTypes Tryz.prog) (ds ++ gs)).all (· ≤ reachBytes) = true := hsz0
  have hval : ∀ (j : Nat) t v, Tryz.f6.params[j]? = some t → args[j]? = some v → Value.okWide Tryz.prog W .any base t v := hval0
  have hW' := hW
  obtain ⟨p, q, hA0, hV, rfl, hfz, hnd⟩ := hW
  have hA : DataW.TrodAll enc Tryz.prog W 0 (fun _ => true) true Tryz.f6.params.toList args.toList ds p := hA0
  rw [Tryz.params6] at hA hval hsz
  obtain ⟨v0, vs0, d0, ds0, p0, q0, hargs, rfl, rfl, h0, r0⟩ := trodAll_cons hA
  obtain ⟨v1, vs1, d1, ds1, p1, q1, rfl, rfl, rfl, h1, r1⟩ := trodAll_cons r0
  obtain ⟨v2, vs2, d2, ds2, p2, q2, rfl, rfl, rfl, h2, r2⟩ := trodAll_cons r1
  obtain ⟨v3, vs3, d3, ds3, p3, q3, rfl, rfl, rfl, h3, r3⟩ := trodAll_cons r2
  obtain ⟨v4, vs4, d4, ds4, p4, q4, rfl, rfl, rfl, h4, r4⟩ := trodAll_cons r3
  obtain ⟨rfl, rfl, rfl⟩ := trodAll_nil r4
  obtain rfl : args = #[v0, v1, v2, v3, v4] := by cases args; simp_all
  obtain ⟨rfl, rfl⟩ := trodVars_none hV
  have hk := hk0 _ rfl
  have hbulk : Rows.uptoBulkAll [d0, d1, d2, d3, d4] ≤ 1048576 := Bk.bound hk
  simp only [Rows.uptoBulkAll] at hbulk
  have k0 := h0
  have lt0 : ∀ x ∈ p0, x.block < W.heap.size := by obtain ⟨m, hm⟩ := k0; exact DataW.trod_lt m _ _ _ hm
  obtain ⟨z0, c0, w0⟩ := open_row Tryz.underlying22 Tryz.underlying3 (by kernel_rfl) (hval 0 22 v0 rfl rfl) h0
  have b0 := Bk.row_le (row_datum Tryz.underlying22 Tryz.underlying3 (by kernel_rfl) c0 h0)
  have y0 : z0.length ≤ 1048576 := by omega
  obtain ⟨a1, rfl, rfl, rfl, w1⟩ := open_int Tryz.underlying3 (hval 1 3 v1 rfl rfl) h1
  obtain ⟨a2, rfl, rfl, rfl, w2⟩ := open_int Tryz.underlying3 (hval 2 3 v2 rfl rfl) h2
  obtain ⟨a3, rfl, rfl, rfl, m3⟩ := open_string Tryz.underlying9 (hval 3 9 v3 rfl rfl) h3
  have y3 : (bs a3).length ≤ 1048576 := by have h := Bk.string_le (H := H) a3.data.toList; show a3.data.toList.length ≤ 1048576; omega
  obtain ⟨a4, rfl, rfl, rfl, w4⟩ := open_int Tryz.underlying3 (hval 4 3 v4 rfl rfl) h4
  clear hA0 hval0
  obtain ⟨eva, eta, efa, eha⟩ := sent "strconv.ErrSyntax" 4 [105, 110, 118, 97, 108, 105, 100, 32, 115, 121, 110, 116, 97, 120] (by kernel_rfl) (by kernel_rfl) (by kernel_rfl) hL
  obtain ⟨evb, etb, efb, ehb⟩ := sent "strconv.ErrRange" 5 [118, 97, 108, 117, 101, 32, 111, 117, 116, 32, 111, 102, 32, 114, 97, 110, 103, 101] (by kernel_rfl) (by kernel_rfl) (by kernel_rfl) hL
  have gs : Gs (initC ([(z0.map (Value.int .i64), 1)] ++ gsB)) := ⟨1, 2, rfl, rfl, initC_ro rfl, initC_ro rfl⟩
  have hβ : ∀ (i : Nat) (v : Value) (e : Nat), ([(v0, 1)] : List (Value × Nat))[i]? = some (v, e) → ∃ n cs, ([(z0.map (Value.int .i64), 1)] : List (List Value × Nat))[i]? = some (cs, e) ∧ CArg W v e n cs := by
    intro i v e hi
    rcases i with _ | i
    · simp at hi; obtain ⟨rfl, rfl⟩ := hi; exact ⟨_, _, rfl, c0⟩
    · simp at hi
  have walk := Go.Ev.entryTells_walk (initC_wf ([(z0.map (Value.int .i64), 1)] ++ gsB)) gs (c0.sl (i := 0) rfl) y0 (fun n hn => i64_wf (w0 n hn)) (i64_wf w1) (i64_wf w2) y3 (i64_wf w4)
  refine (calls_of_cw (goodB_good good) Tryz.func6 rfl (args := [canV 0 v0, .int .i64 a1, .int .i64 a2, .string a3, .int .i64 a4]) walk (W := W) (betaS_ok (k := 1) rfl hβ eha ehb) (hglS _ _ _ _) (args' := #[v0, .int .i64 a1, .int .i64 a2, .string a3, .int .i64 a4]) (.cons (c0.vr (i := 0) rfl) (.cons (.int _ _) (.cons (.int _ _) (.cons (.string _) (.cons (.int _ _) (.nil))))))).mono fun e W' ⟨he, bel⟩ => ?_
  subst he
  exact ⟨_, rfl, _, _, _, [], _, [], hW', trodAll_mk1 (shut_bool Tryz.underlying4 _), (trodAll_cons_mk (Below.trod laidOut (by kernel_rfl) (of_decide_eq_true (by kernel_rfl)) k0 bel lt0) (trodAll_cons_mk (shut_int Tryz.underlying3 w1) (trodAll_cons_mk (shut_int Tryz.underlying3 w2) (trodAll_cons_mk (shut_string Tryz.underlying9 m3) (trodAll_cons_mk (shut_int Tryz.underlying3 w4) trodAll_mk0))))), rfl, bel.frame _, fun h => by cases h⟩
theorem said : Rows.EntryTellsUptoSaid :=
  OpenClaim.holds_of_cond 6 Tryz.f6 rfl rfl rfl rfl rfl rfl rfl ⟨rfl, rfl, rfl, rfl, rfl⟩ rfl rfl rfl rfl rfl (by kernel_rfl) Tryz.func6 (by kernel_rfl)
    (of_decide_eq_true (by kernel_rfl)) (by unfold Func.isWrapper; first | (rw [if_pos (by decide +kernel)]; kernel_rfl) | (rw [if_neg (by decide +kernel)]; exact ⟨rfl, rfl⟩))
    (fun os started H enc _ Fi => by rw [OpenClaim.pre_eq_preRow]; exact lifted os started H enc Fi)
theorem plain (f : FuncId) (fn : Func) (hf : Tryz.pinned.checked.prog.funcNamed "pyx/pyxlaw12.EntryTells" = some f) (hfn : Tryz.pinned.checked.prog.funcs[f]? = some fn) :
    true = Tryz.pinned.checked.prog.looks [] ∧ ∀ (j : Nat) t, fn.params[j]? = some t → Tryz.pinned.checked.prog.wantsStandIn t = false := by
  obtain rfl : f = 6 := Option.some.inj ((show Tryz.prog.funcNamed "pyx/pyxlaw12.EntryTells" = some 6 by kernel_rfl).symm.trans hf) |>.symm
  obtain rfl : fn = Tryz.f6 := (Option.some.inj (Tryz.func6.symm.trans hfn)).symm
  refine ⟨by kernel_rfl, fun j t ht => ?_⟩
  rw [Tryz.params6] at ht
  rcases j with _ | j
  · have : t = 22 := by simpa using ht.symm
    subst this
    exact (show Tryz.prog.wantsStandIn 22 = false by kernel_rfl)
  rcases j with _ | j
  · have : t = 3 := by simpa using ht.symm
    subst this
    exact (show Tryz.prog.wantsStandIn 3 = false by kernel_rfl)
  rcases j with _ | j
  · have : t = 3 := by simpa using ht.symm
    subst this
    exact (show Tryz.prog.wantsStandIn 3 = false by kernel_rfl)
  rcases j with _ | j
  · have : t = 9 := by simpa using ht.symm
    subst this
    exact (show Tryz.prog.wantsStandIn 9 = false by kernel_rfl)
  rcases j with _ | j
  · have : t = 3 := by simpa using ht.symm
    subst this
    exact (show Tryz.prog.wantsStandIn 3 = false by kernel_rfl)
  simp at ht
theorem card : Rows.EntryTellsUptoCardSaid :=
  Claim7.holds_tied_plain_at .later [] _ _ _ _ said (fun _ h => by cases h) (by kernel_rfl) (fun _ h => by cases h) entryTellsUpto_row_tie rfl ⟨rfl, rfl⟩ (by kernel_rfl) rfl plain (by kernel_rfl)
end Go.Proofs.YtknhjdkjjfijlaaGreatDoor.entryTells
namespace Go.Proofs.YtknhjdkjjfijlaaGreatDoor
theorem entryTellsUpto_card_holds : Rows.EntryTellsUptoCardSaid := entryTells.card
end Go.Proofs.YtknhjdkjjfijlaaGreatDoor
