/- From the steps to a law over any input, further: how much the arguments hold; slices of texts. No condition. -/
import Derived.Test.YtknhjdkjjfijlaaGreatDoorKEntryTellsF1
import Derived.JoinedCond
noncomputable section
namespace Go.Ev
open Go.RowKit Go.ChangeShapes Go.WideShapes
set_option linter.unusedVariables false
variable [Lk]
set_option linter.unusedSectionVars false
/-- A slice of whole numbers: what its reading holds. -/
theorem row_datum {H : Type} {enc : TypeId × Value → H} {P : Program} {W : World} {base' : Nat} {spare : Nat → Bool} {held : Bool} {t e : TypeId} {k : IntKind} {v : Value} {n : Nat} {cs : List Value} {d : DataW H} {ps : List MemPlace} (hu : P.underlying t = some (.slice e)) (he : P.underlying e = some (.int k)) (hc : P.cellsOf e = 1)
  (c : CArg W v 1 n cs) (h : DataW.Trod enc P W base' spare held t v d ps) : (d = .nil ∧ n = 0) ∨ ∃ a b, d = .slice a b ∧ a.length = n := by
 obtain ⟨fuel, hf⟩ := h
 rcases open_ints hu he hc hf with ⟨hcs, hx⟩ | ⟨a, len, cap, zs, hcs, _, hl, hm, hz, hx, _, _⟩
 · simp only [Prod.mk.injEq] at hx
   rcases c.ex with ⟨rfl, rfl, _⟩ | ⟨a, cap, C, t', fr, rfl, _⟩
   · exact .inl ⟨hx.1, rfl⟩
   · simp [Value.cells] at hcs
 · simp only [Prod.mk.injEq] at hx
   rcases c.ex with ⟨rfl, rfl, _⟩ | ⟨a', cap', C, t', fr, rfl, _⟩
   · simp [Value.cells] at hcs
   · simp [Value.cells] at hcs
     obtain ⟨rfl, rfl, rfl⟩ := hcs
     refine .inr ⟨_, _, hx.1, ?_⟩
     have : n ≤ zs.length := by rw [hz]; split <;> omega
     simp [lits]; omega
end Go.Ev
