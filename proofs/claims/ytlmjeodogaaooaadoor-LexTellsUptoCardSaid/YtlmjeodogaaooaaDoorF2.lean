/- From the steps to a law over any input, further: how much the arguments hold; slices of texts. No condition. -/
import Derived.Test.YtlmjeodogaaooaaDoorF1
import Derived.JoinedCond
noncomputable section
namespace Go.Ev
open Go.RowKit Go.ChangeShapes Go.WideShapes

/-- Letters of texts, in all. -/
def sumLen : List ByteArray → Nat
  | [] => 0
  | t :: ts => (bs t).length + sumLen ts
/-- A slice of whole numbers: what its reading holds. -/
theorem row_datum {H : Type} {enc : TypeId × Value → H} {P : Program} {W : World} {base' : Nat} {spare : Nat → Bool} {held : Bool} {t e : TypeId} {k : IntKind} {v : Value} {n : Nat} {cs : List Value} {d : DataW H} {ps : List MemPlace} (hu : P.underlying t = some (.slice e)) (he : P.underlying e = some (.int k)) (hc : P.cellsOf e = 1)
    (c : CArg W v 1 n cs) (h : DataW.Trod enc P W base' spare held t v d ps) : (d = .nil ∧ n = 0) ∨ ∃ a b, d = .slice a b ∧ a.length = n := by
  obtain ⟨fuel, hf⟩ := h
  rcases open_ints hu he hc hf with ⟨hcs, hx⟩ | ⟨a, len, cap, zs, hcs, _, hl, hm, hz, hx, _, _⟩
  · simp only [Prod.mk.injEq] at hx
    rcases c.ex with ⟨rfl, rfl, _⟩ | ⟨a, cap, C, t', fr, rfl, _⟩
    · exact .inl ⟨hx.1, rfl⟩
    · simp [Value.cells] at hcs
  · simp only [Prod.mk.injEq] at hx
    rcases c.ex with ⟨rfl, rfl, _⟩ | ⟨a', cap', C, t', fr, rfl, _⟩
    · simp [Value.cells] at hcs
    · simp [Value.cells] at hcs
      obtain ⟨rfl, rfl, rfl⟩ := hcs
      refine .inr ⟨_, _, hx.1, ?_⟩
      have : n ≤ zs.length := by rw [hz]; split <;> omega
      simp [lits]; omega
/-- A slice of texts, opened. -/
theorem open_strs {H : Type} {enc : TypeId × Value → H} {P : Program} {W : World} {base base' : Nat} {spare : Nat → Bool} {held : Bool} {t e : TypeId} {v : Value} {d : DataW H} {ps : List MemPlace} (hu : P.underlying t = some (.slice e)) (he : P.underlying e = some .string) (hc : P.cellsOf e = 1)
    (hok : Value.okWide P W .any base t v) (h : DataW.Trod enc P W base' spare held t v d ps) :
    ∃ TS : List ByteArray, CArg W v 1 TS.length (TS.map Value.string) ∧ ((d = .nil ∧ TS = []) ∨ ∃ b, d = .slice (TS.map fun t => .lit (.string (bs t))) b) := by
  obtain ⟨a0, len0, cap0, rfl⟩ := okWide_slice hu hok
  obtain ⟨fuel, hf⟩ := h
  rcases DataW.trod_slice hu hf with ⟨hcs, hx⟩ | ⟨a, len, cap, elems, rest, n, _, hcs, hx, hbase, hl, hm, hel, hget, _, _⟩
  · simp [Value.cells] at hcs
    obtain ⟨rfl, rfl, rfl⟩ := hcs
    simp only [Prod.mk.injEq] at hx
    exact ⟨[], ⟨by simp, .inl ⟨rfl, rfl, rfl⟩⟩, .inl ⟨hx.1, rfl⟩⟩
  · simp [Value.cells] at hcs
    obtain ⟨rfl, rfl, rfl⟩ := hcs
    simp only [Prod.mk.injEq] at hx
    have hok' : a.spot = none ∧ ∃ row cells, W.shape? a.block = some (row, cells) := by
      simp only [Value.okWide, hu, Cell.okWide, Cell.ok] at hok
      obtain ⟨_, _, _, h2, row, cells, h3, _⟩ := hok
      exact ⟨h2, row, cells, h3⟩
    obtain ⟨hsp, row, cells, hsh⟩ := hok'
    obtain ⟨C, t', fr, hC⟩ : ∃ C t' fr, W.heap[a.block]? = some (.cells C t' fr) := by
      unfold World.shape? at hsh
      split at hsh
      · rename_i c el fr hh; exact ⟨c, el, fr, hh⟩
      · cases hsh
    have each : ∀ i, (hi : i < len0) → ∃ s : ByteArray, C[a.off + i]? = some (.string s) ∧ elems[i]? = some (.lit (.string (bs s)), []) := by
      intro i hi
      have hg := hget i hi
      rw [hc, Nat.mul_one] at hg
      have hie : i < elems.length := by omega
      rw [List.getElem?_eq_getElem hie] at hg ⊢
      have e2 : (a.add i) = ⟨a.block, a.off + i, none⟩ := by
        obtain ⟨ab, ao, asp⟩ := a
        simp only at hsp; subst hsp
        exact addr_add _ _ _
      rw [e2] at hg
      unfold World.cells? at hg
      rw [if_pos hbase] at hg
      have e3 : (⟨a.block, a.off + i, none⟩ : Addr).add 0 = ⟨a.block, a.off + i, none⟩ := addr_add _ _ _
      simp only [List.range_one, List.mapM_cons, List.mapM_nil, e3] at hg
      unfold World.cell? at hg
      simp only [hC, Option.isSome_none, Bool.false_eq_true, if_false] at hg
      cases hx : C[a.off + i]? with
      | none => rw [hx] at hg; simp at hg
      | some x =>
        rw [hx] at hg
        simp at hg
        obtain ⟨s, h1, h2, _⟩ := DataW.trod_string he hg
        simp at h1
        subst h1
        exact ⟨s, rfl, by rw [h2]; rfl⟩
    refine ⟨(List.range len0).map fun i => match C[a.off + i]? with
      | some (.string s) => s
      | _ => ⟨#[]⟩, ⟨?_, .inr ⟨a, cap0, C, t', fr, by simp, hsp, by simpa using hl, by simp, hC, ?_⟩⟩, .inr ⟨rest.map (·.1), ?_⟩⟩
    · intro x hx
      obtain ⟨y, _, rfl⟩ := List.mem_map.1 hx
      rfl
    · intro i x hx
      simp only [List.map_map, List.getElem?_map] at hx
      by_cases hi : i < len0
      · obtain ⟨s, h1, _⟩ := each i hi
        simp only [List.getElem?_range hi, Option.map_some, Function.comp, h1] at hx
        injection hx with hx
        subst hx
        rw [Nat.add_comm]; exact h1
      · rw [List.getElem?_eq_none (by simpa using hi)] at hx
        cases hx
    · rw [hx.1]
      congr 1
      apply List.ext_getElem?
      intro i
      simp only [List.map_map, List.getElem?_map]
      by_cases hi : i < len0
      · obtain ⟨s, h1, h2⟩ := each i hi
        simp only [List.getElem?_range hi, Option.map_some, Function.comp, h1, h2]
      · rw [List.getElem?_eq_none (l := elems) (by omega), List.getElem?_eq_none (l := List.range len0) (by simpa using hi)]
        rfl
end Go.Ev
