/- From the steps to a law over any input, further: slices of texts, by what they weigh. No condition. -/
import Derived.Test.YtfbdnmcncgbifaaF2
noncomputable section
namespace Go.Ev
open Go.RowKit Go.ChangeShapes Go.WideShapes
theorem strs_all {H : Type} {P : Program} {e : TypeId} : ∀ (TS : List ByteArray), (∀ m ∈ DataW.weightsAll P e (TS.map fun t => (.lit (.string (bs t)) : DataW H)), m ≤ 140737488351232) → ∀ t ∈ TS, (bs t).length ≤ 140737488351232
  | [], _, t, h => by cases h
  | x :: TS, hw, t, h => by
    simp only [List.map_cons, DataW.weightsAll, List.mem_append] at hw
    rcases List.mem_cons.1 h with rfl | h
    · exact hw _ (.inl (by simp [DataW.weights, bs]))
    · exact strs_all TS (fun m hm => hw m (.inr hm)) t h
theorem strs_small {H : Type} {P : Program} {t e : TypeId} (hu : P.underlying t = some (.slice e)) (hB : 0 < P.bytesOf e) {TS : List ByteArray} {d : DataW H} (h : (d = .nil ∧ TS = []) ∨ ∃ b, d = .slice (TS.map fun t => .lit (.string (bs t))) b) (hw : ∀ m ∈ d.weights P t, m ≤ 140737488351232) :
    (∀ t ∈ TS, (bs t).length ≤ 140737488351232) ∧ TS.length ≤ 140737488351232 := by
  rcases h with ⟨rfl, rfl⟩ | ⟨b, rfl⟩
  · simp
  · refine ⟨strs_all (H := H) (P := P) (e := e) TS fun m hm => hw m ?_, ?_⟩
    · simp only [DataW.weights, hu, List.mem_cons, List.mem_append]
      exact .inr (.inl hm)
    · have := hw ((TS.length + b.length) * P.bytesOf e) (by
        simp only [DataW.weights, hu, List.mem_cons, List.length_map]
        exact .inl trivial)
      have h1 : (TS.length + b.length) * 1 ≤ (TS.length + b.length) * P.bytesOf e := Nat.mul_le_mul_left _ hB
      omega
end Go.Ev
