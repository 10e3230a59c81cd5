/- Chains without a program: what is kept. No condition. -/
import Derived.Test.YtjkbkofgdikmcaaC9
noncomputable section
namespace Go.Ev
open Go.Proofs
set_option linter.unusedVariables false
set_option maxRecDepth 100000

/-- The chain of some records. -/
def chN (l : List Rc) : Ch := l.foldl Ch.add Ch.zero
theorem chN_snoc (l : List Rc) (r : Rc) : chN (l ++ [r]) = (chN l).add r := by simp [chN, List.foldl_append]
structure ChIs (c : Ch) (l : List Rc) : Prop where
  count : c.count = (l.length : Int)
  head : c.head = l.foldl linkF 0
  last : c.last = l.drop (l.length - 8)
  base : c.base = (l.take (l.length - 8)).foldl linkF 0
theorem chIs_zero : ChIs Ch.zero [] := ⟨rfl, rfl, rfl, rfl⟩
theorem chIs_add {c : Ch} {l : List Rc} (h : ChIs c l) (r : Rc) (hl : l.length < 9223372036854775807) : ChIs (c.add r) (l ++ [r]) := by
  obtain ⟨h1, h2, h3, h4⟩ := h
  have e1 : IntKind.i64.wrap (c.count + 1) = ((l ++ [r]).length : Int) := by
    rw [h1, wrap_i64 (by omega) (by omega)]; simp
  have e2 : linkF c.head r = (l ++ [r]).foldl linkF 0 := by rw [h2, List.foldl_append]; rfl
  have e3 : c.last ++ [r] = (l ++ [r]).drop (l.length - 8) := by
    rw [h3, List.drop_append_of_le_length (by omega)]
  have hlen : c.last.length = l.length - (l.length - 8) := by rw [h3]; simp
  unfold Ch.add
  by_cases hq : 8 < c.last.length + 1
  · rw [if_pos hq]
    have hl8 : 8 ≤ l.length := by omega
    refine ⟨e1, e2, ?_, ?_⟩
    · show (c.last ++ [r]).drop 1 = _
      rw [e3, List.drop_drop]
      congr 1; simp; omega
    · show linkF c.base ((c.last ++ [r]).head?.getD r) = _
      have hlt : l.length - 8 < (l ++ [r]).length := by simp; omega
      have e4 : (c.last ++ [r]).head?.getD r = (l ++ [r])[l.length - 8] := by
        rw [e3, List.head?_drop, List.getElem?_eq_getElem hlt]; rfl
      have e5 : (l ++ [r]).length - 8 = (l.length - 8) + 1 := by simp; omega
      rw [e4, e5, h4, List.take_succ_eq_append_getElem hlt, List.foldl_append, List.take_append_of_le_length (by omega)]
      rfl
  · rw [if_neg hq]
    have hl8 : l.length < 8 := by omega
    refine ⟨e1, e2, ?_, ?_⟩
    · show c.last ++ [r] = _
      rw [e3]
      congr 1; simp; omega
    · show c.base = _
      rw [h4]
      have e6 : (l ++ [r]).length - 8 = 0 := by simp; omega
      have e7 : l.length - 8 = 0 := by omega
      rw [e6, e7]; rfl
theorem chN_is (l : List Rc) (hl : l.length < 9223372036854775807) : ChIs (chN l) l := by
  have : ∀ n, n ≤ l.length → ChIs (chN (l.take n)) (l.take n) := by
    intro n
    induction n with
    | zero => intro _; rw [List.take_zero]; exact chIs_zero
    | succ n ih =>
      intro hn
      have := ih (by omega)
      rw [List.take_succ_eq_append_getElem (show n < l.length by omega), chN_snoc]
      exact chIs_add this _ (by simp; omega)
  simpa using this l.length (Nat.le_refl _)
/-- A chain that was added to is right. -/
theorem chIs_right {c : Ch} {l : List Rc} (h : ChIs c l) (hl : l.length < 9223372036854775807) : rightF c = true := by
  obtain ⟨h1, h2, h3, h4⟩ := h
  have a1 : c.last.foldl linkF c.base = c.head := by
    rw [h2, h3, h4, ← List.foldl_append, List.take_append_drop]
  have a2 : (c.last.length : Int) = (if 8 < c.count then 8 else c.count) := by
    rw [h3, h1]; simp; split <;> omega
  unfold rightF
  rw [a1, a2]
  by_cases h8 : c.count > 8
  · simp [h8]
  · have : c.base = 0 := by
      rw [h4, show l.length - 8 = 0 by omega]; rfl
    simp [this]
end Go.Ev
