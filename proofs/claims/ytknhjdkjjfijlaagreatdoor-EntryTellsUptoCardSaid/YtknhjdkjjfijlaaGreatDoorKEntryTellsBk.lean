/- What the bound of the second form gives. No condition. -/
import Derived.Test.YtknhjdkjjfijlaaGreatDoorRows
import Derived.Test.YtknhjdkjjfijlaaGreatDoorKEntryTellsF2
noncomputable section
namespace Go.Proofs.YtknhjdkjjfijlaaGreatDoor.Bk
open Go.Ev
theorem one_le {H : Type} (d : DataW H) : 1 ≤ Rows.uptoBulk d := by
 cases d with
 | lit l => cases l <;> simp [Rows.uptoBulk]
 | nil => simp [Rows.uptoBulk]
 | ptr d => simp [Rows.uptoBulk]
 | slice elems spare => simp [Rows.uptoBulk]
 | agg parts => simp [Rows.uptoBulk]
 | iface t d => simp [Rows.uptoBulk]
 | map entries => simp [Rows.uptoBulk]
 | held h => simp [Rows.uptoBulk]
theorem length_le {H : Type} (l : List (DataW H)) : l.length ≤ Rows.uptoBulkAll l := by
 induction l with
 | nil => simp [Rows.uptoBulkAll]
 | cons x r ih => have := one_le x; simp only [Rows.uptoBulkAll, List.length_cons]; omega
theorem row_le {H : Type} {d : DataW H} {n : Nat} (h : (d = .nil ∧ n = 0) ∨ ∃ a b, d = .slice a b ∧ a.length = n) : n ≤ Rows.uptoBulk d := by
 rcases h with ⟨rfl, rfl⟩ | ⟨a, b, rfl, rfl⟩
 · omega
 · have := length_le a
   simp only [Rows.uptoBulk]; omega
theorem string_le {H : Type} (s : List UInt8) : s.length + 1 ≤ Rows.uptoBulk (DataW.lit (H := H) (.string s)) := by
 simp [Rows.uptoBulk]
theorem bound {H : Type} {l : List (DataW H)} (hk : Rows.uptoSmall H l = true) : Rows.uptoBulkAll l ≤ 1048576 := by
 unfold Rows.uptoSmall at hk
 exact of_decide_eq_true hk
end Go.Proofs.YtknhjdkjjfijlaaGreatDoor.Bk
