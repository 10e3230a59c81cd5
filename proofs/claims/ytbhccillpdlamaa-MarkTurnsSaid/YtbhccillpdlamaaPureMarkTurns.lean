/- With one byte that is another one the sum is another one; with another seed, too: the plain law of 'MarkTurns'. No condition. -/
import Derived.Test.YtbhccillpdlamaaPMarkTurnsx1
import Derived.Test.YtbhccillpdlamaaMSt
namespace Go.Proofs.Ytbhccillpdlamaa.Pure
open Go.RowKit Go.Proofs.Ytbhccillpdlamaa.PMarkTurns Go.Proofs.YtbhccillpdlamaaW.PrintWords Go.Proofs.YtbhccillpdlamaaW.PrintLast
open Go.Proofs.Ytbhccillpdlamaa.MSt

theorem u64_wf {x : Int} (h : (Lit.int .u64 x).wf = true) : U x := by
  simp only [Lit.wf, Bool.and_eq_true, decide_eq_true_eq] at h
  have e1 : IntKind.u64.min = 0 := rfl
  have e2 : IntKind.u64.max = 18446744073709551615 := rfl
  unfold U; omega
theorem u8_wf {x : Int} (h : (Lit.int .u8 x).wf = true) : Y x := by
  simp only [Lit.wf, Bool.and_eq_true, decide_eq_true_eq] at h
  have e1 : IntKind.u8.min = 0 := rfl
  have e2 : IntKind.u8.max = 255 := rfl
  unfold Y; omega
theorem i64_wf {x : Int} (h : (Lit.int .i64 x).wf = true) : -9223372036854775808 ≤ x ∧ x ≤ 9223372036854775807 := by
  simp only [Lit.wf, Bool.and_eq_true, decide_eq_true_eq] at h
  have e1 : IntKind.i64.min = -9223372036854775808 := rfl
  have e2 : IntKind.i64.max = 9223372036854775807 := rfl
  omega
theorem w64 {x : Int} (h0 : -9223372036854775808 ≤ x) (h1 : x ≤ 9223372036854775807) : wrap64 x = x := by
  unfold wrap64
  omega
theorem known_true (k : Nat) : pyxlaw5_known.f (k + 12) = some true := by
  induction k with
  | zero => kernel_rfl
  | succ k ih => exact pyxlaw5_known.mono (k + 12) _ ih
theorem sum_l (l : List Int) (hl : l.length ≤ 140737488351232) : ∀ (d k i : Nat) (x : Int), i + d = l.length → d < k →
    mark_Sum.l0 k x l (l.length : Int) (i : Int) = some (sum x (l.drop i)) := by
  intro d
  induction d with
  | zero =>
    intro k i x hi hk
    obtain ⟨k, rfl⟩ : ∃ k', k = k' + 1 := ⟨k - 1, by omega⟩
    have hn : ¬ ((i : Int) < (l.length : Int)) := by omega
    unfold mark_Sum.l0
    rw [if_neg hn, List.drop_eq_nil_of_le (by omega)]
    rfl
  | succ d ih =>
    intro k i x hi hk
    obtain ⟨k, rfl⟩ : ∃ k', k = k' + 1 := ⟨k - 1, by omega⟩
    have hy : (i : Int) < (l.length : Int) := by omega
    have hz : (0 : Int) ≤ (i : Int) := by omega
    have hw : wrap64 ((i : Int) + 1) = ((i + 1 : Nat) : Int) := by rw [w64 (by omega) (by omega)]; omega
    have hrd : rd l (i : Int) = l[i]'(by omega) := by simp [rd, show i < l.length by omega]
    have hst : mark_Step.f x (rd l (i : Int)) = some (st x (l[i]'(by omega))) := by rw [hrd]; rfl
    unfold mark_Sum.l0
    rw [if_pos hy, if_pos hz, if_pos hy, hst, Option.bind_some, hw, ih k (i + 1) _ (by omega) (by omega), List.drop_eq_getElem_cons (show i < l.length by omega)]
    rfl
theorem sum_f (l : List Int) (hl : l.length ≤ 140737488351232) (k : Nat) (hk : l.length < k) (x : Int) : mark_Sum.f k x l = some (sum x l) :=
  sum_l l hl l.length k 0 x (by omega) hk
theorem pick_f {n m : Int} (hm : 0 < m) (hm' : m ≤ 9223372036854775807) : ∃ p, pyxhand_Pick.f n m = some p ∧ 0 ≤ p ∧ p < m := by
  have h1 := Int.tmod_lt_of_pos n hm
  have h2 : -m < Int.tmod n m := by have := Int.lt_tmod_of_pos n hm; omega
  unfold pyxhand_Pick.f
  rw [if_neg (by omega)]
  by_cases h : Int.tmod n m < 0
  · rw [if_pos h, w64 (by omega) (by omega)]
    exact ⟨_, rfl, by omega, by omega⟩
  · rw [if_neg h]
    exact ⟨_, rfl, by omega, h1⟩
theorem few_f (l : List Int) (hl : l.length ≤ 140737488351232) : pyxhand_Few.f l (l.length : Int) = some l := by
  unfold pyxhand_Few.f
  rw [if_neg (by omega), Option.bind_some, if_pos (by simp; omega)]
  simp

theorem MarkTurns : pyxlaw5_MarkTurns.Pure := by
  intro a0 a1 l2 a3 a4 w0 w1 hm hl hw w3 w4
  have hl : l2.length ≤ 140737488351232 := by omega
  have u0 := u64_wf w0
  have u1 := u64_wf w1
  have y4 := u8_wf w4
  have hy : ∀ c ∈ l2, Y c := fun c hc => u8_wf (hw c hc)
  refine ⟨l2.length + 13, ?_⟩
  unfold pyxlaw5_MarkTurns.f
  rw [sum_f l2 hl _ (by omega), Option.bind_some, known_true (l2.length + 1), Option.bind_some, if_pos rfl, sum_f l2 hl _ (by omega), Option.bind_some]
  have hseed : ((sum a1 l2 == sum a0 l2) != (a1 == a0)) = false := by
    have := sum_seed hy u1 u0
    by_cases h : a1 = a0
    · subst h; simp
    · have h' : ¬ sum a1 l2 = sum a0 l2 := fun e => h (this.1 e)
      rw [beq_eq_false_iff_ne.2 h, beq_eq_false_iff_ne.2 h']; rfl
  rw [hseed]
  show pyxlaw5_MarkTurns.j0 ((l2.length + 12) + 1) a0 l2 a3 a4 (sum a0 l2) false = some true
  rw [pyxlaw5_MarkTurns.j0]
  rw [if_neg (by simp)]
  by_cases h0 : (l2.length : Int) = 0
  · rw [if_pos h0]
  · rw [if_neg h0, few_f l2 hl, Option.bind_some]
    obtain ⟨p, hp, p0, p1⟩ := pick_f (n := a3) (m := (l2.length : Int)) (by omega) (by omega)
    rw [hp, Option.bind_some, if_pos p0, if_pos p1]
    have hpn : p.toNat < l2.length := by omega
    rw [sum_f (l2.set p.toNat a4) (by simpa using hl) _ (by simp), Option.bind_some, if_pos p1]
    have hrd : rd l2 p = l2[p.toNat] := by simp [rd, hpn]
    have := sum_set hy u0 hpn y4
    rw [hrd]
    by_cases h : a4 = l2[p.toNat]
    · rw [this.2 h, ← h]; simp
    · have h' : ¬ sum a0 (l2.set p.toNat a4) = sum a0 l2 := fun e => h (this.1 e)
      rw [beq_eq_false_iff_ne.2 h, beq_eq_false_iff_ne.2 h']; rfl

end Go.Proofs.Ytbhccillpdlamaa.Pure
