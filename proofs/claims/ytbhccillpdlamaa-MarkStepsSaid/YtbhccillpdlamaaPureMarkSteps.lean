/- A sum is its steps, one behind the other; each step is one to one: the plain law of 'MarkSteps'. No condition. -/
import Derived.Test.YtbhccillpdlamaaPMarkStepsx2
import Derived.Test.YtbhccillpdlamaaMSt
namespace Go.Proofs.Ytbhccillpdlamaa.Pure
open Go.RowKit Go.Proofs.Ytbhccillpdlamaa.PMarkSteps Go.Proofs.YtbhccillpdlamaaW.PrintWords Go.Proofs.YtbhccillpdlamaaW.PrintLast
open Go.Proofs.Ytbhccillpdlamaa.MSt

theorem u64_wf {x : Int} (h : (Lit.int .u64 x).wf = true) : U x := by
  simp only [Lit.wf, Bool.and_eq_true, decide_eq_true_eq] at h
  have e1 : IntKind.u64.min = 0 := rfl
  have e2 : IntKind.u64.max = 18446744073709551615 := rfl
  unfold U; omega
theorem u8_wf {x : Int} (h : (Lit.int .u8 x).wf = true) : Y x := by
  simp only [Lit.wf, Bool.and_eq_true, decide_eq_true_eq] at h
  have e1 : IntKind.u8.min = 0 := rfl
  have e2 : IntKind.u8.max = 255 := rfl
  unfold Y; omega
theorem i64_wf {x : Int} (h : (Lit.int .i64 x).wf = true) : -9223372036854775808 ≤ x ∧ x ≤ 9223372036854775807 := by
  simp only [Lit.wf, Bool.and_eq_true, decide_eq_true_eq] at h
  have e1 : IntKind.i64.min = -9223372036854775808 := rfl
  have e2 : IntKind.i64.max = 9223372036854775807 := rfl
  omega
theorem w64 {x : Int} (h0 : -9223372036854775808 ≤ x) (h1 : x ≤ 9223372036854775807) : wrap64 x = x := by
  unfold wrap64
  omega
theorem known_true (k : Nat) : pyxlaw5_known.f (k + 12) = some true := by
  induction k with
  | zero => kernel_rfl
  | succ k ih => exact pyxlaw5_known.mono (k + 12) _ ih
theorem sum_l (l : List Int) (hl : l.length ≤ 140737488351232) : ∀ (d k i : Nat) (x : Int), i + d = l.length → d < k →
    mark_Sum.l0 k x l (l.length : Int) (i : Int) = some (sum x (l.drop i)) := by
  intro d
  induction d with
  | zero =>
    intro k i x hi hk
    obtain ⟨k, rfl⟩ : ∃ k', k = k' + 1 := ⟨k - 1, by omega⟩
    have hn : ¬ ((i : Int) < (l.length : Int)) := by omega
    unfold mark_Sum.l0
    rw [if_neg hn, List.drop_eq_nil_of_le (by omega)]
    rfl
  | succ d ih =>
    intro k i x hi hk
    obtain ⟨k, rfl⟩ : ∃ k', k = k' + 1 := ⟨k - 1, by omega⟩
    have hy : (i : Int) < (l.length : Int) := by omega
    have hz : (0 : Int) ≤ (i : Int) := by omega
    have hw : wrap64 ((i : Int) + 1) = ((i + 1 : Nat) : Int) := by rw [w64 (by omega) (by omega)]; omega
    have hrd : rd l (i : Int) = l[i]'(by omega) := by simp [rd, show i < l.length by omega]
    have hst : mark_Step.f x (rd l (i : Int)) = some (st x (l[i]'(by omega))) := by rw [hrd]; rfl
    unfold mark_Sum.l0
    rw [if_pos hy, if_pos hz, if_pos hy, hst, Option.bind_some, hw, ih k (i + 1) _ (by omega) (by omega), List.drop_eq_getElem_cons (show i < l.length by omega)]
    rfl
theorem sum_f (l : List Int) (hl : l.length ≤ 140737488351232) (k : Nat) (hk : l.length < k) (x : Int) : mark_Sum.f k x l = some (sum x l) :=
  sum_l l hl l.length k 0 x (by omega) hk
theorem pick_f {n m : Int} (hm : 0 < m) (hm' : m ≤ 9223372036854775807) : ∃ p, pyxhand_Pick.f n m = some p ∧ 0 ≤ p ∧ p < m := by
  have h1 := Int.tmod_lt_of_pos n hm
  have h2 : -m < Int.tmod n m := by have := Int.lt_tmod_of_pos n hm; omega
  unfold pyxhand_Pick.f
  rw [if_neg (by omega)]
  by_cases h : Int.tmod n m < 0
  · rw [if_pos h, w64 (by omega) (by omega)]
    exact ⟨_, rfl, by omega, by omega⟩
  · rw [if_neg h]
    exact ⟨_, rfl, by omega, h1⟩
theorem step_f (x c : Int) : mark_Step.f x c = some (st x c) := rfl
theorem steps_end (l : List Int) (hl : l.length ≤ 140737488351232) (a0 a3 a4 a5 a6 p x : Int) (t : List Int) (n : Int) (k : Nat) (hk : l.length + 12 ≤ k) (hp0 : 0 ≤ p) (hp1 : p ≤ (l.length : Int))
    (u3 : U a3) (u4 : U a4) (y5 : Y a5) (y6 : Y a6) (hx : sum a0 l = sum x (l.drop p.toNat)) : pyxlaw5_MarkSteps.l0 (k + 1) a0 l a3 a4 a5 a6 x p t n n = some true := by
  rw [pyxlaw5_MarkSteps.l0]
  obtain ⟨j, rfl⟩ : ∃ j, k = j + 12 := ⟨k - 12, by omega⟩
  rw [if_neg (by omega), known_true, Option.bind_some, if_pos rfl, sum_f l hl _ (by omega), Option.bind_some, if_pos hp0, if_pos hp1, sum_f (l.drop p.toNat) (by rw [List.length_drop]; omega) _ (by rw [List.length_drop]; omega), Option.bind_some, if_pos hx, step_f, Option.bind_some, step_f, Option.bind_some]
  have e1 : ((st a3 a5 == st a4 a5) == (a3 == a4)) = true := by
    by_cases h : a3 = a4
    · subst h; simp
    · have h' : ¬ st a3 a5 = st a4 a5 := fun e => h (st_left u3 u4 y5 e)
      rw [beq_eq_false_iff_ne.2 h, beq_eq_false_iff_ne.2 h']; rfl
  have e2 : ((st a3 a5 == st a3 a6) == (a5 == a6)) = true := by
    by_cases h : a5 = a6
    · subst h; simp
    · have h' : ¬ st a3 a5 = st a3 a6 := fun e => h (st_right u3 y5 y6 e)
      rw [beq_eq_false_iff_ne.2 h, beq_eq_false_iff_ne.2 h']; rfl
  rw [if_pos e1, Option.bind_some, step_f, Option.bind_some, e2]
theorem steps_loop (l : List Int) (hl : l.length ≤ 140737488351232) (a0 a3 a4 a5 a6 p : Int) (t : List Int) (ht : t.length ≤ l.length) (hp0 : 0 ≤ p) (hp1 : p ≤ (l.length : Int))
    (u3 : U a3) (u4 : U a4) (y5 : Y a5) (y6 : Y a6) : ∀ (d k i : Nat) (x : Int), i + d = t.length → d + l.length + 12 < k → sum a0 l = sum (run x (t.drop i)) (l.drop p.toNat) →
    pyxlaw5_MarkSteps.l0 k a0 l a3 a4 a5 a6 x p t (t.length : Int) (i : Int) = some true := by
  intro d
  induction d with
  | zero =>
    intro k i x hi hk hx
    obtain ⟨k, rfl⟩ : ∃ k', k = k' + 1 := ⟨k - 1, by omega⟩
    rw [List.drop_eq_nil_of_le (by omega)] at hx
    have hit : (i : Int) = (t.length : Int) := by omega
    rw [hit]
    exact steps_end l hl a0 a3 a4 a5 a6 p x t _ k (by omega) hp0 hp1 u3 u4 y5 y6 hx
  | succ d ih =>
    intro k i x hi hk hx
    obtain ⟨k, rfl⟩ : ∃ k', k = k' + 1 := ⟨k - 1, by omega⟩
    have hy : (i : Int) < (t.length : Int) := by omega
    have hz : (0 : Int) ≤ (i : Int) := by omega
    have hw : wrap64 ((i : Int) + 1) = ((i + 1 : Nat) : Int) := by rw [w64 (by omega) (by omega)]; omega
    have hrd : rd t (i : Int) = t[i]'(by omega) := by simp [rd, show i < t.length by omega]
    rw [pyxlaw5_MarkSteps.l0]
    rw [if_pos hy, if_pos hz, if_pos hy, step_f, Option.bind_some, hw, hrd]
    refine ih k (i + 1) _ (by omega) (by omega) ?_
    rw [hx, List.drop_eq_getElem_cons (show i < t.length by omega)]
    rfl
theorem MarkSteps : pyxlaw5_MarkSteps.Pure := by
  intro a0 l1 a2 a3 a4 a5 a6 w0 hm hl hw w2 w3 w4 w5 w6
  have hl : l1.length ≤ 140737488351232 := by omega
  obtain ⟨p, hp, p0, p1⟩ := pick_f (n := a2) (m := (l1.length : Int) + 1) (by omega) (by omega)
  refine ⟨2 * l1.length + 20, ?_⟩
  unfold pyxlaw5_MarkSteps.f
  rw [w64 (by omega) (by omega), hp, Option.bind_some, if_pos p0, if_pos (by omega)]
  refine steps_loop l1 hl a0 a3 a4 a5 a6 p _ (by rw [List.length_take]; omega) p0 (by omega) (u64_wf w3) (u64_wf w4) (u8_wf w5) (u8_wf w6) (l1.take p.toNat).length _ 0 a0 (by omega) (by rw [List.length_take]; omega) ?_
  rw [List.drop_zero]
  show st (run a0 l1) 255 = st (run (run a0 (l1.take p.toNat)) (l1.drop p.toNat)) 255
  rw [← run_app, List.take_append_drop]

end Go.Proofs.Ytbhccillpdlamaa.Pure
