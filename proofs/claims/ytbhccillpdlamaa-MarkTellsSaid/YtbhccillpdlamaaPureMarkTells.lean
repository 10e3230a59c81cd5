/- That 'mark' tells what the document tells: the plain law of 'MarkTells'. No condition. -/
import Derived.Test.YtbhccillpdlamaaPMarkTellsx2
import Derived.Laws.BitsLemmas
namespace Go.Proofs.Ytbhccillpdlamaa.Pure
open Go.RowKit Go.Proofs.Ytbhccillpdlamaa.PMarkTells Go.Proofs.YtbhccillpdlamaaW.PrintWords Go.Proofs.YtbhccillpdlamaaW.PrintLast

theorem u64_id {x : Int} (h0 : 0 ≤ x) (h1 : x < 18446744073709551616) : IntKind.u64.wrap x = x := by
  unfold IntKind.wrap
  simp only [show IntKind.u64.signed = false from rfl, Bool.false_and, Bool.false_eq_true, if_false, show (2 : Int) ^ IntKind.u64.bits = 18446744073709551616 from rfl]
  omega
theorem u64_mod (x : Int) : IntKind.u64.wrap x = x % 18446744073709551616 := by
  unfold IntKind.wrap
  simp only [show IntKind.u64.signed = false from rfl, Bool.false_and, Bool.false_eq_true, if_false, show (2 : Int) ^ IntKind.u64.bits = 18446744073709551616 from rfl]
theorem step_eq (a0 a1 : Int) (h0 : 0 ≤ a0) (h1 : a0 < 18446744073709551616) : mark_Step.f a0 a1 = pyxref4_Step.f a0 a1 := by
  unfold mark_Step.f pyxref4_Step.f
  have e1 : Int.tdiv a0 36028797018963968 = a0 / 36028797018963968 := Int.tdiv_eq_ediv_of_nonneg h0
  have e2 : IntKind.u64.wrap (a0 / 36028797018963968) = a0 / 36028797018963968 := u64_id (by omega) (by omega)
  have e3 := u64_mod (a0 * 512)
  have e4 : bits .or .u64 (IntKind.u64.wrap (a0 * 512)) (a0 / 36028797018963968) = IntKind.u64.wrap (a0 * 512) + a0 / 36028797018963968 :=
    bits_join .u64 64 (by decide) (fun n h h' => u64_id h (by simpa using h')) 9 _ _ (by rw [e3]; omega) (by rw [e3]; simp only [Int.reducePow]; omega) (by rw [e3]; simp only [Int.reducePow]; omega) (by omega) (by simp only [Int.reducePow]; omega) (by simp only [Int.reducePow]; omega)
  rw [e4, e1, e2, u64_id (x := IntKind.u64.wrap (a0 * 512) + a0 / 36028797018963968) (by rw [e3]; omega) (by rw [e3]; omega)]
theorem step_some (a0 a1 : Int) : ∃ r, mark_Step.f a0 a1 = some r ∧ 0 ≤ r ∧ r < 18446744073709551616 := by
  refine ⟨_, rfl, ?_, ?_⟩ <;> rw [u64_mod] <;> omega
theorem w64 {x : Int} (h0 : -9223372036854775808 ≤ x) (h1 : x ≤ 9223372036854775807) : wrap64 x = x := by
  unfold wrap64
  omega
theorem sum_eq (l : List Int) (hl : l.length ≤ 140737488351232) : ∀ (d k i : Nat) (x : Int), i + d = l.length → d < k → 0 ≤ x → x < 18446744073709551616 →
    ∃ r, mark_Sum.l0 k x l (l.length : Int) (i : Int) = some r ∧ pyxref4_Sum.l0 k l x (i : Int) = some r := by
  intro d
  induction d with
  | zero =>
    intro k i x hi hk h0 h1
    obtain ⟨k, rfl⟩ : ∃ k', k = k' + 1 := ⟨k - 1, by omega⟩
    have hn : ¬ ((i : Int) < (l.length : Int)) := by omega
    obtain ⟨r, hr, _⟩ := step_some x 255
    refine ⟨r, ?_, ?_⟩
    · unfold mark_Sum.l0; rw [if_neg hn, hr]; rfl
    · unfold pyxref4_Sum.l0; rw [if_neg hn, ← step_eq x 255 h0 h1, hr]; rfl
  | succ d ih =>
    intro k i x hi hk h0 h1
    obtain ⟨k, rfl⟩ : ∃ k', k = k' + 1 := ⟨k - 1, by omega⟩
    have hy : (i : Int) < (l.length : Int) := by omega
    have hz : (0 : Int) ≤ (i : Int) := by omega
    obtain ⟨r, hr, g0, g1⟩ := step_some x (rd l (i : Int))
    have hw : wrap64 ((i : Int) + 1) = ((i + 1 : Nat) : Int) := by rw [w64 (by omega) (by omega)]; omega
    obtain ⟨s, s1, s2⟩ := ih k (i + 1) r (by omega) (by omega) g0 g1
    refine ⟨s, ?_, ?_⟩
    · unfold mark_Sum.l0; rw [if_pos hy, if_pos hz, if_pos hy, hr, Option.bind_some, hw]; exact s1
    · unfold pyxref4_Sum.l0; rw [if_pos hy, if_pos hz, ← step_eq x _ h0 h1, hr, Option.bind_some, hw]; exact s2
theorem known_true (k : Nat) : pyxlaw5_known.f (k + 12) = some true := by
  induction k with
  | zero => kernel_rfl
  | succ k ih => exact pyxlaw5_known.mono (k + 12) _ ih

theorem bytes1 (k : Nat) (a : Int) : mark_Bytes.f (k + 12) a = some [shr .u64 a 56 % 256, shr .u64 a 48 % 256, shr .u64 a 40 % 256, shr .u64 a 32 % 256, shr .u64 a 24 % 256, shr .u64 a 16 % 256, shr .u64 a 8 % 256, shr .u64 a 0 % 256] := by
  simp [mark_Bytes.f, mark_Bytes.l0, wrap64]
def nx (a : Int) : Int := IntKind.u64.wrap (Int.tdiv a 256)
theorem bytes2 (k : Nat) (a : Int) : pyxref4_Bytes.f (k + 12) a = some [Int.tmod (nx (nx (nx (nx (nx (nx (nx a))))))) 256 % 256, Int.tmod (nx (nx (nx (nx (nx (nx a)))))) 256 % 256, Int.tmod (nx (nx (nx (nx (nx a))))) 256 % 256, Int.tmod (nx (nx (nx (nx a)))) 256 % 256, Int.tmod (nx (nx (nx a))) 256 % 256, Int.tmod (nx (nx a)) 256 % 256, Int.tmod (nx a) 256 % 256, Int.tmod a 256 % 256] := by
  simp [pyxref4_Bytes.f, pyxref4_Bytes.l0, wrap64, nx, List.replicate]
theorem nx_eq {a : Int} (h0 : 0 ≤ a) (h1 : a < 18446744073709551616) : nx a = a / 256 ∧ 0 ≤ nx a ∧ nx a < 18446744073709551616 := by
  have e : nx a = a / 256 := by
    unfold nx
    rw [Int.tdiv_eq_ediv_of_nonneg h0, u64_id (by omega) (by omega)]
  exact ⟨e, by omega, by omega⟩
theorem bytes_eq (k : Nat) (a : Int) (h0 : 0 ≤ a) (h1 : a < 18446744073709551616) : mark_Bytes.f (k + 12) a = pyxref4_Bytes.f (k + 12) a := by
  rw [bytes1, bytes2]
  obtain ⟨e1, p1, q1⟩ := nx_eq h0 h1
  obtain ⟨e2, p2, q2⟩ := nx_eq p1 q1
  obtain ⟨e3, p3, q3⟩ := nx_eq p2 q2
  obtain ⟨e4, p4, q4⟩ := nx_eq p3 q3
  obtain ⟨e5, p5, q5⟩ := nx_eq p4 q4
  obtain ⟨e6, p6, q6⟩ := nx_eq p5 q5
  obtain ⟨e7, p7, q7⟩ := nx_eq p6 q6
  rw [Int.tmod_eq_emod_of_nonneg p7, Int.tmod_eq_emod_of_nonneg p6, Int.tmod_eq_emod_of_nonneg p5, Int.tmod_eq_emod_of_nonneg p4, Int.tmod_eq_emod_of_nonneg p3, Int.tmod_eq_emod_of_nonneg p2, Int.tmod_eq_emod_of_nonneg p1, Int.tmod_eq_emod_of_nonneg h0]
  have f : shr .u64 a 56 = a / 72057594037927936 ∧ shr .u64 a 48 = a / 281474976710656 ∧ shr .u64 a 40 = a / 1099511627776 ∧ shr .u64 a 32 = a / 4294967296 ∧ shr .u64 a 24 = a / 16777216 ∧ shr .u64 a 16 = a / 65536 ∧ shr .u64 a 8 = a / 256 ∧ shr .u64 a 0 = a / 1 := ⟨rfl, rfl, rfl, rfl, rfl, rfl, rfl, rfl⟩
  obtain ⟨f1, f2, f3, f4, f5, f6, f7, f8⟩ := f
  rw [f1, f2, f3, f4, f5, f6, f7, f8]
  simp only [Option.some.injEq, List.cons.injEq, and_true]
  refine ⟨?_, ?_, ?_, ?_, ?_, ?_, ?_, ?_⟩ <;> omega
theorem u64_wf {x : Int} (h : (Lit.int .u64 x).wf = true) : 0 ≤ x ∧ x < 18446744073709551616 := by
  simp only [Lit.wf, Bool.and_eq_true, decide_eq_true_eq] at h
  have e1 : IntKind.u64.min = 0 := rfl
  have e2 : IntKind.u64.max = 18446744073709551615 := rfl
  omega
theorem MarkTells : pyxlaw5_MarkTells.Pure := by
  intro a0 a1 l2 w0 w1 hm hl hw
  obtain ⟨h0, h1⟩ := u64_wf w0
  refine ⟨l2.length + 12, ?_⟩
  obtain ⟨r, hr, _⟩ := step_some a0 a1
  obtain ⟨s, s1, s2⟩ := sum_eq l2 (by omega) l2.length (l2.length + 12) 0 a0 (by omega) (by omega) h0 h1
  have s1' : mark_Sum.f (l2.length + 12) a0 l2 = some s := s1
  have s2' : pyxref4_Sum.f (l2.length + 12) a0 l2 = some s := s2
  have b1 := bytes1 l2.length a0
  have b2 := bytes_eq l2.length a0 h0 h1
  unfold pyxlaw5_MarkTells.f
  rw [known_true, Option.bind_some, if_pos rfl, hr, Option.bind_some, ← step_eq a0 a1 h0 h1, hr, Option.bind_some, if_pos rfl, s1', Option.bind_some, s2', Option.bind_some, if_pos rfl, ← b2, b1, Option.bind_some, Option.bind_some]
  simp

end Go.Proofs.Ytbhccillpdlamaa.Pure
