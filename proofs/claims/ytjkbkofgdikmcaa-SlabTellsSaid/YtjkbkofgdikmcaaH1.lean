/- The helpers: copies, cuts, picks. No condition. -/
import Derived.Test.YtjkbkofgdikmcaaS4
import Derived.Test.YtjkbkofgdikmcaaChecked
noncomputable section
namespace Go.Ev
open Go.Proofs
set_option linter.unusedVariables false
set_option maxRecDepth 100000

def inR (n : Int) : Prop := -9223372036854775808 ≤ n ∧ n < 9223372036854775808
theorem B26 : SlT Try.prog 22 5 1 1 (.int .u8 0) := ⟨Try.underlying22, ⟨_, rfl, rfl, rfl, rfl⟩, rfl, rfl, by decide, by decide⟩
theorem clone_spec {s : St} (wf : WF s) {κ : Option Nat} {v : Value} {l : List UInt8} (h : Sb s κ v l) (hl : l.length ≤ 150000000001000) :
    Cw Try.prog 43 [v] s fun r s' => K0 s s' ∧ Ob s.next s' r l := by
  refine Cw.enter Try.func43 rfl rfl ?_
  rcases h.ex with ⟨rfl, h1, h2, rfl⟩ | ⟨b, off, c, C, rfl, hc, hlen, hs, hm⟩
  · conv => whnf
    refine Om.of (.bool true) rfl ?_
    conv => whnf
    refine Br.yes rfl ?_
    conv => whnf
    exact ⟨⟨Kp.refl wf, ⟨.inl ⟨rfl, h1, h2⟩⟩⟩⟩
  · conv => whnf
    refine Om.of (.bool false) rfl ?_
    conv => whnf
    refine Br.no rfl ?_
    conv => whnf
    obtain ⟨v1, s1, e1, o1, k1⟩ := buildSlice0 B26 wf
    refine Om.of (v1, s1) e1 ?_
    conv => whnf
    obtain ⟨v2, s2, e2, o2, k2⟩ := append_own B26 Try.underlying22 rfl k1.wf o1 (elems_sl (h.keep0 k1)) (by simp [byteVals]) (byteVals_one _) (by omega)
    refine Om.of (v2, s2) e2 ?_
    conv => whnf
    rw [Nat.zero_add, List.nil_append] at o2
    exact ⟨⟨k1.trans k2 fun j hj => .inr (by omega), o2.n k2.wf (Nat.le_refl _)⟩⟩
theorem take_bytes (l : List UInt8) (n : Nat) : (byteVals l).take n = byteVals (l.take n) := by simp [byteVals]
theorem drop_bytes (l : List UInt8) (n : Nat) : (byteVals l).drop n = byteVals (l.drop n) := by simp [byteVals]
theorem slice_to {s : St} {κ : Option Nat} {v : Value} {l : List UInt8} (h : Sb s κ v l) (k : IntKind) {n : Nat} (hn : n ≤ l.length) :
    ∃ v', evSliceMem Try.prog 22 v none (some (.int k (n : Int))) none s = some v' ∧ Sb s κ v' (l.take n) := by
  obtain ⟨v', e, h'⟩ := slice_sl B26 h k k none (some n) (by simp) (by simpa using hn)
  refine ⟨v', e, Sb.of (n := n) ?_⟩
  simpa [take_bytes] using h'
theorem slice_from {s : St} {κ : Option Nat} {v : Value} {l : List UInt8} (h : Sb s κ v l) (k : IntKind) {n : Nat} (hn : n ≤ l.length) :
    ∃ v', evSliceMem Try.prog 22 v (some (.int k (n : Int))) none none s = some v' ∧ Sb s κ v' (l.drop n) := by
  obtain ⟨v', e, h'⟩ := slice_sl B26 h k k (some n) none (by simpa using hn) (by simp)
  refine ⟨v', e, Sb.of (n := l.length - n) ?_⟩
  have e2 : (byteVals (l.drop n)).take (l.length - n) = byteVals (l.drop n) := List.take_of_length_le (by simp [byteVals])
  simpa [drop_bytes, e2] using h'
theorem few_spec {s : St} (wf : WF s) {κ : Option Nat} {v : Value} {l : List UInt8} (h : Sb s κ v l) (hl : l.length ≤ 150000000001000) (n : Nat) :
    Cw Try.prog 13 [v, .int .i64 (n : Int)] s fun r s' => K0 s s' ∧ Ob s.next s' r (l.take n) := by
  obtain ⟨a, c, rfl⟩ := h.shape
  refine Cw.enter Try.func13 rfl rfl ?_
  have fin : ∀ {w : Value} {l' : List UInt8}, Sb s κ w l' → l'.length ≤ 150000000001000 → ∃ v1 s1 v2 s2, evBuildSlice Try.prog 22 0 [] s = some (v1, s1) ∧ evAp Try.prog 22 22 v1 w s1 = some (v2, s2) ∧ K0 s s2 ∧ Ob s.next s2 v2 l' := by
    intro w l' hw hl'
    obtain ⟨v1, s1, e1, o1, k1⟩ := buildSlice0 B26 wf
    obtain ⟨v2, s2, e2, o2, k2⟩ := append_own B26 Try.underlying22 rfl k1.wf o1 (elems_sl (hw.keep0 k1)) (by simp [byteVals]) (byteVals_one _) (by omega)
    rw [Nat.zero_add, List.nil_append] at o2
    exact ⟨v1, s1, v2, s2, e1, e2, k1.trans k2 fun j hj => .inr (by omega), o2.n k2.wf (Nat.le_refl _)⟩
  conv => whnf
  refine ⟨fun hc => ?_, fun hc => ?_⟩
  · have hc : n < l.length := by have := of_decide_eq_true hc; omega
    conv => whnf
    obtain ⟨w, e0, hw⟩ := slice_to h .i64 (Nat.le_of_lt hc)
    refine Om.of _ e0 ?_
    conv => whnf
    obtain ⟨v1, s1, v2, s2, e1, e2, k2, o2⟩ := fin hw (by simp; omega)
    refine Om.of _ e1 ?_
    conv => whnf
    refine Om.of _ e2 ?_
    conv => whnf
    exact ⟨⟨k2, o2⟩⟩
  · have hc : l.length ≤ n := by have := of_decide_eq_false hc; omega
    conv => whnf
    obtain ⟨v1, s1, v2, s2, e1, e2, k2, o2⟩ := fin h hl
    refine Om.of _ e1 ?_
    conv => whnf
    refine Om.of _ e2 ?_
    conv => whnf
    rw [List.take_of_length_le hc]
    exact ⟨⟨k2, o2⟩⟩
theorem pick_spec (s : St) {n m : Int} (hn : inR n) (hm : 0 < m) (hm2 : m < 9223372036854775808) :
    Cw Try.prog 12 [.int .i64 n, .int .i64 m] s fun r s' => s' = s ∧ r = .int .i64 (n % m) := by
  refine Cw.enter Try.func12 rfl rfl ?_
  conv => whnf
  have e1 : evBin Try.prog .rem 3 (isConst (.tmp 5) || isConst (.tmp 6)) (.int .i64 n) (.int .i64 m) = some (.int .i64 (n.tmod m)) := by
    show (match decide (m = 0) with
      | true => none
      | false => some (Value.int .i64 (n.tmod m))) = _
    rw [decide_eq_false (by omega)]
  refine Om.of _ e1 ?_
  conv => whnf
  have ht := Int.tmod_eq_emod (a := n) (b := m)
  have h1 := Int.emod_nonneg n (show m ≠ 0 by omega)
  have h2 := Int.emod_lt_of_pos n hm
  have habs : (m.natAbs : Int) = m := by omega
  have hcases : (n.tmod m = n % m) ∨ (n.tmod m = n % m - m ∧ n.tmod m < 0) := by
    rw [ht]
    split
    · left; omega
    · right; omega
  refine ⟨fun hc => ?_, fun hc => ?_⟩
  · have hc := of_decide_eq_true hc
    conv => whnf
    refine ⟨⟨rfl, ?_⟩⟩
    have : IntKind.i64.wrap (n.tmod m + m) = n % m := by
      rw [wrap_i64 (by omega) (by omega)]; omega
    exact congrArg (Value.int .i64) this
  · have hc := of_decide_eq_false hc
    conv => whnf
    refine ⟨⟨rfl, ?_⟩⟩
    have : n.tmod m = n % m := by omega
    exact congrArg (Value.int .i64) this
theorem ob_str {m : Nat} {s : St} {v : Value} {l : List UInt8} (h : Ob m s v l) : evConvMem Try.prog 22 9 v s = some (.string ⟨l.toArray⟩, s) := by
  obtain ⟨κ, h, _⟩ := h.sl
  exact string_sl Try.underlying22 Try.underlying9 Try.underlying5 h
end Go.Ev
