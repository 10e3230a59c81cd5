/- What the document's ReadText does; what PackTells says. No condition. -/
import Derived.Test.YtbhccillpdlamaaK6
noncomputable section
namespace Go.Ev
open Go.Proofs
set_option linter.unusedVariables false
set_option maxRecDepth 100000

theorem refReadText_spec {s : St} (wf : WF s) {κ : Option Nat} {v : Value} {l : List UInt8} (h : Sb s κ v l) (hl : l.length ≤ 150000000000000) :
    Cw Try.prog 28 [v] s fun r s' => K0 s s' ∧ ((Pk.readT l = none ∧ r = .tuple #[.string ⟨#[]⟩, .slice none 0 0, .int .i64 2]) ∨
      ∃ a rest w κ, Pk.readT l = some (a, rest) ∧ r = .tuple #[.string ⟨a.toArray⟩, w, .int .i64 0] ∧ Sb s' κ w rest) := by
  refine Cw.enterS Try.func28 rfl rfl ?_
  refine Sm.seqW ?_
  conv => whnf
  refine Sm.seqW ?_
  conv => whnf
  refine (refReadInt_spec wf h hl).mono ?_
  rintro r s1 ⟨k1, ⟨hr, rfl⟩ | ⟨n, rest, w, hr, rfl, ow⟩⟩
  · conv => whnf
    refine Sm.ofW ?_
    conv => whnf
    repeat (first | (refine Br.yes rfl ?_; conv => whnf) | (refine Br.no rfl ?_; conv => whnf))
    exact ⟨k1, .inl ⟨by simp [Pk.readT, hr], rfl⟩⟩
  · obtain ⟨hl2, hn⟩ := Pk.readI_dec hr
    have hrl : rest.length ≤ l.length := by rw [hl2]; simp
    obtain ⟨a, c, rfl⟩ := ow.shape
    conv => whnf
    refine Sm.weak [(5, .int .i64 n), (6, .slice a rest.length c), (7, .int .i64 0)] (.cons rfl (.cons rfl (.cons rfl (Sub.nil _)))) ?_
    refine Sm.seqW ?_
    conv => whnf
    repeat (refine Br.no rfl ?_; conv => whnf)
    by_cases hq : 0 ≤ n ∧ n ≤ (rest.length : Int)
    · have h1 : decide (n < 0) = false := decide_eq_false (by omega)
      have h2 : decide (n > (rest.length : Int)) = false := decide_eq_false (by omega)
      repeat (first | (refine Br.no rfl ?_; conv => whnf) | (refine Br.no h1 ?_; conv => whnf) | (refine Br.no h2 ?_; conv => whnf))
      refine Sm.ofW ?_
      conv => whnf
      refine ⟨[0, 0, 3, 7, 0, 0, 48, 15, 255, 511], by decide +kernel, by decide +kernel, ?_⟩
      conv => whnf
      obtain ⟨κ, sw, _⟩ := ow.sl
      have hn1 : ((n.toNat : Nat) : Int) = n := by omega
      obtain ⟨w1, e1, f1⟩ := slice_to sw .i64 (n := n.toNat) (by omega)
      rw [hn1] at e1
      refine Om.of w1 e1 ?_
      conv => whnf
      refine Om.of _ (string_sl Try.underlying26 Try.underlying9 Try.underlying5 f1.reset) ?_
      conv => whnf
      refine Dk.same k1.wf ?_
      conv => whnf
      obtain ⟨w2, e2, f2⟩ := slice_from sw .i64 (n := n.toNat) (by omega)
      rw [hn1] at e2
      refine Om.of w2 e2 ?_
      conv => whnf
      exact ⟨k1, .inr ⟨rest.take n.toNat, rest.drop n.toNat, w2, κ, by simp [Pk.readT, hr, hq], rfl, f2⟩⟩
    · have hT : Pk.readT l = none := by simp only [Pk.readT, hr]; rw [if_neg hq]
      have hcase : decide (n < 0) = true ∨ (decide (n < 0) = false ∧ decide (n > (rest.length : Int)) = true) := by
        by_cases h0 : n < 0
        · exact .inl (decide_eq_true h0)
        · exact .inr ⟨decide_eq_false h0, decide_eq_true (by omega)⟩
      rcases hcase with h1 | ⟨h1, h2⟩
      · repeat (first | (refine Br.no rfl ?_; conv => whnf) | (refine Br.yes rfl ?_; conv => whnf) | (refine Br.yes h1 ?_; conv => whnf))
        exact ⟨k1, .inl ⟨hT, rfl⟩⟩
      · repeat (first | (refine Br.no rfl ?_; conv => whnf) | (refine Br.yes rfl ?_; conv => whnf) | (refine Br.no h1 ?_; conv => whnf) | (refine Br.yes h2 ?_; conv => whnf))
        exact ⟨k1, .inl ⟨hT, rfl⟩⟩
end Go.Ev
