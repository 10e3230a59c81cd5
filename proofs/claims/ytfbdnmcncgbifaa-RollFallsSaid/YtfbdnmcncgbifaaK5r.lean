/- Texts as bytes: read. No condition. -/
import Derived.Test.YtfbdnmcncgbifaaK2
import Derived.Test.YtfbdnmcncgbifaaT1
noncomputable section
namespace Go.Ev
open Go.Proofs
set_option linter.unusedVariables false
set_option maxRecDepth 100000

def Pk.readT (l : List UInt8) : Option (List UInt8 × List UInt8) :=
  match Pk.readI l with
  | none => none
  | some (n, rest) => if 0 ≤ n ∧ n ≤ (rest.length : Int) then some (rest.take n.toNat, rest.drop n.toNat) else none
theorem readText_spec {s : St} (wf : WF s) {κ : Option Nat} {v : Value} {l : List UInt8} (h : Sb s κ v l) (hl : l.length ≤ 150000000000000) :
    Cw Try.prog 42 [v] s fun r s' => K0 s s' ∧ ((Pk.readT l = none ∧ r = .tuple #[.string ⟨#[]⟩, .slice none 0 0, .int .i64 2]) ∨
      ∃ a rest w, Pk.readT l = some (a, rest) ∧ r = .tuple #[.string ⟨a.toArray⟩, w, .int .i64 0] ∧ Ob s.next s' w rest) := by
  refine Cw.enterS Try.func42 rfl rfl ?_
  refine Sm.seqW ?_
  conv => whnf
  refine Sm.seqW ?_
  conv => whnf
  refine (readInt_spec wf h hl).mono ?_
  rintro r s1 ⟨k1, ⟨hr, rfl⟩ | ⟨n, rest, w, hr, rfl, ow⟩⟩
  · conv => whnf
    refine Sm.ofW ?_
    conv => whnf
    repeat (first | (refine Br.yes rfl ?_; conv => whnf) | (refine Br.no rfl ?_; conv => whnf))
    exact ⟨k1, .inl ⟨by simp [Pk.readT, hr], rfl⟩⟩
  · obtain ⟨hl2, hn⟩ := Pk.readI_dec hr
    have hrl : rest.length ≤ l.length := by rw [hl2]; simp
    obtain ⟨a, c, rfl⟩ := ow.shape
    conv => whnf
    refine Sm.weak [(3, .slice a rest.length c), (4, .int .i64 0), (5, .int .i64 n)] (.cons rfl (.cons rfl (.cons rfl (Sub.nil _)))) ?_
    refine Sm.seqW ?_
    conv => whnf
    repeat (refine Br.no rfl ?_; conv => whnf)
    by_cases hq : 0 ≤ n ∧ n ≤ (rest.length : Int)
    · have h1 : decide (n < 0) = false := decide_eq_false (by omega)
      have h2 : decide (n > (rest.length : Int)) = false := decide_eq_false (by omega)
      repeat (first | (refine Br.no rfl ?_; conv => whnf) | (refine Br.no h1 ?_; conv => whnf) | (refine Br.no h2 ?_; conv => whnf))
      refine Sm.ofW ?_
      conv => whnf
      refine ⟨[0, 0, 3, 7, 0, 0, 48, 112, 255, 511, 1023], by decide +kernel, by decide +kernel, ?_⟩
      conv => whnf
      obtain ⟨κ, sw, _⟩ := ow.sl
      have hn1 : ((n.toNat : Nat) : Int) = n := by omega
      obtain ⟨w1, e1, f1⟩ := slice_to sw .i64 (n := n.toNat) (by omega)
      rw [hn1] at e1
      refine Om.of w1 e1 ?_
      conv => whnf
      have f1' : Sb (reset s1) κ w1 (rest.take n.toNat) := f1.reset
      refine Om.of _ (string_sl Try.underlying32 Try.underlying9 Try.underlying5 f1') ?_
      conv => whnf
      refine Dk.same k1.wf ?_
      conv => whnf
      obtain ⟨w2, e2, f2⟩ := slice_from sw .i64 (n := n.toNat) (by omega)
      rw [hn1] at e2
      refine Om.of w2 e2 ?_
      conv => whnf
      refine (clone_spec k1.wf.reset f2.reset (by simp; omega)).mono ?_
      rintro w3 s3 ⟨k3, o3⟩
      conv => whnf
      refine Dk.nw (k3.low_reset fun _ h => h.elim) ?_
      conv => whnf
      have k4 := k3.of_reset k1.wf
      refine ⟨k1.then k4, .inr ⟨rest.take n.toNat, rest.drop n.toNat, w3, by simp [Pk.readT, hr, hq], rfl, o3.relow.mono k1.next⟩⟩
    · have hT : Pk.readT l = none := by simp only [Pk.readT, hr]; rw [if_neg hq]
      have hcase : decide (n < 0) = true ∨ (decide (n < 0) = false ∧ decide (n > (rest.length : Int)) = true) := by
        by_cases h0 : n < 0
        · exact .inl (decide_eq_true h0)
        · exact .inr ⟨decide_eq_false h0, decide_eq_true (by omega)⟩
      rcases hcase with h1 | ⟨h1, h2⟩
      · repeat (first | (refine Br.no rfl ?_; conv => whnf) | (refine Br.yes rfl ?_; conv => whnf) | (refine Br.yes h1 ?_; conv => whnf))
        exact ⟨k1, .inl ⟨hT, rfl⟩⟩
      · repeat (first | (refine Br.no rfl ?_; conv => whnf) | (refine Br.yes rfl ?_; conv => whnf) | (refine Br.no h1 ?_; conv => whnf) | (refine Br.yes h2 ?_; conv => whnf))
        exact ⟨k1, .inl ⟨hT, rfl⟩⟩

/-! ### the document's -/
end Go.Ev
