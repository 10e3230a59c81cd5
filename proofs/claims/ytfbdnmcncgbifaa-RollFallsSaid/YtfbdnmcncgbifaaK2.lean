/- What pack.ReadInt does; the helpers. No condition. -/
import Derived.Test.YtfbdnmcncgbifaaK1
noncomputable section
namespace Go.Ev
open Go.Proofs
set_option linter.unusedVariables false
set_option maxRecDepth 100000

theorem shl_u64 {P : Program} {t : TypeId} {cst : Bool} {k : IntKind} {a c : Nat} (h : a * 2 ^ c < 18446744073709551616) (hc : c ≤ 64) : evBin P .shl t cst (.int .u64 (a : Int)) (.int k (c : Int)) = some (.int .u64 ((a * 2 ^ c : Nat) : Int)) := by
  show (match decide ((c : Int) < 0) with
    | true => none
    | false => some (Value.int .u64 (IntKind.u64.wrap ((a : Int) * 2 ^ (min ((c : Int)).toNat IntKind.u64.bits))))) = _
  rw [decide_eq_false (by omega)]
  have e : min ((c : Int)).toNat IntKind.u64.bits = c := by
    show min ((c : Int)).toNat 64 = c
    omega
  simp only [e]
  have e2 : (a : Int) * 2 ^ c = ((a * 2 ^ c : Nat) : Int) := by push_cast; rfl
  rw [e2, wrap_u64, Nat.mod_eq_of_lt h]
theorem unz {t : Nat} (h : t < 18446744073709551616) :
    IntKind.i64.wrap ((BitVec.ofInt IntKind.i64.bits (IntKind.i64.wrap ((t : Int).fdiv (2 ^ 1))) ^^^ BitVec.ofInt IntKind.i64.bits (IntKind.i64.wrap (0 - IntKind.i64.wrap (IntKind.u64.wrap ((BitVec.ofInt IntKind.u64.bits (t : Int) &&& BitVec.ofInt IntKind.u64.bits 1).toNat : Int))))).toNat : Int) = Pk.unzig t := by
  have e1 : (t : Int).fdiv (2 ^ 1) = ((t / 2 : Nat) : Int) := by rw [Int.fdiv_eq_ediv_of_nonneg _ (by decide)]; omega
  have e2 : IntKind.u64.wrap ((BitVec.ofInt IntKind.u64.bits (t : Int) &&& BitVec.ofInt IntKind.u64.bits 1).toNat : Int) = ((t % 2 : Nat) : Int) := by
    rw [show (1 : Int) = ((1 : Nat) : Int) from rfl, and_u64 h (by omega), Nat.and_one_is_mod]
  rw [e1, e2, wrap_i64 (n := ((t / 2 : Nat) : Int)) (by omega) (by omega), wrap_i64 (n := ((t % 2 : Nat) : Int)) (by omega) (by omega)]
  unfold Pk.unzig
  by_cases h2 : t % 2 = 0
  · rw [h2, if_pos rfl, show IntKind.i64.wrap (0 - ((0 : Nat) : Int)) = 0 from rfl, xor_i64_0 (by omega) (by omega)]
  · have : t % 2 = 1 := by omega
    rw [this, if_neg (by decide), show IntKind.i64.wrap (0 - ((1 : Nat) : Int)) = -1 from rfl, xor_i64_1 (by omega) (by omega)]
theorem readInt_spec {s : St} (wf : WF s) {κ : Option Nat} {v : Value} {l : List UInt8} (h : Sb s κ v l) (hl : l.length ≤ 150000000000000) :
    Cw Try.prog 55 [v] s fun r s' => K0 s s' ∧ ((Pk.readI l = none ∧ r = .tuple #[.int .i64 0, .slice none 0 0, .int .i64 2]) ∨
      ∃ n rest w, Pk.readI l = some (n, rest) ∧ r = .tuple #[.int .i64 n, w, .int .i64 0] ∧ Ob s.next s' w rest) := by
  obtain ⟨a, c, rfl⟩ := h.shape
  refine Cw.enter Try.func55 rfl rfl ?_
  conv => whnf
  refine Lp.ofS (α := Nat × Nat) (fun x => [(0, .slice a l.length c), (9, .slice a l.length c), (10, .int .i64 (l.length : Int)), (11, .int .i64 (x.1 : Int)), (5, .int .u64 (x.2 : Int))])
    (fun x s' => s' = s ∧ x.1 ≤ l.length ∧ x.1 ≤ 9 ∧ x.2 < 2 ^ (7 * x.1) ∧ Pk.readL 0 0 l = Pk.readL x.1 x.2 (l.drop x.1)) (fun x => l.length - x.1) ?_ (0, 0)
    (.cons rfl (.cons rfl (.cons rfl (.cons rfl (.cons rfl (Sub.nil _)))))) ⟨rfl, by omega, by omega, by decide, by simp⟩
  rintro ⟨k, acc⟩ s1 ⟨rfl, h1, h2, h3, h4⟩
  simp only at h1 h2 h3 h4
  refine Sm.seqW ?_
  conv => whnf
  refine Sm.seqW ?_
  conv => whnf
  refine ⟨fun hc => ?_, fun hc => ?_⟩
  rotate_left
  · have hc := of_decide_eq_false hc
    conv => whnf
    refine ⟨⟨Kp.refl wf, .inl ⟨?_, rfl⟩⟩⟩
    have : l.drop k = [] := List.drop_eq_nil_of_le (by omega)
    rw [this] at h4
    simp [Pk.readI, h4, Pk.readL]
  have hc : k < l.length := by have := of_decide_eq_true hc; omega
  conv => whnf
  refine Sm.seq (Sm.block ?_)
  refine Sm.seqW ?_
  conv => whnf
  obtain ⟨p, x, e1, e2, e3, _, rfl⟩ := index_sl B26 Try.underlying5 rfl h .i64 hc
  obtain ⟨b, hb, hx⟩ : ∃ b : UInt8, l.drop k = b :: l.drop (k + 1) ∧ x = .int .u8 (b.toNat : Int) := by
    refine ⟨l[k], List.drop_eq_getElem_cons hc, ?_⟩
    simp [byteVals, hc] at e2
    exact e2.symm
  subst hx
  refine Om.of _ e1 ?_
  conv => whnf
  refine Om.of _ e3 ?_
  conv => whnf
  refine Sm.seqW ?_
  conv => whnf
  have hbl := b.toNat_lt
  refine Sm.seqC (fun e L' s' => s' = s1 ∧ Sub [(6, .int .i64 (k : Int)), (7, .int .u8 (b.toNat : Int)), (8, .bool (decide ((b.toNat : Int) < 128))), (0, .slice a l.length c), (9, .slice a l.length c), (10, .int .i64 (l.length : Int)), (11, .int .i64 (k : Int)), (5, .int .u64 (acc : Int))] L' ∧
    ((((k = 9 ∧ 1 < b.toNat) ∨ (b.toNat < 128 ∧ b.toNat = 0 ∧ 0 < k)) ∧ e = .exit 0) ∨ (¬ ((k = 9 ∧ 1 < b.toNat) ∨ (b.toNat < 128 ∧ b.toNat = 0 ∧ 0 < k)) ∧ e = .normal))) ?_ ?_
  · conv => whnf
    repeat' (first
      | (refine Br.yes (by with_reducible assumption) ?_; conv => whnf)
      | (refine Br.no (by with_reducible assumption) ?_; conv => whnf)
      | (refine Br.mk (fun hq => ?_) (fun hq => ?_) <;> conv => whnf))
    all_goals (refine ⟨rfl, .cons rfl (.cons rfl (.cons rfl (.cons rfl (.cons rfl (.cons rfl (.cons rfl (.cons rfl (Sub.nil _)))))))), ?_⟩; simp only [beq_iff_eq, beq_eq_false_iff_ne, decide_eq_true_eq, decide_eq_false_iff_not, ne_eq, reduceCtorEq, and_false, and_true, or_false, false_or] at * <;> omega)
  rintro e L' s' ⟨rfl, hs, ⟨hst, rfl⟩ | ⟨hst, rfl⟩⟩
  · conv => whnf
    refine ⟨⟨Kp.refl wf, .inl ⟨?_, rfl⟩⟩⟩
    rw [hb, Pk.readL, if_pos hst] at h4
    simp [Pk.readI, h4]
  refine Sm.weak _ hs ?_
  have hpow : b.toNat % 128 * 2 ^ (7 * k) < 18446744073709551616 := by
    by_cases h9 : k = 9
    · subst h9
      have : b.toNat ≤ 1 := by omega
      have e : (2 : Nat) ^ (7 * 9) = 9223372036854775808 := by decide
      rw [e]; omega
    · have : (2 : Nat) ^ (7 * k) ≤ 2 ^ (7 * 8) := Nat.pow_le_pow_right (by omega) (by omega)
      have e : (2 : Nat) ^ (7 * 8) = 72057594037927936 := by decide
      rw [e] at this
      have h128 : b.toNat % 128 ≤ 127 := by omega
      calc b.toNat % 128 * 2 ^ (7 * k) ≤ 127 * 72057594037927936 := Nat.mul_le_mul h128 this
        _ < 18446744073709551616 := by decide
  have hacc : acc < 18446744073709551616 := by
    have : (2 : Nat) ^ (7 * k) ≤ 2 ^ (7 * 9) := Nat.pow_le_pow_right (by omega) (by omega)
    have e : (2 : Nat) ^ (7 * 9) = 9223372036854775808 := by decide
    omega
  have hsum : acc + b.toNat % 128 * 2 ^ (7 * k) < 18446744073709551616 := by
    rw [← or_shift h3]
    exact Nat.or_lt_two_pow (n := 64) hacc hpow
  have hA : IntKind.u64.wrap (IntKind.u8.wrap ((BitVec.ofInt IntKind.u8.bits (b.toNat : Int) &&& ~~~ BitVec.ofInt IntKind.u8.bits 128).toNat : Int)) = ((b.toNat % 128 : Nat) : Int) := by
    rw [show (128 : Int) = ((128 : Nat) : Int) from rfl, andNot_u8 (by omega) (by omega), and127 _ (by omega), wrap_u64]
    congr 1; omega
  have hB : IntKind.i64.wrap (7 * (k : Int)) = ((7 * k : Nat) : Int) := by rw [wrap_i64 (by omega) (by omega)]; omega
  have hC : IntKind.u64.wrap ((BitVec.ofInt IntKind.u64.bits (acc : Int) ||| BitVec.ofInt IntKind.u64.bits ((b.toNat % 128 * 2 ^ (7 * k) : Nat) : Int)).toNat : Int) = ((acc + b.toNat % 128 * 2 ^ (7 * k) : Nat) : Int) := by
    rw [or_u64 hacc hpow, or_shift h3]
  refine Sm.seqW ?_
  conv => whnf
  refine Om.of (.int .u64 ((b.toNat % 128 * 2 ^ (7 * k) : Nat) : Int)) ((congr (congrArg (fun x y => evBin Try.prog .shl 86 (isConst (.tmp 38) || isConst (.tmp 40)) (.int .u64 x) (.int .i64 y)) hA) hB).trans (shl_u64 hpow (by omega))) ?_
  conv => whnf
  have hk1 : IntKind.i64.wrap ((k : Int) + 1) = ((k + 1 : Nat) : Int) := by rw [wrap_i64 (by omega) (by omega)]; omega
  rw [hb, Pk.readL, if_neg hst] at h4
  refine Sm.seqW ?_
  conv => whnf
  refine Sm.ofW ?_
  conv => whnf
  refine ⟨fun hl => ?_, fun hl => ?_⟩
  · have hlast : b.toNat < 128 := by have := of_decide_eq_true hl; omega
    conv => whnf
    refine Om.of _ rfl ?_
    conv => whnf
    obtain ⟨v2, e5, h5⟩ := slice_sl B26 h .i64 .i64 (some (k + 1)) none (by simp; omega) (by simp)
    refine Om.of v2 ((congrArg (fun x => evSliceMem Try.prog 32 (.slice a l.length c) (some (.int .i64 x)) none none s') hk1).trans e5) ?_
    conv => whnf
    have h6 : Sb s' κ v2 (l.drop (k + 1)) := by
      refine Sb.of (n := l.length - (k + 1)) ?_
      have : ((byteVals l).drop ((k + 1) * 1)).take ((l.length - (k + 1)) * 1) = byteVals (l.drop (k + 1)) := by
        rw [Nat.mul_one, Nat.mul_one, List.take_of_length_le (by simp [byteVals])]
        simp [byteVals]
      rw [← this]
      exact h5
    refine (clone_spec wf h6 (by simp; omega)).mono ?_
    rintro v3 s3 ⟨k3, o3⟩
    conv => whnf
    rw [if_pos hlast] at h4
    refine ⟨⟨k3, .inr ⟨Pk.unzig (acc + b.toNat * 2 ^ (7 * k)), l.drop (k + 1), v3, by simp [Pk.readI, h4], ?_, o3⟩⟩⟩
    have hm : b.toNat % 128 = b.toNat := by omega
    have := unz hsum
    have this := (congrArg (fun x => IntKind.i64.wrap ((BitVec.ofInt IntKind.i64.bits (IntKind.i64.wrap ((x : Int).fdiv (2 ^ 1))) ^^^ BitVec.ofInt IntKind.i64.bits (IntKind.i64.wrap (0 - IntKind.i64.wrap (IntKind.u64.wrap ((BitVec.ofInt IntKind.u64.bits (x : Int) &&& BitVec.ofInt IntKind.u64.bits 1).toNat : Int))))).toNat : Int)) hC).trans this
    exact (congrArg (fun x => Value.tuple #[.int .i64 x, v3, .int .i64 0]) this).trans (by rw [hm])
  · have hlast : ¬ b.toNat < 128 := by have := of_decide_eq_false hl; omega
    conv => whnf
    refine Sm.ofW ?_
    conv => whnf
    have h9 : k ≠ 9 := by omega
    rw [if_neg hlast] at h4
    refine ⟨(k + 1, acc + b.toNat % 128 * 2 ^ (7 * k)), by simp only; omega, .cons rfl (.cons rfl (.cons rfl (.cons (congrArg (fun x => some (Value.int .i64 x)) hk1) (.cons (congrArg (fun x => some (Value.int .u64 x)) hC) (Sub.nil _))))), rfl, by simp only; omega, by simp only; omega, ?_, h4⟩
    simp only
    rw [Pk.pow7]
    have : b.toNat % 128 ≤ 127 := by omega
    have := Nat.mul_le_mul_right (2 ^ (7 * k)) this
    clear hC hA hB hsum hpow hacc h4 e1 e2 e3 hs
    generalize b.toNat % 128 * 2 ^ (7 * k) = q at this ⊢
    generalize 2 ^ (7 * k) = p2 at *
    omega
end Go.Ev
