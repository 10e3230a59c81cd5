/- What the document's ReadInt and ReadText do. No condition. -/
import Derived.Test.YtbhccillpdlamaaK5
noncomputable section
namespace Go.Ev
open Go.Proofs
set_option linter.unusedVariables false
set_option maxRecDepth 100000

theorem tm128 (u : Nat) : (u : Int).tmod 128 = ((u % 128 : Nat) : Int) := by rw [Int.tmod_eq_emod_of_nonneg (by omega)]; omega
theorem wu64 {n : Nat} (h : n < 18446744073709551616) : IntKind.u64.wrap (n : Int) = (n : Int) := by rw [wrap_u64, Nat.mod_eq_of_lt h]
theorem refReadInt_spec {s : St} (wf : WF s) {κ : Option Nat} {v : Value} {l : List UInt8} (h : Sb s κ v l) (hl : l.length ≤ 150000000000000) :
    Cw Try.prog 27 [v] s fun r s' => K0 s s' ∧ ((Pk.readI l = none ∧ r = .tuple #[.int .i64 0, .slice none 0 0, .int .i64 2]) ∨
      ∃ n rest w, Pk.readI l = some (n, rest) ∧ r = .tuple #[.int .i64 n, w, .int .i64 0] ∧ Ob s.next s' w rest) := by
  obtain ⟨a, c, rfl⟩ := h.shape
  refine Cw.enterS Try.func27 rfl rfl ?_
  refine Sm.seqW ?_
  conv => whnf
  refine Sm.seqW ?_
  conv => whnf
  refine Sm.seqW ?_
  conv => whnf
  refine Sm.seqW ?_
  conv => whnf
  refine Lp.ofS (α := Nat × Nat × Nat) (fun x => [(0, .slice a l.length c), (7, .int .i64 (x.1 : Int)), (5, .int .u64 (x.2.1 : Int)), (6, .int .u64 (x.2.2 : Int))])
    (fun x s' => s' = s ∧ x.1 ≤ l.length ∧ x.1 ≤ 10 ∧ x.2.1 < 18446744073709551616 ∧ (x.1 ≤ 9 → x.2.1 < 2 ^ (7 * x.1) ∧ x.2.2 = 2 ^ (7 * x.1) ∧ Pk.readL 0 0 l = Pk.readL x.1 x.2.1 (l.drop x.1)) ∧ (x.1 = 10 → Pk.readL 0 0 l = none)) (fun x => 10 - x.1) ?_ (0, 0, 1)
    (.cons rfl (.cons rfl (.cons rfl (.cons rfl (Sub.nil _))))) ⟨rfl, by omega, by omega, by decide, fun _ => ⟨by decide, by decide, by simp⟩, fun h => by cases h⟩
  rintro ⟨k, acc, pw⟩ s1 ⟨rfl, h1, h2, h3, h4, h5⟩
  simp only at h1 h2 h3 h4 h5
  have form : Pk.readL 0 0 l = none → Pk.readI l = none := fun e => by simp [Pk.readI, e]
  refine Sm.seqW ?_
  conv => whnf
  refine Br.mk (fun hc => ?_) (fun hc => ?_)
  rotate_left
  · have hc := of_decide_eq_false hc
    conv => whnf
    refine Sm.ofW ?_
    conv => whnf
    exact ⟨Kp.refl wf, .inl ⟨form (h5 (by omega)), rfl⟩⟩
  have hc : k < 10 := by have := of_decide_eq_true hc; omega
  obtain ⟨g1, g2, g3⟩ := h4 (by omega)
  clear h4 h5
  conv => whnf
  refine Sm.seq (Sm.block ?_)
  refine Sm.seqW ?_
  conv => whnf
  refine Br.mk (fun hk => ?_) (fun hk => ?_)
  · have hk := of_decide_eq_true hk
    conv => whnf
    have : l.drop k = [] := List.drop_eq_nil_of_le (by omega)
    rw [this] at g3
    exact ⟨Kp.refl wf, .inl ⟨form (by rw [g3]; simp [Pk.readL]), rfl⟩⟩
  have hk : k < l.length := by have := of_decide_eq_false hk; omega
  conv => whnf
  obtain ⟨p, x, e1, e2, e3, _, rfl⟩ := index_sl B26 Try.underlying5 rfl h .i64 hk
  obtain ⟨b, hb, hx⟩ : ∃ b : UInt8, l.drop k = b :: l.drop (k + 1) ∧ x = .int .u8 (b.toNat : Int) := by
    refine ⟨l[k], List.drop_eq_getElem_cons hk, ?_⟩
    simp [byteVals, hk] at e2
    exact e2.symm
  subst hx
  have hbl := b.toNat_lt
  refine Sm.seqW ?_
  conv => whnf
  refine Om.of _ e1 ?_
  conv => whnf
  refine Om.of _ e3 ?_
  conv => whnf
  refine Om.of _ rfl ?_
  conv => whnf
  have ec : (IntKind.u64.wrap (b.toNat : Int)).tmod 128 = ((b.toNat % 128 : Nat) : Int) := by rw [wu64 (by omega), tm128]
  refine Sm.weak [(0, .slice a l.length c), (7, .int .i64 (k : Int)), (5, .int .u64 (acc : Int)), (6, .int .u64 (pw : Int)), (8, .int .u64 ((b.toNat % 128 : Nat) : Int))] (.cons rfl (.cons rfl (.cons rfl (.cons rfl (.cons (congrArg (fun x => some (Value.int .u64 x)) ec) (Sub.nil _)))))) ?_
  rw [hb] at g3
  -- k == 9 && c > 1
  refine Sm.seqC (fun e L' s' => s' = s1 ∧ ((k = 9 ∧ 1 < b.toNat % 128 ∧ e = .ret ∧ Sub [(2, .int .i64 0), (3, .slice none 0 0), (4, .int .i64 2)] L') ∨ (¬ (k = 9 ∧ 1 < b.toNat % 128) ∧ e = .normal ∧ Sub [(0, .slice a l.length c), (7, .int .i64 (k : Int)), (5, .int .u64 (acc : Int)), (6, .int .u64 (pw : Int)), (8, .int .u64 ((b.toNat % 128 : Nat) : Int))] L'))) ?_ ?_
  · conv => whnf
    refine Br.mk (fun q1 => ?_) (fun q1 => ?_)
    · have k9 : k = 9 := by
        have : (k : Int) = 9 := by simpa using q1
        omega
      conv => whnf
      repeat (refine Br.yes q1 ?_; conv => whnf)
      refine Br.mk (fun q2 => ?_) (fun q2 => ?_)
      · have q2 := of_decide_eq_true q2
        conv => whnf
        exact ⟨rfl, .inl ⟨k9, by omega, rfl, .cons rfl (.cons rfl (.cons rfl (Sub.nil _)))⟩⟩
      · have q2 := of_decide_eq_false q2
        conv => whnf
        exact ⟨rfl, .inr ⟨by omega, rfl, .cons rfl (.cons rfl (.cons rfl (.cons rfl (.cons rfl (Sub.nil _)))))⟩⟩
    · have k9 : ¬ k = 9 := by
        intro h; subst h; exact absurd q1 (by decide)
      conv => whnf
      repeat (first | (refine Br.no q1 ?_; conv => whnf) | (refine Br.no rfl ?_; conv => whnf))
      exact ⟨rfl, .inr ⟨by omega, rfl, .cons rfl (.cons rfl (.cons rfl (.cons rfl (.cons rfl (Sub.nil _)))))⟩⟩
  rintro e L' s' ⟨rfl, ⟨k9, hc1, rfl, hs⟩ | ⟨hnc, rfl, hs⟩⟩
  · have hnone : Pk.readL 0 0 l = none := by rw [g3, Pk.readL, if_pos (.inl ⟨k9, by omega⟩)]
    have l2 := hs 2 _ rfl
    have l3 := hs 3 _ rfl
    have l4 := hs 4 _ rfl
    show Rq (lk 2 L') _
    rw [l2]
    show Rq (lk 3 L') _
    rw [l3]
    show Rq (lk 4 L') _
    rw [l4]
    exact ⟨⟨Kp.refl wf, .inl ⟨form hnone, rfl⟩⟩⟩
  refine Sm.weak _ hs ?_
  clear hs
  have hpow : b.toNat % 128 * 2 ^ (7 * k) < 18446744073709551616 := by
    by_cases h9 : k = 9
    · subst h9
      have : b.toNat % 128 ≤ 1 := by omega
      have e : (2 : Nat) ^ (7 * 9) = 9223372036854775808 := by decide
      rw [e]; omega
    · have : (2 : Nat) ^ (7 * k) ≤ 2 ^ (7 * 8) := Nat.pow_le_pow_right (by omega) (by omega)
      have e : (2 : Nat) ^ (7 * 8) = 72057594037927936 := by decide
      rw [e] at this
      have h128 : b.toNat % 128 ≤ 127 := by omega
      calc b.toNat % 128 * 2 ^ (7 * k) ≤ 127 * 72057594037927936 := Nat.mul_le_mul h128 this
        _ < 18446744073709551616 := by decide
  have hsum : acc + b.toNat % 128 * 2 ^ (7 * k) < 18446744073709551616 := by
    rw [← or_shift g1]
    exact Nat.or_lt_two_pow (n := 64) h3 hpow
  subst g2
  have eA : IntKind.u64.wrap ((acc : Int) + IntKind.u64.wrap (((b.toNat % 128 : Nat) : Int) * ((2 ^ (7 * k) : Nat) : Int))) = ((acc + b.toNat % 128 * 2 ^ (7 * k) : Nat) : Int) := by
    rw [← Int.natCast_mul, wu64 hpow, ← Int.natCast_add, wu64 hsum]
  have eB : IntKind.u64.wrap (((2 ^ (7 * k) : Nat) : Int) * 128) = ((2 ^ (7 * k) * 128 % 18446744073709551616 : Nat) : Int) := by
    rw [show (128 : Int) = ((128 : Nat) : Int) from rfl, ← Int.natCast_mul, wrap_u64]
  refine Sm.seqW ?_
  conv => whnf
  refine Sm.weak [(0, .slice a l.length c), (7, .int .i64 (k : Int)), (5, .int .u64 ((acc + b.toNat % 128 * 2 ^ (7 * k) : Nat) : Int)), (6, .int .u64 ((2 ^ (7 * k) : Nat) : Int)), (8, .int .u64 ((b.toNat % 128 : Nat) : Int))] (.cons rfl (.cons rfl (.cons (congrArg (fun x => some (Value.int .u64 x)) eA) (.cons rfl (.cons rfl (Sub.nil _)))))) ?_
  refine Sm.seqW ?_
  conv => whnf
  refine Sm.weak [(0, .slice a l.length c), (7, .int .i64 (k : Int)), (5, .int .u64 ((acc + b.toNat % 128 * 2 ^ (7 * k) : Nat) : Int)), (6, .int .u64 ((2 ^ (7 * k) * 128 % 18446744073709551616 : Nat) : Int)), (8, .int .u64 ((b.toNat % 128 : Nat) : Int))] (.cons rfl (.cons rfl (.cons rfl (.cons (congrArg (fun x => some (Value.int .u64 x)) eB) (.cons rfl (Sub.nil _)))))) ?_
  clear eA eB
  have hk1 : IntKind.i64.wrap ((k : Int) + 1) = ((k + 1 : Nat) : Int) := by rw [wrap_i64 (by omega) (by omega)]; omega
  have hpw : k + 1 ≤ 9 → 2 ^ (7 * k) * 128 % 18446744073709551616 = 2 ^ (7 * (k + 1)) := by
    intro hk9
    rw [Pk.pow7, Nat.mul_comm]
    apply Nat.mod_eq_of_lt
    rw [← Pk.pow7]
    have : (2 : Nat) ^ (7 * (k + 1)) ≤ 2 ^ (7 * 9) := Nat.pow_le_pow_right (by omega) (by omega)
    have e : (2 : Nat) ^ (7 * 9) = 9223372036854775808 := by decide
    omega
  have hnext : k + 1 ≤ 9 → acc + b.toNat % 128 * 2 ^ (7 * k) < 2 ^ (7 * (k + 1)) := by
    intro _
    rw [Pk.pow7]
    have : b.toNat % 128 ≤ 127 := by omega
    have := Nat.mul_le_mul_right (2 ^ (7 * k)) this
    clear hsum hpow hpw g3 hnc
    generalize b.toNat % 128 * 2 ^ (7 * k) = q at this ⊢
    generalize 2 ^ (7 * k) = p2 at *
    omega
  generalize 2 ^ (7 * k) * 128 % 18446744073709551616 = PW at hpw ⊢
  generalize hACC : acc + b.toNat % 128 * 2 ^ (7 * k) = ACC at hsum hnext ⊢
  refine Sm.ofW ?_
  conv => whnf
  refine Om.of _ e1 ?_
  conv => whnf
  refine Om.of _ e3 ?_
  conv => whnf
  refine Br.mk (fun hlt => ?_) (fun hlt => ?_)
  · have hlast : b.toNat < 128 := by have := of_decide_eq_true hlt; omega
    have hm : b.toNat % 128 = b.toNat := by omega
    conv => whnf
    have hz1 : ∀ {z : Bool}, (((b.toNat % 128 : Nat) : Int) == 0) = z → z = decide (b.toNat = 0) := by
      intro z hz; rw [← hz, hm, Bool.eq_iff_iff]; simp
    by_cases hst : b.toNat = 0 ∧ 0 < k
    · have q1 : (((b.toNat % 128 : Nat) : Int) == 0) = true := by rw [hm]; simp [hst.1]
      have q2 : decide ((k : Int) > 0) = true := decide_eq_true (by omega)
      repeat (first | (refine Br.yes q1 ?_; conv => whnf) | (refine Br.yes q2 ?_; conv => whnf))
      have hnone : Pk.readL 0 0 l = none := by rw [g3, Pk.readL, if_pos (.inr ⟨hlast, hst.1, hst.2⟩)]
      exact ⟨Kp.refl wf, .inl ⟨form hnone, rfl⟩⟩
    · have hgo : Pk.readL 0 0 l = some (ACC, l.drop (k + 1)) := by
        rw [g3, Pk.readL, if_neg (by omega), if_pos hlast, ← hACC, hm]
      have hsw : ∀ {R : Prop}, ((((b.toNat % 128 : Nat) : Int) == 0) = false → R) → ((((b.toNat % 128 : Nat) : Int) == 0) = true → decide ((k : Int) > 0) = false → R) → R := by
        intro R a1 a2
        by_cases hz : b.toNat = 0
        · exact a2 (by rw [hm]; simp [hz]) (decide_eq_false (by omega))
        · exact a1 (by rw [hm]; simp; omega)
      obtain ⟨v3, s3, e6, o3, k3⟩ := buildSlice0 B26 wf
      obtain ⟨v2, hst3, h5⟩ := slice_from (h.keep0 k3) .i64 (n := k + 1) (by omega)
      rw [← hk1] at hst3
      obtain ⟨v4, s4, e7, o4, k4⟩ := append_own B26 Try.underlying26 rfl k3.wf o3 (elems_sl h5) (by simp [byteVals]) (byteVals_one _) (by simp; omega)
      rw [Nat.zero_add, List.nil_append] at o4
      have K4 := k3.touch k4 (fun j hj => by omega)
      have ob4 := Ob.of (o4.n K4.wf (Nat.le_refl s'.next))
      have evn : (ACC : Int).tdiv 2 = ((ACC / 2 : Nat) : Int) := by rw [Int.tdiv_eq_ediv_of_nonneg (by omega)]; omega
      have evm : (ACC : Int).tmod 2 = ((ACC % 2 : Nat) : Int) := by rw [Int.tmod_eq_emod_of_nonneg (by omega)]; omega
      have ez : IntKind.i64.wrap (IntKind.u64.wrap ((ACC : Int).tdiv 2)) = ((ACC / 2 : Nat) : Int) := by
        rw [evn, wu64 (by omega), wrap_i64 (by omega) (by omega)]
      have done : ∀ {n : Int} , n = Pk.unzig ACC → (Pk.readI l = none ∧ Value.tuple #[.int .i64 n, v4, .int .i64 0] = Value.tuple #[.int .i64 0, .slice none 0 0, .int .i64 2]) ∨
          ∃ n' rest w, Pk.readI l = some (n', rest) ∧ Value.tuple #[.int .i64 n, v4, .int .i64 0] = .tuple #[.int .i64 n', w, .int .i64 0] ∧ Ob s'.next s4 w rest := by
        intro n hn
        subst hn
        exact .inr ⟨Pk.unzig ACC, l.drop (k + 1), v4, by simp [Pk.readI, hgo], rfl, ob4⟩
      refine hsw (fun q1 => ?_) (fun q1 q2 => ?_)
      all_goals
        repeat (first | (refine Br.no q1 ?_; conv => whnf) | (refine Br.yes q1 ?_; conv => whnf) | (refine Br.no q2 ?_; conv => whnf) | (refine Br.no rfl ?_; conv => whnf))
        refine Om.of _ rfl ?_
        conv => whnf
        refine Om.of _ rfl ?_
        conv => whnf
        refine Br.mk (fun hodd => ?_) (fun hodd => ?_)
        · have hodd : ACC % 2 = 1 := by
            rw [evm] at hodd
            have : ((ACC % 2 : Nat) : Int) = 1 := by simpa using hodd
            omega
          conv => whnf
          refine Om.of _ e6 ?_
          conv => whnf
          refine Om.of _ hst3 ?_
          conv => whnf
          refine Om.of _ e7 ?_
          conv => whnf
          refine ⟨K4, done ?_⟩
          rw [ez]
          unfold Pk.unzig
          rw [if_neg (by omega), wrap_i64 (n := 0 - ((ACC / 2 : Nat) : Int)) (by omega) (by omega), wrap_i64 (by omega) (by omega)]
          omega
        · have hev : ACC % 2 = 0 := by
            rw [evm] at hodd
            have : ((ACC % 2 : Nat) : Int) ≠ 1 := by simpa using hodd
            omega
          conv => whnf
          refine Om.of _ e6 ?_
          conv => whnf
          refine Om.of _ hst3 ?_
          conv => whnf
          refine Om.of _ e7 ?_
          conv => whnf
          refine ⟨K4, done ?_⟩
          rw [ez]
          unfold Pk.unzig
          rw [if_pos hev]
  · have hlast : ¬ b.toNat < 128 := by have := of_decide_eq_false hlt; omega
    conv => whnf
    refine Sm.ofW ?_
    conv => whnf
    refine ⟨(k + 1, ACC, PW), by simp only; omega, .cons rfl (.cons (congrArg (fun x => some (Value.int .i64 x)) hk1) (.cons rfl (.cons rfl (Sub.nil _)))), rfl, by simp only; omega, by simp only; omega, by simp only; omega, fun h9 => ⟨hnext h9, hpw h9, ?_⟩, fun h10 => ?_⟩
    · simp only at h9
      rw [g3, Pk.readL, if_neg (by omega), if_neg hlast, ← hACC]
    · simp only at h10
      rw [g3, Pk.readL, if_pos (.inl ⟨by omega, by omega⟩)]
end Go.Ev
