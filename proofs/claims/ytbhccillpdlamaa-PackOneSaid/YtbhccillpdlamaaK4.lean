/- What PackOne says. No condition. -/
import Derived.Test.YtbhccillpdlamaaK3
noncomputable section
namespace Go.Ev
open Go.Proofs
set_option linter.unusedVariables false

theorem ob_reset_str {m : Nat} {s s1 : St} {v : Value} {l : List UInt8} (h : Ob m s1 v l) : evConvMem Try.prog 26 9 v (reset (relow s s1)) = some (.string ⟨l.toArray⟩, reset (relow s s1)) := ob_str h.relow.reset
theorem packOne_walk {s : St} (wf : WF s) {κ : Option Nat} {v : Value} {l : List UInt8} (h : Sb s κ v l) (hl : l.length ≤ 140737488351232) {n m cut : Int} (hn : Pk.inR n) (hm : Pk.inR m) (hcut : Pk.inR cut) :
    Cw Try.prog 7 [v, .int .i64 n, .int .i64 m, .int .i64 cut] s fun r _ => r = .bool true := by
  refine Cw.enterS Try.func7 rfl rfl ?_
  refine Sm.seqW ?_
  conv => whnf
  refine Sm.seqC (fun e L' s' => e = .normal ∧ K0 s s' ∧ Sub [(1, .int .i64 n), (2, .int .i64 m), (3, .int .i64 cut)] L') ?_ ?_
  · conv => whnf
    refine (readInt_spec wf h hl).mono ?_
    rintro r s1 ⟨k1, ⟨hr, rfl⟩ | ⟨x, rest, w, hr, rfl, ow⟩⟩
    · conv => whnf
      refine ⟨[0, 1, 3, 7, 15, 31, 7, 71, 255, 7, 519, 2047, 4095], by decide +kernel, by decide +kernel, ?_⟩
      conv => whnf
      repeat (refine Br.no rfl ?_; conv => whnf)
      exact ⟨rfl, k1, .cons rfl (.cons rfl (.cons rfl (Sub.nil _)))⟩
    · obtain ⟨hl2, hx⟩ := Pk.readI_dec hr
      have hrest : (Pk.encI x).length + rest.length = l.length := by rw [hl2]; simp
      conv => whnf
      refine ⟨[0, 1, 3, 7, 15, 31, 7, 71, 255, 7, 519, 2047, 4095], by decide +kernel, by decide +kernel, ?_⟩
      conv => whnf
      repeat (refine Br.yes rfl ?_; conv => whnf)
      refine (int_spec k1.wf.reset (l := []) (Sl.nil _ 1) (by simp) hx).mono ?_
      rintro v2 s2 ⟨k2, o2⟩
      conv => whnf
      refine Dk.nw (k2.low_reset fun _ h => h.elim) ?_
      have k3 := k1.then (k2.of_reset k1.wf)
      conv => whnf
      repeat (refine Br.yes rfl ?_; conv => whnf)
      refine Om.of _ (ob_reset_str o2) ?_
      conv => whnf
      refine Dk.nw (Nat.le_refl _) ?_
      rw [relow_reset k3.wf]
      conv => whnf
      repeat (refine Br.yes rfl ?_; conv => whnf)
      have ow2 := ow.keep0 (k2.of_reset k1.wf)
      refine Om.of _ (ob_str ow2.reset) ?_
      conv => whnf
      refine Dk.nw (Nat.le_refl _) ?_
      rw [relow_reset k3.wf]
      conv => whnf
      repeat (refine Br.yes rfl ?_; conv => whnf)
      refine Om.of _ (str_add _ _ (by rw [bs_mk, bs_mk]; simp; omega)) ?_
      conv => whnf
      repeat (refine Br.yes rfl ?_; conv => whnf)
      refine Om.of _ (string_sl Try.underlying26 Try.underlying9 Try.underlying5 (h.keep0 k3).reset) ?_
      conv => whnf
      refine Dk.nw (Nat.le_refl _) ?_
      rw [relow_reset k3.wf]
      conv => whnf
      repeat (refine Br.yes rfl ?_; conv => whnf)
      refine Om.of (.bool false) ((str_ne _ _).trans (congrArg (fun b => some (Value.bool b)) (show (!((([] ++ Pk.encI x) ++ rest) == l)) = false by rw [hl2]; simp))) ?_
      conv => whnf
      repeat (refine Br.yes rfl ?_; conv => whnf)
      refine Br.no rfl ?_
      conv => whnf
      exact ⟨rfl, k3, .cons rfl (.cons rfl (.cons rfl (Sub.nil _)))⟩
  rintro e L' s1 ⟨rfl, k1, hs⟩
  refine Sm.weak _ hs ?_
  clear hs
  refine Sm.seqW ?_
  conv => whnf
  refine (int_spec k1.wf (l := []) (Sl.nil _ 1) (by simp) hn).mono ?_
  rintro p s2 ⟨k2, op⟩
  conv => whnf
  refine Sm.seqW ?_
  conv => whnf
  refine (int_spec k2.wf (l := []) (Sl.nil _ 1) (by simp) hm).mono ?_
  rintro q s3 ⟨k3, oq⟩
  have hpn := Pk.encI_pos n
  have hqm := Pk.encI_pos m
  have hpl := Pk.encI_len hn
  have hql := Pk.encI_len hm
  rw [List.nil_append] at op oq
  obtain ⟨a1, c1, rfl⟩ := op.shape
  obtain ⟨a2, c2, rfl⟩ := oq.shape
  conv => whnf
  refine Sm.seqW ?_
  have z1 : (((Pk.encI n).length : Int) == 0) = false := beq_eq_false_iff_ne.2 (by omega)
  have z2 : (((Pk.encI m).length : Int) == 0) = false := beq_eq_false_iff_ne.2 (by omega)
  conv => whnf
  refine Br.no z1 ?_
  conv => whnf
  refine Br.no z1 ?_
  conv => whnf
  refine Br.no z1 ?_
  conv => whnf
  refine Br.no z1 ?_
  conv => whnf
  refine Br.no z2 ?_
  conv => whnf
  refine Sm.weak [(1, .int .i64 n), (2, .int .i64 m), (3, .int .i64 cut), (12, .slice a1 (Pk.encI n).length c1), (13, .slice a2 (Pk.encI m).length c2)] (.cons rfl (.cons rfl (.cons rfl (.cons rfl (.cons rfl (Sub.nil _)))))) ?_
  refine Sm.seqW ?_
  conv => whnf
  refine (pick_spec s3 hcut (by omega) (by omega)).mono ?_
  rintro r4 s4 ⟨rfl, rfl⟩
  have j1 := Int.emod_nonneg cut (show ((Pk.encI n).length : Int) ≠ 0 by omega)
  have j2 := Int.emod_lt_of_pos cut (show (0 : Int) < ((Pk.encI n).length : Int) by omega)
  obtain ⟨j, hj⟩ : ∃ j : Nat, cut % ((Pk.encI n).length : Int) = (j : Int) := ⟨(cut % ((Pk.encI n).length : Int)).toNat, by omega⟩
  have hj2 : j < (Pk.encI n).length := by omega
  conv => whnf
  obtain ⟨κp, sp, _⟩ := (op.keep0 k3).sl
  obtain ⟨w, e5, h5⟩ := slice_to sp .i64 (Nat.le_of_lt hj2)
  refine Om.of w ((congrArg (fun x => evSliceMem Try.prog 26 _ none (some (.int .i64 x)) none s4) hj).trans e5) ?_
  conv => whnf
  refine (readInt_spec k3.wf h5 (by simp; omega)).mono ?_
  rintro r5 s5 ⟨k5, ⟨hr, rfl⟩ | ⟨x, rest, w2, hr, rfl, ow⟩⟩
  rotate_left
  · rw [Pk.readI_cut hn hj2] at hr; cases hr
  conv => whnf
  refine Sm.weak [(1, .int .i64 n), (2, .int .i64 m), (12, .slice a1 (Pk.encI n).length c1), (13, .slice a2 (Pk.encI m).length c2), (16, .int .i64 2)] (.cons rfl (.cons rfl (.cons rfl (.cons rfl (.cons rfl (Sub.nil _)))))) ?_
  have op6 := (op.keep0 k3).keep0 k5
  have oq6 := oq.keep0 k5
  refine Sm.seqW ?_
  conv => whnf
  refine (known_spec k5.wf).mono ?_
  rintro r6 s6 ⟨rfl, k6⟩
  have op7 := op6.keep0 k6
  have oq7 := oq6.keep0 k6
  conv => whnf
  have hlen : n < 0 ∨ m < n ∨ ((Pk.encI m).length : Int) ≥ ((Pk.encI n).length : Int) := by
    by_cases h1 : n < 0
    · exact .inl h1
    · by_cases h2 : m < n
      · exact .inr (.inl h2)
      · exact .inr (.inr (by have := Pk.encI_mono (n := n) (m := m) (by omega) (by omega); omega))
  have hneq : ((n != m) == !(Pk.encI n == Pk.encI m)) = true := by
    by_cases h1 : n = m
    · subst h1; simp
    · have h2 : Pk.encI n ≠ Pk.encI m := fun h => h1 (Pk.encI_inj hn hm h)
      have e1 : (n != m) = true := by simpa using h1
      have e2 : (Pk.encI n == Pk.encI m) = false := beq_eq_false_iff_ne.2 h2
      rw [e1, e2]; rfl
  cases hb1 : decide (n < 0) <;> cases hb2 : decide (m < n) <;> cases hb3 : decide (((Pk.encI m).length : Int) ≥ ((Pk.encI n).length : Int))
  case false.false.false => simp only [decide_eq_false_iff_not] at hb1 hb2 hb3; omega
  all_goals
    repeat (first | (refine Br.yes (by first | rfl | with_reducible assumption) ?_; conv => whnf) | (refine Br.no (by first | rfl | with_reducible assumption) ?_; conv => whnf))
    refine Om.of _ (ob_str op7) ?_
    conv => whnf
    repeat (first | (refine Br.yes (by first | rfl | with_reducible assumption) ?_; conv => whnf) | (refine Br.no (by first | rfl | with_reducible assumption) ?_; conv => whnf))
    refine Om.of _ (ob_str oq7) ?_
    conv => whnf
    repeat (first | (refine Br.yes (by first | rfl | with_reducible assumption) ?_; conv => whnf) | (refine Br.no (by first | rfl | with_reducible assumption) ?_; conv => whnf))
    refine Om.of _ (str_ne _ _) ?_
    conv => whnf
    repeat (first | (refine Br.yes (by first | rfl | with_reducible assumption) ?_; conv => whnf) | (refine Br.no (by first | rfl | with_reducible assumption) ?_; conv => whnf))
    refine Om.of (.bool true) (congrArg (fun b => some (Value.bool b)) hneq) ?_
    conv => whnf
    repeat (first | (refine Br.yes (by first | rfl | with_reducible assumption) ?_; conv => whnf) | (refine Br.no (by first | rfl | with_reducible assumption) ?_; conv => whnf))
    refine Sm.ofW ?_
    conv => whnf
    exact ⟨rfl⟩
end Go.Ev
