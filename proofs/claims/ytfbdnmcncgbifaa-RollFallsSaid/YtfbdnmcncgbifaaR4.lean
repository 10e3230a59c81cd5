/- Rolls: is a whole record at the beginning of some bytes? No condition. -/
import Derived.Test.YtfbdnmcncgbifaaR3
import Derived.Test.YtfbdnmcncgbifaaK5r
noncomputable section
namespace Go.Ev
open Go.Proofs
set_option linter.unusedVariables false
set_option maxRecDepth 100000

theorem equal_spec (s : St) {κ κ' : Option Nat} {v w : Value} {l l' : List UInt8} (hv : Sb s κ v l) (hw : Sb s κ' w l') (hl : l.length ≤ 1000000) :
    Cw Try.prog 44 [v, w] s fun r s' => s' = s ∧ r = .bool (decide (l = l')) := by
  obtain ⟨a, c, rfl⟩ := hv.shape
  obtain ⟨a', c', rfl⟩ := hw.shape
  have hp : Hp (fun _ => False) s [slA κ (.slice a l.length c) 1 l.length (byteVals l), slA κ' (.slice a' l'.length c') 1 l'.length (byteVals l')] [] s ∨ True := .inr trivial
  refine Cw.enterS Try.func44 rfl rfl ?_
  refine Sm.seqW ?_
  conv => whnf
  refine Sm.seq ?_
  refine Sm.seqW ?_
  conv => whnf
  refine Sm.ofW ?_
  conv => whnf
  refine Br.mk (fun hq => ?_) (fun hq => ?_)
  · have hq : l.length ≠ l'.length := by intro h; rw [h] at hq; simp at hq
    conv => whnf
    have : decide (l = l') = false := decide_eq_false (fun h => hq (by rw [h]))
    rw [this]
    exact ⟨rfl, rfl⟩
  · have hq : l.length = l'.length := by have := bne_eq_false_iff_eq.1 hq; omega
    conv => whnf
    refine Sm.live [0, 1] ?_
    conv => whnf
    refine Sm.seq ?_
    refine Sm.seqW ?_
    conv => whnf
    refine Sm.block ?_
    refine Sm.loop ?_
    refine Lp.ofS (α := Nat) (fun i => [(0, .slice a l.length c), (1, .slice a' l'.length c'), (12, .int .i64 (l.length : Int)), (13, .int .i64 (i : Int))])
      (fun i s' => s' = s ∧ i ≤ l.length ∧ l.take i = l'.take i) (fun i => l.length - i) ?_ 0 (subK_ok (by refine ⟨rfl, rfl, rfl, rfl, trivial⟩)) ⟨rfl, by omega, rfl⟩
    rintro i s1 ⟨rfl, hi, heq⟩
    refine Sm.seqW ?_
    conv => whnf
    refine Sm.seqW ?_
    conv => whnf
    refine Br.mk (fun hc => ?_) (fun hc => ?_)
    · have hc : i < l.length := by have := of_decide_eq_true hc; omega
      have hd : i < l'.length := by omega
      conv => whnf
      refine Sm.seq (Sm.block ?_)
      refine Sm.seqW ?_
      conv => whnf
      refine Sm.ofW ?_
      conv => whnf
      refine ⟨[0, 0, 3, 7, 0, 0, 48, 112, 255], by decide +kernel, by decide +kernel, ?_⟩
      conv => whnf
      obtain ⟨p, x, e1, e2, e3, _, rfl⟩ := index_sl B26 Try.underlying5 rfl hv .i64 hc
      obtain rfl : x = .int .u8 (l[i].toNat : Int) := by simp [byteVals, hc] at e2; exact e2.symm
      refine Om.of _ e1 ?_
      conv => whnf
      refine Om.of _ e3 ?_
      conv => whnf
      obtain ⟨p, x, f1, f2, f3, _, rfl⟩ := index_sl B26 Try.underlying5 rfl hw .i64 hd
      obtain rfl : x = .int .u8 (l'[i].toNat : Int) := by simp [byteVals, hd] at f2; exact f2.symm
      refine Om.of _ f1 ?_
      conv => whnf
      refine Om.of _ f3 ?_
      conv => whnf
      refine Br.mk (fun hr => ?_) (fun hr => ?_)
      · have hr : l[i] ≠ l'[i] := by intro h; rw [h] at hr; simp at hr
        conv => whnf
        have : decide (l = l') = false := decide_eq_false (fun h => hr (by subst h; rfl))
        rw [this]
        exact ⟨rfl, rfl⟩
      · have hr : l[i] = l'[i] := by
          have := bne_eq_false_iff_eq.1 hr
          exact UInt8.toNat_inj.1 (by omega)
        conv => whnf
        refine Sm.ofW ?_
        conv => whnf
        have e6 : IntKind.i64.wrap ((i : Int) + 1) = ((i + 1 : Nat) : Int) := by rw [wi64 (by omega) (by omega)]; omega
        refine ⟨i + 1, by (show l.length - (i + 1) < l.length - i); omega, subK_ok (by refine ⟨rfl, rfl, rfl, congrArg (fun x => some (Value.int .i64 x)) e6, trivial⟩), rfl, hc, ?_⟩
        rw [List.take_succ_eq_append_getElem hc, List.take_succ_eq_append_getElem hd, heq, hr]
    · have hc : i = l.length := by have := of_decide_eq_false hc; omega
      subst hc
      conv => whnf
      refine Sm.ofW ?_
      conv => whnf
      rw [List.take_of_length_le (Nat.le_refl _), List.take_of_length_le (by omega)] at heq
      have : decide (l = l') = true := decide_eq_true heq
      rw [this]
      exact ⟨rfl, rfl⟩
/-- The record that the bytes begin with, how many it has. -/
def wholeF (l : List UInt8) (at_ : Int) : Option (Rr × Nat) :=
  if l.length < 10 ∨ (l.getD 0 0).toNat < 128 ∨ (l.getD 1 0).toNat < 128 then none else
  let n := ((l.getD 0 0).toNat - 128) * 128 + ((l.getD 1 0).toNat - 128)
  if n < 10 ∨ l.length - 10 < n ∨ (l.getD (10 + n - 1) 0).toNat ≠ 255 then none else
  match Pk.readT ((l.drop 18).take (n - 9)) with
  | none => none
  | some (body, rest) =>
    if rest = [] ∧ layF ⟨IntKind.i64.wrap (num8 ((l.drop 10).take 8) : Int), ⟨body.toArray⟩⟩ at_ = l.take (10 + n) then some (⟨IntKind.i64.wrap (num8 ((l.drop 10).take 8) : Int), ⟨body.toArray⟩⟩, 10 + n) else none
theorem readT_len {l a r : List UInt8} (h : Pk.readT l = some (a, r)) : a.length ≤ l.length := by
  unfold Pk.readT at h
  cases hr : Pk.readI l with
  | none => rw [hr] at h; cases h
  | some p =>
    obtain ⟨n, rest⟩ := p
    rw [hr] at h
    simp only at h
    split at h <;> first | contradiction | skip
    injection h with h
    injection h with h1 h2
    have := (Pk.readI_dec hr).1
    rw [this, ← h1]; simp; omega
theorem idx8 {s : St} {κ : Option Nat} {v : Value} {l : List UInt8} (hv : Sb s κ v l) {i : Nat} (hi : i < l.length) :
    ∃ a, evIndexAddr Try.prog 32 v (.int .i64 (i : Int)) = some (.pointer (some a)) ∧ evLoad Try.prog 5 (.pointer (some a)) s = some (.int .u8 (l[i].toNat : Int)) := by
  obtain ⟨p, x, e1, e2, e3, a, rfl⟩ := index_sl B26 Try.underlying5 rfl hv .i64 hi
  obtain rfl : x = .int .u8 (l[i].toNat : Int) := by simp [byteVals, hi] at e2; exact e2.symm
  exact ⟨a, e1, e3⟩
theorem slice_midT {s : St} {κ : Option Nat} {v : Value} {l : List UInt8} (h : Sb s κ v l) (k : IntKind) {i j : Nat} (hi : i ≤ j) (hj : j ≤ l.length) :
    ∃ v', evSliceMem Try.prog 32 v (some (.int k (i : Int))) (some (.int k (j : Int))) none s = some v' ∧ Sb s κ v' ((l.drop i).take (j - i)) := by
  obtain ⟨v', e, h'⟩ := slice_sl B26 h k k (some i) (some j) (by simpa using hi) (by simpa using hj)
  refine ⟨v', e, Sb.of (n := j - i) ?_⟩
  simpa [drop_bytes, take_bytes] using h'
theorem whole_spec {z : St} (wf : WF z) {κ : Option Nat} {v : Value} {l : List UInt8} (hv : Sb z κ v l) (hl : l.length ≤ 100000) (at_ : Int) :
    Cw Try.prog 29 [v, .int .i64 at_] z fun r s' => K0 z s' ∧ ((wholeF l at_ = none ∧ ∃ q, r = .tuple #[q, .int .i64 0, .bool false] ∧ q = Rr.val ⟨0, ⟨#[]⟩⟩) ∨ ∃ x n, wholeF l at_ = some (x, n) ∧ r = .tuple #[x.val, .int .i64 (n : Int), .bool true]) := by
  have hp : Hp (fun _ => False) z [slA κ v 1 l.length (byteVals l)] [] z := Hp.start _ wf _ (by simp; exact hv)
  obtain ⟨a, c, rfl⟩ := hv.shape
  refine Cw.enterS Try.func29 rfl rfl ?_
  refine Sm.seqW ?_
  conv => whnf
  refine hp.alloc (cs := Rr.cells ⟨0, ⟨#[]⟩⟩) (e := 2) rfl rfl rfl rfl rfl ?_
  clear hp
  intro b1 s hp _
  conv => whnf
  refine Sm.seqW ?_
  conv => whnf
  refine Sm.live [0, 1, 4, 7] ?_
  conv => whnf
  refine Sm.seq ?_
  by_cases h10 : l.length < 10
  · have hw : wholeF l at_ = none := by unfold wholeF; rw [if_pos (.inl h10)]
    refine Sm.seqW ?_
    conv => whnf
    have d1 : decide ((l.length : Int) < 10) = true := decide_eq_true (by omega)
    repeat (first | (refine Br.yes (by first | with_reducible rfl | exact d1) ?_; conv => whnf))
    refine Sm.ofW ?_
    conv => whnf
    repeat (first | (refine Br.yes (by first | with_reducible rfl | exact d1) ?_; conv => whnf))
    refine hp.storeW (vs := Rr.cells ⟨0, ⟨#[]⟩⟩) rfl (by repeat (first | exact Rm.here | apply Rm.there)) (by rfl) rfl rfl rfl ?_
    clear hp
    intro s hp _
    conv => whnf
    refine hp.loadA (l := Rr.cells ⟨0, ⟨#[]⟩⟩) (by repeat (first | exact Has.here | apply Has.there | (apply Has.swap; repeat (first | exact HasR.here | apply HasR.there)))) rfl (by rfl) rfl rfl ?_
    conv => whnf
    exact ⟨hp.fr, .inl ⟨hw, _, rfl, rfl⟩⟩
  have d1 : decide ((l.length : Int) < 10) = false := decide_eq_false (by omega)
  have g0 : l.getD 0 0 = l[0] := by simp [List.getD, show 0 < l.length by omega]
  have g1 : l.getD 1 0 = l[1] := by simp [List.getD, show 1 < l.length by omega]
  have u0 := l[0].toNat_lt
  have u1 := l[1].toNat_lt
  obtain ⟨p0, i0, j0⟩ := idx8 (hp.slR .here) (i := 0) (by omega)
  obtain ⟨p1, i1, j1⟩ := idx8 (hp.slR .here) (i := 1) (by omega)
  by_cases h12 : l[0].toNat < 128 ∨ l[1].toNat < 128
  · have hw : wholeF l at_ = none := by unfold wholeF; rw [g0, g1, if_pos (.inr h12)]
    refine Sm.seqW ?_
    conv => whnf
    repeat (first | (refine Br.no (by first | with_reducible rfl | exact d1) ?_; conv => whnf))
    refine Om.of _ i0 ?_
    conv => whnf
    repeat (first | (refine Br.no (by first | with_reducible rfl | exact d1) ?_; conv => whnf))
    refine Om.of _ j0 ?_
    conv => whnf
    repeat (first | (refine Br.no (by first | with_reducible rfl | exact d1) ?_; conv => whnf))
    by_cases h1 : l[0].toNat < 128
    · have d2 : decide ((l[0].toNat : Int) < 128) = true := decide_eq_true (by omega)
      repeat (first | (refine Br.yes (by first | with_reducible rfl | exact d2) ?_; conv => whnf))
      refine Sm.ofW ?_
      conv => whnf
      repeat (first | (refine Br.yes (by first | with_reducible rfl | exact d2) ?_; conv => whnf))
      refine hp.storeW (vs := Rr.cells ⟨0, ⟨#[]⟩⟩) rfl (by repeat (first | exact Rm.here | apply Rm.there)) (by rfl) rfl rfl rfl ?_
      clear hp
      intro s hp _
      conv => whnf
      refine hp.loadA (l := Rr.cells ⟨0, ⟨#[]⟩⟩) (by repeat (first | exact Has.here | apply Has.there | (apply Has.swap; repeat (first | exact HasR.here | apply HasR.there)))) rfl (by rfl) rfl rfl ?_
      conv => whnf
      exact ⟨hp.fr, .inl ⟨hw, _, rfl, rfl⟩⟩
    · have d2 : decide ((l[0].toNat : Int) < 128) = false := decide_eq_false (by omega)
      have d3 : decide ((l[1].toNat : Int) < 128) = true := decide_eq_true (by omega)
      repeat (first | (refine Br.no (by first | with_reducible rfl | exact d2) ?_; conv => whnf))
      refine Om.of _ i1 ?_
      conv => whnf
      repeat (first | (refine Br.no (by first | with_reducible rfl | exact d2) ?_; conv => whnf))
      refine Om.of _ j1 ?_
      conv => whnf
      repeat (first | (refine Br.no (by first | with_reducible rfl | exact d2) ?_; conv => whnf))
      refine Sm.ofW ?_
      conv => whnf
      repeat (first | (refine Br.yes (by first | with_reducible rfl | exact d3) ?_; conv => whnf))
      refine hp.storeW (vs := Rr.cells ⟨0, ⟨#[]⟩⟩) rfl (by repeat (first | exact Rm.here | apply Rm.there)) (by rfl) rfl rfl rfl ?_
      clear hp
      intro s hp _
      conv => whnf
      refine hp.loadA (l := Rr.cells ⟨0, ⟨#[]⟩⟩) (by repeat (first | exact Has.here | apply Has.there | (apply Has.swap; repeat (first | exact HasR.here | apply HasR.there)))) rfl (by rfl) rfl rfl ?_
      conv => whnf
      exact ⟨hp.fr, .inl ⟨hw, _, rfl, rfl⟩⟩
  have d2 : decide ((l[0].toNat : Int) < 128) = false := decide_eq_false (by omega)
  have d3 : decide ((l[1].toNat : Int) < 128) = false := decide_eq_false (by omega)
  refine Sm.seqW ?_
  conv => whnf
  repeat (first | (refine Br.no (by first | with_reducible rfl | exact d1 | exact d2) ?_; conv => whnf) | (refine Om.of _ i0 ?_; conv => whnf) | (refine Om.of _ j0 ?_; conv => whnf) | (refine Om.of _ i1 ?_; conv => whnf) | (refine Om.of _ j1 ?_; conv => whnf))
  refine Sm.ofW ?_
  conv => whnf
  refine Br.no d3 ?_
  conv => whnf
  clear i0 j0 i1 j1
  refine Sm.live [0, 1, 4, 7] ?_
  conv => whnf
  refine Sm.seqW ?_
  conv => whnf
  refine ⟨[0, 1, 3, 7, 15, 31, 0, 64, 192, 448, 960, 2047, 4095], by decide +kernel, by decide +kernel, ?_⟩
  conv => whnf
  obtain ⟨p0, i0, j0⟩ := idx8 (hp.slR .here) (i := 0) (by omega)
  obtain ⟨p1, i1, j1⟩ := idx8 (hp.slR .here) (i := 1) (by omega)
  refine Om.of _ i0 ?_
  conv => whnf
  refine Om.of _ j0 ?_
  conv => whnf
  refine Om.of _ i1 ?_
  conv => whnf
  refine Om.of _ j1 ?_
  conv => whnf
  clear i0 j0 i1 j1
  have w0 : IntKind.u8.wrap ((l[0].toNat : Int) - 128) = ((l[0].toNat - 128 : Nat) : Int) := by rw [wrap_u8i]; omega
  have w1 : IntKind.u8.wrap ((l[1].toNat : Int) - 128) = ((l[1].toNat - 128 : Nat) : Int) := by rw [wrap_u8i]; omega
  have w2 : IntKind.i64.wrap (IntKind.i64.wrap (IntKind.i64.wrap ((l[0].toNat - 128 : Nat) : Int) * 128) + IntKind.i64.wrap ((l[1].toNat - 128 : Nat) : Int)) = (((l[0].toNat - 128) * 128 + (l[1].toNat - 128) : Nat) : Int) := by
    rw [wi64 (n := ((l[0].toNat - 128 : Nat) : Int)) (by omega) (by omega), wi64 (n := ((l[1].toNat - 128 : Nat) : Int)) (by omega) (by omega), wi64 (n := ((l[0].toNat - 128 : Nat) : Int) * 128) (by omega) (by omega), wi64 (by omega) (by omega)]
    push_cast; rfl
  rw [w0, w1, w2]
  generalize hn : (l[0].toNat - 128) * 128 + (l[1].toNat - 128) = n
  have hn2 : n < 20000 := by omega
  refine Sm.live [0, 1, 4, 7, 8] ?_
  conv => whnf
  refine Sm.seq ?_
  have hwF : wholeF l at_ = if n < 10 ∨ l.length - 10 < n ∨ (l.getD (10 + n - 1) 0).toNat ≠ 255 then none else
      match Pk.readT ((l.drop 18).take (n - 9)) with
      | none => none
      | some (body, rest) =>
        if rest = [] ∧ layF ⟨IntKind.i64.wrap (num8 ((l.drop 10).take 8) : Int), ⟨body.toArray⟩⟩ at_ = l.take (10 + n) then some (⟨IntKind.i64.wrap (num8 ((l.drop 10).take 8) : Int), ⟨body.toArray⟩⟩, 10 + n) else none := by
    unfold wholeF
    rw [g0, g1, if_neg (by omega)]
    simp only [hn]
  refine Sm.seqC (fun e L' s' => e = .normal ∧ s' = s ∧ ∃ q, Sub [(0, .slice a l.length c), (1, .int .i64 at_), (4, .pointer (some ⟨b1, 0, none⟩)), (7, .int .i64 10), (8, .int .i64 (n : Int)), (61, .bool q)] L' ∧ (q = true ↔ (n < 10 ∨ l.length - 10 < n ∨ (l.getD (10 + n - 1) 0).toNat ≠ 255))) ?_ ?_
  · conv => whnf
    by_cases c1 : n < 10
    · have f1 : decide ((n : Int) < 10) = true := decide_eq_true (by omega)
      repeat (first | (refine Br.yes (by first | with_reducible rfl | exact f1) ?_; conv => whnf))
      exact ⟨rfl, rfl, true, subK_ok ⟨rfl, rfl, rfl, rfl, rfl, rfl, trivial⟩, by simp [c1]⟩
    have f1 : decide ((n : Int) < 10) = false := decide_eq_false (by omega)
    have f2' : decide ((n : Int) > IntKind.i64.wrap ((l.length : Int) - 10)) = decide (l.length - 10 < n) := by
      rw [wi64 (by omega) (by omega)]
      by_cases c2 : l.length - 10 < n
      · rw [decide_eq_true c2]; exact decide_eq_true (by omega)
      · rw [decide_eq_false c2]; exact decide_eq_false (by omega)
    by_cases c2 : l.length - 10 < n
    · rw [decide_eq_true c2] at f2'
      repeat (first | (refine Br.no (by first | with_reducible rfl | exact f1) ?_; conv => whnf) | (refine Br.yes (by first | with_reducible rfl | exact f2') ?_; conv => whnf))
      exact ⟨rfl, rfl, true, subK_ok ⟨rfl, rfl, rfl, rfl, rfl, rfl, trivial⟩, by simp [c2]⟩
    rw [decide_eq_false c2] at f2'
    repeat (first | (refine Br.no (by first | with_reducible rfl | exact f1 | exact f2') ?_; conv => whnf))
    have hi : 10 + n - 1 < l.length := by omega
    have e3 : IntKind.i64.wrap (IntKind.i64.wrap (10 + (n : Int)) - 1) = ((10 + n - 1 : Nat) : Int) := by
      rw [wi64 (n := 10 + (n : Int)) (by omega) (by omega), wi64 (by omega) (by omega)]; omega
    obtain ⟨p0, i0, j0⟩ := idx8 (hp.slR .here) (i := 10 + n - 1) hi
    rw [e3]
    refine Om.of _ i0 ?_
    conv => whnf
    repeat (first | (refine Br.no (by first | with_reducible rfl | exact f1 | exact f2') ?_; conv => whnf))
    refine Om.of _ j0 ?_
    conv => whnf
    repeat (first | (refine Br.no (by first | with_reducible rfl | exact f1 | exact f2') ?_; conv => whnf))
    refine ⟨rfl, rfl, _, subK_ok ⟨rfl, rfl, rfl, rfl, rfl, rfl, trivial⟩, ?_⟩
    have g2 : l.getD (10 + n - 1) 0 = l[10 + n - 1] := by rw [List.getD_eq_getElem?_getD, List.getElem?_eq_getElem hi]; rfl
    rw [g2]
    simp [c1, c2]
    omega
  rintro e L' s' ⟨rfl, rfl, q, hs, hq⟩
  refine Sm.weak _ hs ?_
  clear hs
  refine Sm.ofW ?_
  conv => whnf
  cases q with
  | true =>
    have hw : wholeF l at_ = none := by rw [hwF, if_pos (hq.1 rfl)]
    refine Br.yes rfl ?_
    conv => whnf
    refine hp.storeW (vs := Rr.cells ⟨0, ⟨#[]⟩⟩) rfl (by repeat (first | exact Rm.here | apply Rm.there)) (by rfl) rfl rfl rfl ?_
    clear hp
    intro s hp _
    conv => whnf
    refine hp.loadA (l := Rr.cells ⟨0, ⟨#[]⟩⟩) (by repeat (first | exact Has.here | apply Has.there | (apply Has.swap; repeat (first | exact HasR.here | apply HasR.there)))) rfl (by rfl) rfl rfl ?_
    conv => whnf
    exact ⟨hp.fr, .inl ⟨hw, _, rfl, rfl⟩⟩
  | false =>
    have hcond : ¬ (n < 10 ∨ l.length - 10 < n ∨ (l.getD (10 + n - 1) 0).toNat ≠ 255) := fun h => by have := hq.2 h; cases this
    rw [if_neg hcond] at hwF
    refine Br.no rfl ?_
    conv => whnf
    refine Sm.live [0, 1, 4, 7, 8] ?_
    conv => whnf
    -- its body
    refine Sm.seqW ?_
    conv => whnf
    have e1 : IntKind.i64.wrap (10 + 8) = ((18 : Nat) : Int) := rfl
    have e3 : IntKind.i64.wrap (IntKind.i64.wrap (10 + (n : Int)) - 1) = ((10 + n - 1 : Nat) : Int) := by
      rw [wi64 (n := 10 + (n : Int)) (by omega) (by omega), wi64 (by omega) (by omega)]; omega
    rw [e1, e3]
    obtain ⟨w1, f1, hw1⟩ := slice_midT (hp.slR .here) .i64 (i := 18) (j := 10 + n - 1) (by omega) (by omega)
    rw [show 10 + n - 1 - 18 = n - 9 by omega] at hw1
    refine Om.of w1 f1 ?_
    conv => whnf
    refine (readText_spec hp.wf hw1 (by simp; omega)).mono ?_
    rintro _ s1 ⟨k1, ⟨hr, rfl⟩ | ⟨body, rest, w2, hr, rfl, o2⟩⟩
    · have hw : wholeF l at_ = none := by rw [hwF, hr]
      replace hp := hp.k0 k1
      clear k1 f1 hw1
      conv => whnf
      refine Sm.live [0, 1, 4, 7, 8, 9, 10, 11] ?_
      conv => whnf
      refine Sm.seqW ?_
      conv => whnf
      rw [e1]
      obtain ⟨w3, f3, hw3⟩ := slice_midT (hp.slR .here) .i64 (i := 10) (j := 18) (by omega) (by omega)
      refine Om.of w3 f3 ?_
      conv => whnf
      refine (number_spec _ hw3 (by simp; omega)).mono ?_
      rintro _ _ ⟨rfl, rfl⟩
      conv => whnf
      refine hp.alloc (cs := Rr.cells ⟨0, ⟨#[]⟩⟩) (e := 2) rfl rfl rfl rfl rfl ?_
      clear hp f3 hw3
      intro b3 s hp _
      conv => whnf
      refine hp.storeW (vs := Rr.cells ⟨IntKind.i64.wrap (num8 ((l.drop 10).take (18 - 10)) : Int), ⟨#[]⟩⟩) rfl (by repeat (first | exact Rm.here | apply Rm.there)) (by rfl) rfl rfl rfl ?_
      clear hp
      intro s hp _
      conv => whnf
      refine Sm.seq ?_
      refine Sm.ofW ?_
      conv => whnf
      refine ⟨[0, 1, 3, 7, 15, 31, 63, 127, 255, 255, 1023, 255, 255, 255, 12543, 30975, 65535, 131071, 262143], by decide +kernel, by decide +kernel, ?_⟩
      conv => whnf
      repeat (first | (refine Br.yes (by first | with_reducible rfl | rfl) ?_; conv => whnf) | (refine Br.no (by first | with_reducible rfl | rfl) ?_; conv => whnf))
      refine hp.storeW (vs := Rr.cells ⟨0, ⟨#[]⟩⟩) (C := Rr.cells ⟨0, ⟨#[]⟩⟩) rfl (by repeat (first | exact Rm.here | apply Rm.there)) (by rfl) rfl rfl rfl ?_
      clear hp
      intro s hp _
      conv => whnf
      refine hp.loadA (l := Rr.cells ⟨0, ⟨#[]⟩⟩) (by repeat (first | exact Has.here | apply Has.there | (apply Has.swap; repeat (first | exact HasR.here | apply HasR.there)))) rfl (by rfl) rfl rfl ?_
      conv => whnf
      exact ⟨hp.fr, .inl ⟨hw, _, rfl, rfl⟩⟩
    · obtain ⟨κ2, hp⟩ := hp.on k1 o2
      obtain ⟨a2, c2, rfl⟩ := (hp.slF .here).shape
      have hbl : body.length ≤ l.length := by
        have := readT_len hr
        simp at this; omega
      have hrl : rest.length ≤ 100000000 := by
        unfold Pk.readT at hr
        cases hri : Pk.readI ((l.drop 18).take (n - 9)) with
        | none => rw [hri] at hr; cases hr
        | some p =>
          obtain ⟨m, r'⟩ := p
          rw [hri] at hr
          simp only at hr
          split at hr <;> first | contradiction | skip
          injection hr with hr
          injection hr with h1 h2
          have := congrArg List.length (Pk.readI_dec hri).1
          rw [← h2]
          simp at this ⊢
          omega
      clear f1 hw1 k1 o2
      conv => whnf
      refine Sm.live [0, 1, 4, 7, 8, 9, 10, 11] ?_
      conv => whnf
      refine Sm.seqW ?_
      conv => whnf
      rw [e1]
      obtain ⟨w3, f3, hw3⟩ := slice_midT (hp.slR .here) .i64 (i := 10) (j := 18) (by omega) (by omega)
      refine Om.of w3 f3 ?_
      conv => whnf
      refine (number_spec _ hw3 (by simp; omega)).mono ?_
      rintro _ _ ⟨rfl, rfl⟩
      conv => whnf
      refine hp.alloc (cs := Rr.cells ⟨0, ⟨#[]⟩⟩) (e := 2) rfl rfl rfl rfl rfl ?_
      clear hp f3 hw3
      intro b3 s hp _
      conv => whnf
      refine hp.storeW (vs := Rr.cells ⟨IntKind.i64.wrap (num8 ((l.drop 10).take (18 - 10)) : Int), ⟨body.toArray⟩⟩) rfl (by repeat (first | exact Rm.here | apply Rm.there)) (by rfl) rfl rfl rfl ?_
      clear hp
      intro s hp _
      conv => whnf
      refine Sm.seq ?_
      rw [hr] at hwF
      simp only at hwF
      refine Sm.seqC (fun e L' s' => e = .normal ∧ Hp (fun _ => False) z [slA κ (.slice a l.length c) 1 l.length (byteVals l)] [blkA b3 b3 (Rr.cells ⟨IntKind.i64.wrap (num8 ((l.drop 10).take (18 - 10)) : Int), ⟨body.toArray⟩⟩) 2, blkA b1 b1 (Rr.cells ⟨0, ⟨#[]⟩⟩) 2] s' ∧ ∃ q, Sub [(4, .pointer (some ⟨b1, 0, none⟩)), (7, .int .i64 10), (8, .int .i64 (n : Int)), (12, .pointer (some ⟨b3, 0, none⟩)), (102, .bool q)] L' ∧
        (q = false ↔ (rest = [] ∧ layF ⟨IntKind.i64.wrap (num8 ((l.drop 10).take 8) : Int), ⟨body.toArray⟩⟩ at_ = l.take (10 + n)))) ?_ ?_
      · conv => whnf
        refine ⟨[0, 1, 3, 7, 15, 31, 63, 127, 255, 255, 1023, 255, 255, 255, 12543, 30975, 65535, 131071, 262143], by decide +kernel, by decide +kernel, ?_⟩
        conv => whnf
        by_cases hrest : rest = []
        · have q1 : decide ((rest.length : Int) > 0) = false := decide_eq_false (by rw [hrest]; simp)
          repeat (first | (refine Br.no (by first | with_reducible rfl | exact q1 | rfl) ?_; conv => whnf))
          refine hp.loadA (l := Rr.cells ⟨IntKind.i64.wrap (num8 ((l.drop 10).take (18 - 10)) : Int), ⟨body.toArray⟩⟩) (by repeat (first | exact Has.here | apply Has.there | (apply Has.swap; repeat (first | exact HasR.here | apply HasR.there)))) rfl (by rfl) rfl rfl ?_
          conv => whnf
          repeat (first | (refine Br.no (by first | with_reducible rfl | exact q1) ?_; conv => whnf))
          refine hp.rst.callO (laid_spec hp.rst.wf ⟨IntKind.i64.wrap (num8 ((l.drop 10).take (18 - 10)) : Int), ⟨body.toArray⟩⟩ (by rw [bs_mk]; omega) at_) ?_
          intro v5 κ5 s5 h5 k5
          conv => whnf
          refine hp.dkN h5 k5 ?_
          clear hp h5 k5
          intro s hp
          conv => whnf
          repeat (first | (refine Br.no (by first | with_reducible rfl | exact q1) ?_; conv => whnf))
          have e5 : IntKind.i64.wrap (10 + (n : Int)) = ((10 + n : Nat) : Int) := by rw [wi64 (by omega) (by omega)]; push_cast; rfl
          rw [e5]
          obtain ⟨w6, f6, hw6⟩ := slice_to (hp.slR .here) .i64 (n := 10 + n) (by omega)
          refine Om.of w6 f6 ?_
          conv => whnf
          repeat (first | (refine Br.no (by first | with_reducible rfl | exact q1) ?_; conv => whnf))
          have hlen5 : (layF ⟨IntKind.i64.wrap (num8 ((l.drop 10).take (18 - 10)) : Int), ⟨body.toArray⟩⟩ at_).length ≤ 1000000 := by
            have hel := Pk.encI_len (n := (body.length : Int)) (by unfold Pk.inR; omega)
            unfold layF layB
            simp [bytes8_len, bs_mk]
            omega
          refine (equal_spec _ (hp.rst.slF .here) hw6.reset hlen5).mono ?_
          rintro _ _ ⟨rfl, rfl⟩
          conv => whnf
          refine hp.dkS ?_
          conv => whnf
          repeat (first | (refine Br.no (by first | with_reducible rfl | exact q1) ?_; conv => whnf))
          refine ⟨rfl, hp.pik (by repeat (first | exact Pik.nil | exact Pik.refl _ | exact Rm.here | apply Rm.there | apply Pik.cons | apply Pik.skip)), _, subK_ok ⟨rfl, rfl, rfl, rfl, rfl, trivial⟩, ?_⟩
          rw [Bool.not_eq_false', decide_eq_true_eq]
          exact ⟨fun h => ⟨hrest, h⟩, fun h => h.2⟩
        · have q1 : decide ((rest.length : Int) > 0) = true := decide_eq_true (by
            have := List.length_pos_iff.2 hrest; omega)
          repeat (first | (refine Br.no (by first | with_reducible rfl | rfl) ?_; conv => whnf))
          repeat (first | (refine Br.yes (by first | with_reducible rfl | exact q1) ?_; conv => whnf))
          exact ⟨rfl, hp.pik (by repeat (first | exact Pik.nil | exact Pik.refl _ | exact Rm.here | apply Rm.there | apply Pik.cons | apply Pik.skip)), true, subK_ok ⟨rfl, rfl, rfl, rfl, rfl, trivial⟩, by simp [hrest]⟩
      clear hp
      rintro e L' s ⟨rfl, hp, q, hs, hq⟩
      refine Sm.weak _ hs ?_
      clear hs
      refine Sm.ofW ?_
      conv => whnf
      cases q with
      | true =>
        have hw : wholeF l at_ = none := by
          rw [hwF, if_neg]
          intro h
          have := hq.2 h; cases this
        refine Br.yes rfl ?_
        conv => whnf
        refine hp.storeW (vs := Rr.cells ⟨0, ⟨#[]⟩⟩) (C := Rr.cells ⟨0, ⟨#[]⟩⟩) rfl (by repeat (first | exact Rm.here | apply Rm.there)) (by rfl) rfl rfl rfl ?_
        clear hp
        intro s hp _
        conv => whnf
        refine hp.loadA (l := Rr.cells ⟨0, ⟨#[]⟩⟩) (by repeat (first | exact Has.here | apply Has.there | (apply Has.swap; repeat (first | exact HasR.here | apply HasR.there)))) rfl (by rfl) rfl rfl ?_
        conv => whnf
        exact ⟨hp.fr, .inl ⟨hw, _, rfl, rfl⟩⟩
      | false =>
        have hw := hq.1 rfl
        rw [if_pos hw] at hwF
        refine Br.no rfl ?_
        conv => whnf
        refine Sm.ofW ?_
        conv => whnf
        refine hp.loadA (l := Rr.cells ⟨IntKind.i64.wrap (num8 ((l.drop 10).take (18 - 10)) : Int), ⟨body.toArray⟩⟩) (by repeat (first | exact Has.here | apply Has.there | (apply Has.swap; repeat (first | exact HasR.here | apply HasR.there)))) rfl (by rfl) rfl rfl ?_
        conv => whnf
        refine hp.storeW (vs := Rr.cells ⟨IntKind.i64.wrap (num8 ((l.drop 10).take (18 - 10)) : Int), ⟨body.toArray⟩⟩) (C := Rr.cells ⟨0, ⟨#[]⟩⟩) rfl (by repeat (first | exact Rm.here | apply Rm.there)) (by rfl) rfl rfl rfl ?_
        clear hp
        intro s hp _
        conv => whnf
        refine hp.loadA (l := Rr.cells ⟨IntKind.i64.wrap (num8 ((l.drop 10).take (18 - 10)) : Int), ⟨body.toArray⟩⟩) (by repeat (first | exact Has.here | apply Has.there | (apply Has.swap; repeat (first | exact HasR.here | apply HasR.there)))) rfl (by rfl) rfl rfl ?_
        conv => whnf
        have e5 : IntKind.i64.wrap (10 + (n : Int)) = ((10 + n : Nat) : Int) := by rw [wi64 (by omega) (by omega)]; push_cast; rfl
        refine ⟨hp.fr, .inr ⟨_, _, hwF, ?_⟩⟩
        rw [← e5]
        rfl
end Go.Ev
