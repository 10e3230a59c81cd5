/- A proved evaluator, part 15d: a region in any order, the end of the proof. No condition. -/
import Derived.Test.YtmhfkejbahacoaaGreatDoorKViewHoldsE15c
noncomputable section
namespace Go.Ev
open Go.RowKit
set_option linter.unusedVariables false
variable [Lk]
set_option linter.unusedSectionVars false

section
variable {P : Program} {call : Call} {n : Nat} {ops : Array Oper} {H : Nat → St} {tt : Nat → T Value} {kd : Nat → Nat} {lo : Nat → Option (Bool × Option Nat)}
variable {J B0 : Nat} {w0 : World} {β0 : B} {wi : World} {listed : Array Bool} {a : Act} {w : World} {β : B} {q : Nat}

/-- Where an operation that touches memory, and may come up now, stands to the next writer. -/
theorem place (tr : Trace P call n ops (masks ops.toList []) H tt kd lo 0) (hAok : drawOk ops = true) (inv : Inv P n ops H tt kd J B0 w0 β0 wi listed a w β q) {j : Nat} {o : Oper} (hj : ops[j]? = some o) (hun : ¬ lst listed j)
    (hdep : ∀ e ∈ o.after, Region.binds .any e = true → lst listed e.on) (hk : 0 < kd j) (hk3 : kd j ≠ 3) : j ≤ q ∧ (∀ m, j ≤ m → m < q → kd m ≠ 2) ∧ (kd j = 2 → j = q) ∧ (kd j = 1 → j < q) := by
  have hjs : j < ops.size := (Array.getElem?_eq_some_iff.1 hj).1
  have hmask := mask_lst hAok inv.cl
  have hle : j ≤ q := by
    rcases Nat.lt_or_ge q j with g | g
    · exfalso
      have hq : q < ops.size := by omega
      exact inv.above q (Nat.le_refl _) hq (by have := inv.qW hq; omega) (by have := inv.qW hq; omega) (hmask j o hj hdep q (tr.ord2 q j (Nat.zero_le _) g hjs (inv.qW hq) hk hk3))
    · exact g
  have hnoW : ∀ m, j ≤ m → m < q → kd m ≠ 2 := by
    intro m hm1 hm2 hm3
    have hml := inv.below m hm2 hm3
    by_cases hmj : m = j
    · subst hmj; exact hun hml
    · have hms : m < ops.size := by have := inv.q_le; omega
      exact hun (hmask m ops[m] (Array.getElem?_eq_getElem hms) (fun e he hb => inv.cl m _ hml (Array.getElem?_eq_getElem hms) e he hb) j (tr.ord1 j m (Nat.zero_le _) (by omega) hms hk hk3 hm3))
  refine ⟨hle, hnoW, fun h2 => ?_, fun h1 => ?_⟩
  · rcases Nat.lt_or_ge j q with g | g
    · exact absurd h2 (hnoW j (Nat.le_refl _) g)
    · omega
  · rcases Nat.lt_or_ge j q with g | g
    · exact g
    · exfalso
      have : j = q := by omega
      subst this
      have := inv.qW hjs
      omega

/-- What is there when the operation comes up. -/
theorem rel_at (hc : CallSim P call) (tr : Trace P call n ops (masks ops.toList []) H tt kd lo 0) (wf0 : WF (H 0)) (hJ : (H ops.size).next ≤ J) (inv : Inv P n ops H tt kd J B0 w0 β0 wi listed a w β q) {j : Nat} (hjs : j < ops.size) (hun : ¬ lst listed j)
    (hle : j ≤ q) (hnoW : ∀ m, j ≤ m → m < q → kd m ≠ 2) : Rel (H (j + 1)).next B0 w0 β (H j) w := by
  have nx := fun {i k : Nat} (h1 : i ≤ k) (h2 : k ≤ ops.size) => tr_next hc tr wf0 h1 h2
  refine inv.rel.agree (tr_wf hc tr wf0 j (by omega)) (nx (by omega) (by omega)) (fun b bi hb => ?_) ?_
  have lowc : b < (H j).next → (b < (H j).next ∧ (∃ cb, (H j).heap.get b = some cb) ∧ ∀ k, k ≤ b → (H j).heap.get k = (H q).heap.get k ∧ (H j).fams.get k = (H q).fams.get k) := by
    intro hlt
    have hag := fun k (hk : k ≤ b) => tr_same' hc tr wf0 hle inv.q_le hnoW k (by omega)
    refine ⟨hlt, ?_, fun k hk => ⟨(hag k hk).1.symm, (hag k hk).2.symm⟩⟩
    rcases (inv.rel.dom b bi hb).2 with ⟨cb, h⟩ | h
    · exact ⟨cb, by rw [← (hag b (Nat.le_refl _)).1]; exact h⟩
    · have := nx hle inv.q_le; omega
  rcases inv.rng b bi hb with h | ⟨i, h1, h2, h3, h4, h5⟩ | h
  · exact .inl (lowc (Nat.lt_of_lt_of_le h (nx (Nat.zero_le _) (by omega))))
  · rcases Nat.lt_trichotomy i j with g | g | g
    · exact .inl (lowc (Nat.lt_of_lt_of_le h5 (nx (by omega) (by omega))))
    · subst g; exact absurd h2 hun
    · exact .inr (Nat.le_trans (nx (by omega) (by omega)) h4)
  · exact .inr (Nat.le_trans (nx (by omega) (Nat.le_refl _)) (Nat.le_trans hJ h))
  · intro b bi hb hlt
    exact (tr_tys hc tr wf0 hle inv.q_le hlt).symm

/-- An operation that touches memory has come up. -/
theorem inv_op (hc : CallSim P call) (tr : Trace P call n ops (masks ops.toList []) H tt kd lo 0) (wf0 : WF (H 0)) (hJ : (H ops.size).next ≤ J) (hAok : drawOk ops = true) (inv : Inv P n ops H tt kd J B0 w0 β0 wi listed a w β q) {j : Nat} {o : Oper}
    (hj : ops[j]? = some o) (hun : ¬ lst listed j) (hdep : ∀ e ∈ o.after, Region.binds .any e = true → lst listed e.on) (hk : 0 < kd j) (hk3 : kd j ≠ 3) {v v' : Value} {s1 : St} (hH : H (j + 1) = relow (H j) s1) (hpl : kd j = 1 → (H j).next ≤ s1.low)
    (hput : putT n (tt j) o.dst v = some (tt (j + 1))) {β' : B} {w' : World} (hst : Step (H (j + 1)).next B0 w0 β (reset (H j)) w β' s1 w') (hv : VR β' v v') :
    ∃ q', Inv P n ops H tt kd J B0 w0 β0 wi (listed.setIfInBounds j true) (a.put o.dst v') w' β' q' := by
  have hjs : j < ops.size := (Array.getElem?_eq_some_iff.1 hj).1
  have hjl : j < listed.size := by rw [inv.ls]; exact hjs
  obtain ⟨hle, hnoW, hW, hR1⟩ := place tr hAok inv hj hun hdep hk hk3
  have nx := fun {i k : Nat} (h1 : i ≤ k) (h2 : k ≤ ops.size) => tr_next hc tr wf0 h1 h2
  obtain ⟨t1, t2, t3⟩ := tmp_step tr hAok inv hj hun hdep hst.ext hput hv
  have hs1 : s1.next = (H (j + 1)).next := by rw [hH]; rfl
  have hh1 : ∀ b, s1.heap.get b = (H (j + 1)).heap.get b := fun b => by rw [hH]; rfl
  have hf1 : ∀ b, s1.fams.get b = (H (j + 1)).fams.get b := fun b => by rw [hH]; rfl
  have hty1 : ∀ b, s1.tys.get b = (H (j + 1)).tys.get b := fun b => by rw [hH]; rfl
  have hlowj : (H ops.size).low ≤ s1.low := by
    have h1 : (H (j + 1)).low ≤ s1.low := by rw [hH]; simp only [relow]; split <;> omega
    exact Nat.le_trans (tr_low hc tr wf0 (by omega) (Nat.le_refl _)) h1
  -- no place of this operation's was there
  have hnone : ∀ b bi, β b = some bi → b < (H (j + 1)).next → b < (H j).next := by
    intro b bi hb hlt
    rcases inv.rng b bi hb with h | ⟨i, h1, h2, h3, h4, h5⟩ | h
    · exact Nat.lt_of_lt_of_le h (nx (Nat.zero_le _) (by omega))
    · rcases Nat.lt_trichotomy i j with g | g | g
      · exact Nat.lt_of_lt_of_le h5 (nx (by omega) (by omega))
      · subst g; exact absurd h2 hun
      · have := nx (i := j + 1) (k := i) (by omega) (by omega); omega
    · have := nx (i := j + 1) (k := ops.size) (by omega) (Nat.le_refl _); omega
  have hnewr : ∀ b bi, β' b = some bi → β b = some bi ∨ (β b = none ∧ (H j).next ≤ b ∧ b < (H (j + 1)).next ∧ (w.heap.size ≤ bi.blk ∨ ∃ b0 bi0, β b0 = some bi0 ∧ b0 < (H (j + 1)).next ∧ bi0.blk = bi.blk ∧ s1.low ≤ b0)) := by
    intro b bi hb
    rcases hst.new b bi hb with h | ⟨h1, h2, h3⟩
    · exact .inl h
    · cases hbo : β b with
      | some x =>
        have := hst.ext b x hbo
        rw [hb] at this; injection this with this; subst this; exact .inl rfl
      | none => exact .inr ⟨rfl, h1, by omega, h3⟩
  have hrng : ∀ b bi, β' b = some bi → b < (H 0).next ∨ (∃ i, i < ops.size ∧ lst (listed.setIfInBounds j true) i ∧ 0 < kd i ∧ (H i).next ≤ b ∧ b < (H (i + 1)).next) ∨ J ≤ b := by
    intro b bi hb
    rcases hnewr b bi hb with h | ⟨_, h1, h2, _⟩
    · rcases inv.rng b bi h with g | ⟨i, g1, g2, g3⟩ | g
      · exact .inl g
      · exact .inr (.inl ⟨i, g1, (lst_set hjl).2 (.inl g2), g3⟩)
      · exact .inr (.inr g)
    · exact .inr (.inl ⟨j, hjs, (lst_set hjl).2 (.inr rfl), hk, h1, h2⟩)
  have hnew0 : ∀ b bi, β' b = some bi → β0 b = some bi ∨ ((H 0).next ≤ b ∧ b < (H ops.size).next ∧ (wi.heap.size ≤ bi.blk ∨ ∃ b0 bi0, β0 b0 = some bi0 ∧ b0 < J ∧ bi0.blk = bi.blk ∧ (H ops.size).low ≤ b0)) := by
    intro b bi hb
    rcases hnewr b bi hb with h | ⟨_, h1, h2, h3⟩
    · exact inv.new0 b bi h
    · refine .inr ⟨Nat.le_trans (nx (Nat.zero_le _) (by omega)) h1, Nat.lt_of_lt_of_le h2 (nx (by omega) (Nat.le_refl _)), ?_⟩
      rcases h3 with h3 | ⟨b0, bi0, g1, g2, g3, g4⟩
      · exact .inl (Nat.le_trans inv.sz h3)
      · rcases inv.new0 b0 bi0 g1 with k1 | ⟨_, _, k1⟩
        · exact .inr ⟨b0, bi0, k1, Nat.lt_of_lt_of_le g2 (Nat.le_trans (nx (by omega) (Nat.le_refl _)) hJ), g3, by omega⟩
        · rcases k1 with k1 | ⟨b1, bi1, i1, i2, i3, i4⟩
          · exact .inl (g3 ▸ k1)
          · exact .inr ⟨b1, bi1, i1, i2, i3.trans g3, i4⟩
  have hfr0 : ∀ i, i < wi.heap.size → (∀ b bi, β0 b = some bi → b < J → bi.blk ≠ i) → w'.heap[i]? = wi.heap[i]? := by
    intro i hi hn
    rw [hst.frame i (Nat.lt_of_lt_of_le hi inv.sz) ?_, inv.fr0 i hi hn]
    intro b bi hb hbJ
    rcases inv.new0 b bi hb with h | ⟨_, _, h⟩
    · exact hn b bi h (Nat.lt_of_lt_of_le hbJ (Nat.le_trans (nx (by omega) (Nat.le_refl _)) hJ))
    · rcases h with h | ⟨b0, bi0, g1, g2, g3, _⟩
      · omega
      · exact g3 ▸ hn b0 bi0 g1 g2
  have hold0 : ∀ b, β0 b = none → b < (H 0).next → ∀ i, i < ops.size → lst (listed.setIfInBounds j true) i → (H (i + 1)).heap.get b = (H i).heap.get b ∧ (H (i + 1)).fams.get b = (H i).fams.get b := by
    intro b hb hlt i his hl
    rcases (lst_set hjl).1 hl with h | h
    · exact inv.old0 b hb hlt i his h
    · subst h
      have hbn : β b = none := by
        cases hbo : β b with
        | none => rfl
        | some x =>
          rcases inv.new0 b x hbo with g | ⟨g, _⟩
          · rw [hb] at g; cases g
          · omega
      have := hst.old b hbn (Nat.lt_of_lt_of_le hlt (nx (Nat.zero_le _) (by omega)))
      rw [← hh1, ← hf1]
      exact this
  have hsz : wi.heap.size ≤ w'.heap.size := Nat.le_trans inv.sz hst.size
  have hearly : ∀ i, q ≤ i → i < ops.size → kd i = 3 → lst (listed.setIfInBounds j true) i → ∃ bi, β' (H i).next = some bi ∧ Fr B0 β' (H (i + 1)) w' (H i).next bi := by
    intro i hi his hki hl
    have hij : i ≠ j := by rintro rfl; exact hk3 hki
    have hli : lst listed i := by
      rcases (lst_set hjl).1 hl with h | h
      · exact h
      · exact absurd h hij
    obtain ⟨bi, g1, g2⟩ := inv.early i hi his hki hli
    obtain ⟨cs', esz', C', e', blk, f1, f2, f3, f4, f5, f6, f8, f7⟩ := g2.ex
    have hge : (H (j + 1)).next ≤ (H i).next := nx (by omega) (by omega)
    have hblk : blk < w.heap.size := (Array.getElem?_eq_some_iff.1 f5).1
    have hfar : ∀ b bi, β b = some bi → b < (H (j + 1)).next → bi.blk ≠ blk := fun b bi hb hlt heq => by
      have := f7 b bi hb heq; omega
    refine ⟨bi, hst.ext _ _ g1, cs', esz', C', e', blk, f1, f2, f3, f4, by rw [hst.frame blk hblk hfar]; exact f5, f6.mono hst.ext, f8, fun b1 bi1 hb1 hb => ?_⟩
    rcases hnewr b1 bi1 hb1 with h | ⟨_, _, _, h | ⟨b0, bi0, i1, i2, i3, _⟩⟩
    · exact f7 b1 bi1 h hb
    · omega
    · exact absurd (i3.trans hb) (hfar b0 bi0 i1 i2)
  have hold3 : ∀ i, i < ops.size → kd i = 3 → ¬ lst (listed.setIfInBounds j true) i → ∀ m, i < m → m < ops.size → lst (listed.setIfInBounds j true) m → (H (m + 1)).heap.get (H i).next = (H m).heap.get (H i).next ∧ (H (m + 1)).fams.get (H i).next = (H m).fams.get (H i).next := by
    intro i his hki hl m hm hms hml
    have hli : ¬ lst listed i := fun g => hl ((lst_set hjl).2 (.inl g))
    rcases (lst_set hjl).1 hml with h | h
    · exact inv.old3 i his hki hli m hm hms h
    · subst h
      obtain ⟨cs', esz', ty', hs'⟩ := tr_free tr his hki
      have h1 := (free_H (tr_wf hc tr wf0 i (by omega)) hs').1
      have h2 := nx (i := i + 1) (k := m) (by omega) (by omega)
      have := hst.old (H i).next (inv_none hc tr wf0 hJ inv his hki hli) (show (H i).next < (reset (H m)).next by show (H i).next < (H m).next; omega)
      rw [← hh1, ← hf1]
      exact this
  have hext0 : ∀ b bi, β0 b = some bi → β' b = some bi := fun b bi hb => hst.ext b bi (inv.ext0 b bi hb)
  rcases Nat.lt_or_ge (kd j) 2 with hk1 | hk2
  · -- it writes nothing that was there
    have hk1 : kd j = 1 := by omega
    have hjq := hR1 hk1
    have hplain := hpl hk1
    have hfresh : ∀ b bi, β' b = some bi → β b = none → w.heap.size ≤ bi.blk := by
      intro b bi hb hbn
      rcases hnewr b bi hb with h | ⟨_, h1, h2, h3⟩
      · rw [hbn] at h; cases h
      · rcases h3 with h3 | ⟨b0, bi0, g1, g2, g3, g4⟩
        · exact h3
        · have := hnone b0 bi0 g1 g2; omega
    have hagq : ∀ b, b < (H (j + 1)).next → (H q).heap.get b = (H (j + 1)).heap.get b ∧ (H q).fams.get b = (H (j + 1)).fams.get b :=
      fun b hb => tr_same' hc tr wf0 (by omega) inv.q_le (fun m h1 h2 => hnoW m (by omega) h2) b hb
    -- those behind it that have come up lie elsewhere
    have hjunk : ∀ b bi, β b = some bi → (H (j + 1)).next ≤ b → b < (H q).next → ∃ i, i < q ∧ j < i ∧ (kd i = 1 ∨ kd i = 3) ∧ (H i).next ≤ b ∧ lst listed i := by
      intro b bi hb h1 h2
      rcases inv.rng b bi hb with h | ⟨i, g1, g2, g3, g4, g5⟩ | h
      · have := nx (i := 0) (k := j + 1) (by omega) (by omega); omega
      · have hij : j < i := by
          rcases Nat.lt_or_ge j i with g | g
          · exact g
          · have := nx (i := i + 1) (k := j + 1) (by omega) (by omega); omega
        have hiq : i < q := by
          rcases Nat.lt_or_ge i q with g | g
          · exact g
          · have := nx (i := q) (k := i) g (by omega); omega
        have := hnoW i (by omega) hiq
        have := tr.kd i
        exact ⟨i, hiq, hij, by omega, g4, g2⟩
      · have := nx (i := q) (k := ops.size) inv.q_le (Nat.le_refl _); omega
    refine ⟨q, ⟨by simp [inv.ls], closed_step inv hj hdep, t1, t2, t3, inv.q_le, inv.qW, fun i hi hk2 => (lst_set hjl).2 (.inl (inv.below i hi hk2)), fun i hi his hk0 hki3 hl => ?_, ?_, hrng, ?_, hext0, hnew0, hfr0, hold0, hsz, hearly, hold3⟩⟩
    · rcases (lst_set hjl).1 hl with h | h
      · exact inv.above i hi his hk0 hki3 h
      · omega
    · refine hst.rel.merge inv.rel (tr_wf hc tr wf0 q inv.q_le) (Nat.le_refl _) hst.ext ?_ ?_
      · intro b bi hb
        rcases hnewr b bi hb with h | ⟨_, h1, h2, _⟩
        · exact (inv.rel.dom b bi h).2
        · left
          rcases (hst.rel.dom b bi hb).2 with ⟨cb, h⟩ | h
          · exact ⟨cb, by rw [(hagq b h2).1, ← hh1]; exact h⟩
          · omega
      · intro b bi cb hb hg
        rcases Nat.lt_or_ge b (H (j + 1)).next with hlt | hge
        · left
          exact ⟨by rw [hh1, ← (hagq b hlt).1]; exact hg, by rw [hty1]; exact tr_tys hc tr wf0 (by omega) inv.q_le hlt, fun k hk => by rw [hf1]; exact (hagq k (by omega)).2⟩
        · right
          have hbo : β b = some bi := by
            rcases hnewr b bi hb with h | ⟨_, _, h2, _⟩
            · exact h
            · omega
          have hbq : b < (H q).next := (tr_wf hc tr wf0 q inv.q_le).lt b cb hg
          obtain ⟨i, hiq, hji, hki, hib, _⟩ := hjunk b bi hbo hge hbq
          have hdisj : ∀ b3 bi3, β b3 = some bi3 → b3 < (H (j + 1)).next → bi3.blk ≠ bi.blk := by
            intro b3 bi3 hb3 h3
            have h4 := hnone b3 bi3 hb3 h3
            exact inv.dj i hiq hki (fun m h1 h2 => hnoW m (by omega) h2) b3 b bi3 bi hb3 hbo (Nat.lt_of_lt_of_le h4 (nx (by omega) (by have := inv.q_le; omega))) hib (Nat.lt_of_lt_of_le hbq (nx inv.q_le (Nat.le_refl _)))
          refine ⟨hbo, hg, ⟨rfl, fun _ _ => rfl⟩, hst.frame _ (inv.rel.dom b bi hbo).1 hdisj, fun b3 bi3 hb3 hor => ?_⟩
          rcases hnewr b3 bi3 hb3 with h | ⟨h, _⟩
          · rcases hor with h' | ⟨cb3, h'⟩
            · rw [h] at h'; cases h'
            · have hb3n : b3 < s1.next := by
                have hwf1 := tr_wf hc tr wf0 (j + 1) (by omega)
                have := hwf1.lt b3 cb3 (by rw [← hh1]; exact h')
                omega
              exact hdisj b3 bi3 h (by omega)
          · have := hfresh b3 bi3 hb3 h
            have := (inv.rel.dom b bi hbo).1
            omega
    · intro i hiq hki hno b1 b2 bi1 bi2 hb1 hb2 h1 h2 h3
      rcases hnewr b1 bi1 hb1 with g1 | ⟨g1, g2, g3, _⟩ <;> rcases hnewr b2 bi2 hb2 with f1 | ⟨f1, f2, f3, _⟩
      · exact inv.dj i hiq hki hno b1 b2 bi1 bi2 g1 f1 h1 h2 h3
      · have := hfresh b2 bi2 hb2 f1; have := (inv.rel.dom b1 bi1 g1).1; omega
      · have := hfresh b1 bi1 hb1 g1; have := (inv.rel.dom b2 bi2 f1).1; omega
      · exfalso
        rcases Nat.lt_or_ge j i with g | g
        · have := nx (i := j + 1) (k := i) (by omega) (by have := inv.q_le; omega); omega
        · have := nx (i := i) (k := j) g (by omega); omega
  · -- the writer
    have hk2 : kd j = 2 := by have := tr.kd j; omega
    have hjq := hW hk2
    subst hjq
    obtain ⟨q', p1, p2, p3, p4⟩ := next_writer tr (ops.size - (j + 1)) (j + 1) (by omega)
    have hagq : ∀ b, b < (H (j + 1)).next → (H q').heap.get b = (H (j + 1)).heap.get b ∧ (H q').fams.get b = (H (j + 1)).fams.get b :=
      fun b hb => tr_same' hc tr wf0 p1 p2 p4 b hb
    have hbig : ∀ b bi, β' b = some bi → (H (j + 1)).next ≤ b → J ≤ b ∨ ∃ i, j < i ∧ i < ops.size ∧ kd i = 3 ∧ lst listed i ∧ b = (H i).next := by
      intro b bi hb hge
      rcases hnewr b bi hb with h | ⟨_, _, h2, _⟩
      · rcases inv.rng b bi h with g | ⟨i, g1, g2, g3, g4, g5⟩ | g
        · have := nx (i := 0) (k := j + 1) (by omega) (by omega); omega
        · rcases Nat.lt_or_ge i j with g | g
          · have := nx (i := i + 1) (k := j + 1) (by omega) (by omega); omega
          · right
            have hki : kd i = 3 := by
              by_cases hk : kd i = 3
              · exact hk
              · exact absurd g2 (inv.above i g g1 g3 hk)
            obtain ⟨cs', esz', ty', hs'⟩ := tr_free tr g1 hki
            have h1 := (free_H (tr_wf hc tr wf0 i (by omega)) hs').1
            exact ⟨i, by rcases Nat.lt_or_ge j i with x | x; exact x; exfalso; have : i = j := by omega
                         subst this; omega, g1, hki, g2, by omega⟩
        · exact .inl g
      · omega
    refine ⟨q', ⟨by simp [inv.ls], closed_step inv hj hdep, t1, t2, t3, p2, p3, fun i hi hki => (lst_set hjl).2 ?_, fun i hi his hk0 hki3 hl => ?_, ?_, hrng, ?_, hext0, hnew0, hfr0, hold0, hsz, fun i hi => hearly i (by omega), hold3⟩⟩
    · rcases Nat.lt_trichotomy i j with g | g | g
      · exact .inl (inv.below i g hki)
      · exact .inr g
      · exact absurd hki (p4 i (by omega) hi)
    · rcases (lst_set hjl).1 hl with h | h
      · exact inv.above i (by omega) his hk0 hki3 h
      · omega
    · have wq := tr_wf hc tr wf0 q' p2
      refine hst.rel.agreeE (fun b cs k base esz hg => (wq.fam b cs k base esz hg).1) (Nat.le_refl _) fun b bi hb => ?_
      have far : (H q').next ≤ b → (H q').next ≤ b ∧ (H q').heap.get b = none := fun h => ⟨h, by
        cases hg : (H q').heap.get b with
        | none => rfl
        | some cb => have := wq.lt b cb hg; omega⟩
      rcases Nat.lt_or_ge b (H (j + 1)).next with hlt | hge
      · left
        refine ⟨?_, by rw [hty1]; exact tr_tys hc tr wf0 p1 p2 hlt, fun k hk => ⟨by rw [hh1]; exact (hagq k (by omega)).1, by rw [hf1]; exact (hagq k (by omega)).2⟩⟩
        rcases (hst.rel.dom b bi hb).2 with ⟨cb, h⟩ | h
        · exact ⟨cb, by rw [(hagq b hlt).1, ← hh1]; exact h⟩
        · omega
      · right
        rcases hbig b bi hb hge with g | ⟨i, g1, g2, g3, g4, rfl⟩
        · exact .inl (far (Nat.le_trans (Nat.le_trans (nx p2 (Nat.le_refl _)) hJ) g))
        · rcases Nat.lt_or_ge i q' with gi | gi
          · right
            obtain ⟨bi', e1, e2⟩ := hearly i (by omega) g2 g3 ((lst_set hjl).2 (.inl g4))
            rw [hb] at e1; injection e1 with e1; subst e1
            obtain ⟨cs', esz', ty', hs'⟩ := tr_free tr g2 g3
            have h1 := (free_H (tr_wf hc tr wf0 i (by omega)) hs').1
            obtain ⟨cs2, esz2, C2, en2, blk, f1, f2, f3, f4, f5, f6, f8, f7⟩ := e2.ex
            have htq := tr_tys hc tr wf0 (i := i + 1) (j := q') (by omega) p2 (b := (H i).next) (by omega)
            have hag := tr_same' hc tr wf0 (i := i + 1) (j := q') (by omega) p2 (fun m a b => p4 m (by omega) b) (H i).next (by omega)
            exact ⟨cs2, esz2, C2, en2, blk, f1, by rw [hag.1]; exact f2, by rw [hag.2]; exact f3, f4, f5, f6, by rw [htq]; exact f8, f7⟩
          · exact .inl (far (nx gi (by omega)))
    · intro i hiq hki hno b1 b2 bi1 bi2 hb1 hb2 h1 h2 h3
      have hij : j < i := by
        rcases Nat.lt_trichotomy i j with g | g | g
        · exact absurd hk2 (hno j g (by omega))
        · subst g; omega
        · exact g
      have h4 := nx (i := j + 1) (k := i) (by omega) (by omega)
      rcases hbig b2 bi2 hb2 (by omega) with g | ⟨k, g1, g2, g3, g4, rfl⟩
      · omega
      · obtain ⟨bi', e1, e2⟩ := hearly k (by omega) g2 g3 ((lst_set hjl).2 (.inl g4))
        rw [hb2] at e1; injection e1 with e1; subst e1
        obtain ⟨cs2, esz2, C2, en2, blk, rfl, f2, f3, f4, f5, f6, f8, f7⟩ := e2.ex
        intro heq
        have := f7 b1 bi1 hb1 heq
        omega

theorem Same.refl (l : Bool) (b : Option Nat) (s : St) : Same l b s s := by cases b <;> cases l <;> first | rfl | trivial
theorem Same.trans {l : Bool} {b : Option Nat} {s1 s2 s3 : St} (h : Same l b s1 s2) (k : Same l b s2 s3) : Same l b s1 s3 := by
  cases b with
  | none => trivial
  | some b =>
    cases l
    · exact Eq.trans k h
    · exact Eq.trans k h
theorem Same.symm {l : Bool} {b : Option Nat} {s1 s2 : St} (h : Same l b s1 s2) : Same l b s2 s1 := by
  cases b with
  | none => trivial
  | some b =>
    cases l
    · exact Eq.symm h
    · exact Eq.symm h
theorem Same.plain {l : Bool} {b : Nat} {s s' : St} (wf : WF s) (h : ∀ k, k ≤ b → s'.heap.get k = s.heap.get k ∧ s'.fams.get k = s.fams.get k) : Same l (some b) s s' := by
  cases l with
  | false => show blkEsz s' b = blkEsz s b; unfold blkEsz; rw [(h b (Nat.le_refl _)).1]
  | true =>
    show s'.rd b = s.rd b
    unfold St.rd
    rw [(h b (Nat.le_refl _)).1]
    cases hg : s.heap.get b with
    | none => rfl
    | some cb =>
      cases cb with
      | map es => rfl
      | iter t p => rfl
      | cells cs k base esz own =>
        cases own with
        | false => rfl
        | true =>
          have hkb := (wf.fam _ _ _ _ _ hg).1
          simp only [(h k hkb).2]

/-- What a look finds when it comes up. -/
theorem look_at (hc : CallSim P call) (tr : Trace P call n ops (masks ops.toList []) H tt kd lo 0) (wf0 : WF (H 0)) (hJ : (H ops.size).next ≤ J) (hAok : drawOk ops = true) (inv : Inv P n ops H tt kd J B0 w0 β0 wi listed a w β q) {j : Nat} {o : Oper} (hj : ops[j]? = some o) (hun : ¬ lst listed j)
    (hdep : ∀ e ∈ o.after, Region.binds .any e = true → lst listed e.on) (hk0 : kd j = 0) {l : Bool} {b : Nat} (hlo : lo j = some (l, some b)) {bi : BI} (hb : β b = some bi) (hlt : b < (H j).next) : ∃ S, Rel (H q).next B0 w0 β S w ∧ Same l (some b) (H j) S := by
  have hjs : j < ops.size := (Array.getElem?_eq_some_iff.1 hj).1
  have hmask := mask_lst hAok inv.cl
  have nx := fun {i k : Nat} (h1 : i ≤ k) (h2 : k ≤ ops.size) => tr_next hc tr wf0 h1 h2
  -- one place, where the block is there
  have stepP : ∀ m, m < ops.size → kd m ≠ 2 → b < (H m).next → Same l (some b) (H m) (H (m + 1)) := fun m hm hk hbm =>
    Same.plain (tr_wf hc tr wf0 m (by omega)) fun k hkb => tr_plain hc tr hm (tr_wf hc tr wf0 m (by omega)) hk (Nat.lt_of_le_of_lt hkb hbm)
  rcases Nat.lt_or_ge q j with g | g
  · -- the next writer stands ahead of it in the text
    have hq : q < ops.size := by omega
    have hq2 := inv.qW hq
    have hqn : ¬ lst listed q := inv.above q (Nat.le_refl _) hq (by omega) (by omega)
    -- is the block there at the writer already?
    have hbq : b < (H q).next ∨ ∃ i, q ≤ i ∧ i < j ∧ kd i = 3 ∧ lst listed i ∧ b = (H i).next := by
      rcases inv.rng b bi hb with h | ⟨i, h1, h2, h3, h4, h5⟩ | h
      · exact .inl (Nat.lt_of_lt_of_le h (nx (Nat.zero_le _) (by omega)))
      · rcases Nat.lt_or_ge i q with gi | gi
        · exact .inl (Nat.lt_of_lt_of_le h5 (nx (by omega) (by omega)))
        · right
          have hki : kd i = 3 := by
            by_cases hk : kd i = 3
            · exact hk
            · exact absurd h2 (inv.above i gi h1 h3 hk)
          obtain ⟨cs', esz', ty', hs'⟩ := tr_free tr h1 hki
          have h6 := (free_H (tr_wf hc tr wf0 i (by omega)) hs').1
          have hij : i < j := by
            rcases Nat.lt_or_ge i j with x | x
            · exact x
            · have := nx (i := j) (k := i) x (by omega); omega
          exact ⟨i, gi, hij, hki, h2, by omega⟩
      · have := nx (i := j) (k := ops.size) (by omega) (Nat.le_refl _); omega
    rcases hbq with hbq | ⟨i, gi, hij, hki, hli, rfl⟩
    rotate_left
    · obtain ⟨cs', esz', ty', hs'⟩ := tr_free tr (by omega) hki
      obtain ⟨e1, e2, e3, e4⟩ := free_H (tr_wf hc tr wf0 i (by omega)) hs'
      obtain ⟨bi', f1, f2⟩ := inv.early i gi (by omega) hki hli
      rw [hb] at f1; injection f1 with f1; subst f1
      obtain ⟨cs2, esz2, C2, en2, blk, g1, g2, g3, g4, g5, g6, _, g7⟩ := f2.ex
      have key : ∀ d, i + 1 + d ≤ j → Same l (some (H i).next) (H (i + 1)) (H (i + 1 + d)) := by
        intro d
        induction d with
        | zero => intro _; exact Same.refl _ _ _
        | succ d ih =>
          intro hd
          have h1 := ih (by omega)
          have hms : i + 1 + d < ops.size := by omega
          refine h1.trans ?_
          by_cases hk : kd (i + 1 + d) = 2
          · rcases tr.early (i + 1 + d) j l (some (H i).next) (Nat.zero_le _) (by omega) hjs hk hlo with g1 | g1
            · exfalso
              have hml := hmask j o hj hdep (i + 1 + d) g1
              exact inv.above (i + 1 + d) (by omega) hms (by omega) (by omega) hml
            · exact g1
          · exact stepP _ hms hk (by have := nx (i := i + 1) (k := i + 1 + d) (by omega) (by omega); omega)
      have hsame := key (j - (i + 1)) (by omega)
      rw [show i + 1 + (j - (i + 1)) = j by omega] at hsame
      have hqn2 : (H q).next ≤ (H i).next := nx gi (by omega)
      have wq := tr_wf hc tr wf0 q inv.q_le
      refine ⟨{ heap := (H q).heap.set (H i).next (.cells cs2 (H i).next 0 esz2 true), fams := (H q).fams.set (H i).next ((H i).next, 0), tys := (H q).tys.set (H i).next 0, next := (H q).next, low := (H q).low }, ?_, ?_⟩
      · refine inv.rel.agreeE (fun b cs k base esz hg => ?_) (Nat.le_refl _) fun b bi2 hb2 => ?_
        · simp only [T.get_set] at hg
          split at hg
          · injection hg with hg; injection hg with _ hg; omega
          · exact (wq.fam b cs k base esz hg).1
        · by_cases hbb : b = (H i).next
          · subst hbb
            right; right
            rw [hb] at hb2; injection hb2 with hb2; subst hb2
            exact ⟨cs2, esz2, C2, en2, blk, g1, T.get_set_same _ _ _, T.get_set_same _ _ _, g4, g5, g6, fun t ht => by simp only [T.get_set_same] at ht; injection ht with ht; omega, g7⟩
          · rcases (inv.rel.dom b bi2 hb2).2 with ⟨cb, hcb⟩ | hge
            · left
              have := wq.lt b cb hcb
              exact ⟨⟨cb, by simp only; rw [T.get_set_ne _ hbb]; exact hcb⟩, T.get_set_ne _ hbb _, fun k hk => ⟨T.get_set_ne _ (by omega) _, T.get_set_ne _ (by omega) _⟩⟩
            · right; left
              refine ⟨hge, ?_⟩
              simp only; rw [T.get_set_ne _ hbb]
              cases hg : (H q).heap.get b with
              | none => rfl
              | some cb => have := wq.lt b cb hg; omega
      · refine hsame.symm.trans ?_
        cases l with
        | false =>
          show blkEsz _ _ = blkEsz _ _
          unfold blkEsz
          simp only [T.get_set_same, g2]
        | true =>
          show St.rd _ _ = St.rd _ _
          unfold St.rd
          simp only [T.get_set_same, g2, g3]
    refine ⟨H q, inv.rel, ?_⟩
    have key : ∀ d, q + d ≤ j → Same l (some b) (H q) (H (q + d)) := by
      intro d
      induction d with
      | zero => intro _; exact Same.refl _ _ _
      | succ d ih =>
        intro hd
        have h1 := ih (by omega)
        have hms : q + d < ops.size := by omega
        refine h1.trans ?_
        by_cases hk : kd (q + d) = 2
        · rcases tr.early (q + d) j l (some b) (Nat.zero_le _) (by omega) hjs hk hlo with g1 | g1
          · exfalso
            have hml := hmask j o hj hdep (q + d) g1
            exact inv.above (q + d) (by omega) hms (by omega) (by omega) hml
          · exact g1
        · exact stepP _ hms hk (Nat.lt_of_lt_of_le hbq (nx (by omega) (by omega)))
    have := key (j - q) (by omega)
    rw [show q + (j - q) = j by omega] at this
    exact this.symm
  · refine ⟨H q, inv.rel, ?_⟩
    have hq := inv.q_le
    have key : ∀ d, j + d ≤ q → Same l (some b) (H j) (H (j + d)) := by
      intro d
      induction d with
      | zero => intro _; exact Same.refl _ _ _
      | succ d ih =>
        intro hd
        have h1 := ih (by omega)
        have hms : j + d < ops.size := by omega
        refine h1.trans ?_
        by_cases hk : kd (j + d) = 2
        · have hd0 : d ≠ 0 := fun e => by subst e; rw [Nat.add_zero] at hk; omega
          rcases tr.late j (j + d) l (some b) (Nat.zero_le _) (by omega) hms hk hlo with g1 | g1
          · have hml := inv.below (j + d) (by omega) hk
            exact absurd (hmask (j + d) ops[j + d] (Array.getElem?_eq_getElem hms) (fun e he hb => inv.cl (j + d) _ hml (Array.getElem?_eq_getElem hms) e he hb) j g1) hun
          · exact g1
        · exact stepP _ hms hk (Nat.lt_of_lt_of_le hlt (nx (by omega) (by omega)))
    have := key (q - j) (by omega)
    rw [show j + (q - j) = q by omega] at this
    exact this

theorem inv_any (hP : Good P) (hc : CallSim P call) (tr : Trace P call n ops (masks ops.toList []) H tt kd lo 0) (wf0 : WF (H 0)) (hJ : (H ops.size).next ≤ J) (hAok : drawOk ops = true) {Q : Exit → Act → World → Prop}
    (hQ : ∀ β' a' w', Step J B0 w0 β0 (H 0) wi β' (H ops.size) w' → FR β' n (tt ops.size) a' → Q .normal a' w') : ∀ (fuel : Nat) (S : List Nat) (listed : Array Bool) (a : Act) (w : World) (β : B) (q : Nat),
    S.Nodup → (∀ i, i ∈ S ↔ i < ops.size ∧ ¬ lst listed i) → S.length = fuel → Inv P n ops H tt kd J B0 w0 β0 wi listed a w β q → wpAny P .any ops Q fuel listed a w := by
  -- when all have come up
  have fin : ∀ (listed : Array Bool) (a : Act) (w : World) (β : B) (q : Nat), (∀ i, i < ops.size → lst listed i) → Inv P n ops H tt kd J B0 w0 β0 wi listed a w β q → Q .normal a w := by
    intro listed a w β q hall inv
    have hq : q = ops.size := by
      rcases Nat.lt_or_ge q ops.size with g | g
      · have := inv.qW g
        exact absurd (hall q g) (inv.above q (Nat.le_refl _) g (by omega) (by omega))
      · have := inv.q_le; omega
    subst hq
    have hf : FR β n (tt ops.size) a := by
      have ht := fun x => inv.tmp ops.size (Nat.le_refl _) (fun h => absurd h (Nat.lt_irrefl _)) x (fun o ho => by simp at ho) (fun i o hi _ _ => hall i hi)
      refine ⟨inv.as, fun i v hv => ?_, fun i hi => ?_, inv.df, inv.rel.gl⟩
      · have := ht i; rw [hv] at this; exact this
      · have := ht i; rw [hi] at this; exact this
    refine hQ β a w ⟨?_, inv.ext0, fun b bi hb => ?_, inv.fr0, fun b hb hlt => ?_, inv.sz, tr_next hc tr wf0 (Nat.zero_le _) (Nat.le_refl _), tr_low hc tr wf0 (Nat.zero_le _) (Nat.le_refl _)⟩ hf
    · refine inv.rel.agree (tr_wf hc tr wf0 _ (Nat.le_refl _)) hJ (fun b bi hb => ?_) (fun _ _ _ _ => rfl)
      rcases (inv.rel.dom b bi hb).2 with ⟨cb, h⟩ | h
      · exact .inl ⟨(tr_wf hc tr wf0 _ (Nat.le_refl _)).lt b cb h, ⟨cb, h⟩, fun _ _ => ⟨rfl, rfl⟩⟩
      · right
        rcases inv.rng b bi hb with g | ⟨i, g1, g2, g3, g4, g5⟩ | g
        · have := tr_next hc tr wf0 (Nat.zero_le ops.size) (Nat.le_refl _); omega
        · have := tr_next hc tr wf0 (i := i + 1) (j := ops.size) (by omega) (Nat.le_refl _); omega
        · exact g
    · rcases inv.new0 b bi hb with h | ⟨h1, h2, h3⟩
      · exact .inl h
      · exact .inr ⟨h1, h2, h3⟩
    · have key : ∀ i, i ≤ ops.size → (H i).heap.get b = (H 0).heap.get b ∧ (H i).fams.get b = (H 0).fams.get b := by
        intro i
        induction i with
        | zero => intro _; exact ⟨rfl, rfl⟩
        | succ i ih =>
          intro hi
          have h1 := ih (by omega)
          have h2 := inv.old0 b hb hlt i (by omega) (hall i (by omega))
          exact ⟨h2.1.trans h1.1, h2.2.trans h1.2⟩
      exact key ops.size (Nat.le_refl _)
  have rdy : ∀ {listed : Array Bool} {j : Nat}, listed.size = ops.size → (j ∈ Region.ready .any ops listed ↔ ¬ lst listed j ∧ ∃ o, ops[j]? = some o ∧ ∀ e ∈ o.after, Region.binds .any e = true → lst listed e.on) := by
    intro listed j hls
    rw [mem_ready]
    constructor
    · rintro ⟨h1, o, h2, h3⟩
      refine ⟨fun h => ?_, o, h2, h3⟩
      have hjs : j < listed.size := by rw [hls]; exact (Array.getElem?_eq_some_iff.1 h2).1
      unfold lst at h
      simp [Array.getD_eq_getD_getElem?, hjs] at h h1
      rw [h] at h1; cases h1
    · rintro ⟨h1, o, h2, h3⟩
      refine ⟨?_, o, h2, h3⟩
      have hjs : j < listed.size := by rw [hls]; exact (Array.getElem?_eq_some_iff.1 h2).1
      unfold lst at h1
      simp [Array.getD_eq_getD_getElem?, hjs] at h1 ⊢
      exact h1
  have hempty : ∀ (listed : Array Bool) (a : Act) (w : World) (β : B) (q : Nat), Inv P n ops H tt kd J B0 w0 β0 wi listed a w β q → Region.ready .any ops listed = [] → ∀ i, i < ops.size → lst listed i := by
    intro listed a w β q inv hr i
    induction i using Nat.strongRecOn with
    | _ i ih =>
      intro hi
      by_cases hl : lst listed i
      · exact hl
      · exfalso
        have ho := Array.getElem?_eq_getElem hi
        have hedge := (drawOkL_spec (A := masks ops.toList []) (j := 0) (prev := []) hAok rfl (by simp) (by omega) i ops[i] (Nat.zero_le _) ho).1
        have : i ∈ Region.ready .any ops listed := (rdy inv.ls).2 ⟨hl, _, ho, fun e he hb => ih e.on (hedge e he hb) (by have := hedge e he hb; omega)⟩
        rw [hr] at this; cases this
  intro fuel
  induction fuel with
  | zero =>
    intro S listed a w β q hnd hS hlen inv
    have hall : ∀ i, i < ops.size → lst listed i := by
      intro i hi
      by_cases hl : lst listed i
      · exact hl
      · have := (hS i).2 ⟨hi, hl⟩
        obtain rfl := List.length_eq_zero_iff.1 hlen
        cases this
    refine ⟨?_, fin listed a w β q hall inv⟩
    cases hr : Region.ready .any ops listed with
    | nil => rfl
    | cons x xs =>
      have hx : x ∈ Region.ready .any ops listed := by rw [hr]; exact List.mem_cons_self ..
      obtain ⟨h1, o, h2, _⟩ := (rdy inv.ls).1 hx
      exact absurd (hall x (Array.getElem?_eq_some_iff.1 h2).1) h1
  | succ fuel ih =>
    intro S listed a w β q hnd hS hlen inv
    refine ⟨fun hr => fin listed a w β q (hempty listed a w β q inv hr) inv, fun j hj => ?_⟩
    obtain ⟨hun, o, ho, hdep⟩ := (rdy inv.ls).1 hj
    have hjs : j < ops.size := (Array.getElem?_eq_some_iff.1 ho).1
    have hjl : j < listed.size := by rw [inv.ls]; exact hjs
    have hmem : j ∈ S := (hS j).2 ⟨hjs, hun⟩
    have next : ∀ {a' : Act} {w' : World} {β' : B} {q' : Nat}, Inv P n ops H tt kd J B0 w0 β0 wi (listed.setIfInBounds j true) a' w' β' q' → wpAny P .any ops Q fuel (listed.setIfInBounds j true) a' w' := by
      intro a' w' β' q' inv'
      refine ih (S.erase j) _ a' w' β' q' (hnd.erase j) (fun i => ?_) (by rw [List.length_erase_of_mem hmem]; omega) inv'
      rw [hnd.mem_erase_iff, hS, lst_set hjl]
      constructor
      · rintro ⟨h1, h2, h3⟩; exact ⟨h2, fun h => by rcases h with h | h; exact h3 h; exact h1 h⟩
      · rintro ⟨h1, h2⟩; exact ⟨fun h => h2 (.inr h), h1, fun h => h2 (.inl h)⟩
    have hlook : ∀ x, x ∈ o.looksAt ops → TR β ((tt j).get x) (a.tmps.getD x undef) := by
      intro x hx
      refine inv.tmp j (by omega) (fun _ => hun) x (fun o' ho' => by rw [ho] at ho'; injection ho' with ho'; subst ho'; exact hx) fun i oi hi hoi hdi => ?_
      rcases (drawOkL_spec (A := masks ops.toList []) (j := 0) (prev := []) hAok rfl (by simp) (by omega) j o (Nat.zero_le _) ho).2 i oi hi hoi with g | g
      · exact absurd hx ((Oper.apart_spec g).1 x hdi)
      · exact mask_lst hAok inv.cl j o ho hdep i g
    have hwant := want_of (ops := ops) hlook
    have hρ := opvR_OR (ops := ops) inv.rel.gl hlook
    obtain ⟨v, s1, hput, hcase⟩ := (tr.step j o (Nat.zero_le _) ho).put
    unfold wpOp
    simp only [ho, hwant]
    rcases hcase with ⟨hk, hH, hw, rfl⟩ | ⟨hk, hH, hw, hp⟩ | ⟨hk, hH, hw, hop, hpl⟩ | ⟨hk, hH, hw, l, b, f, hlo, hlk, hv⟩
    · rw [if_neg (by rw [hw]; simp)]
      exact next (inv_pure tr hAok inv ho hun hdep hk hH hput (undef_VR β))
    · rw [if_pos hw]
      obtain ⟨v', hr, hy⟩ := pure_sim (P := P) hρ hp
      refine .inl ?_
      unfold Oper.wp
      rw [hy w]
      exact next (inv_pure tr hAok inv ho hun hdep hk hH hput hr)
    · rw [if_pos hw]
      by_cases hk3 : kd j = 3
      · obtain ⟨cs, esz, ty, g1, g2⟩ := free_op (hpl.2 hk3) hop
        obtain ⟨C, e, v', h1, h2, h4, h3⟩ := g2 β a.eval w hρ
        refine .inl ?_
        unfold Oper.wp
        rw [h2]
        exact next (inv_free hc tr wf0 hJ hAok inv ho hun hdep hk3 (by rw [hH, g1]) h4 hput h1 (fun β' x y => h3 β' x y))
      obtain ⟨hle, hnoW, _, _⟩ := place tr hAok inv ho hun hdep hk hk3
      have hrel := rel_at hc tr wf0 hJ inv hjs hun hle hnoW
      have hrel' : Rel (H (j + 1)).next B0 w0 β (reset (H j)) w := ⟨hrel.nx, hrel.dom, hrel.rd, hrel.own, hrel.ro, hrel.map, hrel.fam, hrel.inj, hrel.iter, hrel.gl, hrel.below, hrel.base⟩
      refine .inl (op_sim hP hc hρ hrel' (reset_wf (tr_wf hc tr wf0 j (by omega))) hop (by rw [hH]; exact Nat.le_refl _) fun β' v' w' hst hv => ?_)
      obtain ⟨q', inv'⟩ := inv_op hc tr wf0 hJ hAok inv ho hun hdep hk hk3 hH (fun h => hpl.1 (by omega)) hput hst hv
      exact next inv'
    · rw [if_pos hw]
      rcases hlk with ⟨ty, x, ad, hop, hxa, rfl, rfl, rfl⟩ | ⟨ty, x, vlo, vhi, vmx, xv0, e0, vl, vh, vm, hop, hu, hxa, hl1, hl2, hl3, rfl, rfl, rfl⟩
      · have hbi : ∃ bi, β ad.block = some bi := by
          have hx := hρ _ _ hxa
          generalize a.eval x = xv at hx
          cases hx with | ptr ha =>
          obtain ⟨bi, h, _⟩ := ha
          exact ⟨bi, h⟩
        obtain ⟨bi, hbi⟩ := hbi
        obtain ⟨cb, hcb⟩ := Look.blk (P := P) (ρ := opvR (o.looksAt ops) (tt j)) (o := o.op) (l := true) (b := ad.block) (.inl ⟨ty, x, ad, hop, hxa, rfl, rfl, rfl⟩) hv
        obtain ⟨S, hS, hsame⟩ := look_at hc tr wf0 hJ hAok inv ho hun hdep hk hlo hbi ((tr_wf hc tr wf0 j (by omega)).lt _ _ hcb)
        have hvq : evLoad P ty (.pointer (some ad)) S = some v := (load_same hsame).trans hv
        obtain ⟨v', hr, hy⟩ := load_sim hS hvq (hρ _ _ hxa)
        refine .inl ?_
        unfold Oper.wp
        have hrun : (execOp a.eval o).run P w = .ok (.value v') w := by
          obtain ⟨dst, op, type, pos, after, guard⟩ := o
          simp only at hop
          subst hop
          rw [(execOp_v a.eval dst type pos after guard).2.2.2.1 ty x]
          simp only [Sem.run_bind, hy, Result.andThen_ok, Sem.run_pure]
        rw [hrun]
        exact next (inv_pure tr hAok inv ho hun hdep hk hH hput hr)
      · obtain ⟨S, hS, hsame⟩ : ∃ S, Rel (H q).next B0 w0 β S w ∧ Same false (blkOf xv0) (H j) S := by
          cases hbk : blkOf xv0 with
          | none => exact ⟨H q, inv.rel, trivial⟩
          | some b0 =>
            rw [hbk] at hlo
            have hbi : ∃ bi, β b0 = some bi := by
              have hx := hρ _ _ hxa
              generalize a.eval x = xv at hx
              unfold blkOf at hbk
              split at hbk <;> first | contradiction | skip
              injection hbk with hbk; subst hbk
              cases hx with | slice hn hs =>
              obtain ⟨bi, h, _⟩ := hs
              exact ⟨bi, h⟩
            obtain ⟨bi, hbi⟩ := hbi
            obtain ⟨cb, hcb⟩ := Look.blk (P := P) (ρ := opvR (o.looksAt ops) (tt j)) (o := o.op) (l := false) (b := b0) (.inr ⟨ty, x, vlo, vhi, vmx, xv0, e0, vl, vh, vm, hop, hu, hxa, hl1, hl2, hl3, rfl, hbk.symm, rfl⟩) hv
            exact look_at hc tr wf0 hJ hAok inv ho hun hdep hk hlo hbi ((tr_wf hc tr wf0 j (by omega)).lt _ _ hcb)
        have hvq : evSliceMem P ty xv0 vl vh vm S = some v := (slice_same hu hsame).trans hv
        obtain ⟨v', hr, hy⟩ := sliceMem_sim (P := P) hS hvq (hρ _ _ hxa) (opo_sim hρ hl1) (opo_sim hρ hl2) (opo_sim hρ hl3)
        refine .inl ?_
        unfold Oper.wp
        have hrun : (execOp a.eval o).run P w = .ok (.value v') w := by
          obtain ⟨dst, op, type, pos, after, guard⟩ := o
          simp only at hop
          subst hop
          rw [(execOp_v a.eval dst type pos after guard).2.2.2.2.2.2.1 ty x vlo vhi vmx]
          simp only [Sem.run_bind, hy, Result.andThen_ok, Sem.run_pure]
        rw [hrun]
        exact next (inv_pure tr hAok inv ho hun hdep hk hH hput hr)

theorem draw_sim (hP : Good P) (hc : CallSim P call) {id : Nat} {Q : Exit → Act → World → Prop} {t t' : T Value} {s s' : St}
    (wf : WF s) (hR : Rel J B0 w0 β s w) (hf : FR β n t a) (h : evDraw P call n ops t s = some (t', s')) (hJ : s'.next ≤ J) (hQ : ∀ β' a' w', Step J B0 w0 β s w β' s' w' → FR β' n t' a' → Q .normal a' w') : (Code.region id ops true).wp P Q a w := by
  unfold evDraw at h
  split at h <;> first | contradiction | skip
  rename_i hAok
  obtain ⟨H, tt, kd, lo, tr, e1, e2, e3, e4, _⟩ := trace_of (fun j => by simp) (Nat.zero_le _) h
  subst e1 e2 e3 e4
  obtain ⟨q, _, p2, p3, p4⟩ := next_writer tr ops.size 0 (by omega)
  have hnl : ∀ i, ¬ lst (Array.replicate ops.size false) i := by
    intro i hl
    unfold lst at hl
    rw [Array.getD_eq_getD_getElem?, Array.getElem?_replicate] at hl
    split at hl <;> simp at hl
  have hRd : Rel J B0 w0 β (H 0) w.drew := hR.drew
  refine wp_region_any hP.follows (inv_any hP hc tr wf hJ hAok (B0 := B0) (w0 := w0) (β0 := β) (wi := w.drew) (fun β' a' w' hst hfr => hQ β' a' w' hst.of_drew hfr) ops.size (List.range ops.size) _ a _ β q List.nodup_range (fun i => ?_) (by simp) ?_)
  · simp [hnl i]
  · refine ⟨by simp, fun j o hl => absurd hl (hnl j), hf.size, hf.defers, fun j hj _ x hx hw => ?_, p2, p3, fun i hi hk => absurd hk (p4 i (Nat.zero_le _) hi), fun i _ _ _ _ => hnl i, ?_, fun b bi hb => ?_, fun i hi hk hno b1 b2 bi1 bi2 hb1 hb2 h1 h2 h3 => ?_, fun _ _ h => h, fun _ _ h => .inl h, fun _ _ _ => rfl, fun b hb hlt i his hl => absurd hl (hnl i), Nat.le_refl _, fun i _ _ _ hl => absurd hl (hnl i), fun i _ _ _ m _ _ hl => absurd hl (hnl m)⟩
    · -- nothing has come up: nobody ahead writes x
      have key : ∀ i, i ≤ j → (tt i).get x = (tt 0).get x := by
        intro i
        induction i with
        | zero => intro _; rfl
        | succ i ih =>
          intro hi
          have his : i < ops.size := by omega
          obtain ⟨v2, s2, hp2, _⟩ := (tr.step i ops[i] (Nat.zero_le _) (Array.getElem?_eq_getElem his)).put
          have hne : (ops[i]).dst ≠ some x := fun hd => hnl i (hw i _ (by omega) (Array.getElem?_eq_getElem his) hd)
          rw [← ih (by omega)]
          cases hdd : (ops[i]).dst with
          | none => rw [hdd] at hp2; simp only [putT] at hp2; injection hp2 with hp2; rw [← hp2]
          | some y =>
            rw [hdd] at hp2 hne
            simp only [putT] at hp2
            split at hp2 <;> first | contradiction | skip
            injection hp2 with hp2
            rw [← hp2, T.get_set_ne _ (fun e => hne (by rw [e]))]
      rw [key j (Nat.le_refl _)]
      unfold TR
      split
      · rename_i u hu; exact hf.val x u hu
      · rename_i hu; exact hf.un x hu
    · refine hRd.agree (tr_wf hc tr wf q p2) (Nat.le_refl _) (fun b bi hb => ?_) fun b bi hb hlt => ?_
      rcases (hRd.dom b bi hb).2 with ⟨cb, hg⟩ | hg
      · have hlt := wf.lt b cb hg
        have hag := fun k (hk : k ≤ b) => tr_same' hc tr wf (Nat.zero_le q) p2 p4 k (by omega)
        exact .inl ⟨Nat.lt_of_lt_of_le hlt (tr_next hc tr wf (Nat.zero_le _) p2), ⟨cb, by rw [(hag b (Nat.le_refl _)).1]; exact hg⟩, fun k hk => hag k hk⟩
      · exact .inr (Nat.le_trans (Nat.le_trans (tr_next hc tr wf p2 (Nat.le_refl _)) hJ) hg)
      rcases (hRd.dom b bi hb).2 with ⟨cb, hg⟩ | hg
      · exact tr_tys hc tr wf (Nat.zero_le q) p2 (wf.lt b cb hg)
      · have := tr_next hc tr wf p2 (Nat.le_refl _); omega
    · rcases (hRd.dom b bi hb).2 with ⟨cb, hg⟩ | hg
      · exact .inl (wf.lt b cb hg)
      · exact .inr (.inr hg)
    · exfalso
      rcases (hRd.dom b2 bi2 hb2).2 with ⟨cb, hg⟩ | hg
      · have := wf.lt b2 cb hg
        have := tr_next hc tr wf (Nat.zero_le i) (by omega)
        omega
      · omega
end
end Go.Ev
