/- A proved evaluator, part 15c: a region in any order, the proof. No condition. -/
import Derived.Test.YtmhfkejbahacoaaGreatDoorKViewHoldsE15b
noncomputable section
namespace Go.Ev
open Go.RowKit
set_option linter.unusedVariables false
variable [Lk]
set_option linter.unusedSectionVars false

section
variable {P : Program} {call : Call} {n : Nat} {ops : Array Oper} {A : List Nat} {H : Nat → St} {tt : Nat → T Value} {kd : Nat → Nat} {lo : Nat → Option (Bool × Option Nat)}

theorem tr_U (hc : CallSim P call) (tr : Trace P call n ops A H tt kd lo 0) (i : Nat) (hi : i < ops.size) (wf : WF (H i)) : U (H i) (H (i + 1)) := by
  obtain ⟨v, s1, _, h⟩ := (tr.step i ops[i] (Nat.zero_le _) (Array.getElem?_eq_getElem hi)).put
  rcases h with ⟨_, h, _⟩ | ⟨_, h, _⟩ | ⟨_, h, _, ho, _⟩ | ⟨_, h, _⟩
  · rw [h]; exact U.refl wf
  · rw [h]; exact U.refl wf
  · rw [h]; exact relow_U wf (op_U hc (reset_wf wf) ho)
  · rw [h]; exact U.refl wf
theorem tr_wf (hc : CallSim P call) (tr : Trace P call n ops A H tt kd lo 0) (wf0 : WF (H 0)) : ∀ i, i ≤ ops.size → WF (H i)
  | 0, _ => wf0
  | i + 1, h => (tr_U hc tr i (by omega) (tr_wf hc tr wf0 i (by omega))).wf
theorem tr_UU (hc : CallSim P call) (tr : Trace P call n ops A H tt kd lo 0) (wf0 : WF (H 0)) (i : Nat) : ∀ d, i + d ≤ ops.size → U (H i) (H (i + d))
  | 0, h => U.refl (tr_wf hc tr wf0 i h)
  | d + 1, h => (tr_UU hc tr wf0 i d (by omega)).trans (tr_U hc tr (i + d) (by omega) (tr_wf hc tr wf0 (i + d) (by omega)))
theorem tr_next (hc : CallSim P call) (tr : Trace P call n ops A H tt kd lo 0) (wf0 : WF (H 0)) {i j : Nat} (hij : i ≤ j) (hj : j ≤ ops.size) : (H i).next ≤ (H j).next := by
  have := (tr_UU hc tr wf0 i (j - i) (by omega)).next
  rwa [show i + (j - i) = j by omega] at this
theorem tr_low (hc : CallSim P call) (tr : Trace P call n ops A H tt kd lo 0) (wf0 : WF (H 0)) {i j : Nat} (hij : i ≤ j) (hj : j ≤ ops.size) : (H j).low ≤ (H i).low := by
  have := (tr_UU hc tr wf0 i (j - i) (by omega)).low
  rwa [show i + (j - i) = j by omega] at this
/-- An operation that is no writer leaves what is there. -/
theorem tr_plain (hc : CallSim P call) (tr : Trace P call n ops A H tt kd lo 0) {i : Nat} (hi : i < ops.size) (wf : WF (H i)) (hk : kd i ≠ 2) {b : Nat} (hb : b < (H i).next) :
    (H (i + 1)).heap.get b = (H i).heap.get b ∧ (H (i + 1)).fams.get b = (H i).fams.get b := by
  obtain ⟨v, s1, _, h⟩ := (tr.step i ops[i] (Nat.zero_le _) (Array.getElem?_eq_getElem hi)).put
  rcases h with ⟨_, h, _⟩ | ⟨_, h, _⟩ | ⟨hk0, h, _, ho, hpl⟩ | ⟨_, h, _⟩
  · rw [h]; exact ⟨rfl, rfl⟩
  · rw [h]; exact ⟨rfl, rfl⟩
  · rw [h]
    have hlow := hpl.1 hk
    have u := op_U hc (reset_wf wf) ho
    exact ⟨u.heap b (by omega), u.fams b (by omega)⟩
  · rw [h]; exact ⟨rfl, rfl⟩
theorem tr_same (hc : CallSim P call) (tr : Trace P call n ops A H tt kd lo 0) (wf0 : WF (H 0)) {i : Nat} : ∀ d, i + d ≤ ops.size → (∀ m, i ≤ m → m < i + d → kd m ≠ 2) → ∀ b, b < (H i).next →
    (H (i + d)).heap.get b = (H i).heap.get b ∧ (H (i + d)).fams.get b = (H i).fams.get b
  | 0, _, _, b, hb => ⟨rfl, rfl⟩
  | d + 1, h, hm, b, hb => by
    have h1 := tr_same hc tr wf0 d (by omega) (fun m a b => hm m a (by omega)) b hb
    have h2 := tr_plain hc tr (i := i + d) (by omega) (tr_wf hc tr wf0 _ (by omega)) (hm _ (by omega) (by omega)) (b := b) (Nat.lt_of_lt_of_le hb (tr_next hc tr wf0 (by omega) (by omega)))
    exact ⟨h2.1.trans h1.1, h2.2.trans h1.2⟩
theorem tr_same' (hc : CallSim P call) (tr : Trace P call n ops A H tt kd lo 0) (wf0 : WF (H 0)) {i j : Nat} (hij : i ≤ j) (hj : j ≤ ops.size) (hm : ∀ m, i ≤ m → m < j → kd m ≠ 2) (b : Nat) (hb : b < (H i).next) :
    (H j).heap.get b = (H i).heap.get b ∧ (H j).fams.get b = (H i).fams.get b := by
  have := tr_same hc tr wf0 (i := i) (j - i) (by omega) (fun m a b => hm m a (by omega)) b hb
  rwa [show i + (j - i) = j by omega] at this
theorem tr_tys (hc : CallSim P call) (tr : Trace P call n ops A H tt kd lo 0) (wf0 : WF (H 0)) {i j : Nat} (hij : i ≤ j) (hj : j ≤ ops.size) {b : Nat} (hb : b < (H i).next) : (H j).tys.get b = (H i).tys.get b := by
  have := (tr_UU hc tr wf0 i (j - i) (by omega)).tys b hb
  rwa [show i + (j - i) = j by omega] at this
theorem next_writer (tr : Trace P call n ops A H tt kd lo 0) : ∀ d i, i + d = ops.size → ∃ q, i ≤ q ∧ q ≤ ops.size ∧ (q < ops.size → kd q = 2) ∧ ∀ m, i ≤ m → m < q → kd m ≠ 2
  | 0, i, h => ⟨i, Nat.le_refl _, by omega, fun h => by omega, fun m h1 h2 => by omega⟩
  | d + 1, i, h => by
    by_cases hk : kd i = 2
    · exact ⟨i, Nat.le_refl _, by omega, fun _ => hk, fun m h1 h2 => by omega⟩
    · obtain ⟨q, h1, h2, h3, h4⟩ := next_writer tr d (i + 1) (by omega)
      refine ⟨q, by omega, h2, h3, fun m hm1 hm2 => ?_⟩
      by_cases hmi : m = i
      · subst hmi; exact hk
      · exact h4 m (by omega) hm2

/-- Two relations, of what is new and of what is old, as one. -/
theorem Rel.merge {J1 J2 J3 B0 : Nat} {w0 : World} {β β' : B} {s s1 s2 : St} {w w' : World} (h1 : Rel J1 B0 w0 β' s1 w') (h0 : Rel J2 B0 w0 β s w) (wf2 : WF s2) (hnx : s2.next ≤ J3) (hext : ∀ b bi, β b = some bi → β' b = some bi)
    (hdom : ∀ b bi, β' b = some bi → (∃ cb, s2.heap.get b = some cb) ∨ J3 ≤ b)
    (hcl : ∀ b bi cb, β' b = some bi → s2.heap.get b = some cb →
      (s1.heap.get b = some cb ∧ s2.tys.get b = s1.tys.get b ∧ ∀ k, k ≤ b → s2.fams.get k = s1.fams.get k) ∨
      (β b = some bi ∧ s.heap.get b = some cb ∧ (s2.tys.get b = s.tys.get b ∧ ∀ k, k ≤ b → s2.fams.get k = s.fams.get k) ∧ w'.heap[bi.blk]? = w.heap[bi.blk]? ∧
        ∀ b3 bi3, β' b3 = some bi3 → (β b3 = none ∨ ∃ cb3, s1.heap.get b3 = some cb3) → bi3.blk ≠ bi.blk)) : Rel J3 B0 w0 β' s2 w' := by
  refine ⟨hnx, fun b bi hb => ⟨(h1.dom b bi hb).1, hdom b bi hb⟩, ?_, ?_, ?_, ?_, ?_, ?_, ?_, h1.gl, h1.below, h1.base⟩
  · intro b bi cs hb hr
    obtain ⟨k, base, esz, own, hg⟩ := rd_cells hr
    rcases hcl b bi _ hb hg with ⟨g1, _, g2⟩ | ⟨g0, g1, ⟨_, g2⟩, g3, _⟩
    · refine h1.rd b bi cs hb ?_
      cases own with
      | false => unfold St.rd; rw [g1]
      | true =>
        obtain ⟨_, hd, fl, hf, hle⟩ := rd_own hg hr
        exact rd_of g1 (by rw [← g2 k (wf2.fam b _ _ _ _ hg).1]; exact hf) hle
    · have hr0 : s.rd b = some cs := by
        cases own with
        | false => unfold St.rd; rw [g1]
        | true =>
          obtain ⟨_, hd, fl, hf, hle⟩ := rd_own hg hr
          exact rd_of g1 (by rw [← g2 k (wf2.fam b _ _ _ _ hg).1]; exact hf) hle
      obtain ⟨C, e, fr, q1, q2⟩ := h0.rd b bi cs g0 hr0
      refine ⟨C, e, fr, by rw [g3]; exact q1, fun i v hv => ?_⟩
      obtain ⟨v', hv', hvr⟩ := q2 i v hv
      exact ⟨v', hv', hvr.mono hext⟩
  · intro b bi cs k base esz hb hg
    have hkb := (wf2.fam b _ _ _ _ hg).1
    rcases hcl b bi _ hb hg with ⟨g1, gt, gf⟩ | ⟨g0, g1, ⟨gt, gf⟩, g3, _⟩
    · obtain ⟨q1, q2, q3, C, e, fr, q4, q5, q6, q7, q8⟩ := h1.own b bi cs k base esz hb g1
      exact ⟨q1, q2, q3, C, e, fr, q4, q5, q6, by rw [gt]; exact q7, by rw [gf k hkb]; exact q8⟩
    · obtain ⟨q1, q2, ⟨bk, q3⟩, C, e, fr, q4, q5, q6, q7, q8⟩ := h0.own b bi cs k base esz g0 g1
      exact ⟨q1, q2, ⟨bk, hext _ _ q3⟩, C, e, fr, by rw [g3]; exact q4, q5, q6, by rw [gt]; exact q7, by rw [gf k hkb]; exact q8⟩
  · intro b bi cs k base esz hb hg
    rcases hcl b bi _ hb hg with ⟨g1, _⟩ | ⟨g0, g1, _, g3, _⟩
    · exact h1.ro b bi cs k base esz hb g1
    · exact h0.ro b bi cs k base esz g0 g1
  · intro b bi es hb hg
    rcases hcl b bi _ hb hg with ⟨g1, _⟩ | ⟨g0, g1, _, g3, _⟩
    · exact h1.map b bi es hb g1
    · obtain ⟨q1, ms, clock, q2, q3⟩ := h0.map b bi es g0 g1
      exact ⟨q1, ms, clock, by rw [g3]; exact q2, q3.keys.mono hext, q3.vals.mono hext⟩
  · intro b1 b2 bi1 bi2 cs1 cs2 k1 k2 base1 base2 e1 e2 hb1 hb2 heq hg1 hg2
    rcases hcl b1 bi1 _ hb1 hg1 with ⟨g1, _⟩ | ⟨g0, g1, _, _, g4⟩ <;> rcases hcl b2 bi2 _ hb2 hg2 with ⟨f1, _⟩ | ⟨f0, f1, _, _, f4⟩
    · exact h1.fam b1 b2 bi1 bi2 _ _ _ _ _ _ _ _ hb1 hb2 heq g1 f1
    · exact (f4 b1 bi1 hb1 (.inr ⟨_, g1⟩) heq).elim
    · exact (g4 b2 bi2 hb2 (.inr ⟨_, f1⟩) heq.symm).elim
    · exact h0.fam b1 b2 bi1 bi2 _ _ _ _ _ _ _ _ g0 f0 heq g1 f1
  · intro b1 b2 bi1 bi2 es hb1 hb2 heq hg1
    by_cases hbb : b1 = b2
    · exact hbb
    rcases hcl b1 bi1 _ hb1 hg1 with ⟨g1, _⟩ | ⟨g0, g1, _, _, g4⟩
    · exact h1.inj b1 b2 bi1 bi2 es hb1 hb2 heq g1
    · cases hb2o : β b2 with
      | some x =>
        have := hext _ _ hb2o
        rw [hb2] at this; injection this with this; subst this
        exact h0.inj b1 b2 bi1 bi2 es g0 hb2o heq g1
      | none => exact (g4 b2 bi2 hb2 (.inl hb2o) heq.symm).elim
  · intro b1 bi1 t pos hb1 hg1
    rcases hcl b1 bi1 _ hb1 hg1 with ⟨g1, _⟩ | ⟨g0, g1, _, g3, g4⟩
    · exact h1.iter b1 bi1 t pos hb1 g1
    · obtain ⟨q1, q2, q3, q4⟩ := h0.iter b1 bi1 t pos g0 g1
      refine ⟨q1, q2, by rw [g3]; exact q3, fun b2 bi2 hb2 heq => ?_⟩
      cases hb2o : β b2 with
      | some x =>
        have := hext _ _ hb2o
        rw [hb2] at this; injection this with this; subst this
        exact q4 b2 bi2 hb2o heq
      | none => exact (g4 b2 bi2 hb2 (.inl hb2o) heq).elim

/-- What stands while the operations come up in some order. 'q': the next writer. -/
structure Inv (P : Program) (n : Nat) (ops : Array Oper) (H : Nat → St) (tt : Nat → T Value) (kd : Nat → Nat) (J B0 : Nat) (w0 : World) (β0 : B) (wi : World) (listed : Array Bool) (a : Act) (w : World) (β : B) (q : Nat) : Prop where
  ls : listed.size = ops.size
  cl : Closed ops listed
  as : a.tmps.size = n
  df : a.defers = []
  tmp : ∀ j, j ≤ ops.size → (j < ops.size → ¬ lst listed j) → ∀ x, (∀ o, ops[j]? = some o → x ∈ o.looksAt ops) → (∀ i o, i < j → ops[i]? = some o → o.dst = some x → lst listed i) → TR β ((tt j).get x) (a.tmps.getD x undef)
  q_le : q ≤ ops.size
  qW : q < ops.size → kd q = 2
  below : ∀ i, i < q → kd i = 2 → lst listed i
  above : ∀ i, q ≤ i → i < ops.size → 0 < kd i → kd i ≠ 3 → ¬ lst listed i
  rel : Rel (H q).next B0 w0 β (H q) w
  rng : ∀ b bi, β b = some bi → b < (H 0).next ∨ (∃ i, i < ops.size ∧ lst listed i ∧ 0 < kd i ∧ (H i).next ≤ b ∧ b < (H (i + 1)).next) ∨ J ≤ b
  dj : ∀ i, i < q → (kd i = 1 ∨ kd i = 3) → (∀ m, i < m → m < q → kd m ≠ 2) → ∀ b1 b2 bi1 bi2, β b1 = some bi1 → β b2 = some bi2 → b1 < (H i).next → (H i).next ≤ b2 → b2 < (H ops.size).next → bi1.blk ≠ bi2.blk
  ext0 : ∀ b bi, β0 b = some bi → β b = some bi
  new0 : ∀ b bi, β b = some bi → β0 b = some bi ∨ ((H 0).next ≤ b ∧ b < (H ops.size).next ∧ (wi.heap.size ≤ bi.blk ∨ ∃ b0 bi0, β0 b0 = some bi0 ∧ b0 < J ∧ bi0.blk = bi.blk ∧ (H ops.size).low ≤ b0))
  fr0 : ∀ i, i < wi.heap.size → (∀ b bi, β0 b = some bi → b < J → bi.blk ≠ i) → w.heap[i]? = wi.heap[i]?
  old0 : ∀ b, β0 b = none → b < (H 0).next → ∀ j, j < ops.size → lst listed j → (H (j + 1)).heap.get b = (H j).heap.get b ∧ (H (j + 1)).fams.get b = (H j).fams.get b
  sz : wi.heap.size ≤ w.heap.size
  early : ∀ i, q ≤ i → i < ops.size → kd i = 3 → lst listed i → ∃ bi, β (H i).next = some bi ∧ Fr B0 β (H (i + 1)) w (H i).next bi
  old3 : ∀ i, i < ops.size → kd i = 3 → ¬ lst listed i → ∀ m, i < m → m < ops.size → lst listed m → (H (m + 1)).heap.get (H i).next = (H m).heap.get (H i).next ∧ (H (m + 1)).fams.get (H i).next = (H m).fams.get (H i).next

theorem lst_set {listed : Array Bool} {j i : Nat} (hj : j < listed.size) : lst (listed.setIfInBounds j true) i ↔ lst listed i ∨ i = j := by
  unfold lst
  by_cases h : i = j
  · subst h
    simp [Array.getD_eq_getD_getElem?, hj]
  · rw [Array.getD_eq_getD_getElem?, Array.getD_eq_getD_getElem?, Array.getElem?_setIfInBounds_ne (by omega)]
    simp [h]

variable {J B0 : Nat} {w0 : World} {β0 : B} {wi : World} {listed : Array Bool} {a : Act} {w : World} {β : B} {q : Nat}

/-- The temporaries behind one operation. -/
theorem tmp_step (tr : Trace P call n ops A H tt kd lo 0) (hAok : drawOk ops = true) (inv : Inv P n ops H tt kd J B0 w0 β0 wi listed a w β q) {j : Nat} {o : Oper} (hj : ops[j]? = some o) (hun : ¬ lst listed j)
    (hdep : ∀ e ∈ o.after, Region.binds .any e = true → lst listed e.on) {β' : B} (hext : ∀ b bi, β b = some bi → β' b = some bi) {v v' : Value} (hput : putT n (tt j) o.dst v = some (tt (j + 1))) (hv : VR β' v v') :
    (a.put o.dst v').tmps.size = n ∧ (a.put o.dst v').defers = [] ∧
    ∀ i, i ≤ ops.size → (i < ops.size → ¬ lst (listed.setIfInBounds j true) i) → ∀ x, (∀ o, ops[i]? = some o → x ∈ o.looksAt ops) → (∀ k o, k < i → ops[k]? = some o → o.dst = some x → lst (listed.setIfInBounds j true) k) →
      TR β' ((tt i).get x) ((a.put o.dst v').tmps.getD x undef) := by
  have hjs : j < ops.size := (Array.getElem?_eq_some_iff.1 hj).1
  have hjl : j < listed.size := by rw [inv.ls]; exact hjs
  have hmask := mask_lst hAok inv.cl
  refine ⟨by cases o.dst <;> simp [Act.put, inv.as], by cases o.dst <;> simp [Act.put, inv.df], ?_⟩
  intro i hi hil x hx hw
  have hil' : i < ops.size → ¬ lst listed i := fun h h2 => hil h ((lst_set hjl).2 (.inl h2))
  have hij : i ≠ j := by
    rintro rfl
    exact hil hjs ((lst_set hjl).2 (.inr rfl))
  by_cases hd : o.dst = some x
  · -- it writes x
    rw [hd] at hput
    simp only [putT] at hput
    split at hput <;> first | contradiction | skip
    rename_i hxn
    have hxn : x < n := by simpa [Nat.blt_eq] using hxn
    injection hput with hput
    have hval : (a.put o.dst v').tmps.getD x undef = v' := by
      rw [hd]; simp [Act.put, Array.getD, inv.as, hxn]
    rw [hval]
    by_cases hlt : j < i
    · -- the last that writes x ahead of i
      have key : ∀ d, j + 1 + d ≤ i → (tt (j + 1 + d)).get x = some v := by
        intro d
        induction d with
        | zero => intro _; rw [Nat.add_zero, ← hput]; simp
        | succ d ih =>
          intro hle
          have h1 := ih (by omega)
          have hk : j + 1 + d < ops.size := by omega
          obtain ⟨v2, s2, hp2, _⟩ := (tr.step (j + 1 + d) ops[j + 1 + d] (Nat.zero_le _) (Array.getElem?_eq_getElem hk)).put
          have hne : (ops[j + 1 + d]).dst ≠ some x := by
            intro hdx
            have hl2 := hw (j + 1 + d) _ (by omega) (Array.getElem?_eq_getElem hk) hdx
            rcases (lst_set hjl).1 hl2 with hl2 | hl2
            · rcases (drawOkL_spec (A := masks ops.toList []) (j := 0) (prev := []) hAok rfl (by simp) (by omega) (j + 1 + d) ops[j + 1 + d] (Nat.zero_le _) (Array.getElem?_eq_getElem hk)).2 j o (by omega) hj with g | g
              · have := (Oper.apart_spec g).2.1 x hd
                exact this hdx
              · exact hun (hmask _ _ (Array.getElem?_eq_getElem hk) (fun e he hb => inv.cl _ _ hl2 (Array.getElem?_eq_getElem hk) e he hb) j g)
            · omega
          rw [show j + 1 + (d + 1) = j + 1 + d + 1 by omega]
          cases hdd : (ops[j + 1 + d]).dst with
          | none => rw [hdd] at hp2; simp only [putT] at hp2; injection hp2 with hp2; rw [← hp2]; exact h1
          | some y =>
            rw [hdd] at hp2 hne
            simp only [putT] at hp2
            split at hp2 <;> first | contradiction | skip
            injection hp2 with hp2
            rw [← hp2, T.get_set_ne _ (fun e => hne (by rw [e]))]
            exact h1
      have := key (i - (j + 1)) (by omega)
      rw [show j + 1 + (i - (j + 1)) = i by omega] at this
      rw [this]
      exact hv
    · -- i is ahead of j, looks at x, and has not come up: it would have to
      exfalso
      have his : i < ops.size := by omega
      rcases (drawOkL_spec (A := masks ops.toList []) (j := 0) (prev := []) hAok rfl (by simp) (by omega) j o (Nat.zero_le _) hj).2 i ops[i] (by omega) (Array.getElem?_eq_getElem his) with g | g
      · exact (Oper.apart_spec g).2.2 x hd (hx _ (Array.getElem?_eq_getElem his))
      · exact hil' his (hmask j o hj hdep i g)
  · have hval : (a.put o.dst v').tmps.getD x undef = a.tmps.getD x undef := by
      cases hdd : o.dst with
      | none => rfl
      | some y =>
        simp only [Act.put, Array.getD_eq_getD_getElem?]
        rw [Array.getElem?_setIfInBounds_ne (by rintro rfl; exact hd hdd)]
    rw [hval]
    refine (inv.tmp i hi hil' x hx fun k ok hk hok hdk => ?_).mono hext
    rcases (lst_set hjl).1 (hw k ok hk hok hdk) with h | h
    · exact h
    · subst h; rw [hj] at hok; injection hok with hok; subst hok; exact absurd hdk hd

theorem closed_step (inv : Inv P n ops H tt kd J B0 w0 β0 wi listed a w β q) {j : Nat} {o : Oper} (hj : ops[j]? = some o) (hdep : ∀ e ∈ o.after, Region.binds .any e = true → lst listed e.on) : Closed ops (listed.setIfInBounds j true) := by
  have hjl : j < listed.size := by rw [inv.ls]; exact (Array.getElem?_eq_some_iff.1 hj).1
  intro k ok hk hok e he hb
  rw [lst_set hjl] at hk ⊢
  rcases hk with hk | hk
  · exact .inl (inv.cl k ok hk hok e he hb)
  · subst hk; rw [hj] at hok; injection hok with hok; subst hok; exact .inl (hdep e he hb)

/-- An operation that does not touch memory has come up. -/
theorem inv_pure (tr : Trace P call n ops A H tt kd lo 0) (hAok : drawOk ops = true) (inv : Inv P n ops H tt kd J B0 w0 β0 wi listed a w β q) {j : Nat} {o : Oper} (hj : ops[j]? = some o) (hun : ¬ lst listed j)
    (hdep : ∀ e ∈ o.after, Region.binds .any e = true → lst listed e.on) (hk : kd j = 0) (hH : H (j + 1) = H j) {v v' : Value} (hput : putT n (tt j) o.dst v = some (tt (j + 1))) (hv : VR β v v') :
    Inv P n ops H tt kd J B0 w0 β0 wi (listed.setIfInBounds j true) (a.put o.dst v') w β q := by
  have hjl : j < listed.size := by rw [inv.ls]; exact (Array.getElem?_eq_some_iff.1 hj).1
  obtain ⟨t1, t2, t3⟩ := tmp_step tr hAok inv hj hun hdep (fun _ _ h => h) hput hv
  refine ⟨by simp [inv.ls], closed_step inv hj hdep, t1, t2, t3, inv.q_le, inv.qW, fun i hi hk2 => (lst_set hjl).2 (.inl (inv.below i hi hk2)), fun i hi his hk0 hk3 hl => ?_, inv.rel, fun b bi hb => ?_, inv.dj, inv.ext0, inv.new0, inv.fr0, fun b hb hlt i his hl => ?_, inv.sz, fun i hi his hk3 hl => ?_, fun i his hk3 hl m hm hms hml => ?_⟩
  · rcases (lst_set hjl).1 hl with h | h
    · exact inv.above i hi his hk0 hk3 h
    · subst h; omega
  · rcases inv.rng b bi hb with h | ⟨i, h1, h2, h3⟩ | h
    · exact .inl h
    · exact .inr (.inl ⟨i, h1, (lst_set hjl).2 (.inl h2), h3⟩)
    · exact .inr (.inr h)
  · rcases (lst_set hjl).1 hl with h | h
    · exact inv.old0 b hb hlt i his h
    · subst h; rw [hH]; exact ⟨rfl, rfl⟩
  · rcases (lst_set hjl).1 hl with h | h
    · exact inv.early i hi his hk3 h
    · subst h; omega
  · rcases (lst_set hjl).1 hml with h | h
    · exact inv.old3 i his hk3 (fun g => hl ((lst_set hjl).2 (.inl g))) m hm hms h
    · subst h; rw [hH]; exact ⟨rfl, rfl⟩

/-- What a free operation makes. -/
theorem free_H {i : Nat} (wf : WF (H i)) {cs : List Value} {esz ty : Nat} (hs : H (i + 1) = relow (H i) ((reset (H i)).new cs esz ty)) :
    (H (i + 1)).next = (H i).next + 1 ∧ (H (i + 1)).heap.get (H i).next = some (.cells cs (H i).next 0 esz true) ∧ (H (i + 1)).fams.get (H i).next = some ((H i).next, 0) ∧ (H (i + 1)).tys.get (H i).next = some ty := by
  rw [hs]
  exact ⟨rfl, T.get_set_same _ _ _, T.get_set_same _ _ _, T.get_set_same _ _ _⟩
theorem tr_free (tr : Trace P call n ops A H tt kd lo 0) {i : Nat} (hi : i < ops.size) (hk : kd i = 3) : ∃ cs esz ty, H (i + 1) = relow (H i) ((reset (H i)).new cs esz ty) := by
  obtain ⟨v, s1, _, h⟩ := (tr.step i ops[i] (Nat.zero_le _) (Array.getElem?_eq_getElem hi)).put
  rcases h with ⟨h, _⟩ | ⟨h, _⟩ | ⟨_, h, _, ho, _, hf⟩ | ⟨h, _⟩
  · omega
  · omega
  · obtain ⟨cs, esz, ty, g, _⟩ := free_op (o := ops[i]) (hf hk) ho
    exact ⟨cs, esz, ty, by rw [h, g]⟩
  · omega
theorem inv_none (hc : CallSim P call) (tr : Trace P call n ops A H tt kd lo 0) (wf0 : WF (H 0)) (hJ : (H ops.size).next ≤ J) (inv : Inv P n ops H tt kd J B0 w0 β0 wi listed a w β q) {i : Nat} (hi : i < ops.size) (hk : kd i = 3) (hl : ¬ lst listed i) : β (H i).next = none := by
  obtain ⟨cs, esz, ty, hs⟩ := tr_free tr hi hk
  have hn := (free_H (tr_wf hc tr wf0 i (by omega)) hs).1
  have nx := fun {i k : Nat} (h1 : i ≤ k) (h2 : k ≤ ops.size) => tr_next hc tr wf0 h1 h2
  cases hb : β (H i).next with
  | none => rfl
  | some bi =>
    exfalso
    rcases inv.rng _ bi hb with h | ⟨m, g1, g2, g3, g4, g5⟩ | h
    · have := nx (i := 0) (k := i) (by omega) (by omega); omega
    · rcases Nat.lt_trichotomy m i with g | g | g
      · have := nx (i := m + 1) (k := i) (by omega) (by omega); omega
      · subst g; exact hl g2
      · have := nx (i := i + 1) (k := m) (by omega) (by omega); omega
    · have := nx (i := i + 1) (k := ops.size) (by omega) (Nat.le_refl _); omega

/-- A free operation has come up. -/
theorem inv_free (hc : CallSim P call) (tr : Trace P call n ops A H tt kd lo 0) (wf0 : WF (H 0)) (hJ : (H ops.size).next ≤ J) (hAok : drawOk ops = true) (inv : Inv P n ops H tt kd J B0 w0 β0 wi listed a w β q) {j : Nat} {o : Oper}
    (hj : ops[j]? = some o) (hun : ¬ lst listed j) (hdep : ∀ e ∈ o.after, Region.binds .any e = true → lst listed e.on) (hk : kd j = 3) {v v' : Value} {cs : List Value} {esz ty : Nat} {C : Array Value} {e : TypeId}
    (hH : H (j + 1) = relow (H j) ((reset (H j)).new cs esz ty)) (hty : ∀ t, ty = t + 1 → e = t) (hput : putT n (tt j) o.dst v = some (tt (j + 1))) (hl : LR β cs C.toList)
    (hv : ∀ β' : B, (∀ b bi, β b = some bi → β' b = some bi) → β' (H j).next = some ⟨w.heap.size, 0, esz, C.size⟩ → VR β' v v') :
    Inv P n ops H tt kd J B0 w0 β0 wi (listed.setIfInBounds j true) (a.put o.dst v') (w.alloc (.cells C e)) (upd β (H j).next ⟨w.heap.size, 0, esz, C.size⟩) q := by
  have hjs : j < ops.size := (Array.getElem?_eq_some_iff.1 hj).1
  have hjl : j < listed.size := by rw [inv.ls]; exact hjs
  have nx := fun {i k : Nat} (h1 : i ≤ k) (h2 : k ≤ ops.size) => tr_next hc tr wf0 h1 h2
  have hbn := inv_none hc tr wf0 hJ inv hjs hk hun
  obtain ⟨q1, q2, q3, q4⟩ := free_H (tr_wf hc tr wf0 j (by omega)) hH
  have hext : ∀ b x, β b = some x → upd β (H j).next ⟨w.heap.size, 0, esz, C.size⟩ b = some x := by
    intro b x hb
    rw [upd_ne _ _ (by rintro rfl; rw [hbn] at hb; cases hb)]; exact hb
  have hcs : ∀ b bi, upd β (H j).next ⟨w.heap.size, 0, esz, C.size⟩ b = some bi → (b = (H j).next ∧ bi = ⟨w.heap.size, 0, esz, C.size⟩) ∨ (β b = some bi ∧ bi.blk < w.heap.size) := by
    intro b bi hb
    by_cases e : b = (H j).next
    · subst e; rw [upd_same] at hb; injection hb with hb; exact .inl ⟨rfl, hb.symm⟩
    · rw [upd_ne _ _ e] at hb; exact .inr ⟨hb, (inv.rel.dom b bi hb).1⟩
  obtain ⟨t1, t2, t3⟩ := tmp_step tr hAok inv hj hun hdep hext hput (hv _ hext (upd_same _ _ _))
  have hN : (H (j + 1)).next ≤ (H ops.size).next := nx (by omega) (Nat.le_refl _)
  refine ⟨by simp [inv.ls], closed_step inv hj hdep, t1, t2, t3, inv.q_le, inv.qW, fun i hi hk2 => (lst_set hjl).2 (.inl (inv.below i hi hk2)), fun i hi his hk0 hk3 hl => ?_, ?_, fun b bi hb => ?_, ?_, fun b bi hb => hext _ _ (inv.ext0 b bi hb), fun b bi hb => ?_, fun i hi hn => ?_, fun b hb hlt i his hl => ?_, ?_, fun i hi his hk3 hl' => ?_, fun i his hk3 hl' m hm hms hml => ?_⟩
  · rcases (lst_set hjl).1 hl with h | h
    · exact inv.above i hi his hk0 hk3 h
    · subst h; omega
  · refine inv.rel.fresh hbn hl ?_ fun b cs k base esz hg => ((tr_wf hc tr wf0 q inv.q_le).fam b cs k base esz hg).1
    rcases Nat.lt_or_ge j q with g | g
    · left
      have key : ∀ d, j + 1 + d ≤ q → (H (j + 1 + d)).heap.get (H j).next = (H (j + 1)).heap.get (H j).next ∧ (H (j + 1 + d)).fams.get (H j).next = (H (j + 1)).fams.get (H j).next := by
        intro d
        induction d with
        | zero => intro _; exact ⟨rfl, rfl⟩
        | succ d ih =>
          intro hd
          have h1 := ih (by omega)
          have hms : j + 1 + d < ops.size := by have := inv.q_le; omega
          have h2 : (H (j + 1 + d + 1)).heap.get (H j).next = (H (j + 1 + d)).heap.get (H j).next ∧ (H (j + 1 + d + 1)).fams.get (H j).next = (H (j + 1 + d)).fams.get (H j).next := by
            by_cases hk2 : kd (j + 1 + d) = 2
            · exact inv.old3 j hjs hk hun _ (by omega) hms (inv.below _ (by omega) hk2)
            · refine tr_plain hc tr hms (tr_wf hc tr wf0 _ (by omega)) hk2 ?_
              have := nx (i := j + 1) (k := j + 1 + d) (by omega) (by omega)
              omega
          exact ⟨h2.1.trans h1.1, h2.2.trans h1.2⟩
      have h1 := key (q - (j + 1)) (by omega)
      rw [show j + 1 + (q - (j + 1)) = q by omega] at h1
      refine ⟨h1.1.trans q2, h1.2.trans q3, fun t ht => hty t ?_⟩
      have h5 := tr_tys hc tr wf0 (i := j + 1) (j := q) (by omega) inv.q_le (b := (H j).next) (by omega)
      rw [h5, q4] at ht; injection ht
    · right
      have h1 := nx g (by omega)
      refine ⟨h1, ?_⟩
      cases hg : (H q).heap.get (H j).next with
      | none => rfl
      | some cb => have := (tr_wf hc tr wf0 q inv.q_le).lt _ cb hg; omega
  · rcases hcs b bi hb with ⟨rfl, rfl⟩ | ⟨h, _⟩
    · exact .inr (.inl ⟨j, hjs, (lst_set hjl).2 (.inr rfl), by omega, Nat.le_refl _, by omega⟩)
    · rcases inv.rng b bi h with g | ⟨i, g1, g2, g3⟩ | g
      · exact .inl g
      · exact .inr (.inl ⟨i, g1, (lst_set hjl).2 (.inl g2), g3⟩)
      · exact .inr (.inr g)
  · intro i hiq hki hno b1 b2 bi1 bi2 hb1 hb2 h1 h2 h3
    rcases hcs b1 bi1 hb1 with ⟨rfl, rfl⟩ | ⟨g1, f1⟩ <;> rcases hcs b2 bi2 hb2 with ⟨rfl, rfl⟩ | ⟨g2, f2⟩
    · omega
    · simp only; omega
    · simp only; omega
    · exact inv.dj i hiq hki hno b1 b2 bi1 bi2 g1 g2 h1 h2 h3
  · rcases hcs b bi hb with ⟨rfl, rfl⟩ | ⟨h, _⟩
    · exact .inr ⟨nx (Nat.zero_le _) (by omega), by omega, .inl inv.sz⟩
    · exact inv.new0 b bi h
  · rw [heap_push_old (Nat.lt_of_lt_of_le hi inv.sz)]
    exact inv.fr0 i hi hn
  · rcases (lst_set hjl).1 hl with h | h
    · exact inv.old0 b hb hlt i his h
    · subst h
      exact tr_plain hc tr his (tr_wf hc tr wf0 _ (by omega)) (by omega) (Nat.lt_of_lt_of_le hlt (nx (Nat.zero_le _) (by omega)))
  · have := inv.sz; simp; omega
  · by_cases hij : i = j
    · subst hij
      refine ⟨_, upd_same _ _ _, cs, esz, C, e, w.heap.size, rfl, q2, q3, inv.rel.base, heap_push_new _ _, hl.mono hext, fun t ht => hty t (by rw [q4] at ht; injection ht), fun b1 bi1 hb1 hblk => ?_⟩
      rcases hcs b1 bi1 hb1 with ⟨rfl, _⟩ | ⟨_, h⟩
      · rfl
      · omega
    · have hli : lst listed i := by
        rcases (lst_set hjl).1 hl' with h | h
        · exact h
        · exact absurd h hij
      obtain ⟨bi, g1, g2⟩ := inv.early i hi his hk3 hli
      obtain ⟨cs', esz', C', e', blk, f1, f2, f3, f4, f5, f6, f8, f7⟩ := g2.ex
      have hblk : blk < w.heap.size := (Array.getElem?_eq_some_iff.1 f5).1
      refine ⟨bi, hext _ _ g1, cs', esz', C', e', blk, f1, f2, f3, f4, by rw [heap_push_old hblk]; exact f5, f6.mono hext, f8, fun b1 bi1 hb1 hb => ?_⟩
      rcases hcs b1 bi1 hb1 with ⟨_, rfl⟩ | ⟨h, _⟩
      · simp only at hb; omega
      · exact f7 b1 bi1 h hb
  · rcases (lst_set hjl).1 hml with h | h
    · exact inv.old3 i his hk3 (fun g => hl' ((lst_set hjl).2 (.inl g))) m hm hms h
    · subst h
      obtain ⟨cs', esz', ty', hs'⟩ := tr_free tr his hk3
      have := (free_H (tr_wf hc tr wf0 i (by omega)) hs').1
      refine tr_plain hc tr hms (tr_wf hc tr wf0 _ (by omega)) (by omega) ?_
      have := nx (i := i + 1) (k := m) (by omega) (by omega)
      omega

end
end Go.Ev
