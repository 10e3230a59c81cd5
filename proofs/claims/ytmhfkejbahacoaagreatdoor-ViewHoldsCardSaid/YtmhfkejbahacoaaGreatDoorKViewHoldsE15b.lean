/- A proved evaluator, part 15b: a region in any order. No condition. -/
import Derived.Test.YtmhfkejbahacoaaGreatDoorKViewHoldsE15
noncomputable section
namespace Go.Ev
open Go.RowKit
set_option linter.unusedVariables false
variable [Lk]
set_option linter.unusedSectionVars false

theorem maskF (acc : List Nat) (b : Nat) : ∀ (es : List Edge) (m : Nat), (es.foldl (fun m e => match Region.binds .any e with
    | true => m ||| 2 ^ e.on ||| acc.getD e.on 0
    | false => m) m).testBit b = true → m.testBit b = true ∨ ∃ e ∈ es, Region.binds .any e = true ∧ (b = e.on ∨ (acc.getD e.on 0).testBit b = true)
  | [], m, h => .inl h
  | e :: es, m, h => by
    rw [List.foldl_cons] at h
    rcases maskF acc b es _ h with h1 | ⟨e', he', h2⟩
    · split at h1
      · rename_i hb
        rw [Nat.testBit_or, bit_or] at h1
        simp only [Bool.or_eq_true, decide_eq_true_eq] at h1
        rcases h1 with (h1 | h1) | h1
        · exact .inl h1
        · exact .inr ⟨e, List.mem_cons_self .., hb, .inl h1.symm⟩
        · exact .inr ⟨e, List.mem_cons_self .., hb, .inr h1⟩
      · exact .inl h1
    · exact .inr ⟨e', List.mem_cons_of_mem _ he', h2⟩
theorem masks_spec : ∀ (l : List Oper) (acc : List Nat), (masks l acc).length = acc.length + l.length ∧ (masks l acc).take acc.length = acc ∧
    ∀ j o, l[j]? = some o → (masks l acc)[acc.length + j]? = some (maskOf ((masks l acc).take (acc.length + j)) o)
  | [], acc => ⟨by simp [masks], by simp [masks], fun j o h => by simp at h⟩
  | o :: r, acc => by
    obtain ⟨h1, h2, h3⟩ := masks_spec r (acc ++ [maskOf acc o])
    simp only [List.length_append, List.length_cons, List.length_nil, Nat.zero_add] at h1 h2 h3
    refine ⟨by simp only [masks, List.length_cons]; omega, ?_, ?_⟩
    · simp only [masks]
      have := congrArg (List.take acc.length) h2
      rw [List.take_take, Nat.min_eq_left (by omega)] at this
      rw [this]; simp
    · intro j x hx
      simp only [masks]
      cases j with
      | zero =>
        simp at hx; subst hx
        have e0 : (masks r (acc ++ [maskOf acc o]))[acc.length]? = some (maskOf acc o) := by
          have := congrArg (fun l => l[acc.length]?) h2
          simp only [List.getElem?_take] at this
          rw [if_pos (by omega)] at this
          rw [this]; simp
        have e1 : (masks r (acc ++ [maskOf acc o])).take acc.length = acc := by
          have := congrArg (List.take acc.length) h2
          rw [List.take_take, Nat.min_eq_left (by omega)] at this
          rw [this]; simp
        rw [Nat.add_zero, e0, e1]
      | succ j =>
        have := h3 j x (by simpa using hx)
        rw [show acc.length + 1 + j = acc.length + (j + 1) by omega] at this
        exact this

theorem drawOkL_spec {ops : Array Oper} {A : List Nat} : ∀ {l : List Oper} {j : Nat} {prev : List Oper}, drawOkL ops A l j prev = true → prev.length = j → (∀ i, l[i]? = ops[j + i]?) → (∀ i, i < j → prev[i]? = ops[i]?) →
    ∀ k o, j ≤ k → ops[k]? = some o → (∀ e ∈ o.after, Region.binds .any e = true → e.on < k) ∧ ∀ i oi, i < k → ops[i]? = some oi → Oper.apart ops oi o = true ∨ (A.getD k 0).testBit i = true
  | [], j, prev, h, hp, hl, hpr => by
    intro k o hk ho
    have := hl (k - j)
    rw [show j + (k - j) = k by omega, ho] at this
    simp at this
  | x :: r, j, prev, h, hp, hl, hpr => by
    unfold drawOkL at h
    simp only [Bool.and_eq_true] at h
    obtain ⟨⟨h1, h2⟩, h3⟩ := h
    have h0 : ops[j]? = some x := by simpa using (hl 0).symm
    intro k o hk ho
    by_cases hkj : k = j
    · subst hkj
      rw [h0] at ho; injection ho with ho; subst ho
      refine ⟨fun e he hb => ?_, fun i oi hi hoi => ?_⟩
      · have := List.all_eq_true.1 h1 e (by simpa using he)
        simp only [hb, Bool.not_true, Bool.false_or] at this
        simpa [Nat.blt_eq] using this
      · have hm : (oi, i) ∈ prev.zipIdx := by
          rw [List.mem_zipIdx_iff_getElem?]
          simpa [hoi] using hpr i hi
        have := List.all_eq_true.1 h2 (oi, i) hm
        simpa using this
    · exact drawOkL_spec h3 (by simp [hp]) (fun i => by have := hl (i + 1); simpa [Nat.add_assoc, Nat.add_comm 1 i] using this) (fun i hi => by
        rw [List.getElem?_append]
        split
        · exact hpr i (by omega)
        · have : i = j := by omega
          subst this; simp [hp, h0]) k o (by omega) ho

section
variable {P : Program} {call : Call} {n : Nat} {ops : Array Oper} {H : Nat → St} {tt : Nat → T Value} {kd : Nat → Nat} {lo : Nat → Option (Bool × Option Nat)}

def lst (listed : Array Bool) (i : Nat) : Prop := listed.getD i false = true
def Closed (ops : Array Oper) (listed : Array Bool) : Prop := ∀ j o, lst listed j → ops[j]? = some o → ∀ e ∈ o.after, Region.binds .any e = true → lst listed e.on

/-- What stands in a mask has come up. -/
theorem mask_lst (hA : drawOk ops = true) {listed : Array Bool} (hc : Closed ops listed) : ∀ (j : Nat) (o : Oper), ops[j]? = some o → (∀ e ∈ o.after, Region.binds .any e = true → lst listed e.on) → ∀ b, ((masks ops.toList []).getD j 0).testBit b = true → lst listed b := by
  intro j
  induction j using Nat.strongRecOn with
  | _ j ih =>
    intro o ho hd b hb
    have hsp := (masks_spec ops.toList []).2.2 j o (by simpa using ho)
    simp only [List.length_nil, Nat.zero_add] at hsp
    rw [List.getD_eq_getElem?_getD, hsp] at hb
    simp only [Option.getD_some] at hb
    obtain ⟨hedge, _⟩ := drawOkL_spec (A := masks ops.toList []) (j := 0) (prev := []) hA rfl (by simp) (by omega) j o (Nat.zero_le _) ho
    rcases maskF _ b _ _ hb with h0 | ⟨e, he, hbi, h1⟩
    · simp at h0
    · have hem : e ∈ o.after := by simpa using he
      have hlt := hedge e hem hbi
      rcases h1 with rfl | h1
      · exact hd e hem hbi
      · rw [List.getD_eq_getElem?_getD, List.getElem?_take, if_pos hlt, ← List.getD_eq_getElem?_getD] at h1
        have hol : ∃ oe, ops[e.on]? = some oe := ⟨_, Array.getElem?_eq_getElem (by have := (Array.getElem?_eq_some_iff.1 ho).1; omega)⟩
        obtain ⟨oe, hoe⟩ := hol
        exact ih e.on hlt oe hoe (fun e' he' hb' => hc e.on oe (hd e hem hbi) hoe e' he' hb') b h1

def TR (β : B) (ov : Option Value) (v : Value) : Prop := match ov with
  | some u => VR β u v
  | none => v = undef
theorem TR.mono {β β' : B} (h : ∀ b bi, β b = some bi → β' b = some bi) {ov : Option Value} {v : Value} (ht : TR β ov v) : TR β' ov v := by
  unfold TR at *
  split
  · rename_i u; simp only at ht; exact ht.mono h
  · exact ht

theorem opvR_OR {β : B} {o : Oper} {t : T Value} {a : Act} (hgl : ∀ g i, Lk.gl g = some i → ∃ e l, β i = some ⟨g, 0, e, l⟩) (h : ∀ x, x ∈ o.looksAt ops → TR β (t.get x) (a.tmps.getD x undef)) : OR β (opvR (o.looksAt ops) t) a.eval := by
  intro x v hx
  cases x with
  | tmp i =>
    simp only [opvR] at hx
    split at hx <;> first | contradiction | skip
    rename_i hm
    have hm : i ∈ o.looksAt ops := by
      rw [List.any_eq_true] at hm
      obtain ⟨y, hy, he⟩ := hm
      have := Nat.eq_of_beq_eq_true he
      subst this; exact hy
    have := h i hm
    rw [hx] at this
    exact this
  | const c =>
    simp only [opvR, opv] at hx
    split at hx <;> first | contradiction | skip
    rename_i hc
    injection hx with hx; subst hx
    exact closedV_VR β 6 _ hc
  | global g =>
    simp only [opvR, opv] at hx
    split at hx <;> first | contradiction | skip
    rename_i i hi
    injection hx with hx; subst hx
    obtain ⟨e, l, hb⟩ := hgl g i hi
    exact .ptr ⟨_, hb, rfl, rfl⟩
  | func f =>
    simp only [opvR, opv] at hx
    injection hx with hx; subst hx
    exact .func _ rfl (fun i x y hx => by simp at hx) rfl (fun i x y hx => by simp at hx)

theorem want_of {β : B} {o : Oper} {t : T Value} {a : Act} (h : ∀ x, x ∈ o.looksAt ops → TR β (t.get x) (a.tmps.getD x undef)) : Region.wanted o (yielded ops a.tmps) = wantT ops t o := by
  unfold Region.wanted wantT
  cases hg : o.guard with
  | none => rfl
  | some g =>
    obtain ⟨j, want⟩ := g
    simp only
    have : yielded ops a.tmps j = yieldT ops t j := by
      unfold yielded yieldT
      cases hj : ops[j]? with
      | none => simp
      | some oj =>
        cases hd : oj.dst with
        | none => simp [hd]
        | some d =>
          simp only [Option.bind_some, hd]
          have hmem : d ∈ o.looksAt ops := by simp [Oper.looksAt, hg, hj, hd]
          have ht := h d hmem
          cases hgt : t.get d with
          | none =>
            rw [hgt] at ht
            simp only [TR] at ht
            rw [Array.getD_eq_getD_getElem?] at ht
            cases hx : a.tmps[d]? with
            | none => rfl
            | some x => rw [hx] at ht; simp at ht; subst ht; rfl
          | some v =>
            rw [hgt] at ht
            simp only [TR] at ht
            rw [Array.getD_eq_getD_getElem?] at ht
            cases hx : a.tmps[d]? with
            | none =>
              rw [hx] at ht
              simp only [Option.getD_none] at ht
              generalize hu : undef = u at ht
              cases ht <;> simp_all [undef]
            | some x =>
              rw [hx] at ht
              simp only [Option.getD_some] at ht
              cases ht <;> rfl
    rw [this]
    cases yieldT ops t j with
    | none => rfl
    | some b => rfl

/-- A new block that nobody else has: what is in it. -/
structure Fr (B0 : Nat) (β : B) (s : St) (w : World) (b : Nat) (bi : BI) : Prop where
  ex : ∃ cs esz C e blk, bi = ⟨blk, 0, esz, C.size⟩ ∧ s.heap.get b = some (.cells cs b 0 esz true) ∧ s.fams.get b = some (b, 0) ∧ B0 ≤ blk ∧ w.heap[blk]? = some (.cells C e (0, 0)) ∧ LR β cs C.toList ∧ (∀ t, s.tys.get b = some (t + 1) → e = t) ∧
    ∀ b1 bi1, β b1 = some bi1 → bi1.blk = blk → b1 = b
/-- The relation goes over to a state that agrees on what is there; of new blocks it is told. -/
theorem Rel.agreeE {J J2 B0 : Nat} {w0 : World} {β : B} {s s2 : St} {w : World} (h : Rel J B0 w0 β s w) (hk : ∀ b cs k base esz, s2.heap.get b = some (.cells cs k base esz true) → k ≤ b) (hnx : s2.next ≤ J2)
    (hag : ∀ b bi, β b = some bi → ((∃ cb, s2.heap.get b = some cb) ∧ s2.tys.get b = s.tys.get b ∧ ∀ k, k ≤ b → s2.heap.get k = s.heap.get k ∧ s2.fams.get k = s.fams.get k) ∨ (J2 ≤ b ∧ s2.heap.get b = none) ∨ Fr B0 β s2 w b bi) : Rel J2 B0 w0 β s2 w := by
  have cell : ∀ b bi cb, β b = some bi → s2.heap.get b = some cb → (s.heap.get b = some cb ∧ s2.tys.get b = s.tys.get b ∧ ∀ k, k ≤ b → s2.fams.get k = s.fams.get k) ∨ Fr B0 β s2 w b bi := by
    intro b bi cb hb hg
    rcases hag b bi hb with ⟨_, h4, h3⟩ | ⟨_, h3⟩ | h3
    · exact .inl ⟨by rw [← (h3 b (Nat.le_refl _)).1]; exact hg, h4, fun k hk => (h3 k hk).2⟩
    · rw [h3] at hg; cases hg
    · exact .inr h3
  refine ⟨hnx, ?_, ?_, ?_, ?_, ?_, ?_, ?_, ?_, h.gl, h.below, h.base⟩
  · intro b bi hb
    refine ⟨(h.dom b bi hb).1, ?_⟩
    rcases hag b bi hb with ⟨h2, _⟩ | ⟨h3, _⟩ | h3
    · exact .inl h2
    · exact .inr h3
    · obtain ⟨cs, esz, C, e, blk, _, g, _⟩ := h3.ex
      exact .inl ⟨_, g⟩
  · intro b bi cs hb hr
    obtain ⟨k, base, esz, own, hg⟩ := rd_cells hr
    rcases cell b bi _ hb hg with ⟨hg', _, hfm⟩ | hf
    · refine h.rd b bi cs hb ?_
      cases own with
      | false => unfold St.rd; rw [hg']
      | true =>
        obtain ⟨_, hd, fl, hf, hle⟩ := rd_own hg hr
        exact rd_of hg' (by rw [← hfm k (hk b _ _ _ _ hg)]; exact hf) hle
    · obtain ⟨cs', esz', C, e, blk, rfl, g1, g2, g3, g4, g5, _⟩ := hf.ex
      rw [hg] at g1; injection g1 with g1; injection g1 with g11
      subst g11
      refine ⟨C, e, (0, 0), g4, fun i v hv => ?_⟩
      obtain ⟨v', hv', hr⟩ := g5.get hv
      exact ⟨v', by simpa using hv', hr⟩
  · intro b bi cs k base esz hb hg
    rcases cell b bi _ hb hg with ⟨hg', hty, hfm⟩ | hf
    · obtain ⟨y1, y2, y3, C, e, fr, y4, y5, y6, y7, y8⟩ := h.own b bi cs k base esz hb hg'
      exact ⟨y1, y2, y3, C, e, fr, y4, y5, y6, by rw [hty]; exact y7, by rw [hfm k (hk b _ _ _ _ hg)]; exact y8⟩
    · obtain ⟨cs', esz', C, e, blk, rfl, g1, g2, g3, g4, g5, g6, _⟩ := hf.ex
      rw [hg] at g1; injection g1 with g1; injection g1 with g11 g12 g13 g14
      subst g11 g12 g13 g14
      exact ⟨g3, rfl, ⟨_, hb⟩, C, e, (0, 0), g4, rfl, fun _ => rfl, g6, fun _ j _ => by simp⟩
  · intro b bi cs k base esz hb hg
    rcases cell b bi _ hb hg with ⟨hg', _⟩ | hf
    · exact h.ro b bi cs k base esz hb hg'
    · obtain ⟨cs', esz', C, e, blk, rfl, g1, _⟩ := hf.ex
      rw [hg] at g1; injection g1 with g1; injection g1 with _ _ _ _ g1; cases g1
  · intro b bi es hb hg
    rcases cell b bi _ hb hg with ⟨hg', _⟩ | hf
    · exact h.map b bi es hb hg'
    · obtain ⟨cs', esz', C, e, blk, rfl, g1, _⟩ := hf.ex
      rw [hg] at g1; injection g1 with g1; cases g1
  · intro b1 b2 bi1 bi2 cs1 cs2 k1 k2 base1 base2 e1 e2 hb1 hb2 heq hg1 hg2
    have same : b1 = b2 → k1 = k2 ∧ base1 + bi2.sh = base2 + bi1.sh := by
      intro hbb
      subst hbb
      rw [hb1] at hb2; injection hb2 with hb2; subst hb2
      rw [hg1] at hg2; injection hg2 with hg2; injection hg2 with _ g2 g3
      subst g2 g3
      exact ⟨rfl, rfl⟩
    rcases cell b1 bi1 _ hb1 hg1 with ⟨f1, _⟩ | hf1
    · rcases cell b2 bi2 _ hb2 hg2 with ⟨f2, _⟩ | hf2
      · exact h.fam b1 b2 bi1 bi2 cs1 cs2 k1 k2 base1 base2 e1 e2 hb1 hb2 heq f1 f2
      · obtain ⟨cs', esz', C, e, blk, rfl, _, _, _, _, _, _, g6⟩ := hf2.ex
        exact same (g6 b1 bi1 hb1 heq)
    · obtain ⟨cs', esz', C, e, blk, rfl, _, _, _, _, _, _, g6⟩ := hf1.ex
      exact same (g6 b2 bi2 hb2 heq.symm).symm
  · intro b1 b2 bi1 bi2 es hb1 hb2 heq hg1
    rcases cell b1 bi1 _ hb1 hg1 with ⟨f1, _⟩ | hf1
    · exact h.inj b1 b2 bi1 bi2 es hb1 hb2 heq f1
    · obtain ⟨cs', esz', C, e, blk, rfl, g1, _⟩ := hf1.ex
      rw [hg1] at g1; injection g1 with g1; cases g1
  · intro b1 bi1 t pos hb1 hg1
    rcases cell b1 bi1 _ hb1 hg1 with ⟨f1, _⟩ | hf1
    · exact h.iter b1 bi1 t pos hb1 f1
    · obtain ⟨cs', esz', C, e, blk, rfl, g1, _⟩ := hf1.ex
      rw [hg1] at g1; injection g1 with g1; cases g1
/-- The relation goes over to a state that agrees on what is there. -/
theorem Rel.agree {J J2 B0 : Nat} {w0 : World} {β : B} {s s2 : St} {w : World} (h : Rel J B0 w0 β s w) (wf2 : WF s2) (hnx : s2.next ≤ J2)
    (hag : ∀ b bi, β b = some bi → (b < s2.next ∧ (∃ cb, s2.heap.get b = some cb) ∧ ∀ k, k ≤ b → s2.heap.get k = s.heap.get k ∧ s2.fams.get k = s.fams.get k) ∨ J2 ≤ b) (hty : ∀ b bi, β b = some bi → b < s2.next → s2.tys.get b = s.tys.get b) : Rel J2 B0 w0 β s2 w := by
  refine h.agreeE (fun b cs k base esz hg => (wf2.fam b cs k base esz hg).1) hnx fun b bi hb => ?_
  rcases hag b bi hb with ⟨h1, h2, h3⟩ | h3
  · exact .inl ⟨h2, hty b bi hb h1, h3⟩
  · refine .inr (.inl ⟨h3, ?_⟩)
    cases hg : s2.heap.get b with
    | none => rfl
    | some cb => have := wf2.lt b cb hg; omega
/-- A new block of the machine's, for a place that has none yet. -/
theorem Rel.fresh {J B0 : Nat} {w0 : World} {β : B} {s : St} {w : World} (h : Rel J B0 w0 β s w) {n : Nat} (hn : β n = none) {cs : List Value} {C : Array Value} {esz : Nat} {e : TypeId} (hl : LR β cs C.toList)
    (hcase : (s.heap.get n = some (.cells cs n 0 esz true) ∧ s.fams.get n = some (n, 0) ∧ ∀ t, s.tys.get n = some (t + 1) → e = t) ∨ (J ≤ n ∧ s.heap.get n = none)) (hk : ∀ b cs k base esz, s.heap.get b = some (.cells cs k base esz true) → k ≤ b) :
    Rel J B0 w0 (upd β n ⟨w.heap.size, 0, esz, C.size⟩) s (w.alloc (.cells C e)) := by
  have hext : ∀ b x, β b = some x → upd β n ⟨w.heap.size, 0, esz, C.size⟩ b = some x := by
    intro b x hb
    rw [upd_ne _ _ (by rintro rfl; rw [hn] at hb; cases hb)]; exact hb
  have hcs : ∀ b bi, upd β n ⟨w.heap.size, 0, esz, C.size⟩ b = some bi → (b = n ∧ bi = ⟨w.heap.size, 0, esz, C.size⟩) ∨ (b ≠ n ∧ β b = some bi ∧ bi.blk < w.heap.size) := by
    intro b bi hb
    by_cases e : b = n
    · subst e; rw [upd_same] at hb; injection hb with hb; exact .inl ⟨rfl, hb.symm⟩
    · rw [upd_ne _ _ e] at hb; exact .inr ⟨e, hb, (h.dom b bi hb).1⟩
  have hown : ∀ cb, s.heap.get n = some cb → cb = .cells cs n 0 esz true ∧ ∀ t, s.tys.get n = some (t + 1) → e = t := by
    intro cb hg
    rcases hcase with ⟨h1, _, h2⟩ | ⟨_, h1⟩
    · rw [h1] at hg; injection hg with hg; exact ⟨hg.symm, h2⟩
    · rw [h1] at hg; cases hg
  refine ⟨h.nx, ?_, ?_, ?_, ?_, ?_, ?_, ?_, ?_, fun g i hg => (h.gl g i hg).imp fun e hh => hh.imp fun l hb => hext _ _ hb, h.below.alloc h.base _, by simp; have := h.base; omega⟩
  · intro b bi hb
    rcases hcs b bi hb with ⟨rfl, rfl⟩ | ⟨hne, hb, hlt⟩
    · refine ⟨by simp, ?_⟩
      rcases hcase with ⟨h1, _⟩ | ⟨h1, _⟩
      · exact .inl ⟨_, h1⟩
      · exact .inr h1
    · exact ⟨by simp; omega, (h.dom b bi hb).2⟩
  · intro b bi cs' hb hr
    rcases hcs b bi hb with ⟨rfl, rfl⟩ | ⟨hne, hb, hlt⟩
    · obtain ⟨k, base, esz', own, hg⟩ := rd_cells hr
      have := (hown _ hg).1
      injection this with g1
      subst g1
      refine ⟨C, e, (0, 0), heap_push_new _ _, fun i v hv => ?_⟩
      obtain ⟨v', hv', hvr⟩ := hl.get hv
      exact ⟨v', by simpa using hv', hvr.mono hext⟩
    · obtain ⟨C', e', fr, h1, h2⟩ := h.rd b bi cs' hb hr
      refine ⟨C', e', fr, by rw [heap_push_old hlt]; exact h1, fun i v hv => ?_⟩
      obtain ⟨v', hv', hvr⟩ := h2 i v hv
      exact ⟨v', hv', hvr.mono hext⟩
  · intro b bi cs' k base esz' hb hg
    rcases hcs b bi hb with ⟨rfl, rfl⟩ | ⟨hne, hb, hlt⟩
    · have hty := (hown _ hg).2
      have := (hown _ hg).1
      injection this with g1 g2 g3 g4
      subst g1 g2 g3 g4
      exact ⟨h.base, rfl, ⟨_, upd_same _ _ _⟩, C, e, (0, 0), heap_push_new _ _, rfl, fun _ => rfl, hty, fun _ j _ => by simp⟩
    · obtain ⟨h1, h2, ⟨bk, hbk⟩, C', e', fr, h3, h4⟩ := h.own b bi cs' k base esz' hb hg
      exact ⟨h1, h2, ⟨bk, hext _ _ hbk⟩, C', e', fr, by rw [heap_push_old hlt]; exact h3, h4⟩
  · intro b bi cs' k base esz' hb hg
    rcases hcs b bi hb with ⟨rfl, rfl⟩ | ⟨hne, hb, hlt⟩
    · have := (hown _ hg).1
      injection this with _ _ _ _ g; cases g
    · exact h.ro b bi cs' k base esz' hb hg
  · intro b bi es hb hg
    rcases hcs b bi hb with ⟨rfl, rfl⟩ | ⟨hne, hb, hlt⟩
    · have := (hown _ hg).1
      cases this
    · obtain ⟨h1, ms, clock, h2, h3⟩ := h.map b bi es hb hg
      exact ⟨h1, ms, clock, by rw [heap_push_old hlt]; exact h2, h3.keys.mono hext, h3.vals.mono hext⟩
  · intro b1 b2 bi1 bi2 cs1 cs2 k1 k2 base1 base2 e1 e2 hb1 hb2 heq hg1 hg2
    rcases hcs b1 bi1 hb1 with ⟨rfl, rfl⟩ | ⟨hne1, hb1, hlt1⟩ <;> rcases hcs b2 bi2 hb2 with ⟨rfl, rfl⟩ | ⟨hne2, hb2, hlt2⟩
    · rw [hg1] at hg2; injection hg2 with hg2; injection hg2 with h1 h2 h3 h4; subst h2 h3; exact ⟨rfl, rfl⟩
    · simp only at heq; omega
    · simp only at heq; omega
    · exact h.fam b1 b2 bi1 bi2 cs1 cs2 k1 k2 base1 base2 e1 e2 hb1 hb2 heq hg1 hg2
  · intro b1 b2 bi1 bi2 es hb1 hb2 heq hg1
    rcases hcs b1 bi1 hb1 with ⟨rfl, rfl⟩ | ⟨hne1, hb1, hlt1⟩ <;> rcases hcs b2 bi2 hb2 with ⟨rfl, rfl⟩ | ⟨hne2, hb2, hlt2⟩
    · rfl
    · simp only at heq; omega
    · simp only at heq; omega
    · exact h.inj b1 b2 bi1 bi2 es hb1 hb2 heq hg1
  · intro b bi t pos hb hg
    rcases hcs b bi hb with ⟨rfl, rfl⟩ | ⟨hne, hb, hlt⟩
    · have := (hown _ hg).1
      cases this
    · obtain ⟨h1, h2, h3, h4⟩ := h.iter b bi t pos hb hg
      refine ⟨h1, h2, by rw [heap_push_old hlt]; exact h3, fun b2 bi2 hb2 heq => ?_⟩
      rcases hcs b2 bi2 hb2 with ⟨_, rfl⟩ | ⟨_, hb2, _⟩
      · simp only at heq; omega
      · exact h4 b2 bi2 hb2 heq
end

end Go.Ev
