/- A proved evaluator, part 3: new blocks, writes, appends and reads, canonical and in the machine. No condition. -/
import Derived.Test.YtmhfkejbahacoaaGreatDoorKViewHoldsE2
noncomputable section
namespace Go.Ev
open Go.RowKit
set_option linter.unusedVariables false
variable [Lk]
set_option linter.unusedSectionVars false

theorem setCells_other (b : Nat) : ∀ (vs : List Value) (o : Nat) (w : World) (k : Nat), k ≠ b → (w.setCells b o vs).heap[k]? = w.heap[k]?
  | [], _, _, _, _ => rfl
  | v :: r, o, w, k, h => by
    rw [World.setCells, setCells_other b r _ _ k h]
    exact Below.heap_setCell _ _ _ _ h
theorem setCells_rest (b : Nat) : ∀ (vs : List Value) (o : Nat) (w : World), (w.setCells b o vs).os = w.os ∧ (w.setCells b o vs).tape = w.tape ∧ (w.setCells b o vs).output = w.output ∧ (w.setCells b o vs).heap.size = w.heap.size
  | [], _, _ => ⟨rfl, rfl, rfl, rfl⟩
  | v :: r, o, w => by
    obtain ⟨h1, h2, h3, h4⟩ := setCells_rest b r (o + 1) (w.setCell ⟨b, o, none⟩ v)
    rw [World.setCells]
    exact ⟨h1, h2, h3, h4.trans (World.size_setCell ..)⟩
theorem setCells_block (b : Nat) : ∀ (vs : List Value) (o : Nat) (w : World) (C : Array Value) (e : TypeId) (fr : Nat × Nat), w.heap[b]? = some (.cells C e fr) →
    ∃ C' : Array Value, (w.setCells b o vs).heap[b]? = some (.cells C' e fr) ∧ C'.size = C.size ∧ ∀ j : Nat, C'[j]? = if o ≤ j ∧ j < o + vs.length ∧ j < C.size then vs[j - o]? else C[j]?
  | [], o, w, C, e, fr, h => ⟨C, h, rfl, fun j => by rw [if_neg (by simp; omega)]⟩
  | v :: r, o, w, C, e, fr, h => by
    have h0 : (w.setCell ⟨b, o, none⟩ v).heap[b]? = some (.cells (C.setIfInBounds o v) e fr) := by
      simp [World.setCell, Array.getElem?_modify, h]
    obtain ⟨C', h1, h2, h3⟩ := setCells_block b r (o + 1) _ _ e fr h0
    refine ⟨C', h1, by simpa using h2, fun j => ?_⟩
    rw [h3 j]
    by_cases hj : j = o
    · subst hj
      rw [if_neg (by omega)]
      by_cases hs : j < C.size
      · rw [if_pos ⟨Nat.le_refl _, by simp, hs⟩]; simp [hs]
      · rw [if_neg (by omega)]; simp [hs]
    · by_cases hc : o + 1 ≤ j ∧ j < o + 1 + r.length ∧ j < (C.setIfInBounds o v).size
      · rw [if_pos hc, if_pos ⟨by omega, by simp at hc ⊢; omega, by simpa using hc.2.2⟩]
        rw [show j - o = (j - (o + 1)) + 1 by omega]; simp
      · rw [if_neg hc, if_neg (by simp at hc ⊢; omega)]
        rw [Array.getElem?_setIfInBounds_ne (by omega)]
theorem setCells_below {B0 : Nat} {w0 w : World} (h : Below B0 w0 w) {b : Nat} (hb : B0 ≤ b) (o : Nat) (vs : List Value) : Below B0 w0 (w.setCells b o vs) := by
  obtain ⟨h1, h2, h3, h4⟩ := setCells_rest b vs o w
  exact h.trans ⟨h1, h2, h3, by omega, fun k hk => setCells_other b vs o w k (by omega)⟩

theorem run_storeCells_ev (P : Program) {w : World} {b : Nat} {C : Array Value} {e : TypeId} {fr : Nat × Nat} (h : w.heap[b]? = some (.cells C e fr)) {o : Nat} {vs : List Value}
    (hs : o + vs.length ≤ C.size) (hf : ∀ j, j < C.size → ¬ (fr.1 ≤ j ∧ j < fr.2)) (h1 : ∀ v ∈ vs, v.oneCell' = true) :
    (storeCells ⟨b, o, none⟩ vs).run P w = .ok () (w.setCells b o vs) := by
  have := run_storeCells_cells (P := P) b o vs 0 w (fun j hj => by
      simp [World.cell?, h]; omega) (fun j hj => by
      have := hf (o + j) (by omega)
      obtain ⟨lo, hi⟩ := fr
      simp only [World.frozen?, h, Nat.add_zero, Bool.and_eq_false_iff, decide_eq_false_iff_not]
      simp only at this
      omega) h1
  simpa using this

theorem addr_add (b o i : Nat) : (⟨b, o, none⟩ : Addr).add i = ⟨b, o + i, none⟩ := by unfold Addr.add; split <;> simp_all

/-- Some cells in a row, out of a list. -/
def sl (cs : List Value) (off n : Nat) : Option (List Value) :=
  let r := (cs.drop off).take n
  match Nat.beq r.length n with
  | true => some r
  | false => none
theorem sl_some {cs l : List Value} {off n : Nat} (h : sl cs off n = some l) : l.length = n ∧ l = (cs.drop off).take n ∧ (0 < n → off + n ≤ cs.length) ∧ ∀ (i : Nat) (v : Value), l[i]? = some v → cs[off + i]? = some v := by
  unfold sl at h
  simp only [] at h
  split at h
  · rename_i hb
    injection h with h
    have := Nat.eq_of_beq_eq_true hb
    subst h
    refine ⟨this, rfl, fun h0 => ?_, fun i v hv => ?_⟩
    · simp at this; omega
    · rw [List.getElem?_take] at hv
      split at hv
      · simpa [List.getElem?_drop] using hv
      · cases hv
  · cases h

/-- Reading: what the canonical block gives, the machine's gives. -/
theorem Rel.reads {J B0 : Nat} {w0 : World} {β : B} {s : St} {w : World} (h : Rel J B0 w0 β s w) (P : Program) {a : Addr} {bi : BI} {cs l : List Value} {n : Nat}
    (hb : β a.block = some bi) (hr : s.rd a.block = some cs) (hl : sl cs a.off n = some l) :
    ∃ l', LR β l l' ∧ (loadCells ⟨bi.blk, a.off + bi.sh, none⟩ n).run P w = .ok l'.toArray w := by
  obtain ⟨C, e, fr, hC, hcell⟩ := h.rd _ _ _ hb hr
  obtain ⟨h1, _, _, h4⟩ := sl_some hl
  have : ∀ (m : Nat) (x : List Value), x.length = m → (∀ (i : Nat) (v : Value), x[i]? = some v → ∃ v', C[a.off + i + bi.sh]? = some v' ∧ VR β v v') →
      ∃ l' : List Value, LR β x l' ∧ ∀ (j : Nat) (v : Value), l'[j]? = some v → C[a.off + j + bi.sh]? = some v := by
    intro m
    induction m with
    | zero => intro x hx _; obtain rfl := List.length_eq_zero_iff.1 hx; exact ⟨[], .nil, by simp⟩
    | succ m ih =>
      intro x hx hall
      obtain ⟨l', hl', hj⟩ := ih x.dropLast (by simp [hx]) (fun i v hv => hall i v (by
        rw [List.getElem?_dropLast] at hv; split at hv <;> simp_all))
      obtain ⟨y, hy⟩ : ∃ y, x[m]? = some y := ⟨x[m]'(by omega), List.getElem?_eq_getElem (by omega)⟩
      obtain ⟨y', hy', hyr⟩ := hall m y hy
      have hxe : x = x.dropLast ++ [y] := by
        apply List.ext_getElem?
        intro i
        rw [List.getElem?_append]
        simp only [List.length_dropLast, hx, Nat.add_sub_cancel]
        split
        · rw [List.getElem?_dropLast]; rw [if_pos (by omega)]
        · by_cases hi : i = m
          · subst hi; simpa using hy
          · rw [List.getElem?_eq_none (by omega), List.getElem?_eq_none (by simp; omega)]
      have hlen := hl'.length
      simp [hx] at hlen
      refine ⟨l' ++ [y'], by rw [hxe]; exact hl'.append (.cons hyr .nil), fun j v hv => ?_⟩
      rw [List.getElem?_append] at hv
      split at hv
      · exact hj j v hv
      · have : j = m := by
          rcases Nat.lt_or_ge (j - l'.length) 1 with g | g
          · omega
          · rw [List.getElem?_eq_none (by simpa using g)] at hv; cases hv
        subst this
        rw [← hlen] at hv
        simp at hv
        subst hv
        exact hy'
  obtain ⟨l', hl', hj⟩ := this n l h1 (fun i v hv => hcell (a.off + i) v (h4 i v hv))
  refine ⟨l', hl', ?_⟩
  have hn : l'.length = n := by rw [← hl'.length, h1]
  have := run_loadCells_list (P := P) w ⟨bi.blk, a.off + bi.sh, none⟩ l' (fun j v hv => by
    rw [addr_add]
    have := hj j v hv
    simp only [World.cell?, hC]
    simp only [Option.isSome_none, Bool.false_eq_true, if_false]
    rw [show a.off + bi.sh + j = a.off + j + bi.sh by omega]
    exact this)
  rw [hn] at this
  exact this

theorem rd_new {s : St} (wf : WF s) (cs : List Value) (esz b : Nat) {ty : Nat} : (s.new cs esz ty).rd b = if b = s.next then some cs else s.rd b := by
  unfold St.rd
  simp only [St.new, T.get_set]
  by_cases hb : b = s.next
  · subst hb; simp; rw [Nat.ble_eq_true_of_le (Nat.zero_le _)]
  · simp only [hb, if_false]
    cases hg : s.heap.get b with
    | none => rfl
    | some cb =>
      cases cb with
      | map es => rfl
      | iter t p => rfl
      | cells cs' k base esz' own =>
        cases own with
        | false => rfl
        | true =>
          have := (wf.fam b _ _ _ _ hg).1
          have := wf.lt b _ hg
          simp only [show k ≠ s.next by omega, if_false]
theorem rd_newMap {s : St} (es : List (Value × Value)) (b : Nat) : (s.newMap es).rd b = if b = s.next then none else s.rd b := by
  unfold St.rd
  simp only [St.newMap, T.get_set]
  by_cases hb : b = s.next
  · subst hb; simp
  · simp only [hb, if_false]

theorem rd_newIter {s : St} (t : ByteArray) (pos b : Nat) : (s.newIter t pos).rd b = if b = s.next then none else s.rd b := by
  unfold St.rd
  simp only [St.newIter, T.get_set]
  by_cases hb : b = s.next
  · subst hb; simp
  · simp only [hb, if_false]

theorem heap_push_old {w : World} {o : Obj} {i : Nat} (h : i < w.heap.size) : (w.alloc o).heap[i]? = w.heap[i]? := Below.heap_alloc _ _ _ h
theorem heap_push_new (w : World) (o : Obj) : (w.alloc o).heap[w.heap.size]? = some o := by
  show (w.heap.push o)[w.heap.size]? = _
  simp

theorem sim_newW {J B0 : Nat} {w0 : World} {β : B} {s : St} {w w' : World} (h : Rel J B0 w0 β s w) (wf : WF s) (hJ : s.next + 1 ≤ J) {cs : List Value} {C : Array Value} (hl : ∀ (i : Nat) (v : Value), cs[i]? = some v → ∃ v', C[i]? = some v' ∧ VR β v v') (esz : Nat) {e : TypeId} {fr : Nat × Nat}
    (ho : w'.os = w.os) (ht : w'.tape = w.tape) (hou : w'.output = w.output) (hsz : w'.heap.size = w.heap.size + 1) (hold : ∀ j, j < w.heap.size → w'.heap[j]? = w.heap[j]?)
    (hnw : w'.heap[w.heap.size]? = some (.cells C e fr)) (hfr : ∀ j, j < C.size → ¬ (fr.1 ≤ j ∧ j < fr.2)) {ty : Nat} (hty : ∀ t, ty = t + 1 → e = t) :
    Step J B0 w0 β s w (upd β s.next ⟨w.heap.size, 0, esz, C.size⟩) (s.new cs esz ty) w' := by
  have hext := upd_ext h wf (by omega) ⟨w.heap.size, 0, esz, C.size⟩
  have hcase : ∀ b bi, upd β s.next ⟨w.heap.size, 0, esz, C.size⟩ b = some bi → (b = s.next ∧ bi = ⟨w.heap.size, 0, esz, C.size⟩) ∨ (b ≠ s.next ∧ β b = some bi ∧ bi.blk < w.heap.size) := by
    intro b bi hb
    by_cases e : b = s.next
    · subst e; rw [upd_same] at hb; injection hb with hb; exact .inl ⟨rfl, hb.symm⟩
    · rw [upd_ne _ _ e] at hb; exact .inr ⟨e, hb, (h.dom b bi hb).1⟩
  have hfam : ∀ b cs k base esz', s.heap.get b = some (.cells cs k base esz' true) → (s.new cs esz ty).fams.get k = s.fams.get k := fun b cs k base esz' hg => by
    have h1 := (wf.fam b _ _ _ _ hg).1
    have h2 := wf.lt b _ hg
    exact T.get_set_ne _ (by omega) _
  have htys : ∀ b, b ≠ s.next → (s.new cs esz ty).tys.get b = s.tys.get b := fun b hb => T.get_set_ne _ hb _
  have hget : ∀ b, b ≠ s.next → (s.new cs esz ty).heap.get b = s.heap.get b := fun b hb => T.get_set_ne _ hb _
  refine ⟨⟨hJ, ?_, ?_, ?_, ?_, ?_, ?_, ?_, ?_, fun g i hg => (h.gl g i hg).imp fun e hh => hh.imp fun l hb => hext _ _ hb, h.below.trans ⟨ho, ht, hou, by omega, fun k hk => hold k (by have := h.base; omega)⟩, by have := h.base; omega⟩, hext, ?_, ?_, ?_, by omega, by simp [St.new], Nat.le_refl _⟩
  · intro b bi hb
    rcases hcase b bi hb with ⟨rfl, rfl⟩ | ⟨hne, hb, hlt⟩
    · exact ⟨by simp only; omega, .inl ⟨_, by simp [St.new]; rfl⟩⟩
    · refine ⟨by omega, ?_⟩
      rw [hget b hne]; exact (h.dom b bi hb).2
  · intro b bi cs' hb hr
    rw [rd_new wf] at hr
    rcases hcase b bi hb with ⟨rfl, rfl⟩ | ⟨hne, hb, hlt⟩
    · simp at hr; subst hr
      refine ⟨C, e, fr, hnw, fun i v hv => ?_⟩
      obtain ⟨v', hv', hvr⟩ := hl i v hv
      exact ⟨v', hv', hvr.mono hext⟩
    · rw [if_neg hne] at hr
      obtain ⟨C', e', fr, h1, h2⟩ := h.rd b bi cs' hb hr
      refine ⟨C', e', fr, by rw [hold _ hlt]; exact h1, fun i v hv => ?_⟩
      obtain ⟨v', hv', hvr⟩ := h2 i v hv
      exact ⟨v', hv', hvr.mono hext⟩
  · intro b bi cs' k base esz' hb hg
    rcases hcase b bi hb with ⟨rfl, rfl⟩ | ⟨hne, hb, hlt⟩
    · simp only [St.new, T.get_set_same] at hg
      injection hg with hg; injection hg with h1 h2 h3 h4
      subst h1 h2 h3 h4
      exact ⟨h.base, rfl, ⟨_, upd_same _ _ _⟩, C, e, fr, hnw, rfl, fun _ => rfl, fun t ht => hty t (by simp only [St.new, T.get_set_same] at ht; injection ht), fun _ => hfr⟩
    · rw [hget b hne] at hg
      obtain ⟨h1, h2, ⟨bk, hbk⟩, C', e', fr, h3, h4, h5, h6, h7⟩ := h.own b bi cs' k base esz' hb hg
      exact ⟨h1, h2, ⟨bk, hext _ _ hbk⟩, C', e', fr, by rw [hold _ hlt]; exact h3, h4, h5, fun t ht => h6 t (by rw [← htys b hne]; exact ht), fun hh => h7 (by rw [← hfam b _ _ _ _ hg]; exact hh)⟩
  · intro b bi cs' k base esz' hb hg
    rcases hcase b bi hb with ⟨rfl, rfl⟩ | ⟨hne, hb, hlt⟩
    · simp only [St.new, T.get_set_same] at hg
      injection hg with hg; injection hg with h1 h2 h3 h4 h5
      cases h5
    · rw [hget b hne] at hg
      exact h.ro b bi cs' k base esz' hb hg
  · intro b bi es hb hg
    rcases hcase b bi hb with ⟨rfl, rfl⟩ | ⟨hne, hb, hlt⟩
    · simp only [St.new, T.get_set_same] at hg
      injection hg with hg; cases hg
    · rw [hget b hne] at hg
      obtain ⟨h1, ms, clock, h2, h3⟩ := h.map b bi es hb hg
      exact ⟨h1, ms, clock, by rw [hold _ hlt]; exact h2, h3.keys.mono hext, h3.vals.mono hext⟩
  · intro b1 b2 bi1 bi2 cs1 cs2 k1 k2 base1 base2 e1 e2 hb1 hb2 heq hg1 hg2
    rcases hcase b1 bi1 hb1 with ⟨rfl, rfl⟩ | ⟨hne1, hb1, hlt1⟩ <;> rcases hcase b2 bi2 hb2 with ⟨rfl, rfl⟩ | ⟨hne2, hb2, hlt2⟩
    · rw [hg1] at hg2; injection hg2 with hg2; injection hg2 with h1 h2 h3 h4; subst h2 h3; exact ⟨rfl, rfl⟩
    · simp only at heq; omega
    · simp only at heq; omega
    · rw [hget _ hne1] at hg1; rw [hget _ hne2] at hg2
      exact h.fam b1 b2 bi1 bi2 cs1 cs2 k1 k2 base1 base2 e1 e2 hb1 hb2 heq hg1 hg2
  · intro b1 b2 bi1 bi2 es hb1 hb2 heq hg1
    rcases hcase b1 bi1 hb1 with ⟨rfl, rfl⟩ | ⟨hne1, hb1, hlt1⟩ <;> rcases hcase b2 bi2 hb2 with ⟨rfl, rfl⟩ | ⟨hne2, hb2, hlt2⟩
    · rfl
    · simp only at heq; omega
    · simp only at heq; omega
    · rw [hget _ hne1] at hg1
      exact h.inj b1 b2 bi1 bi2 es hb1 hb2 heq hg1
  · intro b bi t pos hb hg
    rcases hcase b bi hb with ⟨rfl, rfl⟩ | ⟨hne, hb, hlt⟩
    · simp only [St.new, T.get_set_same] at hg
      injection hg with hg; cases hg
    · rw [hget b hne] at hg
      obtain ⟨h1, h2, h3, h4⟩ := h.iter b bi t pos hb hg
      refine ⟨h1, h2, by rw [hold _ hlt]; exact h3, fun b2 bi2 hb2 heq => ?_⟩
      rcases hcase b2 bi2 hb2 with ⟨_, rfl⟩ | ⟨_, hb2, _⟩
      · simp only at heq; omega
      · exact h4 b2 bi2 hb2 heq
  · intro b bi hb
    rcases hcase b bi hb with ⟨rfl, rfl⟩ | ⟨hne, hb, hlt⟩
    · exact .inr ⟨Nat.le_refl _, Nat.lt_succ_self _, .inl (Nat.le_refl _)⟩
    · exact .inl hb
  · intro i hi _; exact hold _ hi
  · intro b hb hlt
    exact ⟨hget b (by omega), T.get_set_ne _ (by omega) _⟩

theorem sim_new {J B0 : Nat} {w0 : World} {β : B} {s : St} {w : World} (h : Rel J B0 w0 β s w) (wf : WF s) (hJ : s.next + 1 ≤ J) {cs : List Value} {C : Array Value} (hl : LR β cs C.toList) (esz : Nat) (e : TypeId) {ty : Nat} (hty : ∀ t, ty = t + 1 → e = t := by intro t h; simp at h; exact h) :
    Step J B0 w0 β s w (upd β s.next ⟨w.heap.size, 0, esz, C.size⟩) (s.new cs esz ty) (w.alloc (.cells C e)) :=
  sim_newW (w' := w.alloc (.cells C e)) (fr := (0, 0)) h wf hJ (fun i v hv => by obtain ⟨v', hv', hr⟩ := hl.get hv; exact ⟨v', by simpa using hv', hr⟩) esz rfl rfl rfl (by simp) (fun _ hj => heap_push_old hj) (heap_push_new _ _) (fun j _ => by simp) hty

theorem sim_newMap {J B0 : Nat} {w0 : World} {β : B} {s : St} {w : World} (h : Rel J B0 w0 β s w) (wf : WF s) (hJ : s.next + 1 ≤ J) {es : List (Value × Value)} {ms : Array MapEntry} (hl : MR β es ms.toList) (clock : Nat) :
    Step J B0 w0 β s w (upd β s.next ⟨w.heap.size, 0, 0, 0⟩) (s.newMap es) (w.alloc (.map ms clock)) := by
  have hext := upd_ext h wf (by omega) ⟨w.heap.size, 0, 0, 0⟩
  have hcase : ∀ b bi, upd β s.next ⟨w.heap.size, 0, 0, 0⟩ b = some bi → (b = s.next ∧ bi = ⟨w.heap.size, 0, 0, 0⟩) ∨ (b ≠ s.next ∧ β b = some bi ∧ bi.blk < w.heap.size) := by
    intro b bi hb
    by_cases e : b = s.next
    · subst e; rw [upd_same] at hb; injection hb with hb; exact .inl ⟨rfl, hb.symm⟩
    · rw [upd_ne _ _ e] at hb; exact .inr ⟨e, hb, (h.dom b bi hb).1⟩
  have hget : ∀ b, b ≠ s.next → (s.newMap es).heap.get b = s.heap.get b := fun b hb => T.get_set_ne _ hb _
  refine ⟨⟨hJ, ?_, ?_, ?_, ?_, ?_, ?_, ?_, ?_, fun g i hg => (h.gl g i hg).imp fun e hh => hh.imp fun l hb => hext _ _ hb, h.below.alloc h.base _, by simp; have := h.base; omega⟩, hext, ?_, ?_, ?_, by simp, by simp [St.newMap], Nat.le_refl _⟩
  · intro b bi hb
    rcases hcase b bi hb with ⟨rfl, rfl⟩ | ⟨hne, hb, hlt⟩
    · exact ⟨by simp, .inl ⟨_, by simp [St.newMap]; rfl⟩⟩
    · refine ⟨by simp; omega, ?_⟩
      rw [hget b hne]; exact (h.dom b bi hb).2
  · intro b bi cs' hb hr
    rw [rd_newMap] at hr
    rcases hcase b bi hb with ⟨rfl, rfl⟩ | ⟨hne, hb, hlt⟩
    · simp at hr
    · rw [if_neg hne] at hr
      obtain ⟨C', e', fr, h1, h2⟩ := h.rd b bi cs' hb hr
      refine ⟨C', e', fr, by rw [heap_push_old hlt]; exact h1, fun i v hv => ?_⟩
      obtain ⟨v', hv', hvr⟩ := h2 i v hv
      exact ⟨v', hv', hvr.mono hext⟩
  · intro b bi cs' k base esz' hb hg
    rcases hcase b bi hb with ⟨rfl, rfl⟩ | ⟨hne, hb, hlt⟩
    · simp only [St.newMap, T.get_set_same] at hg
      injection hg with hg; cases hg
    · rw [hget b hne] at hg
      obtain ⟨h1, h2, ⟨bk, hbk⟩, C', e', fr, h3, h4⟩ := h.own b bi cs' k base esz' hb hg
      exact ⟨h1, h2, ⟨bk, hext _ _ hbk⟩, C', e', fr, by rw [heap_push_old hlt]; exact h3, h4⟩
  · intro b bi cs' k base esz' hb hg
    rcases hcase b bi hb with ⟨rfl, rfl⟩ | ⟨hne, hb, hlt⟩
    · simp only [St.newMap, T.get_set_same] at hg
      injection hg with hg; cases hg
    · rw [hget b hne] at hg
      exact h.ro b bi cs' k base esz' hb hg
  · intro b bi es' hb hg
    rcases hcase b bi hb with ⟨rfl, rfl⟩ | ⟨hne, hb, hlt⟩
    · simp only [St.newMap, T.get_set_same] at hg
      injection hg with hg; injection hg with hg; subst hg
      exact ⟨h.base, ms, clock, heap_push_new _ _, hl.keys.mono hext, hl.vals.mono hext⟩
    · rw [hget b hne] at hg
      obtain ⟨h1, ms, clock, h2, h3⟩ := h.map b bi es' hb hg
      exact ⟨h1, ms, clock, by rw [heap_push_old hlt]; exact h2, h3.keys.mono hext, h3.vals.mono hext⟩
  · intro b1 b2 bi1 bi2 cs1 cs2 k1 k2 base1 base2 e1 e2 hb1 hb2 heq hg1 hg2
    rcases hcase b1 bi1 hb1 with ⟨rfl, rfl⟩ | ⟨hne1, hb1, hlt1⟩ <;> rcases hcase b2 bi2 hb2 with ⟨rfl, rfl⟩ | ⟨hne2, hb2, hlt2⟩
    · simp only [St.newMap, T.get_set_same] at hg1; injection hg1 with hg1; cases hg1
    · simp only at heq; omega
    · simp only at heq; omega
    · rw [hget _ hne1] at hg1; rw [hget _ hne2] at hg2
      exact h.fam b1 b2 bi1 bi2 cs1 cs2 k1 k2 base1 base2 e1 e2 hb1 hb2 heq hg1 hg2
  · intro b1 b2 bi1 bi2 es' hb1 hb2 heq hg1
    rcases hcase b1 bi1 hb1 with ⟨rfl, rfl⟩ | ⟨hne1, hb1, hlt1⟩ <;> rcases hcase b2 bi2 hb2 with ⟨rfl, rfl⟩ | ⟨hne2, hb2, hlt2⟩
    · rfl
    · simp only at heq; omega
    · simp only at heq; omega
    · rw [hget _ hne1] at hg1
      exact h.inj b1 b2 bi1 bi2 es' hb1 hb2 heq hg1
  · intro b bi t pos hb hg
    rcases hcase b bi hb with ⟨rfl, rfl⟩ | ⟨hne, hb, hlt⟩
    · simp only [St.newMap, T.get_set_same] at hg
      injection hg with hg; cases hg
    · rw [hget b hne] at hg
      obtain ⟨h1, h2, h3, h4⟩ := h.iter b bi t pos hb hg
      refine ⟨h1, h2, by rw [heap_push_old hlt]; exact h3, fun b2 bi2 hb2 heq => ?_⟩
      rcases hcase b2 bi2 hb2 with ⟨_, rfl⟩ | ⟨_, hb2, _⟩
      · simp only at heq; omega
      · exact h4 b2 bi2 hb2 heq
  · intro b bi hb
    rcases hcase b bi hb with ⟨rfl, rfl⟩ | ⟨hne, hb, hlt⟩
    · exact .inr ⟨Nat.le_refl _, Nat.lt_succ_self _, .inl (Nat.le_refl _)⟩
    · exact .inl hb
  · intro i hi _; exact heap_push_old hi
  · intro b hb hlt
    exact ⟨hget b (by omega), rfl⟩

theorem sim_newIter {J B0 : Nat} {w0 : World} {β : B} {s : St} {w : World} (h : Rel J B0 w0 β s w) (wf : WF s) (hJ : s.next + 1 ≤ J) (t : ByteArray) (pos : Nat) :
    Step J B0 w0 β s w (upd β s.next ⟨w.heap.size, 0, 0, 0⟩) (s.newIter t pos) (w.alloc (.stringIter t pos)) := by
  have hext := upd_ext h wf (by omega) ⟨w.heap.size, 0, 0, 0⟩
  have hcase : ∀ b bi, upd β s.next ⟨w.heap.size, 0, 0, 0⟩ b = some bi → (b = s.next ∧ bi = ⟨w.heap.size, 0, 0, 0⟩) ∨ (b ≠ s.next ∧ β b = some bi ∧ bi.blk < w.heap.size) := by
    intro b bi hb
    by_cases e : b = s.next
    · subst e; rw [upd_same] at hb; injection hb with hb; exact .inl ⟨rfl, hb.symm⟩
    · rw [upd_ne _ _ e] at hb; exact .inr ⟨e, hb, (h.dom b bi hb).1⟩
  have hget : ∀ b, b ≠ s.next → (s.newIter t pos).heap.get b = s.heap.get b := fun b hb => T.get_set_ne _ hb _
  refine ⟨⟨hJ, ?_, ?_, ?_, ?_, ?_, ?_, ?_, ?_, fun g i hg => (h.gl g i hg).imp fun e hh => hh.imp fun l hb => hext _ _ hb, h.below.alloc h.base _, by simp; have := h.base; omega⟩, hext, ?_, ?_, ?_, by simp, by simp [St.newIter], Nat.le_refl _⟩
  · intro b bi hb
    rcases hcase b bi hb with ⟨rfl, rfl⟩ | ⟨hne, hb, hlt⟩
    · exact ⟨by simp, .inl ⟨_, by simp [St.newIter]; rfl⟩⟩
    · refine ⟨by simp; omega, ?_⟩
      rw [hget b hne]; exact (h.dom b bi hb).2
  · intro b bi cs' hb hr
    rw [rd_newIter] at hr
    rcases hcase b bi hb with ⟨rfl, rfl⟩ | ⟨hne, hb, hlt⟩
    · simp at hr
    · rw [if_neg hne] at hr
      obtain ⟨C', e', fr, h1, h2⟩ := h.rd b bi cs' hb hr
      refine ⟨C', e', fr, by rw [heap_push_old hlt]; exact h1, fun i v hv => ?_⟩
      obtain ⟨v', hv', hvr⟩ := h2 i v hv
      exact ⟨v', hv', hvr.mono hext⟩
  · intro b bi cs' k base esz' hb hg
    rcases hcase b bi hb with ⟨rfl, rfl⟩ | ⟨hne, hb, hlt⟩
    · simp only [St.newIter, T.get_set_same] at hg
      injection hg with hg; cases hg
    · rw [hget b hne] at hg
      obtain ⟨h1, h2, ⟨bk, hbk⟩, C', e', fr, h3, h4⟩ := h.own b bi cs' k base esz' hb hg
      exact ⟨h1, h2, ⟨bk, hext _ _ hbk⟩, C', e', fr, by rw [heap_push_old hlt]; exact h3, h4⟩
  · intro b bi cs' k base esz' hb hg
    rcases hcase b bi hb with ⟨rfl, rfl⟩ | ⟨hne, hb, hlt⟩
    · simp only [St.newIter, T.get_set_same] at hg
      injection hg with hg; cases hg
    · rw [hget b hne] at hg
      exact h.ro b bi cs' k base esz' hb hg
  · intro b bi es' hb hg
    rcases hcase b bi hb with ⟨rfl, rfl⟩ | ⟨hne, hb, hlt⟩
    · simp only [St.newIter, T.get_set_same] at hg
      injection hg with hg; cases hg
    · rw [hget b hne] at hg
      obtain ⟨h1, ms, clock, h2, h3⟩ := h.map b bi es' hb hg
      exact ⟨h1, ms, clock, by rw [heap_push_old hlt]; exact h2, h3.keys.mono hext, h3.vals.mono hext⟩
  · intro b1 b2 bi1 bi2 cs1 cs2 k1 k2 base1 base2 e1 e2 hb1 hb2 heq hg1 hg2
    rcases hcase b1 bi1 hb1 with ⟨rfl, rfl⟩ | ⟨hne1, hb1, hlt1⟩ <;> rcases hcase b2 bi2 hb2 with ⟨rfl, rfl⟩ | ⟨hne2, hb2, hlt2⟩
    · simp only [St.newIter, T.get_set_same] at hg1; injection hg1 with hg1; cases hg1
    · simp only at heq; omega
    · simp only at heq; omega
    · rw [hget _ hne1] at hg1; rw [hget _ hne2] at hg2
      exact h.fam b1 b2 bi1 bi2 cs1 cs2 k1 k2 base1 base2 e1 e2 hb1 hb2 heq hg1 hg2
  · intro b1 b2 bi1 bi2 es' hb1 hb2 heq hg1
    rcases hcase b1 bi1 hb1 with ⟨rfl, rfl⟩ | ⟨hne1, hb1, hlt1⟩ <;> rcases hcase b2 bi2 hb2 with ⟨rfl, rfl⟩ | ⟨hne2, hb2, hlt2⟩
    · rfl
    · simp only at heq; omega
    · simp only at heq; omega
    · rw [hget _ hne1] at hg1
      exact h.inj b1 b2 bi1 bi2 es' hb1 hb2 heq hg1
  · intro b bi t' pos' hb hg
    rcases hcase b bi hb with ⟨rfl, rfl⟩ | ⟨hne, hb, hlt⟩
    · simp only [St.newIter, T.get_set_same] at hg
      injection hg with hg; injection hg with g1 g2; subst g1 g2
      refine ⟨h.base, rfl, heap_push_new _ _, fun b2 bi2 hb2 heq => ?_⟩
      rcases hcase b2 bi2 hb2 with ⟨h1, _⟩ | ⟨_, _, hlt2⟩
      · exact h1
      · simp only at heq; omega
    · rw [hget b hne] at hg
      obtain ⟨h1, h2, h3, h4⟩ := h.iter b bi t' pos' hb hg
      refine ⟨h1, h2, by rw [heap_push_old hlt]; exact h3, fun b2 bi2 hb2 heq => ?_⟩
      rcases hcase b2 bi2 hb2 with ⟨_, rfl⟩ | ⟨_, hb2, _⟩
      · simp only at heq; omega
      · exact h4 b2 bi2 hb2 heq
  · intro b bi hb
    rcases hcase b bi hb with ⟨rfl, rfl⟩ | ⟨hne, hb, hlt⟩
    · exact .inr ⟨Nat.le_refl _, Nat.lt_succ_self _, .inl (Nat.le_refl _)⟩
    · exact .inl hb
  · intro i hi _; exact heap_push_old hi
  · intro b hb hlt
    exact ⟨hget b (by omega), rfl⟩

end Go.Ev
