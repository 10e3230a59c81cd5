/- A proved evaluator, part 4: writes and appends, canonical and in the machine. No condition. -/
import Derived.Test.YtmhfkejbahacoaaGreatDoorKViewHoldsE3
noncomputable section
namespace Go.Ev
open Go.RowKit
set_option linter.unusedVariables false
variable [Lk]
set_option linter.unusedSectionVars false

theorem putAt_get {cs vs : List Value} {off : Nat} (h : off + vs.length ≤ cs.length) (i : Nat) : (putAt cs off vs)[i]? = if off ≤ i ∧ i < off + vs.length then vs[i - off]? else cs[i]? := by
  unfold putAt
  rw [List.append_assoc, List.getElem?_append]
  simp only [List.length_take, Nat.min_eq_left (show off ≤ cs.length by omega)]
  split
  · rw [if_neg (by omega), List.getElem?_take, if_pos (by assumption)]
  · rw [List.getElem?_append]
    split
    · rw [if_pos (by omega)]
    · rw [if_neg (by omega), List.getElem?_drop]
      congr 1; omega

theorem Rel.drew {J B0 : Nat} {w0 : World} {β : B} {s : St} {w : World} (h : Rel J B0 w0 β s w) : Rel J B0 w0 β s w.drew :=
  ⟨h.nx, h.dom, h.rd, h.own, h.ro, h.map, h.fam, h.inj, h.iter, h.gl, h.below.drew, h.base⟩
theorem Step.of_drew {J B0 : Nat} {w0 : World} {β β' : B} {s s' : St} {w w' : World} (h : Step J B0 w0 β s w.drew β' s' w') : Step J B0 w0 β s w β' s' w' :=
  ⟨h.rel, h.ext, h.new, h.frame, h.old, h.size, h.next, h.low⟩

theorem rd_own {s : St} {b : Nat} {cs cs' : List Value} {k base esz : Nat} (hg : s.heap.get b = some (.cells cs k base esz true)) (hr : s.rd b = some cs') : cs' = cs ∧ ∃ h fl, s.fams.get k = some (h, fl) ∧ fl ≤ b := by
  unfold St.rd at hr
  rw [hg] at hr
  simp only at hr
  split at hr
  · rename_i h fl hf
    split at hr
    · rename_i hb; injection hr with hr; exact ⟨hr.symm, h, fl, hf, Nat.le_of_ble_eq_true hb⟩
    · cases hr
  · cases hr
theorem rd_of {s : St} {b : Nat} {cs : List Value} {k base esz h fl : Nat} (hg : s.heap.get b = some (.cells cs k base esz true)) (hf : s.fams.get k = some (h, fl)) (hl : fl ≤ b) : s.rd b = some cs := by
  unfold St.rd
  rw [hg]; simp only [hf]; rw [Nat.ble_eq_true_of_le hl]
theorem rd_cells {s : St} {b : Nat} {cs : List Value} (hr : s.rd b = some cs) : ∃ k base esz own, s.heap.get b = some (.cells cs k base esz own) := by
  unfold St.rd at hr
  split at hr
  · rename_i cs' k base esz own hg
    cases own with
    | false => injection hr with hr; subst hr; exact ⟨_, _, _, _, hg⟩
    | true =>
      simp only at hr
      split at hr
      · split at hr
        · injection hr with hr; subst hr; exact ⟨_, _, _, _, hg⟩
        · cases hr
      · cases hr
  · cases hr

/-- What may be read behind a change of one block and of its family. -/
theorem rd_change {s s' : St} {b k fl' : Nat} {cb : CB} {hd' : Nat} (hh : s'.heap = s.heap.set b cb) (hf : s'.fams = s.fams.set k (hd', fl')) {b1 : Nat} {cs1 : List Value} (hne : b1 ≠ b) (hr : s'.rd b1 = some cs1) :
    (∃ k1 base1 e1, s.heap.get b1 = some (.cells cs1 k1 base1 e1 false) ∧ s.rd b1 = some cs1) ∨
    (∃ k1 base1 e1, s.heap.get b1 = some (.cells cs1 k1 base1 e1 true) ∧ ((k1 ≠ k ∧ s.rd b1 = some cs1) ∨ (k1 = k ∧ fl' ≤ b1))) := by
  obtain ⟨k1, base1, e1, own1, hg⟩ := rd_cells hr
  have hg0 : s.heap.get b1 = some (.cells cs1 k1 base1 e1 own1) := by rw [hh, T.get_set_ne _ hne] at hg; exact hg
  cases own1 with
  | false => exact .inl ⟨k1, base1, e1, hg0, by unfold St.rd; rw [hg0]⟩
  | true =>
    refine .inr ⟨k1, base1, e1, hg0, ?_⟩
    obtain ⟨_, h, fl, hfl, hle⟩ := rd_own hg hr
    rw [hf] at hfl
    by_cases hk : k1 = k
    · subst hk
      rw [T.get_set_same] at hfl
      injection hfl with hfl; injection hfl with _ hfl; subst hfl
      exact .inr ⟨rfl, hle⟩
    · rw [T.get_set_ne _ hk] at hfl
      exact .inl ⟨hk, rd_of hg0 hfl hle⟩

theorem ty_of {a : Option Nat} {ty : Nat} {x : Option Nat} {t : Nat} (h : x = some (match Nat.beq (a.getD 0) ty with | true => ty | false => 0)) (ht : x = some (t + 1)) : ty = t + 1 ∧ a = some (t + 1) := by
  rw [h] at ht
  injection ht with ht
  split at ht
  · rename_i hb
    have hb := Nat.eq_of_beq_eq_true hb
    subst ht
    refine ⟨rfl, ?_⟩
    cases a with
    | none => simp at hb
    | some y => simp only [Option.getD_some] at hb; rw [hb]
  · omega

theorem sim_write {J B0 : Nat} {w0 : World} {β : B} {s s' : St} {w : World} (h : Rel J B0 w0 β s w) (wf : WF s) {b off : Nat} {vs vs' : List Value} {bi : BI} (hb : β b = some bi)
    (hw : s.write b off vs = some s') (hl : LR β vs vs') (h1 : ∀ v ∈ vs', v.oneCell' = true) (P : Program) :
    (storeCells ⟨bi.blk, off + bi.sh, none⟩ vs').run P w = .ok () (w.setCells bi.blk (off + bi.sh) vs') ∧ Step J B0 w0 β s w β s' (w.setCells bi.blk (off + bi.sh) vs') := by
  obtain ⟨cs, k, base, esz, fl, hg, hf, hlen, hfl0, hs'⟩ := write_some hw
  obtain ⟨hkb, hd, fl0, csh, baseh, g2, g3, g4, g5, g6⟩ := wf.fam b _ _ _ _ hg
  rw [hf] at g2; injection g2 with g2; injection g2 with g21 g22; subst g21 g22
  obtain ⟨o1, o2, ⟨bk, hbk⟩, C, e, fr, o3, o4, o6, o7, o5'⟩ := h.own b bi _ _ _ _ hb hg
  have o5 := o5' ⟨b, fl, hf, hfl0⟩
  have hrd := rd_of hg hf hfl0
  have halive : ∀ k1, (∃ h fl, s'.fams.get k1 = some (h, fl) ∧ fl ≤ h) → ∃ h fl, s.fams.get k1 = some (h, fl) ∧ fl ≤ h := by
    rintro k1 ⟨h1, f1, q1, q2⟩
    by_cases hk1 : k1 = k
    · subst hk1; exact ⟨b, fl, hf, hfl0⟩
    · rw [hs'] at q1; simp only at q1; rw [T.get_set_ne _ hk1] at q1; exact ⟨h1, f1, q1, q2⟩
  have htys : s'.tys = s.tys := by rw [hs']
  obtain ⟨C0, e0, fr0, hC0, hcell⟩ := h.rd b bi cs hb hrd
  rw [o3] at hC0; injection hC0 with hC0; injection hC0 with c1 c2 c3; subst c1 c2 c3
  have hl' := hl.length
  have hfit : vs' ≠ [] → off + bi.sh + vs'.length ≤ C.size := fun hne => by
    have hpos : 0 < vs'.length := by cases vs' with | nil => exact absurd rfl hne | cons => simp
    obtain ⟨x, hx⟩ : ∃ x, cs[off + vs'.length - 1]? = some x := ⟨_, List.getElem?_eq_getElem (by omega)⟩
    obtain ⟨v', hv', _⟩ := hcell _ x hx
    rcases Nat.lt_or_ge (off + vs'.length - 1 + bi.sh) C.size with g | g
    · omega
    · rw [Array.getElem?_eq_none g] at hv'; cases hv'
  obtain ⟨r1, r2, r3, r4⟩ := setCells_rest bi.blk vs' (off + bi.sh) w
  obtain ⟨C', k1, k2, k3⟩ := setCells_block bi.blk vs' (off + bi.sh) w C e fr o3
  have hother := fun i hi => setCells_other bi.blk vs' (off + bi.sh) w i hi
  refine ⟨?_, ⟨⟨by rw [hs']; exact h.nx, ?_, ?_, ?_, ?_, ?_, ?_, ?_, ?_, h.gl, setCells_below h.below o1 _ _, by rw [r4]; exact h.base⟩, fun _ _ hx => hx, fun _ _ hx => .inl hx, ?_, ?_, by rw [r4]; exact Nat.le_refl _, by rw [hs']; exact Nat.le_refl _, by rw [hs']; exact touch_le _ _⟩⟩
  · by_cases hne : vs' = []
    · subst hne; rfl
    · exact run_storeCells_ev P o3 (hfit hne) (fun j hj => o5 j (by omega)) h1
  · intro b1 bi1 hb1
    obtain ⟨d1, d2⟩ := h.dom b1 bi1 hb1
    refine ⟨by rw [r4]; exact d1, ?_⟩
    rw [hs']
    by_cases hbb : b1 = b
    · subst hbb; exact .inl ⟨_, T.get_set_same _ _ _⟩
    · rcases d2 with ⟨cb, d2⟩ | d2
      · exact .inl ⟨cb, by rw [T.get_set_ne _ hbb]; exact d2⟩
      · exact .inr d2
  · intro b1 bi1 cs1 hb1 hr1
    by_cases hbb : b1 = b
    · subst hbb
      rw [hb] at hb1; injection hb1 with hb1; subst hb1
      have : cs1 = putAt cs off vs := by
        have hg' : s'.heap.get b1 = some (.cells (putAt cs off vs) k base esz true) := by rw [hs']; exact T.get_set_same _ _ _
        exact (rd_own hg' hr1).1
      subst this
      refine ⟨C', e, fr, k1, fun i v hv => ?_⟩
      rw [putAt_get hlen] at hv
      rw [k3]
      split at hv
      · rename_i hin
        obtain ⟨v', hv', hvr⟩ := hl.get hv
        have hne : vs' ≠ [] := by rintro rfl; simp at hv'
        have := hfit hne
        rw [if_pos (by omega)]
        exact ⟨v', by rw [show i + bi.sh - (off + bi.sh) = i - off by omega]; exact hv', hvr⟩
      · rw [if_neg (by omega)]; exact hcell i v hv
    · have hsame : bi1.blk ≠ bi.blk ∧ s.rd b1 = some cs1 := by
        rcases rd_change (b := b) (k := k) (by rw [hs']) (by rw [hs']) hbb hr1 with ⟨k1', base1, e1, q1, q2⟩ | ⟨k1', base1, e1, q1, q2⟩
        · exact ⟨fun hh => by have := (h.ro b1 bi1 _ _ _ _ hb1 q1).2; omega, q2⟩
        · rcases q2 with ⟨q2, q3⟩ | ⟨q2, q3⟩
          · exact ⟨fun hh => q2 (h.fam b1 b bi1 bi _ _ _ _ _ _ _ _ hb1 hb hh q1 hg).1, q3⟩
          · subst q2
            have := (wf.fam b1 _ _ _ _ q1).2
            obtain ⟨x1, x2, x3, x4, x5, x6, x7, _⟩ := this
            rw [hf] at x5; injection x5 with x5; injection x5 with x51 x52; subst x51
            omega
      obtain ⟨C1, e1, fr1, y1, y2⟩ := h.rd b1 bi1 cs1 hb1 hsame.2
      exact ⟨C1, e1, fr1, by rw [hother _ hsame.1]; exact y1, y2⟩
  · intro b1 bi1 cs1 k1' base1 esz1 hb1 hg1
    by_cases hbb : b1 = b
    · subst hbb
      rw [hb] at hb1; injection hb1 with hb1; subst hb1
      have : s'.heap.get b1 = some (.cells (putAt cs off vs) k base esz true) := by rw [hs']; exact T.get_set_same _ _ _
      rw [this] at hg1; injection hg1 with hg1; injection hg1 with z1 z2 z3 z4; subst z1 z2 z3 z4
      exact ⟨o1, o2, ⟨bk, hbk⟩, C', e, fr, k1, by omega, o6, by rw [htys]; exact o7, fun _ => o5⟩
    · have hg1' : s.heap.get b1 = some (.cells cs1 k1' base1 esz1 true) := by rw [hs'] at hg1; simpa [T.get_set, hbb] using hg1
      obtain ⟨y1, y2, y3, C1, e1, fr1, y4, y5, y7, y8, y6⟩ := h.own b1 bi1 _ _ _ _ hb1 hg1'
      by_cases hblk : bi1.blk = bi.blk
      · rw [hblk, o3] at y4; injection y4 with y4; injection y4 with z1 z2 z3; subst z1 z2 z3
        exact ⟨y1, y2, y3, C', e, fr, by rw [hblk]; exact k1, by omega, y7, by rw [htys]; exact y8, fun hh => y6 (halive _ hh)⟩
      · exact ⟨y1, y2, y3, C1, e1, fr1, by rw [hother _ hblk]; exact y4, y5, y7, by rw [htys]; exact y8, fun hh => y6 (halive _ hh)⟩
  · intro b1 bi1 cs1 k1' base1 esz1 hb1 hg1
    by_cases hbb : b1 = b
    · subst hbb
      have : s'.heap.get b1 = some (.cells (putAt cs off vs) k base esz true) := by rw [hs']; exact T.get_set_same _ _ _
      rw [this] at hg1; injection hg1 with hg1; injection hg1 with z1 z2 z3 z4 z5; cases z5
    · have hg1' : s.heap.get b1 = some (.cells cs1 k1' base1 esz1 false) := by rw [hs'] at hg1; simpa [T.get_set, hbb] using hg1
      exact h.ro b1 bi1 _ _ _ _ hb1 hg1'
  · intro b1 bi1 es hb1 hg1
    by_cases hbb : b1 = b
    · subst hbb
      have : s'.heap.get b1 = some (.cells (putAt cs off vs) k base esz true) := by rw [hs']; exact T.get_set_same _ _ _
      rw [this] at hg1; injection hg1 with hg1; cases hg1
    · have hg1' : s.heap.get b1 = some (.map es) := by rw [hs'] at hg1; simpa [T.get_set, hbb] using hg1
      obtain ⟨y1, ms, clock, y2, y3⟩ := h.map b1 bi1 es hb1 hg1'
      have hblk : bi1.blk ≠ bi.blk := fun hh => by rw [hh, o3] at y2; injection y2 with y2; cases y2
      exact ⟨y1, ms, clock, by rw [hother _ hblk]; exact y2, y3⟩
  · intro b1 b2 bi1 bi2 cs1 cs2 k1' k2' base1 base2 e1 e2 hb1 hb2 heq hg1 hg2
    have hx : ∀ bb csx kx basex ex, s'.heap.get bb = some (.cells csx kx basex ex true) → ∃ csy, s.heap.get bb = some (.cells csy kx basex ex true) := by
      intro bb csx kx basex ex hgx
      by_cases hbb : bb = b
      · subst hbb
        have : s'.heap.get bb = some (.cells (putAt cs off vs) k base esz true) := by rw [hs']; exact T.get_set_same _ _ _
        rw [this] at hgx; injection hgx with hgx; injection hgx with z1 z2 z3 z4; subst z2 z3 z4
        exact ⟨cs, hg⟩
      · exact ⟨csx, by rw [hs'] at hgx; simpa [T.get_set, hbb] using hgx⟩
    obtain ⟨cy1, hy1⟩ := hx _ _ _ _ _ hg1
    obtain ⟨cy2, hy2⟩ := hx _ _ _ _ _ hg2
    exact h.fam b1 b2 bi1 bi2 cy1 cy2 k1' k2' base1 base2 e1 e2 hb1 hb2 heq hy1 hy2
  · intro b1 b2 bi1 bi2 es hb1 hb2 heq hg1
    by_cases hbb : b1 = b
    · subst hbb
      have : s'.heap.get b1 = some (.cells (putAt cs off vs) k base esz true) := by rw [hs']; exact T.get_set_same _ _ _
      rw [this] at hg1; injection hg1 with hg1; cases hg1
    · have hg1' : s.heap.get b1 = some (.map es) := by rw [hs'] at hg1; simpa [T.get_set, hbb] using hg1
      exact h.inj b1 b2 bi1 bi2 es hb1 hb2 heq hg1'
  · intro b1 bi1 t pos hb1 hg1
    by_cases hbb : b1 = b
    · subst hbb
      have : s'.heap.get b1 = some (.cells (putAt cs off vs) k base esz true) := by rw [hs']; exact T.get_set_same _ _ _
      rw [this] at hg1; injection hg1 with hg1; cases hg1
    · have hg1' : s.heap.get b1 = some (.iter t pos) := by rw [hs'] at hg1; simpa [T.get_set, hbb] using hg1
      obtain ⟨y1, y2, y3, y4⟩ := h.iter b1 bi1 t pos hb1 hg1'
      exact ⟨y1, y2, by rw [hother _ (fun hh => hbb (y4 b bi hb hh.symm).symm)]; exact y3, y4⟩
  · intro i _ hi; exact hother i (fun hh => hi b bi hb (by have := h.nx; have := wf.lt b _ hg; omega) hh.symm)
  · intro b1 hb1 _
    have e1 : b1 ≠ b := fun hh => by subst hh; rw [hb] at hb1; cases hb1
    have e2 : b1 ≠ k := fun hh => by subst hh; rw [hbk] at hb1; cases hb1
    rw [hs']
    exact ⟨T.get_set_ne _ e1 _, T.get_set_ne _ e2 _⟩

/-- An append that takes a new block canonically: in the machine it went in place. -/
theorem sim_extend_in {J B0 : Nat} {w0 : World} {β : B} {s s' : St} {w : World} (h : Rel J B0 w0 β s w) (wf : WF s) {b off ty : Nat} {cs old new new' : List Value} {bi : BI} (hb : β b = some bi)
    (hrd : s.rd b = some cs) (hsl : sl cs off old.length = some old) (hw : s.extend b off old new ty = some s') (hl : LR β new new') (h1 : ∀ v ∈ new', v.oneCell' = true)
    (hlim : off + bi.sh + old.length + new'.length ≤ bi.lim) (hJ : s.next + 1 ≤ J) (P : Program) :
    (storeCells ⟨bi.blk, off + bi.sh + old.length, none⟩ new').run P w = .ok () (w.setCells bi.blk (off + bi.sh + old.length) new') ∧
    Step J B0 w0 β s w (upd β s.next ⟨bi.blk, off + bi.sh, bi.esz, bi.lim⟩) s' (w.setCells bi.blk (off + bi.sh + old.length) new') := by
  obtain ⟨cs0, k, base, esz, hd, fl, fl', hg, hf, hfl, hs'⟩ := extend_some hw
  obtain ⟨rfl, hd0, fl0, hf0, hflb⟩ := rd_own hg hrd
  rw [hf] at hf0; injection hf0 with hf0; injection hf0 with f1 f2; subst f1 f2
  obtain ⟨hkb, hd1, fl1, csh, baseh, g2, g3, g4, g5, g6⟩ := wf.fam b _ _ _ _ hg
  rw [hf] at g2; injection g2 with g2; injection g2 with g21 g22; subst g21 g22
  obtain ⟨o1, o2, ⟨bk, hbk⟩, C, e, fr, o3, o4, o6, o7, o5'⟩ := h.own b bi _ _ _ _ hb hg
  have o5 := o5' ⟨hd, fl, hf, by omega⟩
  obtain ⟨C0, e0, fr0, hC0, hcell⟩ := h.rd b bi cs hb hrd
  rw [o3] at hC0; injection hC0 with hC0; injection hC0 with c1 c2 c3; subst c1 c2 c3
  obtain ⟨_, _, _, s4⟩ := sl_some hsl
  have hnl := hl.length
  have hbn := wf.lt b _ hg
  have hext := upd_ext h wf (by omega) ⟨bi.blk, off + bi.sh, bi.esz, bi.lim⟩
  have hcase : ∀ b1 bi1, upd β s.next ⟨bi.blk, off + bi.sh, bi.esz, bi.lim⟩ b1 = some bi1 → (b1 = s.next ∧ bi1 = ⟨bi.blk, off + bi.sh, bi.esz, bi.lim⟩) ∨ (b1 ≠ s.next ∧ β b1 = some bi1) := by
    intro b1 bi1 hb1
    by_cases e : b1 = s.next
    · subst e; rw [upd_same] at hb1; injection hb1 with hb1; exact .inl ⟨rfl, hb1.symm⟩
    · rw [upd_ne _ _ e] at hb1; exact .inr ⟨e, hb1⟩
  have hnew : s'.heap.get s.next = some (.cells (old ++ new) k (base + off) esz true) := by rw [hs']; exact T.get_set_same _ _ _
  have halive : ∀ k1, (∃ h fl, s'.fams.get k1 = some (h, fl) ∧ fl ≤ h) → ∃ h fl, s.fams.get k1 = some (h, fl) ∧ fl ≤ h := by
    rintro k1 ⟨h1, f1, q1, q2⟩
    by_cases hk1 : k1 = k
    · subst hk1; exact ⟨hd, fl, hf, by omega⟩
    · rw [hs'] at q1; simp only at q1; rw [T.get_set_ne _ hk1] at q1; exact ⟨h1, f1, q1, q2⟩
  have htys : ∀ b1, b1 ≠ s.next → s'.tys.get b1 = s.tys.get b1 := fun b1 hb1 => by rw [hs']; exact T.get_set_ne _ hb1 _
  have htyn : s'.tys.get s.next = some (match Nat.beq ((s.tys.get b).getD 0) ty with | true => ty | false => 0) := by rw [hs']; exact T.get_set_same _ _ _
  have hget : ∀ b1, b1 ≠ s.next → s'.heap.get b1 = s.heap.get b1 := fun b1 hb1 => by rw [hs']; exact T.get_set_ne _ hb1 _
  obtain ⟨r1, r2, r3, r4⟩ := setCells_rest bi.blk new' (off + bi.sh + old.length) w
  obtain ⟨C', k1, k2, k3⟩ := setCells_block bi.blk new' (off + bi.sh + old.length) w C e fr o3
  have hother := fun i hi => setCells_other bi.blk new' (off + bi.sh + old.length) w i hi
  refine ⟨run_storeCells_ev P o3 (by omega) (fun j hj => o5 j (by omega)) h1,
    ⟨⟨by rw [hs']; exact hJ, ?_, ?_, ?_, ?_, ?_, ?_, ?_, ?_, fun g i hg => (h.gl g i hg).imp fun e hh => hh.imp fun l hb => hext _ _ hb, setCells_below h.below o1 _ _, by rw [r4]; exact h.base⟩, hext, ?_, ?_, ?_, by rw [r4]; exact Nat.le_refl _, by rw [hs']; simp, by rw [hs']; exact touch_le _ _⟩⟩
  · intro b1 bi1 hb1
    rcases hcase b1 bi1 hb1 with ⟨rfl, rfl⟩ | ⟨hne, hb1⟩
    · exact ⟨by rw [r4]; exact (h.dom b bi hb).1, .inl ⟨_, hnew⟩⟩
    · obtain ⟨d1, d2⟩ := h.dom b1 bi1 hb1
      exact ⟨by rw [r4]; exact d1, by rw [hget _ hne]; exact d2⟩
  · intro b1 bi1 cs1 hb1 hr1
    rcases hcase b1 bi1 hb1 with ⟨rfl, rfl⟩ | ⟨hne, hb1⟩
    · have := (rd_own hnew hr1).1
      subst this
      refine ⟨C', e, fr, k1, fun i v hv => ?_⟩
      rw [k3]
      rw [List.getElem?_append] at hv
      split at hv
      · rename_i hi
        simp only
        rw [if_neg (by omega)]
        obtain ⟨v', hv', hvr⟩ := hcell _ v (s4 i v hv)
        exact ⟨v', by rw [show i + (off + bi.sh) = off + i + bi.sh by omega]; exact hv', hvr.mono hext⟩
      · rename_i hi
        obtain ⟨v', hv', hvr⟩ := hl.get hv
        have : i - old.length < new'.length := by
          rcases Nat.lt_or_ge (i - old.length) new'.length with g | g
          · exact g
          · rw [List.getElem?_eq_none g] at hv'; cases hv'
        simp only
        rw [if_pos (by omega)]
        exact ⟨v', by rw [show i + (off + bi.sh) - (off + bi.sh + old.length) = i - old.length by omega]; exact hv', hvr.mono hext⟩
    · rcases rd_change (b := s.next) (k := k) (by rw [hs']) (by rw [hs']) hne hr1 with ⟨k1', base1, e1, q1, q2⟩ | ⟨k1', base1, e1, q1, q2⟩
      · have hblk : bi1.blk ≠ bi.blk := fun hh => by have := (h.ro b1 bi1 _ _ _ _ hb1 q1).2; omega
        obtain ⟨C1, e1, fr1, y1, y2⟩ := h.rd b1 bi1 cs1 hb1 q2
        refine ⟨C1, e1, fr1, by rw [hother _ hblk]; exact y1, fun i v hv => ?_⟩
        obtain ⟨v', hv', hvr⟩ := y2 i v hv
        exact ⟨v', hv', hvr.mono hext⟩
      · rcases q2 with ⟨q2, q3⟩ | ⟨q2, q3⟩
        · have hblk : bi1.blk ≠ bi.blk := fun hh => q2 (h.fam b1 b bi1 bi _ _ _ _ _ _ _ _ hb1 hb hh q1 hg).1
          obtain ⟨C1, e1, fr1, y1, y2⟩ := h.rd b1 bi1 cs1 hb1 q3
          refine ⟨C1, e1, fr1, by rw [hother _ hblk]; exact y1, fun i v hv => ?_⟩
          obtain ⟨v', hv', hvr⟩ := y2 i v hv
          exact ⟨v', hv', hvr.mono hext⟩
        · subst q2
          have hlt1 := wf.lt b1 _ q1
          rcases hfl with rfl | ⟨rfl, rfl, hend, _⟩
          · omega
          · have q4 := rd_of q1 hf q3
            obtain ⟨C1, e1', fr1, y1, y2⟩ := h.rd b1 bi1 cs1 hb1 q4
            by_cases hblk : bi1.blk = bi.blk
            · have hfam := (h.fam b1 hd bi1 bi _ _ _ _ _ _ _ _ hb1 hb hblk q1 hg).2
              obtain ⟨_, x1, x2, x3, x4, x5, x6, _, _, x8⟩ := wf.fam b1 _ _ _ _ q1
              rw [hf] at x5; injection x5 with x5; injection x5 with x51 x52; subst x51 x52
              rw [hg] at x6; injection x6 with x6; injection x6 with x61 x62 x63; subst x61 x63
              have hle := x8 q3
              rw [hblk, o3] at y1; injection y1 with y1; injection y1 with z1 z2 z3; subst z1 z2 z3
              refine ⟨C', e, fr, by rw [hblk]; exact k1, fun i v hv => ?_⟩
              obtain ⟨v', hv', hvr⟩ := y2 i v hv
              have hi : i < cs1.length := by
                rcases Nat.lt_or_ge i cs1.length with g | g
                · exact g
                · rw [List.getElem?_eq_none g] at hv; cases hv
              rw [k3, if_neg (by omega)]
              exact ⟨v', hv', hvr.mono hext⟩
            · refine ⟨C1, e1', fr1, by rw [hother _ hblk]; exact y1, fun i v hv => ?_⟩
              obtain ⟨v', hv', hvr⟩ := y2 i v hv
              exact ⟨v', hv', hvr.mono hext⟩
  · intro b1 bi1 cs1 k1' base1 esz1 hb1 hg1
    rcases hcase b1 bi1 hb1 with ⟨rfl, rfl⟩ | ⟨hne, hb1⟩
    · rw [hnew] at hg1; injection hg1 with hg1; injection hg1 with z1 z2 z3 z4; subst z1 z2 z3 z4
      exact ⟨o1, o2, ⟨bk, hext _ _ hbk⟩, C', e, fr, k1, by simp only; omega, fun hz => by have := o6 (by omega); simp only; omega, fun t ht => o7 t (ty_of htyn ht).2, fun _ => o5⟩
    · rw [hget _ hne] at hg1
      obtain ⟨y1, y2, ⟨bk1, y3⟩, C1, e1, fr1, y4, y5, y7, y8, y6⟩ := h.own b1 bi1 _ _ _ _ hb1 hg1
      by_cases hblk : bi1.blk = bi.blk
      · rw [hblk, o3] at y4; injection y4 with y4; injection y4 with z1 z2 z3; subst z1 z2 z3
        exact ⟨y1, y2, ⟨bk1, hext _ _ y3⟩, C', e, fr, by rw [hblk]; exact k1, by omega, y7, by rw [htys _ hne]; exact y8, fun hh => y6 (halive _ hh)⟩
      · exact ⟨y1, y2, ⟨bk1, hext _ _ y3⟩, C1, e1, fr1, by rw [hother _ hblk]; exact y4, y5, y7, by rw [htys _ hne]; exact y8, fun hh => y6 (halive _ hh)⟩
  · intro b1 bi1 cs1 k1' base1 esz1 hb1 hg1
    rcases hcase b1 bi1 hb1 with ⟨rfl, rfl⟩ | ⟨hne, hb1⟩
    · rw [hnew] at hg1; injection hg1 with hg1; injection hg1 with z1 z2 z3 z4 z5; cases z5
    · rw [hget _ hne] at hg1; exact h.ro b1 bi1 _ _ _ _ hb1 hg1
  · intro b1 bi1 es hb1 hg1
    rcases hcase b1 bi1 hb1 with ⟨rfl, rfl⟩ | ⟨hne, hb1⟩
    · rw [hnew] at hg1; injection hg1 with hg1; cases hg1
    · rw [hget _ hne] at hg1
      obtain ⟨y1, ms, clock, y2, y3⟩ := h.map b1 bi1 es hb1 hg1
      have hblk : bi1.blk ≠ bi.blk := fun hh => by rw [hh, o3] at y2; injection y2 with y2; cases y2
      exact ⟨y1, ms, clock, by rw [hother _ hblk]; exact y2, y3.keys.mono hext, y3.vals.mono hext⟩
  · intro b1 b2 bi1 bi2 cs1 cs2 k1' k2' base1 base2 e1 e2 hb1 hb2 heq hg1 hg2
    rcases hcase b1 bi1 hb1 with ⟨rfl, rfl⟩ | ⟨hne1, hb1⟩ <;> rcases hcase b2 bi2 hb2 with ⟨rfl, rfl⟩ | ⟨hne2, hb2⟩
    · rw [hg1] at hg2; injection hg2 with hg2; injection hg2 with z1 z2 z3 z4; subst z2 z3; exact ⟨rfl, rfl⟩
    · rw [hnew] at hg1; injection hg1 with hg1; injection hg1 with z1 z2 z3 z4; subst z2 z3
      rw [hget _ hne2] at hg2
      have := h.fam b b2 bi bi2 _ _ _ _ _ _ _ _ hb hb2 heq hg hg2
      exact ⟨this.1, by simp only; omega⟩
    · rw [hnew] at hg2; injection hg2 with hg2; injection hg2 with z1 z2 z3 z4; subst z2 z3
      rw [hget _ hne1] at hg1
      have := h.fam b1 b bi1 bi _ _ _ _ _ _ _ _ hb1 hb heq hg1 hg
      exact ⟨this.1, by simp only; omega⟩
    · rw [hget _ hne1] at hg1; rw [hget _ hne2] at hg2
      exact h.fam b1 b2 bi1 bi2 _ _ _ _ _ _ _ _ hb1 hb2 heq hg1 hg2
  · intro b1 b2 bi1 bi2 es hb1 hb2 heq hg1
    rcases hcase b1 bi1 hb1 with ⟨rfl, rfl⟩ | ⟨hne1, hb1⟩
    · rw [hnew] at hg1; injection hg1 with hg1; cases hg1
    · rw [hget _ hne1] at hg1
      rcases hcase b2 bi2 hb2 with ⟨rfl, rfl⟩ | ⟨hne2, hb2⟩
      · obtain ⟨y1, ms, clock, y2, y3⟩ := h.map b1 bi1 es hb1 hg1
        simp only at heq
        rw [heq, o3] at y2; injection y2 with y2; cases y2
      · exact h.inj b1 b2 bi1 bi2 es hb1 hb2 heq hg1
  · intro b1 bi1 t pos hb1 hg1
    rcases hcase b1 bi1 hb1 with ⟨rfl, rfl⟩ | ⟨hne1, hb1⟩
    · rw [hnew] at hg1; injection hg1 with hg1; cases hg1
    · rw [hget _ hne1] at hg1
      obtain ⟨y1, y2, y3, y4⟩ := h.iter b1 bi1 t pos hb1 hg1
      have hbb : bi.blk ≠ bi1.blk := fun hh => by have := y4 b bi hb hh; subst this; rw [hg] at hg1; injection hg1 with hg1; cases hg1
      refine ⟨y1, y2, by rw [hother _ (fun hh => hbb hh.symm)]; exact y3, fun b2 bi2 hb2 heq => ?_⟩
      rcases hcase b2 bi2 hb2 with ⟨_, rfl⟩ | ⟨_, hb2⟩
      · exact absurd heq hbb
      · exact y4 b2 bi2 hb2 heq
  · intro b1 bi1 hb1
    rcases hcase b1 bi1 hb1 with ⟨rfl, rfl⟩ | ⟨hne1, hb1⟩
    · exact .inr ⟨Nat.le_refl _, by rw [hs']; exact Nat.lt_succ_self _, .inr ⟨b, bi, hb, by omega, rfl, by rw [hs']; exact Nat.le_trans (touch_le' _ _) hkb⟩⟩
    · exact .inl hb1
  · intro i _ hi; exact hother i (fun hh => hi b bi hb (by have := h.nx; have := wf.lt b _ hg; omega) hh.symm)
  · intro b1 hb1 hlt
    have e2 : b1 ≠ k := fun hh => by subst hh; rw [hbk] at hb1; cases hb1
    rw [hs']
    exact ⟨T.get_set_ne _ (by omega) _, T.get_set_ne _ e2 _⟩

/-- An append that takes a new block canonically: so it did in the machine. -/
theorem sim_extend_out {J B0 : Nat} {w0 : World} {β : B} {s s' : St} {w : World} (h : Rel J B0 w0 β s w) (wf : WF s) {b off ty : Nat} {cs old new : List Value} {C : Array Value} {bi : BI} (hb : β b = some bi)
    (hrd : s.rd b = some cs) (hw : s.extend b off old new ty = some s') (hl : ∀ (i : Nat) (v : Value), (old ++ new)[i]? = some v → ∃ v', C[i]? = some v' ∧ VR β v v') (hJ : s.next + 1 ≤ J) (e : TypeId) (hty : ∀ t, ty = t + 1 → e = t) :
    Step J B0 w0 β s w (upd β s.next ⟨w.heap.size, 0, bi.esz, C.size⟩) s' (w.alloc (.cells C e)) := by
  obtain ⟨cs0, k, base, esz, hd, fl, fl', hg, hf, hfl, hs'⟩ := extend_some hw
  obtain ⟨rfl, hd0, fl0, hf0, hflb⟩ := rd_own hg hrd
  rw [hf] at hf0; injection hf0 with hf0; injection hf0 with f1 f2; subst f1 f2
  obtain ⟨hkb, _⟩ := wf.fam b _ _ _ _ hg
  obtain ⟨o1, o2, ⟨bk, hbk⟩, _⟩ := h.own b bi _ _ _ _ hb hg
  have hflh : fl ≤ hd := by have := (wf.fam b _ _ _ _ hg).2; obtain ⟨x1, x2, x3, x4, x5, _, x7, _⟩ := this; rw [hf] at x5; injection x5 with x5; injection x5 with x51 x52; subst x51; omega
  have hbn := wf.lt b _ hg
  have hext := upd_ext h wf (by omega) ⟨w.heap.size, 0, bi.esz, C.size⟩
  have hcase : ∀ b1 bi1, upd β s.next ⟨w.heap.size, 0, bi.esz, C.size⟩ b1 = some bi1 → (b1 = s.next ∧ bi1 = ⟨w.heap.size, 0, bi.esz, C.size⟩) ∨ (b1 ≠ s.next ∧ β b1 = some bi1 ∧ bi1.blk < w.heap.size) := by
    intro b1 bi1 hb1
    by_cases e : b1 = s.next
    · subst e; rw [upd_same] at hb1; injection hb1 with hb1; exact .inl ⟨rfl, hb1.symm⟩
    · rw [upd_ne _ _ e] at hb1; exact .inr ⟨e, hb1, (h.dom _ _ hb1).1⟩
  have hnew : s'.heap.get s.next = some (.cells (old ++ new) k (base + off) esz true) := by rw [hs']; exact T.get_set_same _ _ _
  have halive : ∀ k1, (∃ h fl, s'.fams.get k1 = some (h, fl) ∧ fl ≤ h) → ∃ h fl, s.fams.get k1 = some (h, fl) ∧ fl ≤ h := by
    rintro k1 ⟨h1, f1, q1, q2⟩
    by_cases hk1 : k1 = k
    · subst hk1; exact ⟨hd, fl, hf, hflh⟩
    · rw [hs'] at q1; simp only at q1; rw [T.get_set_ne _ hk1] at q1; exact ⟨h1, f1, q1, q2⟩
  have htys : ∀ b1, b1 ≠ s.next → s'.tys.get b1 = s.tys.get b1 := fun b1 hb1 => by rw [hs']; exact T.get_set_ne _ hb1 _
  have htyn : s'.tys.get s.next = some (match Nat.beq ((s.tys.get b).getD 0) ty with | true => ty | false => 0) := by rw [hs']; exact T.get_set_same _ _ _
  have hget : ∀ b1, b1 ≠ s.next → s'.heap.get b1 = s.heap.get b1 := fun b1 hb1 => by rw [hs']; exact T.get_set_ne _ hb1 _
  refine ⟨⟨by rw [hs']; exact hJ, ?_, ?_, ?_, ?_, ?_, ?_, ?_, ?_, fun g i hg => (h.gl g i hg).imp fun e hh => hh.imp fun l hb => hext _ _ hb, h.below.alloc h.base _, by simp; have := h.base; omega⟩, hext, ?_, ?_, ?_, by simp, by rw [hs']; simp, by rw [hs']; exact touch_le _ _⟩
  · intro b1 bi1 hb1
    rcases hcase b1 bi1 hb1 with ⟨rfl, rfl⟩ | ⟨hne, hb1, hlt⟩
    · exact ⟨by simp, .inl ⟨_, hnew⟩⟩
    · obtain ⟨d1, d2⟩ := h.dom b1 bi1 hb1
      exact ⟨by simp; omega, by rw [hget _ hne]; exact d2⟩
  · intro b1 bi1 cs1 hb1 hr1
    rcases hcase b1 bi1 hb1 with ⟨rfl, rfl⟩ | ⟨hne, hb1, hlt⟩
    · have := (rd_own hnew hr1).1
      subst this
      refine ⟨C, e, (0, 0), heap_push_new _ _, fun i v hv => ?_⟩
      obtain ⟨v', hv', hvr⟩ := hl i v hv
      exact ⟨v', by simpa using hv', hvr.mono hext⟩
    · have hr0 : s.rd b1 = some cs1 := by
        rcases rd_change (b := s.next) (k := k) (by rw [hs']) (by rw [hs']) hne hr1 with ⟨k1', base1, e1, q1, q2⟩ | ⟨k1', base1, e1, q1, q2⟩
        · exact q2
        · rcases q2 with ⟨q2, q3⟩ | ⟨q2, q3⟩
          · exact q3
          · subst q2
            have hlt1 := wf.lt b1 _ q1
            rcases hfl with rfl | ⟨rfl, _⟩
            · omega
            · exact rd_of q1 hf q3
      obtain ⟨C1, e1, fr1, y1, y2⟩ := h.rd b1 bi1 cs1 hb1 hr0
      refine ⟨C1, e1, fr1, by rw [heap_push_old hlt]; exact y1, fun i v hv => ?_⟩
      obtain ⟨v', hv', hvr⟩ := y2 i v hv
      exact ⟨v', hv', hvr.mono hext⟩
  · intro b1 bi1 cs1 k1' base1 esz1 hb1 hg1
    rcases hcase b1 bi1 hb1 with ⟨rfl, rfl⟩ | ⟨hne, hb1, hlt⟩
    · rw [hnew] at hg1; injection hg1 with hg1; injection hg1 with z1 z2 z3 z4; subst z1 z2 z3 z4
      exact ⟨h.base, o2, ⟨bk, hext _ _ hbk⟩, C, e, (0, 0), heap_push_new _ _, rfl, fun _ => rfl, fun t ht => hty t (ty_of htyn ht).1, fun _ j _ => by simp⟩
    · rw [hget _ hne] at hg1
      obtain ⟨y1, y2, ⟨bk1, y3⟩, C1, e1, fr1, y4, y5, y7, y8, y6⟩ := h.own b1 bi1 _ _ _ _ hb1 hg1
      exact ⟨y1, y2, ⟨bk1, hext _ _ y3⟩, C1, e1, fr1, by rw [heap_push_old hlt]; exact y4, y5, y7, by rw [htys _ hne]; exact y8, fun hh => y6 (halive _ hh)⟩
  · intro b1 bi1 cs1 k1' base1 esz1 hb1 hg1
    rcases hcase b1 bi1 hb1 with ⟨rfl, rfl⟩ | ⟨hne, hb1, hlt⟩
    · rw [hnew] at hg1; injection hg1 with hg1; injection hg1 with z1 z2 z3 z4 z5; cases z5
    · rw [hget _ hne] at hg1; exact h.ro b1 bi1 _ _ _ _ hb1 hg1
  · intro b1 bi1 es hb1 hg1
    rcases hcase b1 bi1 hb1 with ⟨rfl, rfl⟩ | ⟨hne, hb1, hlt⟩
    · rw [hnew] at hg1; injection hg1 with hg1; cases hg1
    · rw [hget _ hne] at hg1
      obtain ⟨y1, ms, clock, y2, y3⟩ := h.map b1 bi1 es hb1 hg1
      exact ⟨y1, ms, clock, by rw [heap_push_old hlt]; exact y2, y3.keys.mono hext, y3.vals.mono hext⟩
  · intro b1 b2 bi1 bi2 cs1 cs2 k1' k2' base1 base2 e1 e2 hb1 hb2 heq hg1 hg2
    rcases hcase b1 bi1 hb1 with ⟨rfl, rfl⟩ | ⟨hne1, hb1, hlt1⟩ <;> rcases hcase b2 bi2 hb2 with ⟨rfl, rfl⟩ | ⟨hne2, hb2, hlt2⟩
    · rw [hg1] at hg2; injection hg2 with hg2; injection hg2 with z1 z2 z3 z4; subst z2 z3; exact ⟨rfl, rfl⟩
    · simp only at heq; omega
    · simp only at heq; omega
    · rw [hget _ hne1] at hg1; rw [hget _ hne2] at hg2
      exact h.fam b1 b2 bi1 bi2 _ _ _ _ _ _ _ _ hb1 hb2 heq hg1 hg2
  · intro b1 b2 bi1 bi2 es hb1 hb2 heq hg1
    rcases hcase b1 bi1 hb1 with ⟨rfl, rfl⟩ | ⟨hne1, hb1, hlt1⟩ <;> rcases hcase b2 bi2 hb2 with ⟨rfl, rfl⟩ | ⟨hne2, hb2, hlt2⟩
    · rfl
    · simp only at heq; omega
    · simp only at heq; omega
    · rw [hget _ hne1] at hg1
      exact h.inj b1 b2 bi1 bi2 es hb1 hb2 heq hg1
  · intro b1 bi1 t pos hb1 hg1
    rcases hcase b1 bi1 hb1 with ⟨rfl, rfl⟩ | ⟨hne1, hb1, hlt1⟩
    · rw [hnew] at hg1; injection hg1 with hg1; cases hg1
    · rw [hget _ hne1] at hg1
      obtain ⟨y1, y2, y3, y4⟩ := h.iter b1 bi1 t pos hb1 hg1
      refine ⟨y1, y2, by rw [heap_push_old hlt1]; exact y3, fun b2 bi2 hb2 heq => ?_⟩
      rcases hcase b2 bi2 hb2 with ⟨_, rfl⟩ | ⟨_, hb2, _⟩
      · simp only at heq; omega
      · exact y4 b2 bi2 hb2 heq
  · intro b1 bi1 hb1
    rcases hcase b1 bi1 hb1 with ⟨rfl, rfl⟩ | ⟨hne1, hb1, hlt⟩
    · exact .inr ⟨Nat.le_refl _, by rw [hs']; exact Nat.lt_succ_self _, .inl (Nat.le_refl _)⟩
    · exact .inl hb1
  · intro i hi _; exact heap_push_old hi
  · intro b1 hb1 hlt
    have e2 : b1 ≠ k := fun hh => by subst hh; rw [hbk] at hb1; cases hb1
    rw [hs']
    exact ⟨T.get_set_ne _ (by omega) _, T.get_set_ne _ e2 _⟩

/-- Cells of a family become a text. -/
theorem sim_seal {J B0 : Nat} {w0 : World} {β : B} {s s' : St} {w w' : World} (h : Rel J B0 w0 β s w) (wf : WF s) {b : Nat} {bi : BI} (hb : β b = some bi) (hw : s.sealB b = some s')
    (ho : w'.os = w.os) (ht : w'.tape = w.tape) (hou : w'.output = w.output) (hsz : w'.heap.size = w.heap.size) (hold : ∀ j, j ≠ bi.blk → w'.heap[j]? = w.heap[j]?)
    (hnw : ∀ C e fr, w.heap[bi.blk]? = some (.cells C e fr) → ∃ fr', w'.heap[bi.blk]? = some (.cells C e fr')) : Step J B0 w0 β s w β s' w' := by
  obtain ⟨cs, k, base, esz, fl, hg, hf, hfl0, hs'⟩ := seal_some hw
  have hkb := (wf.fam b _ _ _ _ hg).1
  obtain ⟨o1, o2, ⟨bk, hbk⟩, C, e, fr, o3, o4, o6, o7, o5'⟩ := h.own b bi _ _ _ _ hb hg
  obtain ⟨fr', hC'⟩ := hnw C e fr o3
  have hheap : s'.heap = s.heap := by rw [hs']
  have htys : s'.tys = s.tys := by rw [hs']
  have hfam : ∀ k1, k1 ≠ k → s'.fams.get k1 = s.fams.get k1 := fun k1 hk1 => by rw [hs']; exact T.get_set_ne _ hk1 _
  have hfamk : s'.fams.get k = some (b, b + 1) := by rw [hs']; exact T.get_set_same _ _ _
  have hmob : ∀ (i : Nat) (C1 : Array Value) (e1 : TypeId) (fr1 : Nat × Nat), w.heap[i]? = some (.cells C1 e1 fr1) → ∃ fr2, w'.heap[i]? = some (.cells C1 e1 fr2) := by
    intro i C1 e1 fr1 hi
    by_cases hib : i = bi.blk
    · subst hib; exact hnw C1 e1 fr1 hi
    · exact ⟨fr1, by rw [hold i hib]; exact hi⟩
  have hrd : ∀ b1 cs1, s'.rd b1 = some cs1 → s.rd b1 = some cs1 := by
    intro b1 cs1 hr
    obtain ⟨k1, base1, e1, own1, hg1⟩ := rd_cells hr
    rw [hheap] at hg1
    cases own1 with
    | false => unfold St.rd; rw [hg1]
    | true =>
      obtain ⟨_, h1, f1, q1, q2⟩ := rd_own (by rw [hheap]; exact hg1) hr
      by_cases hk1 : k1 = k
      · subst hk1
        rw [hfamk] at q1; injection q1 with q1; injection q1 with q1 q3
        obtain ⟨_, x1, x2, x3, x4, x5, x6, x7, _⟩ := wf.fam b1 _ _ _ _ hg1
        rw [hf] at x5; injection x5 with x5; injection x5 with x51 x52; subst x51
        omega
      · rw [hfam k1 hk1] at q1; exact rd_of hg1 q1 q2
  refine ⟨⟨by rw [hs']; exact h.nx, fun b1 bi1 hb1 => ?_, fun b1 bi1 cs1 hb1 hr1 => ?_, fun b1 bi1 cs1 k1 base1 esz1 hb1 hg1 => ?_, fun b1 bi1 cs1 k1 base1 esz1 hb1 hg1 => ?_, fun b1 bi1 es hb1 hg1 => ?_, fun b1 b2 bi1 bi2 cs1 cs2 k1 k2 base1 base2 e1 e2 hb1 hb2 heq hg1 hg2 => ?_, fun b1 b2 bi1 bi2 es hb1 hb2 heq hg1 => ?_, fun b1 bi1 t pos hb1 hg1 => ?_, h.gl,
    h.below.trans ⟨ho, ht, hou, by omega, fun j hj => hold j (by omega)⟩, by rw [hsz]; exact h.base⟩, fun _ _ hx => hx, fun _ _ hx => .inl hx, fun i _ hi => hold i (fun hh => hi b bi hb (by have := h.nx; have := wf.lt b _ hg; omega) hh.symm), fun b1 hb1 _ => ?_, by omega, by rw [hs']; exact Nat.le_refl _, by rw [hs']; exact touch_le _ _⟩
  · rw [hsz, hheap]; exact h.dom b1 bi1 hb1
  · obtain ⟨C1, e1, fr1, y1, y2⟩ := h.rd b1 bi1 cs1 hb1 (hrd b1 cs1 hr1)
    obtain ⟨fr2, y3⟩ := hmob _ _ _ _ y1
    exact ⟨C1, e1, fr2, y3, y2⟩
  · rw [hheap] at hg1
    obtain ⟨y1, y2, y3, C1, e1, fr1, y4, y5, y7, y8, y6⟩ := h.own b1 bi1 _ _ _ _ hb1 hg1
    by_cases hblk : bi1.blk = bi.blk
    · have hk1 := (h.fam b1 b bi1 bi _ _ _ _ _ _ _ _ hb1 hb hblk hg1 hg).1
      subst hk1
      obtain ⟨fr2, y9⟩ := hmob _ _ _ _ y4
      refine ⟨y1, y2, y3, C1, e1, fr2, y9, y5, y7, by rw [htys]; exact y8, fun hh => ?_⟩
      obtain ⟨h1, f1, q1, q2⟩ := hh
      rw [hfamk] at q1; injection q1 with q1; injection q1 with q1 q3
      omega
    · refine ⟨y1, y2, y3, C1, e1, fr1, by rw [hold _ hblk]; exact y4, y5, y7, by rw [htys]; exact y8, fun hh => y6 ?_⟩
      obtain ⟨h1, f1, q1, q2⟩ := hh
      by_cases hk1 : k1 = k
      · subst hk1
        rw [hfamk] at q1; injection q1 with q1; injection q1 with q1 q3
        omega
      · rw [hfam k1 hk1] at q1; exact ⟨h1, f1, q1, q2⟩
  · rw [hheap] at hg1; exact h.ro b1 bi1 _ _ _ _ hb1 hg1
  · rw [hheap] at hg1
    obtain ⟨y1, ms, clock, y2, y3⟩ := h.map b1 bi1 es hb1 hg1
    have hblk : bi1.blk ≠ bi.blk := fun hh => by rw [hh, o3] at y2; injection y2 with y2; cases y2
    exact ⟨y1, ms, clock, by rw [hold _ hblk]; exact y2, y3⟩
  · rw [hheap] at hg1 hg2
    exact h.fam b1 b2 bi1 bi2 _ _ _ _ _ _ _ _ hb1 hb2 heq hg1 hg2
  · rw [hheap] at hg1; exact h.inj b1 b2 bi1 bi2 es hb1 hb2 heq hg1
  · rw [hheap] at hg1
    obtain ⟨y1, y2, y3, y4⟩ := h.iter b1 bi1 t pos hb1 hg1
    have hblk : bi1.blk ≠ bi.blk := fun hh => by rw [hh, o3] at y3; injection y3 with y3; cases y3
    exact ⟨y1, y2, by rw [hold _ hblk]; exact y3, y4⟩
  · have e2 : b1 ≠ k := fun hh => by subst hh; rw [hbk] at hb1; cases hb1
    rw [hheap]
    exact ⟨rfl, hfam b1 e2⟩

end Go.Ev
