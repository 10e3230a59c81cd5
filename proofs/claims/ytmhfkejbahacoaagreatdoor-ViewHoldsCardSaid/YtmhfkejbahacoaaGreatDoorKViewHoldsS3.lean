/- Memory for the steps: families and their head blocks, what is kept, slices, bytes. No condition. -/
import Derived.Test.YtmhfkejbahacoaaGreatDoorKViewHoldsS2
noncomputable section
namespace Go.Ev
open Go.RowKit
set_option linter.unusedVariables false
variable [Lk]
set_option linter.unusedSectionVars false

/-- Family k, of the run's own: its head block, the cells. -/
structure Blk (s : St) (k b : Nat) (cs : List Value) (e : Nat) : Prop where
  ex : ∃ base fl, s.heap.get b = some (.cells cs k base e true) ∧ s.fams.get k = some (b, fl) ∧ fl ≤ b
/-- A block of the caller's: it is never written. -/
structure Ro (s : St) (b : Nat) (cs : List Value) (e : Nat) : Prop where
  ex : ∃ k base, s.heap.get b = some (.cells cs k base e false)
theorem Blk.rd {s : St} {k b e : Nat} {cs : List Value} (h : Blk s k b cs e) : s.rd b = some cs := by
  obtain ⟨base, fl, h1, h2, h3⟩ := h.ex
  exact rd_of h1 h2 h3
theorem Ro.rd {s : St} {b e : Nat} {cs : List Value} (h : Ro s b cs e) : s.rd b = some cs := by
  obtain ⟨k, base, h1⟩ := h.ex
  unfold St.rd; rw [h1]
theorem Blk.esz {s : St} {k b e : Nat} {cs : List Value} (h : Blk s k b cs e) : blkEsz s b = some e := by
  obtain ⟨base, fl, h1, h2, h3⟩ := h.ex
  unfold blkEsz; rw [h1]
theorem Ro.esz {s : St} {b e : Nat} {cs : List Value} (h : Ro s b cs e) : blkEsz s b = some e := by
  obtain ⟨k, base, h1⟩ := h.ex
  unfold blkEsz; rw [h1]
theorem Blk.lt {s : St} {k b e : Nat} {cs : List Value} (wf : WF s) (h : Blk s k b cs e) : k ≤ b ∧ b < s.next := by
  obtain ⟨base, fl, h1, h2, h3⟩ := h.ex
  exact ⟨(wf.fam b _ _ _ _ h1).1, wf.lt b _ h1⟩
theorem Ro.lt {s : St} {b e : Nat} {cs : List Value} (wf : WF s) (h : Ro s b cs e) : b < s.next := by
  obtain ⟨k, base, h1⟩ := h.ex
  exact wf.lt b _ h1
theorem Blk.inj {s : St} {k b b' e e' : Nat} {cs cs' : List Value} (h : Blk s k b cs e) (h' : Blk s k b' cs' e') : b = b' ∧ cs = cs' ∧ e = e' := by
  obtain ⟨base, fl, h1, h2, h3⟩ := h.ex
  obtain ⟨base', fl', h1', h2', h3'⟩ := h'.ex
  rw [h2] at h2'; injection h2' with h2'; injection h2' with g1 g2; subst g1
  rw [h1] at h1'; injection h1' with h1'; injection h1' with g3 g4 g5 g6 g7
  exact ⟨rfl, g3, g6⟩

/-- .. that begins its family, and of which it is known what its elements are in the machine: of type t. -/
structure Blt (s : St) (k : Nat) (cs : List Value) (e t : Nat) : Prop where
  ex : ∃ b fl, s.heap.get b = some (.cells cs k 0 e true) ∧ s.fams.get k = some (b, fl) ∧ fl ≤ b ∧ s.tys.get b = some (t + 1)
theorem Blt.lt {s : St} {k e t : Nat} {cs : List Value} (wf : WF s) (h : Blt s k cs e t) : k < s.next := by
  obtain ⟨b, fl, h1, h2, h3, h4⟩ := h.ex
  have := (wf.fam b _ _ _ _ h1).1
  have := wf.lt b _ h1
  omega
/-- An iterator over a text. -/
structure It (s : St) (b : Nat) (t : ByteArray) (pos : Nat) : Prop where
  ex : s.heap.get b = some (.iter t pos)
theorem It.lt {s : St} {b : Nat} {t : ByteArray} {pos : Nat} (wf : WF s) (h : It s b t pos) : b < s.next := wf.lt b _ h.ex
/-- A map. -/
structure Mp (s : St) (b : Nat) (es : List (Value × Value)) : Prop where
  ex : s.heap.get b = some (.map es)
theorem Mp.lt {s : St} {b : Nat} {es : List (Value × Value)} (wf : WF s) (h : Mp s b es) : b < s.next := wf.lt b _ h.ex
/-- What a step keeps: all families but those of X; those that it writes are at or above m wherever X is. -/
structure Kp (X : Nat → Prop) (s s' : St) : Prop where
  wf0 : WF s
  wf : WF s'
  next : s.next ≤ s'.next
  blk : ∀ k b cs e, ¬ X k → Blk s k b cs e → Blk s' k b cs e
  ro : ∀ b cs e, Ro s b cs e → Ro s' b cs e
  map : ∀ b es, ¬ X b → Mp s b es → Mp s' b es
  low : ∀ m, m ≤ s.low → m ≤ s.next → (∀ k, X k → k < s.next → m ≤ k) → m ≤ s'.low
  blt : ∀ k cs e t, ¬ X k → Blt s k cs e t → Blt s' k cs e t
  it : ∀ b t p, ¬ X b → It s b t p → It s' b t p
abbrev K0 : St → St → Prop := Kp fun _ => False
theorem Kp.refl {X : Nat → Prop} {s : St} (wf : WF s) : Kp X s s := ⟨wf, wf, Nat.le_refl _, fun _ _ _ _ _ h => h, fun _ _ _ h => h, fun _ _ _ h => h, fun _ h _ _ => h, fun _ _ _ _ _ h => h, fun _ _ _ _ h => h⟩
theorem Kp.trans {X Y : Nat → Prop} {a b c : St} (h : Kp X a b) (k : Kp Y b c) (hY : ∀ k, Y k → X k ∨ a.next ≤ k) : Kp X a c where
  wf0 := h.wf0
  wf := k.wf
  next := Nat.le_trans h.next k.next
  blk := fun j b' cs e hj hb => by
    have hlt := hb.lt h.wf0
    refine k.blk j b' cs e (fun hy => ?_) (h.blk j b' cs e hj hb)
    rcases hY j hy with g | g
    · exact hj g
    · omega
  ro := fun b' cs e hb => k.ro _ _ _ (h.ro _ _ _ hb)
  map := fun j es hj hb => by
    have hlt := hb.lt h.wf0
    refine k.map j es (fun hy => ?_) (h.map j es hj hb)
    rcases hY j hy with g | g
    · exact hj g
    · omega
  low := fun m h1 h2 h3 => k.low m (h.low m h1 h2 h3) (Nat.le_trans h2 h.next) (fun j hy hj => by
    rcases hY j hy with g | g
    · by_cases hja : j < a.next
      · exact h3 j g hja
      · omega
    · omega)
  blt := fun j cs e t hj hb => by
    have hlt := hb.lt h.wf0
    refine k.blt j cs e t (fun hy => ?_) (h.blt j cs e t hj hb)
    rcases hY j hy with g | g
    · exact hj g
    · omega
  it := fun j t p hj hb => by
    have hlt := hb.lt h.wf0
    refine k.it j t p (fun hy => ?_) (h.it j t p hj hb)
    rcases hY j hy with g | g
    · exact hj g
    · omega
theorem Kp.then0 {X : Nat → Prop} {a b c : St} (h : Kp X a b) (k : K0 b c) : Kp X a c := h.trans k fun _ h => h.elim
theorem K0.rst {s : St} (wf : WF s) : K0 s (Go.Ev.reset s) := ⟨wf, reset_wf wf, Nat.le_refl _, fun _ _ _ _ _ h => ⟨h.ex⟩, fun _ _ _ h => ⟨h.ex⟩, fun _ _ _ h => ⟨h.ex⟩, fun _ _ h _ => h, fun _ _ _ _ _ h => ⟨h.ex⟩, fun _ _ _ _ h => ⟨h.ex⟩⟩
theorem Kp.low_reset {X : Nat → Prop} {s s1 : St} (h : Kp X (reset s) s1) (hX : ∀ k, X k → s.next ≤ k) : s.next ≤ s1.low :=
  h.low s.next (Nat.le_refl _) (Nat.le_refl _) fun k hk _ => hX k hk
theorem new_kp {s : St} (wf : WF s) (cs : List Value) (e : Nat) {ty : Nat} : K0 s (s.new cs e ty) ∧ Blk (s.new cs e ty) s.next s.next cs e := by
  have hu := new_U wf cs e ty
  refine ⟨⟨wf, hu.wf, hu.next, fun k b cs' e' _ hb => ?_, fun b cs' e' hb => ?_, fun b es _ hb => ?_, fun m h1 _ _ => h1, fun k cs' e' t _ hb => ?_, fun b t p _ hb => ?_⟩, ⟨0, 0, by simp [St.new], by simp [St.new], Nat.zero_le _⟩⟩
  · have hlt := hb.lt wf
    obtain ⟨base, fl, h1, h2, h3⟩ := hb.ex
    exact ⟨base, fl, by simp only [St.new]; rw [T.get_set_ne _ (by omega)]; exact h1, by simp only [St.new]; rw [T.get_set_ne _ (by omega)]; exact h2, h3⟩
  · have hlt := hb.lt wf
    obtain ⟨k, base, h1⟩ := hb.ex
    exact ⟨k, base, by simp only [St.new]; rw [T.get_set_ne _ (by omega)]; exact h1⟩
  · have hlt := hb.lt wf
    exact ⟨by simp only [St.new]; rw [T.get_set_ne _ (by omega)]; exact hb.ex⟩
  · have hlt := hb.lt wf
    obtain ⟨b, fl, h1, h2, h3, h4⟩ := hb.ex
    have hb2 := wf.lt b _ h1
    exact ⟨b, fl, by simp only [St.new]; rw [T.get_set_ne _ (by omega)]; exact h1, by simp only [St.new]; rw [T.get_set_ne _ (by omega)]; exact h2, h3, by simp only [St.new]; rw [T.get_set_ne _ (by omega)]; exact h4⟩
  · have hlt := hb.lt wf
    exact ⟨by simp only [St.new]; rw [T.get_set_ne _ (by omega)]; exact hb.ex⟩
theorem touch_min (s : St) (k m : Nat) (h1 : m ≤ s.low) (h2 : m ≤ k) : m ≤ touch s k := by unfold touch; split <;> omega

theorem write_kp {s : St} (wf : WF s) {k b e off : Nat} {cs vs : List Value} (h : Blk s k b cs e) (hl : off + vs.length ≤ cs.length) :
    ∃ s', s.write b off vs = some s' ∧ Kp (fun j => j = k) s s' ∧ Blk s' k b (putAt cs off vs) e ∧ s'.next = s.next := by
  have hlt := h.lt wf
  obtain ⟨base, fl, h1, h2, h3⟩ := h.ex
  have hw : s.write b off vs = some { heap := s.heap.set b (.cells (putAt cs off vs) k base e true), fams := s.fams.set k (b, b), tys := s.tys, next := s.next, low := touch s k } := by
    unfold St.write
    simp only [h1, h2, Nat.beq_refl, Nat.ble_eq_true_of_le hl, Nat.ble_eq_true_of_le h3]
  refine ⟨_, hw, ⟨wf, (write_U wf hw).wf, Nat.le_refl _, fun j b' cs' e' hj hb => ?_, fun b' cs' e' hb => ?_, fun b' es _ hb => ?_, fun m g1 g2 g3 => ?_, fun j cs' e' t hj hb => ?_, fun b' t p _ hb => ?_⟩, ⟨base, b, by simp, by simp, Nat.le_refl _⟩, rfl⟩
  · obtain ⟨base', fl', g1, g2, g3⟩ := hb.ex
    have hbb : b' ≠ b := fun hh => by subst hh; rw [h1] at g1; injection g1 with g1; injection g1 with _ g1; exact hj g1.symm
    exact ⟨base', fl', by simp only; rw [T.get_set_ne _ hbb]; exact g1, by simp only; rw [T.get_set_ne _ hj]; exact g2, g3⟩
  · obtain ⟨k', base', g1⟩ := hb.ex
    have hbb : b' ≠ b := fun hh => by subst hh; rw [h1] at g1; injection g1 with g1; injection g1 with _ _ _ _ g1; cases g1
    exact ⟨k', base', by simp only; rw [T.get_set_ne _ hbb]; exact g1⟩
  · have g1 := hb.ex
    have hbb : b' ≠ b := fun hh => by subst hh; rw [h1] at g1; injection g1 with g1; cases g1
    exact ⟨by simp only; rw [T.get_set_ne _ hbb]; exact g1⟩
  · exact touch_min s k m g1 (g3 k rfl (by omega))
  · obtain ⟨b', fl', g1, g2, g3, g4⟩ := hb.ex
    have hbb : b' ≠ b := fun hh => by subst hh; rw [h1] at g1; injection g1 with g1; injection g1 with _ g1; exact hj g1.symm
    exact ⟨b', fl', by simp only; rw [T.get_set_ne _ hbb]; exact g1, by simp only; rw [T.get_set_ne _ hj]; exact g2, g3, g4⟩
  · have g1 := hb.ex
    have hbb : b' ≠ b := fun hh => by subst hh; rw [h1] at g1; injection g1 with g1; cases g1
    exact ⟨by simp only; rw [T.get_set_ne _ hbb]; exact g1⟩

theorem extend_kp {s : St} (wf : WF s) {k b e off ty : Nat} {cs : List Value} (h : Blk s k b cs e) (old new : List Value) :
    ∃ s', s.extend b off old new ty = some s' ∧ Kp (fun j => j = k) s s' ∧ Blk s' k s.next (old ++ new) e ∧ s'.next = s.next + 1 := by
  have hlt := h.lt wf
  obtain ⟨base, fl, h1, h2, h3⟩ := h.ex
  have hex : ∃ fl', fl' ≤ s.next ∧ s.extend b off old new ty = some { heap := s.heap.set s.next (.cells (old ++ new) k (base + off) e true), fams := s.fams.set k (s.next, fl'), tys := s.tys.set s.next (match Nat.beq ((s.tys.get b).getD 0) ty with | true => ty | false => 0), next := s.next + 1, low := touch s k } := by
    refine ⟨_, ?_, by unfold St.extend; simp only [h1, h2]; rfl⟩
    split <;> omega
  obtain ⟨fl', hfl, hw⟩ := hex
  refine ⟨_, hw, ⟨wf, (extend_U wf hw).wf, by simp, fun j b' cs' e' hj hb => ?_, fun b' cs' e' hb => ?_, fun b' es _ hb => ?_, fun m g1 g2 g3 => ?_, fun j cs' e' t hj hb => ?_, fun b' t p _ hb => ?_⟩, ⟨base + off, fl', by simp, by simp, hfl⟩, rfl⟩
  · have hlt' := hb.lt wf
    obtain ⟨base', fl', g1, g2, g3⟩ := hb.ex
    exact ⟨base', fl', by simp only; rw [T.get_set_ne _ (by omega)]; exact g1, by simp only; rw [T.get_set_ne _ hj]; exact g2, g3⟩
  · have hlt' := hb.lt wf
    obtain ⟨k', base', g1⟩ := hb.ex
    exact ⟨k', base', by simp only; rw [T.get_set_ne _ (by omega)]; exact g1⟩
  · have hlt' := hb.lt wf
    exact ⟨by simp only; rw [T.get_set_ne _ (by omega)]; exact hb.ex⟩
  · exact touch_min s k m g1 (g3 k rfl (by omega))
  · have hlt' := hb.lt wf
    obtain ⟨b', fl', g1, g2, g3, g4⟩ := hb.ex
    have hb2 := wf.lt b' _ g1
    exact ⟨b', fl', by simp only; rw [T.get_set_ne _ (by omega)]; exact g1, by simp only; rw [T.get_set_ne _ hj]; exact g2, g3, by simp only; rw [T.get_set_ne _ (by omega)]; exact g4⟩
  · have hlt' := hb.lt wf
    exact ⟨by simp only; rw [T.get_set_ne _ (by omega)]; exact hb.ex⟩
/-! ### slices -/
/-- The slice v is of n elements of e cells, 'cs' in all; it lies in family κ of the run's own, or in a block of the caller's. -/
structure Sl (s : St) (κ : Option Nat) (v : Value) (e n : Nat) (cs : List Value) : Prop where
  ex : (v = .slice none 0 0 ∧ n = 0 ∧ cs = [] ∧ κ = none) ∨ ∃ b off c C, v = .slice (some ⟨b, off, none⟩) n c ∧ n ≤ c ∧ cs.length = n * e ∧ sl C off (n * e) = some cs ∧
    ((∃ k, κ = some k ∧ Blk s k b C e) ∨ (κ = none ∧ Ro s b C e))
/-- The slice is all of its family's head. -/
structure Own (s : St) (k : Nat) (v : Value) (e n : Nat) (cs : List Value) : Prop where
  ex : ∃ b, v = .slice (some ⟨b, 0, none⟩) n n ∧ Blk s k b cs e ∧ cs.length = n * e
theorem sl_all {cs : List Value} {n : Nat} (h : cs.length = n) : sl cs 0 n = some cs := by
  unfold sl
  subst h
  simp
theorem Own.sl {s : St} {k e n : Nat} {v : Value} {cs : List Value} (h : Own s k v e n cs) : Sl s (some k) v e n cs := by
  obtain ⟨b, rfl, h1, h2⟩ := h.ex
  exact ⟨.inr ⟨b, 0, n, cs, rfl, Nat.le_refl _, h2, sl_all h2, .inl ⟨k, rfl, h1⟩⟩⟩
theorem Sl.shape {s : St} {κ : Option Nat} {v : Value} {e n : Nat} {cs : List Value} (h : Sl s κ v e n cs) : ∃ a c, v = .slice a n c := by
  rcases h.ex with ⟨rfl, rfl, rfl, rfl⟩ | ⟨b, off, c, C, rfl, _⟩
  · exact ⟨none, 0, rfl⟩
  · exact ⟨_, c, rfl⟩
theorem Sl.nil (s : St) (e : Nat) : Sl s none (.slice none 0 0) e 0 [] := ⟨.inl ⟨rfl, rfl, rfl, rfl⟩⟩
theorem Sl.length {s : St} {κ : Option Nat} {v : Value} {e n : Nat} {cs : List Value} (h : Sl s κ v e n cs) : cs.length = n * e := by
  rcases h.ex with ⟨_, rfl, rfl, _⟩ | ⟨b, off, c, C, _, _, h, _⟩
  · simp
  · exact h
theorem Sl.keep {X : Nat → Prop} {s s' : St} {κ : Option Nat} {v : Value} {e n : Nat} {cs : List Value} (h : Sl s κ v e n cs) (hk : Kp X s s') (hX : ∀ k, κ = some k → ¬ X k) : Sl s' κ v e n cs := by
  rcases h.ex with ⟨h1, h2, h3, h4⟩ | ⟨b, off, c, C, h1, h2, h3, h4, h5⟩
  · exact ⟨.inl ⟨h1, h2, h3, h4⟩⟩
  · refine ⟨.inr ⟨b, off, c, C, h1, h2, h3, h4, ?_⟩⟩
    rcases h5 with ⟨k, h5, h6⟩ | ⟨h5, h6⟩
    · exact .inl ⟨k, h5, hk.blk _ _ _ _ (hX k h5) h6⟩
    · exact .inr ⟨h5, hk.ro _ _ _ h6⟩
theorem Sl.keep0 {s s' : St} {κ : Option Nat} {v : Value} {e n : Nat} {cs : List Value} (h : Sl s κ v e n cs) (hk : K0 s s') : Sl s' κ v e n cs := h.keep hk fun _ _ h => h
theorem Own.keep {X : Nat → Prop} {s s' : St} {k e n : Nat} {v : Value} {cs : List Value} (h : Own s k v e n cs) (hk : Kp X s s') (hX : ¬ X k) : Own s' k v e n cs := by
  obtain ⟨b, rfl, h1, h2⟩ := h.ex
  exact ⟨b, rfl, hk.blk _ _ _ _ hX h1, h2⟩
theorem Own.lt {s : St} {k e n : Nat} {v : Value} {cs : List Value} (wf : WF s) (h : Own s k v e n cs) : k < s.next := by
  obtain ⟨b, rfl, h1, h2⟩ := h.ex
  have := h1.lt wf
  omega
/-- What is asked of a type of slices. -/
structure SlT (P : Program) (t et sz by_ : Nat) (z : Value) : Prop where
  hu : P.underlying t = some (.slice et)
  hi : ∃ i, P.info? et = some i ∧ i.size = sz ∧ i.bytes = by_ ∧ i.zero = some z
  hz : closedV 6 z = true
  hzs : z.cells.size = sz
  sz0 : 0 < sz
  by0 : 0 < by_

theorem bnd_nat {k : IntKind} {i y : Nat} (h : i ≤ y) : bnd (.int k (i : Int)) y = some i := by
  show (match Nat.ble i y with
    | true => some i
    | false => none) = some i
  rw [Nat.ble_eq_true_of_le h]

/-- A piece of a slice. 'lo', 'hi': bounds that are written, or not. -/
def bndV (k : IntKind) : Option Nat → Option Value
  | none => none
  | some i => some (.int k (i : Int))
theorem slice_sl {P : Program} {t et sz by_ : Nat} {z : Value} (T : SlT P t et sz by_ z) {s : St} {κ : Option Nat} {v : Value} {n : Nat} {cs : List Value} (h : Sl s κ v sz n cs) (k1 k2 : IntKind) (lo hi : Option Nat)
    (h1 : lo.getD 0 ≤ hi.getD n) (h2 : hi.getD n ≤ n) :
    ∃ v', evSliceMem P t v (bndV k1 lo) (bndV k2 hi) none s = some v' ∧ Sl s κ v' sz (hi.getD n - lo.getD 0) ((cs.drop (lo.getD 0 * sz)).take ((hi.getD n - lo.getD 0) * sz)) := by
  obtain ⟨i, hi1, hi2, hi3, hi4⟩ := T.hi
  have hb : ∀ c, n ≤ c → bnds n c (bndV k1 lo) (bndV k2 hi) none = some (lo.getD 0, hi.getD n, c) := by
    intro c hc
    unfold bnds
    cases lo <;> cases hi <;> simp only [bndV, Option.getD_none, Option.getD_some] at h1 h2 ⊢
    · rw [bnd_nat (Nat.le_trans h2 hc)]
    · rw [bnd_nat h1]
    · rw [bnd_nat (Nat.le_trans h2 hc)]; simp only; rw [bnd_nat h1]
  rcases h.ex with ⟨rfl, rfl, rfl, rfl⟩ | ⟨b, off, c, C, rfl, hc, hl, hs, hm⟩
  · have := hb 0 (Nat.le_refl _)
    refine ⟨.slice none 0 0, by unfold evSliceMem; rw [T.hu]; simp only [this, hi1], ?_⟩
    have e1 : hi.getD 0 - lo.getD 0 = 0 := by omega
    rw [e1]
    simpa using Sl.nil s sz
  · have hez : blkEsz s b = some sz := by
      rcases hm with ⟨k, _, hm⟩ | ⟨_, hm⟩
      · exact hm.esz
      · exact hm.esz
    refine ⟨.slice (some ⟨b, off + lo.getD 0 * sz, none⟩) (hi.getD n - lo.getD 0) (c - lo.getD 0), ?_, ⟨.inr ⟨b, off + lo.getD 0 * sz, c - lo.getD 0, C, rfl, by omega, ?_, ?_, hm⟩⟩⟩
    · unfold evSliceMem; rw [T.hu]; simp only [hi1, hez, hi2, Nat.beq_refl, hb c hc]
    · have : (hi.getD n - lo.getD 0) * sz ≤ n * sz - lo.getD 0 * sz := by rw [← Nat.sub_mul]; exact Nat.mul_le_mul_right _ (by omega)
      simp; omega
    · obtain ⟨g1, g2, g3, _⟩ := sl_some hs
      have hle : (hi.getD n - lo.getD 0) * sz ≤ n * sz - lo.getD 0 * sz := by rw [← Nat.sub_mul]; exact Nat.mul_le_mul_right _ (by omega)
      have e : (List.drop (off + lo.getD 0 * sz) C).take ((hi.getD n - lo.getD 0) * sz) = (cs.drop (lo.getD 0 * sz)).take ((hi.getD n - lo.getD 0) * sz) := by
        rw [g2, List.drop_take, List.drop_drop, List.take_take, Nat.min_eq_left hle]
      unfold Go.Ev.sl
      simp only [e]
      have : ((cs.drop (lo.getD 0 * sz)).take ((hi.getD n - lo.getD 0) * sz)).length = (hi.getD n - lo.getD 0) * sz := by simp; omega
      rw [this]; simp

/-- s[:len(s):len(s)] of a slice that is all of its head, or nil. -/
theorem clip_own {P : Program} {t et sz by_ : Nat} {z : Value} (T : SlT P t et sz by_ z) {s : St} {k : Nat} {v : Value} {n : Nat} {cs : List Value} (h : Own s k v sz n cs) (k1 k2 : IntKind) :
    evSliceMem P t v none (some (.int k1 (n : Int))) (some (.int k2 (n : Int))) s = some v := by
  obtain ⟨i, hi1, hi2, hi3, hi4⟩ := T.hi
  obtain ⟨b, rfl, h1, h2⟩ := h.ex
  have hb : bnds n n none (some (.int k1 (n : Int))) (some (.int k2 (n : Int))) = some (0, n, n) := by
    unfold bnds
    simp only [bnd_nat (Nat.le_refl n)]
  unfold evSliceMem; rw [T.hu]; simp only [hi1, h1.esz, hi2, Nat.beq_refl, hb]
  simp
theorem clip_nil {P : Program} {t et sz by_ : Nat} {z : Value} (T : SlT P t et sz by_ z) (s : St) (k1 k2 : IntKind) :
    evSliceMem P t (.slice none 0 0) none (some (.int k1 ((0 : Nat) : Int))) (some (.int k2 ((0 : Nat) : Int))) s = some (.slice none 0 0) := by
  obtain ⟨i, hi1, hi2, hi3, hi4⟩ := T.hi
  have hb : bnds 0 0 none (some (.int k1 ((0 : Nat) : Int))) (some (.int k2 ((0 : Nat) : Int))) = some (0, 0, 0) := by
    unfold bnds
    simp only [bnd_nat (Nat.le_refl 0)]
  unfold evSliceMem; rw [T.hu]; simp only [hb, hi1]

theorem blt_of {a b : Nat} (h : a < b) : Nat.blt a b = true := by rw [Nat.blt_eq]; exact h
/-! ### append -/
theorem elems_sl {s : St} {κ : Option Nat} {v : Value} {e n : Nat} {cs : List Value} (h : Sl s κ v e n cs) : elemsOf s e v = some (n, cs) := by
  rcases h.ex with ⟨rfl, rfl, rfl, rfl⟩ | ⟨b, off, c, C, rfl, hc, hl, hs, hm⟩
  · rfl
  · have hr : s.rd b = some C := by
      rcases hm with ⟨k, _, hm⟩ | ⟨_, hm⟩
      · exact hm.rd
      · exact hm.rd
    simp only [elemsOf, hr, hs]
theorem roomOk_of {need by_ : Nat} (h : (need + need / 4 + 1024) * by_ ≤ 281474976710656) (h0 : 0 < by_) : roomOk need by_ = true := by
  unfold roomOk
  have : (need + need / 4 + 1024) * 1 ≤ (need + need / 4 + 1024) * by_ := Nat.mul_le_mul_left _ h0
  simp only [Bool.and_eq_true]
  exact ⟨Nat.ble_eq_true_of_le (by omega), Nat.ble_eq_true_of_le h⟩
theorem append_own {P : Program} {t et sz by_ : Nat} {z : Value} (T : SlT P t et sz by_ z) {u : Nat} {d : TypeDesc} (hd : P.underlying u = some d) (hni : isIntDesc d = false) {s : St} (wf : WF s) {k : Nat} {v x : Value} {n m : Nat} {cs new : List Value}
    (h : Own s k v sz n cs) (hx : elemsOf s sz x = some (m, new)) (hl : new.length = m * sz) (h1 : new.all (·.oneCell') = true) (hr : (n + m + (n + m) / 4 + 1024) * by_ ≤ 281474976710656) :
    ∃ v' s', evAp P t u v x s = some (v', s') ∧ Own s' k v' sz (n + m) (cs ++ new) ∧ Kp (fun j => j = k) s s' := by
  obtain ⟨i, hi1, hi2, hi3, hi4⟩ := T.hi
  obtain ⟨b, rfl, hb, hlen⟩ := h.ex
  subst hi2 hi3
  by_cases hm : m = 0
  · subst hm
    have : new = [] := List.length_eq_zero_iff.1 (by simpa using hl)
    subst this
    refine ⟨.slice (some ⟨b, 0, none⟩) n n, s, ?_, ?_, .refl wf⟩
    · simp only [evAp, evAppend, T.hu, hd, hni, hi1, hi4, T.hz, T.hzs, Nat.beq_refl, blt_of T.sz0, blt_of T.by0, hx, h1, Nat.ble_eq_true_of_le (show n + 0 ≤ n by omega)]
    · simpa using h
  · obtain ⟨s', hw, hk, hb', hn⟩ := extend_kp (off := 0) (ty := et + 1) wf hb cs new
    refine ⟨.slice (some ⟨s.next, 0, none⟩) (n + m) (n + m), s', ?_, ⟨s.next, rfl, hb', by simp [hlen, hl, Nat.add_mul]⟩, hk⟩
    have e1 : sl cs 0 (n * i.size) = some cs := sl_all hlen
    simp only [evAp, evAppend, T.hu, hd, hni, hi1, hi4, T.hz, T.hzs, Nat.beq_refl, blt_of T.sz0, blt_of T.by0, hx, h1, ble_false (show n < n + m by omega), roomOk_of hr T.by0, hb.rd, hb.esz, e1, hw]
/-- The slice is the tail of its family's head. -/
structure OwnT (s : St) (k : Nat) (v : Value) (e n : Nat) (cs : List Value) : Prop where
  ex : ∃ b off C, v = .slice (some ⟨b, off, none⟩) n n ∧ Blk s k b C e ∧ cs.length = n * e ∧ off ≤ C.length ∧ C.drop off = cs
theorem sl_drop {C cs : List Value} {off n : Nat} (h : C.drop off = cs) (hl : cs.length = n) : Go.Ev.sl C off n = some cs := by
  unfold Go.Ev.sl
  rw [h, ← hl, List.take_length]
  simp
theorem OwnT.sl {s : St} {k e n : Nat} {v : Value} {cs : List Value} (h : OwnT s k v e n cs) : Sl s (some k) v e n cs := by
  obtain ⟨b, off, C, rfl, h1, h2, h3, h4⟩ := h.ex
  exact ⟨.inr ⟨b, off, n, C, rfl, Nat.le_refl _, h2, sl_drop h4 h2, .inl ⟨k, rfl, h1⟩⟩⟩
theorem append_nil {P : Program} {t et sz by_ : Nat} {z : Value} (T : SlT P t et sz by_ z) {u : Nat} {d : TypeDesc} (hd : P.underlying u = some d) (hni : isIntDesc d = false) {s : St} (wf : WF s) {x : Value} {m : Nat} {new : List Value}
    (hx : elemsOf s sz x = some (m, new)) (hl : new.length = m * sz) (h1 : new.all (·.oneCell') = true) (hr : (m + m / 4 + 1024) * by_ ≤ 281474976710656) (hm : m ≠ 0) :
    ∃ v' s', evAp P t u (.slice none 0 0) x s = some (v', s') ∧ Own s' s.next v' sz m new ∧ K0 s s' := by
  obtain ⟨i, hi1, hi2, hi3, hi4⟩ := T.hi
  subst hi2 hi3
  obtain ⟨g1, g2⟩ := new_kp wf new i.size
  refine ⟨.slice (some ⟨s.next, 0, none⟩) m m, s.new new i.size (et + 1), ?_, ⟨s.next, rfl, g2, hl⟩, g1⟩
  simp only [evAp, evAppend, T.hu, hd, hni, hi1, hi4, T.hz, T.hzs, Nat.beq_refl, blt_of T.sz0, blt_of T.by0, hx, h1, beq_no hm, roomOk_of hr T.by0]
theorem append_nil0 {P : Program} {t et sz by_ : Nat} {z : Value} (T : SlT P t et sz by_ z) {u : Nat} {d : TypeDesc} (hd : P.underlying u = some d) (hni : isIntDesc d = false) {s : St} {x : Value}
    (hx : elemsOf s sz x = some (0, [])) : evAp P t u (.slice none 0 0) x s = some (.slice none 0 0, s) := by
  obtain ⟨i, hi1, hi2, hi3, hi4⟩ := T.hi
  subst hi2 hi3
  simp only [evAp, evAppend, T.hu, hd, hni, hi1, hi4, T.hz, T.hzs, Nat.beq_refl, blt_of T.sz0, blt_of T.by0, hx, List.all_nil]

/-- A slice of the run's own, begun behind m; or nil. -/
structure OwnN (m : Nat) (s : St) (v : Value) (e n : Nat) (cs : List Value) : Prop where
  ex : (v = .slice none 0 0 ∧ n = 0 ∧ cs = []) ∨ ∃ k, m ≤ k ∧ k < s.next ∧ Own s k v e n cs
theorem Own.n {m : Nat} {s : St} {k e n : Nat} {v : Value} {cs : List Value} (wf : WF s) (h : Own s k v e n cs) (hm : m ≤ k) : OwnN m s v e n cs := ⟨.inr ⟨k, hm, h.lt wf, h⟩⟩
theorem OwnN.sl {m : Nat} {s : St} {e n : Nat} {v : Value} {cs : List Value} (h : OwnN m s v e n cs) : ∃ κ, Sl s κ v e n cs ∧ ∀ k, κ = some k → m ≤ k := by
  rcases h.ex with ⟨rfl, rfl, rfl⟩ | ⟨k, h1, h2, h3⟩
  · exact ⟨none, Sl.nil s e, fun k h => by cases h⟩
  · exact ⟨some k, h3.sl, fun j h => by injection h with h; omega⟩
theorem OwnN.own {m : Nat} {s : St} {e n : Nat} {v : Value} {cs : List Value} (h : OwnN m s v e n cs) (hn : n ≠ 0) : ∃ k, m ≤ k ∧ k < s.next ∧ Own s k v e n cs := by
  rcases h.ex with ⟨_, h, _⟩ | g
  · exact absurd h hn
  · exact g
theorem OwnN.shape {m : Nat} {s : St} {e n : Nat} {v : Value} {cs : List Value} (h : OwnN m s v e n cs) : ∃ a c, v = .slice a n c := by
  obtain ⟨κ, h, _⟩ := h.sl
  exact h.shape
theorem OwnN.mono {m m' : Nat} {s : St} {e n : Nat} {v : Value} {cs : List Value} (h : OwnN m s v e n cs) (hm : m' ≤ m) : OwnN m' s v e n cs := by
  rcases h.ex with g | ⟨k, h1, h2, h3⟩
  · exact ⟨.inl g⟩
  · exact ⟨.inr ⟨k, by omega, h2, h3⟩⟩
theorem OwnN.length {m : Nat} {s : St} {e n : Nat} {v : Value} {cs : List Value} (h : OwnN m s v e n cs) : cs.length = n * e := by
  obtain ⟨κ, h, _⟩ := h.sl
  exact h.length
theorem clip_ownN {P : Program} {t et sz by_ : Nat} {z : Value} (T : SlT P t et sz by_ z) {s : St} {b : Nat} {v : Value} {n : Nat} {cs : List Value} (h : OwnN b s v sz n cs) (k1 k2 : IntKind) :
    evSliceMem P t v none (some (.int k1 (n : Int))) (some (.int k2 (n : Int))) s = some v := by
  rcases h.ex with ⟨rfl, rfl, rfl⟩ | ⟨k, h2, h3, h4⟩
  · exact clip_nil T s k1 k2
  · exact clip_own T h4 k1 k2

/-- Is a type one cell, no struct, no array? -/
def scalarD : TypeDesc → Bool
  | .struct _ | .array _ _ => false
  | _ => true
theorem load_cell {P : Program} {t : TypeId} {d : TypeDesc} {i : TypeInfo} (hu : P.underlying t = some d) (hi : P.info? t = some i) (hd : scalarD d = true) {s : St} {b off : Nat} {C : List Value} {v : Value} (hr : s.rd b = some C) (hv : C[off]? = some v) :
    evLoad P t (.pointer (some ⟨b, off, none⟩)) s = some v := by
  have hs : sl C off 1 = some [v] := by
    unfold sl
    obtain ⟨h1, h2⟩ := List.getElem?_eq_some_iff.1 hv
    have : (C.drop off).take 1 = [v] := by
      rw [List.drop_eq_getElem_cons h1]
      simp [h2]
    simp only [this]; rfl
  unfold evLoad
  simp only [hr, hu, hi]
  cases d <;> first | (simp [scalarD] at hd; done) | simp only [hs]
theorem index_sl {P : Program} {t et by_ : Nat} {z : Value} (T : SlT P t et 1 by_ z) {d : TypeDesc} (hu : P.underlying et = some d) (hd : scalarD d = true) {s : St} {κ : Option Nat} {v : Value} {n i : Nat} {cs : List Value} (h : Sl s κ v 1 n cs) (k : IntKind) (hi : i < n) :
    ∃ p x, evIndexAddr P t v (.int k (i : Int)) = some p ∧ cs[i]? = some x ∧ evLoad P et p s = some x ∧ ∃ a, p = .pointer (some a) := by
  obtain ⟨j, hi1, hi2, hi3, hi4⟩ := T.hi
  rcases h.ex with ⟨rfl, rfl, rfl, rfl⟩ | ⟨b, off, c, C, rfl, hc, hl, hs, hm⟩
  · omega
  · have hr : s.rd b = some C := by
      rcases hm with ⟨k, _, hm⟩ | ⟨_, hm⟩
      · exact hm.rd
      · exact hm.rd
    have hlt : i < cs.length := by omega
    refine ⟨.pointer (some ⟨b, off + i * 1, none⟩), cs[i], ?_, by simp [hlt], ?_, _, rfl⟩
    · show (match P.underlying t, Value.slice (some ⟨b, off, none⟩) n c, Value.int k (.ofNat i) with
        | some (.slice e), .slice (some a) n _, .int _ (.ofNat i) => match Nat.blt i n, P.info? e with
          | true, some j => some (Value.pointer (some ⟨a.block, a.off + i * j.size, none⟩))
          | _, _ => none
        | some (.array n e), .pointer (some a), .int _ (.ofNat i) => match Nat.blt i n, P.info? e with
          | true, some j => some (Value.pointer (some ⟨a.block, a.off + i * j.size, none⟩))
          | _, _ => none
        | _, _, _ => none) = _
      rw [T.hu]
      simp only [blt_of hi, hi1, hi2]
    · refine load_cell hu hi1 hd hr ?_
      rw [Nat.mul_one]
      exact (sl_some hs).2.2.2 i _ (by simp [hlt])
theorem buildSlice0 {P : Program} {t et sz by_ : Nat} {z : Value} (T : SlT P t et sz by_ z) {s : St} (wf : WF s) :
    ∃ v' s', evBuildSlice P t 0 [] s = some (v', s') ∧ Own s' s.next v' sz 0 [] ∧ K0 s s' := by
  obtain ⟨i, hi1, hi2, hi3, hi4⟩ := T.hi
  obtain ⟨g1, g2⟩ := new_kp wf [] sz
  refine ⟨.slice (some ⟨s.next, 0, none⟩) 0 0, s.new [] sz (et + 1), ?_, ⟨s.next, rfl, g2, by simp⟩, g1⟩
  have e0 : Nat.ble (0 * i.size) 16777216 = true := Nat.ble_eq_true_of_le (by omega)
  have e1 : zeros z.cells.toList (0 * i.size) = [] := by rw [Nat.zero_mul]; rfl
  simp only [evBuildSlice, T.hu, hi1, hi4, T.hz, T.hzs, ← hi2, Nat.beq_refl, blt_of (hi2 ▸ T.sz0), e0, e1, fillL]
/-- A slice of one element, of one cell. -/
theorem buildSlice1 {P : Program} {t et by_ : Nat} {z : Value} (T : SlT P t et 1 by_ z) {s : St} (wf : WF s) {x : Value} (hx : x.cells = #[x]) :
    ∃ v' s', evBuildSlice P t 1 [(0, x)] s = some (v', s') ∧ Own s' s.next v' 1 1 [x] ∧ K0 s s' := by
  obtain ⟨i, hi1, hi2, hi3, hi4⟩ := T.hi
  obtain ⟨g1, g2⟩ := new_kp wf [x] 1
  refine ⟨.slice (some ⟨s.next, 0, none⟩) 1 1, s.new [x] 1 (et + 1), ?_, ⟨s.next, rfl, g2, by simp⟩, g1⟩
  have e1 : zeros z.cells.toList 1 = [z.cells.toList.getD 0 undef] := by
    have := T.hzs
    simp [zeros, List.range_succ, this]
  simp only [evBuildSlice, T.hu, hi1, hi4, T.hz, T.hzs, hi2, Nat.beq_refl, Nat.mul_one, e1, fillL, hx]
  rfl

/-! ### stores, copies -/
theorem putAt_one {C : List Value} {off : Nat} (v : Value) (h : off < C.length) : putAt C off [v] = C.set off v := by
  unfold putAt
  rw [List.set_eq_take_append_cons_drop, if_pos h]
  simp
theorem store_cell {P : Program} {t : TypeId} {i : TypeInfo} (hi : P.info? t = some i) (hs : i.size = 1) {s : St} (wf : WF s) {k b e off : Nat} {C : List Value} {v : Value} (h : Blk s k b C e) (ho : off < C.length) (hv : v.cells = #[v]) (h1 : v.oneCell' = true) :
    ∃ s', evStore P t (.pointer (some ⟨b, off, none⟩)) v s = some s' ∧ Kp (fun j => j = k) s s' ∧ Blk s' k b (C.set off v) e := by
  obtain ⟨s', g1, g2, g3, _⟩ := write_kp (off := off) (vs := [v]) wf h (by simp; omega)
  rw [putAt_one v ho] at g3
  refine ⟨s', ?_, g2, g3⟩
  simp only [evStore, hi, hv, hs]
  simpa [h1] using g1
theorem putAt_all {C vs : List Value} (h : vs.length = C.length) : putAt C 0 vs = vs := by
  unfold putAt
  rw [Nat.zero_add, h, List.drop_length]
  simp
/-- A cell of an element of a slice of the run's own. -/
theorem Own.at {P : Program} {t et sz by_ : Nat} {z : Value} (T : SlT P t et sz by_ z) {s : St} (wf : WF s) {k : Nat} {v : Value} {n i j : Nat} {cs : List Value} (h : Own s k v sz n cs) (k1 : IntKind) (hi : i < n) (hj : j < sz) :
    ∃ b, evIndexAddr P t v (.int k1 (i : Int)) = some (.pointer (some ⟨b, 0 + i * sz, none⟩)) ∧ s.rd b = some cs ∧
      ∀ {t' : TypeId} {i' : TypeInfo} (x : Value), P.info? t' = some i' → i'.size = 1 → x.cells = #[x] → x.oneCell' = true → ∃ s', evStore P t' (.pointer (some ⟨b, 0 + i * sz + j, none⟩)) x s = some s' ∧ Kp (fun j => j = k) s s' ∧ Own s' k v sz n (cs.set (i * sz + j) x) := by
  obtain ⟨q, hi1, hi2, hi3, hi4⟩ := T.hi
  obtain ⟨b, rfl, h1, h2⟩ := h.ex
  have hle : i * sz + sz ≤ n * sz := by
    have : (i + 1) * sz ≤ n * sz := Nat.mul_le_mul_right _ hi
    rw [Nat.add_mul, Nat.one_mul] at this; exact this
  refine ⟨b, ?_, h1.rd, ?_⟩
  · show (match P.underlying t, Value.slice (some ⟨b, 0, none⟩) n n, Value.int k1 (.ofNat i) with
      | some (.slice e), .slice (some a) n _, .int _ (.ofNat i) => match Nat.blt i n, P.info? e with
        | true, some j => some (Value.pointer (some ⟨a.block, a.off + i * j.size, none⟩))
        | _, _ => none
      | some (.array n e), .pointer (some a), .int _ (.ofNat i) => match Nat.blt i n, P.info? e with
        | true, some j => some (Value.pointer (some ⟨a.block, a.off + i * j.size, none⟩))
        | _, _ => none
      | _, _, _ => none) = _
    rw [T.hu]
    simp only [blt_of hi, hi1, hi2]
  · intro t' i' x g1 g2 g3 g4
    obtain ⟨s', e1, e2, e3⟩ := store_cell (off := i * sz + j) g1 g2 wf h1 (by omega) g3 g4
    refine ⟨s', ?_, e2, b, rfl, e3, by simpa using h2⟩
    rw [Nat.zero_add]; exact e1
/-! ### bytes -/
theorem byteVals_length (l : List UInt8) : (byteVals l).length = l.length := by simp [byteVals]
/-- A slice of bytes. -/
abbrev Sb (s : St) (κ : Option Nat) (v : Value) (l : List UInt8) : Prop := Sl s κ v 1 l.length (byteVals l)
abbrev Ob (m : Nat) (s : St) (v : Value) (l : List UInt8) : Prop := OwnN m s v 1 l.length (byteVals l)
theorem Ob.of {m n : Nat} {s : St} {v : Value} {l : List UInt8} (h : OwnN m s v 1 n (byteVals l)) : Ob m s v l := by
  have := h.length
  rw [byteVals_length, Nat.mul_one] at this
  subst this; exact h
theorem Sb.of {n : Nat} {s : St} {κ : Option Nat} {v : Value} {l : List UInt8} (h : Sl s κ v 1 n (byteVals l)) : Sb s κ v l := by
  have := h.length
  rw [byteVals_length, Nat.mul_one] at this
  subst this; exact h
theorem zeros_one (v : Value) (n : Nat) : zeros [v] n = List.replicate n v := by
  unfold zeros
  apply List.ext_getElem
  · simp
  · intro i h1 h2
    simp [Nat.mod_one]
theorem make_one {P : Program} {t et by_ : Nat} {z : Value} (T : SlT P t et 1 by_ z) {s : St} (wf : WF s) (hz : z.cells = #[z]) (k1 k2 : IntKind) {n : Nat} (hn : by_ * n ≤ 281474976710656) :
    ∃ v' s', evMakeSlice P t (.int k1 (n : Int)) (.int k2 (n : Int)) s = some (v', s') ∧ Own s' s.next v' 1 n (List.replicate n z) ∧ K0 s s' := by
  obtain ⟨i, hi1, hi2, hi3, hi4⟩ := T.hi
  obtain ⟨g1, g2⟩ := new_kp wf (List.replicate n z) 1
  have hn2 : n ≤ 281474976710656 := by
    have : 1 * n ≤ by_ * n := Nat.mul_le_mul_right _ T.by0
    omega
  refine ⟨.slice (some ⟨s.next, 0, none⟩) n n, s.new (List.replicate n z) 1 (et + 1), ?_, ⟨s.next, rfl, g2, by simp⟩, g1⟩
  have e1 : zeros z.cells.toList (n * 1) = List.replicate n z := by rw [hz, Nat.mul_one]; exact zeros_one z n
  show (match P.underlying t, Value.int k1 (.ofNat n), Value.int k2 (.ofNat n) with
    | some (.slice e), .int _ (.ofNat l), .int _ (.ofNat c) => match P.info? e with
      | some i => match i.zero with
        | some z => match closedV 6 z, Nat.beq z.cells.size i.size, Nat.blt 0 i.size, Nat.ble l c, Nat.ble c 281474976710656, Nat.ble (i.bytes * c) 281474976710656 with
          | true, true, true, true, true, true => some (Value.slice (some ⟨s.next, 0, none⟩) l c, s.new (zeros z.cells.toList (c * i.size)) i.size (e + 1))
          | _, _, _, _, _, _ => none
        | none => none
      | none => none
    | _, _, _ => none) = _
  rw [T.hu]
  simp only [hi1, hi4, T.hz, T.hzs, hi2, hi3, Nat.beq_refl, Nat.ble_eq_true_of_le hn2, Nat.ble_eq_true_of_le hn, Nat.ble_eq_true_of_le (Nat.le_refl n), e1, blt_of (show 0 < 1 by omega)]
/-! ### texts -/
theorem bs_mk (l : List UInt8) : bs ⟨l.toArray⟩ = l := rfl
theorem str_eq {P : Program} {t : TypeId} {c : Bool} (a b : ByteArray) : evBin P .eql t c (.string a) (.string b) = some (.bool (bs a == bs b)) := rfl
theorem str_ne {P : Program} {t : TypeId} {c : Bool} (a b : ByteArray) : evBin P .neq t c (.string a) (.string b) = some (.bool (!(bs a == bs b))) := rfl
theorem str_add {P : Program} {t : TypeId} {c : Bool} (a b : ByteArray) (h : (bs a).length + (bs b).length ≤ 281474976710656) : evBin P .add t c (.string a) (.string b) = some (.string ⟨(bs a ++ bs b).toArray⟩) := by
  show (match Nat.ble ((bs a).length + (bs b).length) 281474976710656 with
    | true => some (Value.string ⟨((bs a) ++ (bs b)).toArray⟩)
    | false => none) = _
  rw [Nat.ble_eq_true_of_le h]
end Go.Ev
