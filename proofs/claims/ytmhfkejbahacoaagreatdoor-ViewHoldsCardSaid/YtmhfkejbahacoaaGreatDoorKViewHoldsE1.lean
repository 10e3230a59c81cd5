/- A proved evaluator, part 1: tries, the canonical state, how canonical values and memory stand to the machine's. No condition. -/
import Derived.Below
import Derived.Orders
import Derived.Tactics
import Derived.Laws.Sem
import Derived.Laws.World
noncomputable section
namespace Go.Ev
set_option linter.unusedVariables false

inductive T (α : Type) where
  | nil : T α
  | node (v : Option α) (l r : T α) : T α

namespace T
variable {α : Type}
noncomputable def get (t : T α) : Nat → Option α :=
  T.rec (motive := fun _ => Nat → Option α) (fun _ => none)
    (fun v _ _ gl gr n => Nat.casesOn (motive := fun _ => Option α) n v (fun m => Nat.casesOn (motive := fun _ => Option α) (m % 2) (gl (m / 2)) (fun _ => gr (m / 2)))) t
def val : T α → Option α
  | .nil => none
  | .node v _ _ => v
def lef : T α → T α
  | .nil => .nil
  | .node _ l _ => l
def rig : T α → T α
  | .nil => .nil
  | .node _ _ r => r
noncomputable def setF (f : Nat) : T α → Nat → α → T α :=
  Nat.rec (motive := fun _ => T α → Nat → α → T α) (fun t _ _ => t)
    (fun _ ih t n x => T.casesOn (motive := fun _ => T α) t
      (Nat.casesOn (motive := fun _ => T α) n (.node (some x) .nil .nil) (fun m => Nat.casesOn (motive := fun _ => T α) (m % 2) (.node none (ih .nil (m / 2) x) .nil) (fun _ => .node none .nil (ih .nil (m / 2) x))))
      (fun v l r => Nat.casesOn (motive := fun _ => T α) n (.node (some x) l r) (fun m => Nat.casesOn (motive := fun _ => T α) (m % 2) (.node v (ih l (m / 2) x) r) (fun _ => .node v l (ih r (m / 2) x))))) f
noncomputable def set (t : T α) (n : Nat) (x : α) : T α := setF (n + 1) t n x
theorem get_zero (t : T α) : t.get 0 = t.val := by cases t <;> rfl
theorem get_succ (t : T α) (m : Nat) : t.get (m + 1) = if m % 2 = 0 then t.lef.get (m / 2) else t.rig.get (m / 2) := by
  cases t with
  | nil => simp only [lef, rig]; split <;> rfl
  | node v l r =>
    show Nat.casesOn (motive := fun _ => Option α) (m % 2) (l.get (m / 2)) (fun _ => r.get (m / 2)) = _
    simp only [lef, rig]
    rcases Nat.mod_two_eq_zero_or_one m with h | h <;> rw [h] <;> rfl
theorem setF_zero (f : Nat) (t : T α) (x : α) : setF (f + 1) t 0 x = .node (some x) t.lef t.rig := by cases t <;> rfl
theorem setF_succ (f : Nat) (t : T α) (m : Nat) (x : α) : setF (f + 1) t (m + 1) x = if m % 2 = 0 then .node t.val (setF f t.lef (m / 2) x) t.rig else .node t.val t.lef (setF f t.rig (m / 2) x) := by
  cases t with
  | nil =>
    show Nat.casesOn (motive := fun _ => T α) (m % 2) (.node none (setF f .nil (m / 2) x) .nil) (fun _ => .node none .nil (setF f .nil (m / 2) x)) = _
    rcases Nat.mod_two_eq_zero_or_one m with h | h <;> rw [h] <;> rfl
  | node v l r =>
    show Nat.casesOn (motive := fun _ => T α) (m % 2) (.node v (setF f l (m / 2) x) r) (fun _ => .node v l (setF f r (m / 2) x)) = _
    rcases Nat.mod_two_eq_zero_or_one m with h | h <;> rw [h] <;> rfl
theorem setF_get (x : α) : ∀ (f : Nat) (t : T α) (n : Nat), n < f → ∀ k, (setF f t n x).get k = if k = n then some x else t.get k
  | 0, _, _, h, _ => absurd h (Nat.not_lt_zero _)
  | f + 1, t, 0, _, k => by
    rw [setF_zero]
    cases k with
    | zero => simp [get_zero, val]
    | succ k => rw [get_succ, get_succ]; simp [lef, rig]
  | f + 1, t, m + 1, h, k => by
    have hm : m / 2 < f := by omega
    rw [setF_succ]
    cases k with
    | zero =>
      rw [get_zero, get_zero]
      rcases Nat.mod_two_eq_zero_or_one m with h2 | h2 <;> simp [h2, val]
    | succ k =>
      rw [get_succ, get_succ]
      rcases Nat.mod_two_eq_zero_or_one m with h2 | h2 <;> rcases Nat.mod_two_eq_zero_or_one k with h3 | h3 <;>
        simp [h2, h3, lef, rig, setF_get x f _ _ hm]
      · have : (k / 2 = m / 2) ↔ (k = m) := by omega
        simp [this]
      · omega
      · omega
      · have : (k / 2 = m / 2) ↔ (k = m) := by omega
        simp [this]
theorem get_set (t : T α) (n : Nat) (x : α) (k : Nat) : (t.set n x).get k = if k = n then some x else t.get k :=
  setF_get x _ t n (Nat.lt_succ_self n) k
@[simp] theorem get_set_same (t : T α) (n : Nat) (x : α) : (t.set n x).get n = some x := by simp [get_set]
theorem get_set_ne (t : T α) {n k : Nat} (h : k ≠ n) (x : α) : (t.set n x).get k = t.get k := by simp [get_set, h]
@[simp] theorem get_nil (n : Nat) : (T.nil : T α).get n = none := rfl
end T

/-- A canonical block: cells (which ones, its family, where it begins in it, cells of an element, whether the call may write it), or a map. -/
inductive CB where
  | cells (cs : List Value) (fam base esz : Nat) (own : Bool)
  | map (es : List (Value × Value))
  | iter (t : ByteArray) (pos : Nat)

/-- 'tys': of which type a block's elements are in the machine, and one more; 0: not known. -/
structure St where
  heap : T CB
  fams : T (Nat × Nat)
  tys : T Nat
  next : Nat
  low : Nat

def touch (s : St) (k : Nat) : Nat := if k < s.low then k else s.low

/-- The cells of a block that may be read. -/
def St.rd (s : St) (b : Nat) : Option (List Value) :=
  match s.heap.get b with
  | some (.cells cs k _ _ own) => match own with
    | true => match s.fams.get k with
      | some (_, fl) => match Nat.ble fl b with
        | true => some cs
        | false => none
      | none => none
    | false => some cs
  | _ => none

/-- A new block of its own family. -/
def St.new (s : St) (cs : List Value) (esz : Nat) (ty : Nat := 0) : St :=
  { heap := s.heap.set s.next (.cells cs s.next 0 esz true), fams := s.fams.set s.next (s.next, 0), tys := s.tys.set s.next ty, next := s.next + 1, low := s.low }
def St.newMap (s : St) (es : List (Value × Value)) : St :=
  { heap := s.heap.set s.next (.map es), fams := s.fams, tys := s.tys, next := s.next + 1, low := s.low }
def St.newIter (s : St) (t : ByteArray) (pos : Nat) : St :=
  { heap := s.heap.set s.next (.iter t pos), fams := s.fams, tys := s.tys, next := s.next + 1, low := s.low }
def putAt (cs : List Value) (off : Nat) (vs : List Value) : List Value := cs.take off ++ vs ++ cs.drop (off + vs.length)
/-- Cells of a block that is the head of its family are written; elder ones of the family are dead from here on. -/
def St.write (s : St) (b off : Nat) (vs : List Value) : Option St :=
  match s.heap.get b with
  | some (.cells cs k base esz true) => match s.fams.get k with
    | some (h, fl) => match Nat.beq h b, Nat.ble (off + vs.length) cs.length, Nat.ble fl b with
      | true, true, true => some { heap := s.heap.set b (.cells (putAt cs off vs) k base esz true), fams := s.fams.set k (b, b), tys := s.tys, next := s.next, low := touch s k }
      | _, _, _ => none
    | none => none
  | _ => none
def St.setMap (s : St) (b : Nat) (es : List (Value × Value)) : Option St :=
  match s.heap.get b with
  | some (.map _) => some { heap := s.heap.set b (.map es), fams := s.fams, tys := s.tys, next := s.next, low := touch s b }
  | _ => none
def St.setIter (s : St) (b : Nat) (t : ByteArray) (pos : Nat) : Option St :=
  match s.heap.get b with
  | some (.iter _ _) => some { heap := s.heap.set b (.iter t pos), fams := s.fams, tys := s.tys, next := s.next, low := touch s b }
  | _ => none
/-- A family is dead from here on: its cells became a text. -/
def St.sealB (s : St) (b : Nat) : Option St :=
  match s.heap.get b with
  | some (.cells _ k _ _ true) => match s.fams.get k with
    | some (h, fl) => match Nat.beq h b, Nat.ble fl b with
      | true, true => some { heap := s.heap, fams := s.fams.set k (b, b + 1), tys := s.tys, next := s.next, low := touch s k }
      | _, _ => none
    | none => none
  | _ => none
/-- Behind an append that takes a new block: 'old' is what stood there; the new block belongs to the family of the block that was appended to. -/
def St.extend (s : St) (b off : Nat) (old new : List Value) (ty : Nat := 0) : Option St :=
  match s.heap.get b with
  | some (.cells cs k base esz true) => match s.fams.get k with
    | some (h, fl) =>
      let keep : Bool := Nat.beq h b && Nat.beq (off + old.length) cs.length && Nat.ble fl b
      some { heap := s.heap.set s.next (.cells (old ++ new) k (base + off) esz true),
             fams := s.fams.set k (s.next, match keep with | true => fl | false => s.next), tys := s.tys.set s.next (match Nat.beq ((s.tys.get b).getD 0) ty with | true => ty | false => 0), next := s.next + 1, low := touch s k }
    | none => none
  | _ => none

/-- What stands of every canonical state. -/
structure WF (s : St) : Prop where
  lt : ∀ b cb, s.heap.get b = some cb → b < s.next
  fam : ∀ b cs k base esz, s.heap.get b = some (.cells cs k base esz true) → k ≤ b ∧ ∃ h fl csh baseh, s.fams.get k = some (h, fl) ∧
    s.heap.get h = some (.cells csh k baseh esz true) ∧ b ≤ h ∧ fl ≤ h + 1 ∧ (fl ≤ b → base + cs.length ≤ baseh + csh.length)
  low : s.low ≤ s.next

/-- What every step of the evaluator keeps. -/
structure U (s s' : St) : Prop where
  wf : WF s'
  next : s.next ≤ s'.next
  low : s'.low ≤ s.low
  heap : ∀ b, b < s'.low → s'.heap.get b = s.heap.get b
  fams : ∀ b, b < s'.low → s'.fams.get b = s.fams.get b
  tys : ∀ b, b < s.next → s'.tys.get b = s.tys.get b

theorem U.refl {s : St} (h : WF s) : U s s := ⟨h, Nat.le_refl _, Nat.le_refl _, fun _ _ => rfl, fun _ _ => rfl, fun _ _ => rfl⟩
theorem U.trans {a b c : St} (h : U a b) (k : U b c) : U a c :=
  ⟨k.wf, Nat.le_trans h.next k.next, Nat.le_trans k.low h.low,
   fun i hi => (k.heap i hi).trans (h.heap i (Nat.lt_of_lt_of_le hi k.low)),
   fun i hi => (k.fams i hi).trans (h.fams i (Nat.lt_of_lt_of_le hi k.low)),
   fun i hi => (k.tys i (Nat.lt_of_lt_of_le hi h.next)).trans (h.tys i hi)⟩

theorem touch_le (s : St) (k : Nat) : touch s k ≤ s.low := by unfold touch; split <;> omega
theorem touch_le' (s : St) (k : Nat) : touch s k ≤ k := by unfold touch; split <;> omega

theorem new_U {s : St} (h : WF s) (cs : List Value) (esz : Nat) (ty : Nat := 0) : U s (s.new cs esz ty) where
  wf := {
    lt := fun b cb hb => by
      simp only [St.new, T.get_set] at hb ⊢
      split at hb
      · omega
      · have := h.lt b cb hb; omega
    fam := fun b cs' k base esz' hb => by
      simp only [St.new, T.get_set] at hb ⊢
      split at hb
      · rename_i e
        subst e
        injection hb with hb
        injection hb with h1 h2 h3 h4 h5
        subst h1 h2 h3 h4
        exact ⟨Nat.le_refl _, s.next, 0, cs, 0, by simp, by simp, Nat.le_refl _, Nat.zero_le _, fun _ => Nat.le_refl _⟩
      · rename_i e
        obtain ⟨h1, hd, fl, csh, bh, h2, h3, h4, h5, h6⟩ := h.fam b cs' k base esz' hb
        have := h.lt b _ hb
        have := h.lt hd _ h3
        exact ⟨h1, hd, fl, csh, bh, by rw [if_neg (by omega)]; exact h2, by rw [if_neg (by omega)]; exact h3, h4, h5, h6⟩
    low := by simp only [St.new]; have := h.low; omega }
  next := by simp [St.new]
  low := Nat.le_refl _
  heap := fun b hb => by simp only [St.new] at hb ⊢; exact T.get_set_ne _ (by have := h.low; omega) _
  fams := fun b hb => by simp only [St.new] at hb ⊢; exact T.get_set_ne _ (by have := h.low; omega) _
  tys := fun b hb => by simp only [St.new]; exact T.get_set_ne _ (by omega) _

theorem newMap_U {s : St} (h : WF s) (es : List (Value × Value)) : U s (s.newMap es) where
  wf := {
    lt := fun b cb hb => by
      simp only [St.newMap, T.get_set] at hb ⊢
      split at hb
      · omega
      · have := h.lt b cb hb; omega
    fam := fun b cs' k base esz' hb => by
      simp only [St.newMap, T.get_set] at hb ⊢
      split at hb
      · cases hb
      · obtain ⟨h1, hd, fl, csh, bh, h2, h3, h4, h5, h6⟩ := h.fam b cs' k base esz' hb
        have := h.lt hd _ h3
        exact ⟨h1, hd, fl, csh, bh, h2, by rw [if_neg (by omega)]; exact h3, h4, h5, h6⟩
    low := by simp only [St.newMap]; have := h.low; omega }
  next := by simp [St.newMap]
  low := Nat.le_refl _
  heap := fun b hb => by simp only [St.newMap] at hb ⊢; exact T.get_set_ne _ (by have := h.low; omega) _
  fams := fun b hb => rfl
  tys := fun b hb => rfl
theorem newIter_U {s : St} (h : WF s) (t : ByteArray) (pos : Nat) : U s (s.newIter t pos) where
  wf := {
    lt := fun b cb hb => by
      simp only [St.newIter, T.get_set] at hb ⊢
      split at hb
      · omega
      · have := h.lt b cb hb; omega
    fam := fun b cs' k base esz' hb => by
      simp only [St.newIter, T.get_set] at hb ⊢
      split at hb
      · cases hb
      · obtain ⟨h1, hd, fl, csh, bh, h2, h3, h4, h5, h6⟩ := h.fam b cs' k base esz' hb
        have := h.lt hd _ h3
        exact ⟨h1, hd, fl, csh, bh, h2, by rw [if_neg (by omega)]; exact h3, h4, h5, h6⟩
    low := by simp only [St.newIter]; have := h.low; omega }
  next := by simp [St.newIter]
  low := Nat.le_refl _
  heap := fun b hb => by simp only [St.newIter] at hb ⊢; exact T.get_set_ne _ (by have := h.low; omega) _
  fams := fun b hb => rfl
  tys := fun b hb => rfl

theorem putAt_length {cs vs : List Value} {off : Nat} (h : off + vs.length ≤ cs.length) : (putAt cs off vs).length = cs.length := by
  simp [putAt]; omega

theorem write_some {s s' : St} {b off : Nat} {vs : List Value} (h : s.write b off vs = some s') :
    ∃ cs k base esz fl, s.heap.get b = some (.cells cs k base esz true) ∧ s.fams.get k = some (b, fl) ∧ off + vs.length ≤ cs.length ∧ fl ≤ b ∧
      s' = { heap := s.heap.set b (.cells (putAt cs off vs) k base esz true), fams := s.fams.set k (b, b), tys := s.tys, next := s.next, low := touch s k } := by
  unfold St.write at h
  split at h
  · rename_i cs k base esz hb
    split at h
    · rename_i hd fl hf
      split at h
      · rename_i e1 e2 e3
        have e1' := Nat.eq_of_beq_eq_true e1
        subst e1'
        injection h with h
        exact ⟨cs, k, base, esz, fl, hb, hf, Nat.le_of_ble_eq_true e2, Nat.le_of_ble_eq_true e3, h.symm⟩
      · cases h
    · cases h
  · cases h

theorem write_U {s s' : St} {b off : Nat} {vs : List Value} (w : WF s) (h : s.write b off vs = some s') : U s s' := by
  obtain ⟨cs, k, base, esz, fl, hb, hf, hl, _, rfl⟩ := write_some h
  have hkb : k ≤ b := (w.fam b _ _ _ _ hb).1
  have hbn := w.lt b _ hb
  refine ⟨⟨?_, ?_, ?_⟩, Nat.le_refl _, touch_le _ _, ?_, ?_, fun _ _ => rfl⟩
  · intro i cb hi
    simp only [T.get_set] at hi ⊢
    split at hi
    · omega
    · exact w.lt i cb hi
  · intro i cs' k' base' esz' hi
    simp only [T.get_set] at hi ⊢
    split at hi
    · rename_i e
      subst e
      injection hi with hi
      injection hi with h1 h2 h3 h4 h5
      subst h1 h2 h3 h4
      exact ⟨hkb, i, i, putAt cs off vs, base, by simp, by simp, Nat.le_refl _, Nat.le_succ _, fun _ => Nat.le_refl _⟩
    · rename_i e
      obtain ⟨h1, hd, fl', csh, bh, h2, h3, h4, h5, h6⟩ := w.fam i cs' k' base' esz' hi
      refine ⟨h1, ?_⟩
      by_cases hk : k' = k
      · subst hk
        rw [hf] at h2
        injection h2 with h2
        injection h2 with h21 h22
        subst h21 h22
        rw [hb] at h3
        injection h3 with h3
        injection h3 with h31 h32 h33 h34 h35
        subst h31 h33 h34
        exact ⟨b, b, putAt cs off vs, base, by simp, by simp, h4, Nat.le_succ _, fun hh => absurd (Nat.le_antisymm h4 hh) e⟩
      · by_cases hhd : hd = b
        · subst hhd
          rw [hb] at h3
          injection h3 with h3
          injection h3 with h31 h32
          exact absurd h32.symm hk
        · exact ⟨hd, fl', csh, bh, by rw [if_neg hk]; exact h2, by rw [if_neg hhd]; exact h3, h4, h5, h6⟩
  · have := touch_le s k; have := w.low; simp only []; omega
  · intro i hi
    have := touch_le' s k
    simp only [] at hi
    exact T.get_set_ne _ (by omega) _
  · intro i hi
    have := touch_le' s k
    simp only [] at hi
    exact T.get_set_ne _ (by omega) _

theorem setMap_U {s s' : St} {b : Nat} {es : List (Value × Value)} (w : WF s) (h : s.setMap b es = some s') : U s s' := by
  unfold St.setMap at h
  split at h
  · rename_i es0 hb
    injection h with h
    subst h
    have hbn := w.lt b _ hb
    refine ⟨⟨?_, ?_, ?_⟩, Nat.le_refl _, touch_le _ _, ?_, fun _ _ => rfl, fun _ _ => rfl⟩
    · intro i cb hi
      simp only [T.get_set] at hi ⊢
      split at hi
      · omega
      · exact w.lt i cb hi
    · intro i cs' k' base' esz' hi
      simp only [T.get_set] at hi ⊢
      split at hi
      · cases hi
      · obtain ⟨h1, hd, fl', csh, bh, h2, h3, h4, h5, h6⟩ := w.fam i cs' k' base' esz' hi
        have : hd ≠ b := fun e => by subst e; rw [hb] at h3; cases h3
        exact ⟨h1, hd, fl', csh, bh, h2, by rw [if_neg this]; exact h3, h4, h5, h6⟩
    · have := touch_le s b; have := w.low; simp only []; omega
    · intro i hi
      have := touch_le' s b
      simp only [] at hi
      exact T.get_set_ne _ (by omega) _
  · cases h

theorem setIter_U {s s' : St} {b : Nat} {t : ByteArray} {pos : Nat} (w : WF s) (h : s.setIter b t pos = some s') : U s s' := by
  unfold St.setIter at h
  split at h
  · rename_i t0 p0 hb
    injection h with h
    subst h
    have hbn := w.lt b _ hb
    refine ⟨⟨?_, ?_, ?_⟩, Nat.le_refl _, touch_le _ _, ?_, fun _ _ => rfl, fun _ _ => rfl⟩
    · intro i cb hi
      simp only [T.get_set] at hi ⊢
      split at hi
      · omega
      · exact w.lt i cb hi
    · intro i cs' k' base' esz' hi
      simp only [T.get_set] at hi ⊢
      split at hi
      · cases hi
      · obtain ⟨h1, hd, fl', csh, bh, h2, h3, h4, h5, h6⟩ := w.fam i cs' k' base' esz' hi
        have : hd ≠ b := fun e => by subst e; rw [hb] at h3; cases h3
        exact ⟨h1, hd, fl', csh, bh, h2, by rw [if_neg this]; exact h3, h4, h5, h6⟩
    · have := touch_le s b; have := w.low; simp only []; omega
    · intro i hi
      have := touch_le' s b
      simp only [] at hi
      exact T.get_set_ne _ (by omega) _
  · cases h

theorem seal_some {s s' : St} {b : Nat} (h : s.sealB b = some s') :
    ∃ cs k base esz fl, s.heap.get b = some (.cells cs k base esz true) ∧ s.fams.get k = some (b, fl) ∧ fl ≤ b ∧
      s' = { heap := s.heap, fams := s.fams.set k (b, b + 1), tys := s.tys, next := s.next, low := touch s k } := by
  unfold St.sealB at h
  split at h
  · rename_i cs k base esz hb
    split at h
    · rename_i hd fl hf
      split at h
      · rename_i e1 e3
        have e1' := Nat.eq_of_beq_eq_true e1
        subst e1'
        injection h with h
        exact ⟨cs, k, base, esz, fl, hb, hf, Nat.le_of_ble_eq_true e3, h.symm⟩
      · cases h
    · cases h
  · cases h
theorem seal_U {s s' : St} {b : Nat} (w : WF s) (h : s.sealB b = some s') : U s s' := by
  obtain ⟨cs, k, base, esz, fl, hb, hf, _, rfl⟩ := seal_some h
  have hkb : k ≤ b := (w.fam b _ _ _ _ hb).1
  have hbn := w.lt b _ hb
  refine ⟨⟨w.lt, ?_, ?_⟩, Nat.le_refl _, touch_le _ _, fun _ _ => rfl, ?_, fun _ _ => rfl⟩
  · intro i cs' k' base' esz' hi
    obtain ⟨h1, hd, fl', csh, bh, h2, h3, h4, h5, h6⟩ := w.fam i cs' k' base' esz' hi
    refine ⟨h1, ?_⟩
    by_cases hk : k' = k
    · subst hk
      rw [hf] at h2
      injection h2 with h2
      injection h2 with h21 h22
      subst h21 h22
      exact ⟨b, b + 1, csh, bh, by simp, h3, h4, Nat.le_refl _, fun hh => by omega⟩
    · exact ⟨hd, fl', csh, bh, by simp only; rw [T.get_set_ne _ hk]; exact h2, h3, h4, h5, h6⟩
  · have := touch_le s k; have := w.low; simp only []; omega
  · intro i hi
    have := touch_le' s k
    simp only [] at hi
    exact T.get_set_ne _ (by omega) _

theorem extend_some {s s' : St} {b off ty : Nat} {old new : List Value} (h : s.extend b off old new ty = some s') :
    ∃ cs k base esz hd fl fl', s.heap.get b = some (.cells cs k base esz true) ∧ s.fams.get k = some (hd, fl) ∧
      (fl' = s.next ∨ (fl' = fl ∧ hd = b ∧ off + old.length = cs.length ∧ fl ≤ b)) ∧
      s' = { heap := s.heap.set s.next (.cells (old ++ new) k (base + off) esz true), fams := s.fams.set k (s.next, fl'), tys := s.tys.set s.next (match Nat.beq ((s.tys.get b).getD 0) ty with | true => ty | false => 0), next := s.next + 1, low := touch s k } := by
  unfold St.extend at h
  split at h
  · rename_i cs k base esz hb
    split at h
    · rename_i hd fl hf
      simp only [] at h
      injection h with h
      refine ⟨cs, k, base, esz, hd, fl, _, hb, hf, ?_, h.symm⟩
      cases hkeep : (Nat.beq hd b && Nat.beq (off + old.length) cs.length && Nat.ble fl b) with
      | true =>
        right
        simp only [Bool.and_eq_true] at hkeep
        exact ⟨rfl, Nat.eq_of_beq_eq_true hkeep.1.1, Nat.eq_of_beq_eq_true hkeep.1.2, Nat.le_of_ble_eq_true hkeep.2⟩
      | false => left; rfl
    · cases h
  · cases h

theorem extend_U {s s' : St} {b off ty : Nat} {old new : List Value} (w : WF s) (h : s.extend b off old new ty = some s') : U s s' := by
  obtain ⟨cs, k, base, esz, hd, fl, fl', hb, hf, hfl, rfl⟩ := extend_some h
  obtain ⟨hkb, hd', fl0, csh, baseh, h2, h3, h4, h5, h6⟩ := w.fam b _ _ _ _ hb
  rw [hf] at h2
  injection h2 with h2
  injection h2 with h21 h22
  subst h21 h22
  have hbn := w.lt b _ hb
  refine ⟨⟨?_, ?_, ?_⟩, by simp, touch_le _ _, ?_, ?_, fun b hb => by simp only; exact T.get_set_ne _ (by omega) _⟩
  · intro i cb hi
    simp only [T.get_set] at hi ⊢
    split at hi
    · omega
    · have := w.lt i cb hi; omega
  · intro i cs' k' base' esz' hi
    simp only [T.get_set] at hi ⊢
    split at hi
    · rename_i e
      subst e
      injection hi with hi
      injection hi with g1 g2 g3 g4 g5
      subst g1 g2 g3 g4
      exact ⟨by omega, s.next, fl', old ++ new, base + off, by simp, by simp, Nat.le_refl _, by rcases hfl with rfl | ⟨rfl, _⟩ <;> omega, fun _ => Nat.le_refl _⟩
    · rename_i e
      obtain ⟨g1, hd1, fl1, csh1, bh1, g2, g3, g4, g5, g6⟩ := w.fam i cs' k' base' esz' hi
      refine ⟨g1, ?_⟩
      have hin := w.lt i _ hi
      by_cases hk : k' = k
      · subst hk
        rw [hf] at g2
        injection g2 with g2
        injection g2 with g21 g22
        subst g21 g22
        rw [h3] at g3
        injection g3 with g3
        injection g3 with g31 g32 g33 g34 g35
        subst g31 g33 g34
        refine ⟨s.next, fl', old ++ new, base + off, by simp, by simp, by omega, by rcases hfl with rfl | ⟨rfl, _⟩ <;> omega, fun hh => ?_⟩
        rcases hfl with rfl | ⟨rfl, rfl, hlen, hle⟩
        · omega
        · have := g6 hh
          rw [hb] at h3
          injection h3 with h3
          injection h3 with h31 h32 h33
          subst h31 h33
          simp only [List.length_append]
          omega
      · refine ⟨hd1, fl1, csh1, bh1, by rw [if_neg hk]; exact g2, by rw [if_neg (by have := w.lt _ _ g3; omega)]; exact g3, g4, g5, g6⟩
  · have := touch_le s k; have := w.low; simp only []; omega
  · intro i hi
    have := touch_le s k
    have := w.low
    simp only [] at hi
    exact T.get_set_ne _ (by omega) _
  · intro i hi
    have := touch_le' s k
    simp only [] at hi
    exact T.get_set_ne _ (by omega) _

end Go.Ev
