/- Books of chains: what Add does. No condition. -/
import Derived.Test.YtjkbkofgdikmcaaC4
noncomputable section
namespace Go.Ev
open Go.Proofs
set_option linter.unusedVariables false
set_option maxRecDepth 100000

/-- A chain that is added to. -/
def Ch.add (c : Ch) (r : Rc) : Ch :=
  if 8 < c.last.length + 1 then ⟨IntKind.i64.wrap (c.count + 1), linkF c.head r, (c.last ++ [r]).drop 1, linkF c.base ((c.last ++ [r]).head?.getD r)⟩
  else ⟨IntKind.i64.wrap (c.count + 1), linkF c.head r, c.last ++ [r], c.base⟩
theorem findE_put (e : Ent) (l : Lb) : ∀ E : List Ent, findE l (putE E e) = if l = e.l then some e else findE l E
  | [] => rfl
  | d :: E => by
    show findE l (if e.l = d.l then e :: E else d :: putE E e) = _
    by_cases h : e.l = d.l
    · rw [if_pos h]
      by_cases h2 : l = e.l
      · simp [findE, h2]
      · have : l ≠ d.l := fun x => h2 (x.trans h.symm)
        simp [findE, h2, this]
    · rw [if_neg h]
      have ih := findE_put e l E
      by_cases h2 : l = d.l
      · have : l ≠ e.l := fun x => h (x.symm.trans h2)
        have h3 : ¬ d.l = e.l := fun x => h x.symm
        simp [findE, h2, h3]
      · show (if l = d.l then some d else findE l (putE E e)) = if l = e.l then some e else (if l = d.l then some d else findE l E)
        rw [if_neg h2, if_neg h2]; exact ih
theorem chOf_put (e : Ent) (l : Lb) (E : List Ent) : chOf (putE E e) l = if l = e.l then e.c else chOf E l := by
  unfold chOf
  rw [findE_put]
  by_cases h : l = e.l
  · rw [if_pos h, if_pos h]
  · rw [if_neg h, if_neg h]
/-- The book with a changed entry. -/
theorem BookAt.put {s s' : St} {p : Value} {kb mb : Nat} {E : List Ent} (h : BookAt s p kb mb E) {e : Ent} {X : Nat → Prop} (k : Kp X s s') (hX : ∀ j, X j → s.next ≤ j ∨ j = mb ∨ ∃ f, findE e.l E = some f ∧ j = f.k) (hkb : ¬ X kb)
    (mp : Mp s' mb ((putE E e).map Ent.val)) (own : OwnT s' e.k e.v 4 e.c.last.length (rcCells e.c.last)) (ok : e.c.last.length ≤ 8 ∧ ∀ r ∈ e.c.last, r.ok) (wf : WF s) (hk : (findE e.l E = none ∧ s.next ≤ e.k) ∨ ∃ f, findE e.l E = some f ∧ e.k = f.k) :
    BookAt s' p kb mb (putE E e) ∧ ∀ j, famE mb (putE E e) j → famE mb E j ∨ s.next ≤ j := by
  obtain ⟨bs, rfl, g⟩ := h.ex
  have hlt := h.lt wf
  have hlt2 : ∀ d ∈ E, d.k < s.next := fun d hd => hlt.2 _ (.inr ⟨d, hd, rfl⟩)
  have hmb : mb < s.next := hlt.2 _ (.inl rfl)
  obtain ⟨r, h1, h2⟩ := find_book e.l E 0
  have hex : ∃ bs', Value.pointer (some ⟨bs, 0, none⟩) = .pointer (some ⟨bs', 0, none⟩) ∧ Blk s' kb bs' [.map (some mb)] 1 := ⟨bs, rfl, k.blk _ _ _ _ hkb g⟩
  rcases h2 with ⟨rfl, h3, h4⟩ | ⟨j, d, rfl, h3, h4, h5, h6⟩
  · rcases hk with ⟨_, hk⟩ | ⟨f, hf, _⟩
    rotate_left
    · rw [h3] at hf; cases hf
    have hp := h4 e rfl
    rw [hp] at mp ⊢
    have hXE : ∀ d ∈ E, ¬ X d.k := fun d hd hx => by
      rcases hX _ hx with g | g | ⟨f, hf, _⟩
      · have := hlt2 d hd; omega
      · exact (h.ne.2 d hd).2 g
      · rw [h3] at hf; cases hf
    refine ⟨⟨hex, mp, fun d hd => ?_, fun d hd => ?_, ⟨h.ne.1, fun d hd => ?_⟩, ?_⟩, ?_⟩
    · rcases List.mem_append.1 hd with g | g
      · exact (h.own d g).keep k (hXE d g)
      · rw [List.mem_singleton] at g; subst g; exact own
    · rcases List.mem_append.1 hd with g | g
      · exact h.ok d g
      · rw [List.mem_singleton] at g; subst g; exact ok
    · rcases List.mem_append.1 hd with g | g
      · exact h.ne.2 d g
      · rw [List.mem_singleton] at g; subst g; exact ⟨by omega, by omega⟩
    · intro i j a b ha hb hab
      have one : ∀ (i : Nat) (a : Ent), (E ++ [e])[i]? = some a → (E[i]? = some a ∧ a.k < s.next) ∨ (i = E.length ∧ a = e) := by
        intro i a ha
        rcases Nat.lt_or_ge i E.length with g | g
        · rw [List.getElem?_append_left g] at ha
          exact .inl ⟨ha, hlt2 a (List.mem_of_getElem? ha)⟩
        · rw [List.getElem?_append_right g] at ha
          have : i - E.length = 0 := by
            rcases Nat.eq_zero_or_pos (i - E.length) with g2 | g2
            · exact g2
            · rw [List.getElem?_eq_none (by simp; omega)] at ha; cases ha
          rw [this] at ha
          injection ha with ha
          exact .inr ⟨by omega, ha.symm⟩
      rcases one i a ha with ⟨a1, a2⟩ | ⟨a1, rfl⟩ <;> rcases one j b hb with ⟨b1, b2⟩ | ⟨b1, rfl⟩
      · exact h.fam i j a b a1 b1 hab
      · omega
      · omega
      · omega
    · rintro j (rfl | ⟨d, hd, rfl⟩)
      · exact .inl (.inl rfl)
      · rcases List.mem_append.1 hd with g | g
        · exact .inl (.inr ⟨d, g, rfl⟩)
        · rw [List.mem_singleton] at g; subst g; exact .inr hk
  · rcases hk with ⟨hf, _⟩ | ⟨f, hf, hk⟩
    · rw [h4] at hf; cases hf
    rw [h4] at hf; injection hf with hf; subst hf
    have hp := h6 e rfl
    rw [hp] at mp ⊢
    have hjl : j < E.length := (List.getElem?_eq_some_iff.1 h3).1
    have hmem : ∀ x, x ∈ E.set j e → x = e ∨ ∃ i, i ≠ j ∧ E[i]? = some x := by
      intro x hx
      obtain ⟨i, hi⟩ := List.mem_iff_getElem?.1 hx
      by_cases hij : i = j
      · subst hij
        rw [List.getElem?_set_self hjl] at hi
        injection hi with hi; exact .inl hi.symm
      · rw [List.getElem?_set_ne (fun x => hij x.symm)] at hi
        exact .inr ⟨i, hij, hi⟩
    have hnd : ∀ i x, i ≠ j → E[i]? = some x → x.k ≠ d.k := fun i x hij hi hk => hij (h.fam i j x d hi h3 hk)
    have hdm : d ∈ E := List.mem_of_getElem? h3
    have hXE : ∀ i x, i ≠ j → E[i]? = some x → ¬ X x.k := fun i x hij hi hx => by
      have hm := List.mem_of_getElem? hi
      rcases hX _ hx with g | g | ⟨f, hf, g⟩
      · have := hlt2 x hm; omega
      · exact (h.ne.2 x hm).2 g
      · rw [h4] at hf; injection hf with hf; subst hf; exact hnd i x hij hi g
    refine ⟨⟨hex, mp, fun x hx => ?_, fun x hx => ?_, ⟨h.ne.1, fun x hx => ?_⟩, ?_⟩, ?_⟩
    · rcases hmem x hx with rfl | ⟨i, hij, hi⟩
      · exact own
      · exact (h.own x (List.mem_of_getElem? hi)).keep k (hXE i x hij hi)
    · rcases hmem x hx with rfl | ⟨i, hij, hi⟩
      · exact ok
      · exact h.ok x (List.mem_of_getElem? hi)
    · rcases hmem x hx with rfl | ⟨i, hij, hi⟩
      · rw [hk]; exact h.ne.2 d hdm
      · exact h.ne.2 x (List.mem_of_getElem? hi)
    · have one : ∀ (i : Nat) (a : Ent), (E.set j e)[i]? = some a → ∃ a', E[i]? = some a' ∧ a.k = a'.k := by
        intro i a ha
        by_cases hij : i = j
        · subst hij
          rw [List.getElem?_set_self hjl] at ha
          injection ha with ha; subst ha
          exact ⟨d, h3, hk⟩
        · rw [List.getElem?_set_ne (fun x => hij x.symm)] at ha
          exact ⟨a, ha, rfl⟩
      intro i1 i2 a b ha hb hab
      obtain ⟨a', a1, a2⟩ := one i1 a ha
      obtain ⟨b', b1, b2⟩ := one i2 b hb
      exact h.fam i1 i2 a' b' a1 b1 (by omega)
    · rintro j' (rfl | ⟨x, hx, rfl⟩)
      · exact .inl (.inl rfl)
      · rcases hmem x hx with rfl | ⟨i, hij, hi⟩
        · exact .inl (.inr ⟨d, hdm, hk⟩)
        · exact .inl (.inr ⟨x, List.mem_of_getElem? hi, rfl⟩)
end Go.Ev
