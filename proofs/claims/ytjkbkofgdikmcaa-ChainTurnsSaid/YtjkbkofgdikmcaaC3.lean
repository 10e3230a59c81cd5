/- Books of chains: looking up, changing; what New does. No condition. -/
import Derived.Test.YtjkbkofgdikmcaaC2
noncomputable section
namespace Go.Ev
open Go.Proofs
set_option linter.unusedVariables false
set_option maxRecDepth 100000

/-- The entry of a label. -/
def findE (l : Lb) : List Ent → Option Ent
  | [] => none
  | e :: E => if l = e.l then some e else findE l E
/-- The label's chain; what its slice is. -/
def chOf (E : List Ent) (l : Lb) : Ch := match findE l E with
  | some e => e.c
  | none => Ch.zero
def vOf (E : List Ent) (l : Lb) : Value := match findE l E with
  | some e => e.v
  | none => .slice none 0 0
/-- The label's entry is another one. -/
def putE (E : List Ent) (e : Ent) : List Ent := match E with
  | [] => [e]
  | d :: E => if e.l = d.l then e :: E else d :: putE E e
theorem find_book (l : Lb) : ∀ (E : List Ent) (i : Nat), ∃ r, evFind Try.prog 48 l.val (E.map Ent.val) i = some r ∧
    ((r = none ∧ findE l E = none ∧ ∀ e : Ent, e.l = l → putE E e = E ++ [e]) ∨ ∃ j e, r = some (i + j) ∧ E[j]? = some e ∧ findE l E = some e ∧ e.l = l ∧ ∀ d : Ent, d.l = l → putE E d = E.set j d)
  | [], i => ⟨none, rfl, .inl ⟨rfl, rfl, fun _ _ => rfl⟩⟩
  | e :: E, i => by
    have h := eq_lab l e.l
    by_cases hl : l = e.l
    · refine ⟨some i, ?_, .inr ⟨0, e, rfl, rfl, by simp [findE, hl], hl.symm, fun d hd => ?_⟩⟩
      · show (match evEq Try.prog 10000 48 l.val e.l.val with | some true => some (some i) | some false => evFind Try.prog 48 l.val (E.map Ent.val) (i + 1) | none => none) = _
        rw [h, decide_eq_true hl]
      · show (if d.l = e.l then d :: E else e :: putE E d) = _
        rw [if_pos (hd.trans hl)]; rfl
    · obtain ⟨r, h1, h2⟩ := find_book l E (i + 1)
      refine ⟨r, ?_, ?_⟩
      · show (match evEq Try.prog 10000 48 l.val e.l.val with | some true => some (some i) | some false => evFind Try.prog 48 l.val (E.map Ent.val) (i + 1) | none => none) = _
        rw [h, decide_eq_false hl]
        exact h1
      · rcases h2 with ⟨rfl, h3, h4⟩ | ⟨j, d, rfl, h3, h4, h5, h6⟩
        · refine .inl ⟨rfl, by simp [findE, hl, h3], fun d hd => ?_⟩
          show (if d.l = e.l then d :: E else e :: putE E d) = _
          rw [if_neg (fun x => hl (hd.symm.trans x)), h4 d hd]; rfl
        · refine .inr ⟨j + 1, d, by rw [show i + 1 + j = i + (j + 1) by omega], h3, by simp [findE, hl, h4], h5, fun d' hd => ?_⟩
          show (if d'.l = e.l then d' :: E else e :: putE E d') = _
          rw [if_neg (fun x => hl (hd.symm.trans x)), h6 d' hd]; rfl
theorem lookup_book {s : St} {mb : Nat} {E : List Ent} (h : Mp s mb (E.map Ent.val)) (l : Lb) :
    evLookup Try.prog 86 (.map (some mb)) l.val false s = some (chVal (chOf E l) (vOf E l)) := by
  obtain ⟨r, h1, h2⟩ := find_book l E 0
  have hk : evKey Try.prog 10000 48 l.val = true := rfl
  have hm : mapOf s (.map (some mb)) = some (E.map Ent.val) := by simp only [mapOf, h.ex]
  have hu : Try.prog.underlying 86 = some (.map 48 54) := Try.underlying86
  have hu2 : Try.prog.underlying 48 = _ := Try.underlying48
  unfold evLookup
  rcases h2 with ⟨rfl, h3, _⟩ | ⟨j, e, rfl, h3, h4, h5, _⟩
  · simp only [hu, hu2, hm, hk, h1]
    have : chVal (chOf E l) (vOf E l) = .agg #[.int .i64 0, .int .u64 0, .slice none 0 0, .int .u64 0] := by
      simp only [chOf, vOf, h3]; rfl
    rw [this]; rfl
  · rw [Nat.zero_add] at h1
    simp only [hu, hu2, hm, hk, h1, List.getElem?_map, h3, Option.map_some, chOf, vOf, h4]
    rfl
theorem same_lab (l : Lb) : evSame 100 l.val l.val = true := by
  show (match (decide (IntKind.u64 = IntKind.u64) && (l.set == l.set)) with | true => (match (decide (IntKind.i64 = IntKind.i64) && (l.level == l.level)) with | true => true | false => false) | false => false) = true
  simp
theorem update_book {s : St} (wf : WF s) {mb : Nat} {E : List Ent} (h : Mp s mb (E.map Ent.val)) (e : Ent) :
    ∃ s', evUpdate Try.prog 86 (.map (some mb)) e.l.val (chVal e.c e.v) s = some s' ∧ Kp (fun j => j = mb) s s' ∧ Mp s' mb ((putE E e).map Ent.val) ∧ s'.next = s.next := by
  obtain ⟨r, h1, h2⟩ := find_book e.l E 0
  have hk : evKey Try.prog 10000 48 e.l.val = true := rfl
  have hm : mapOf s (.map (some mb)) = some (E.map Ent.val) := by simp only [mapOf, h.ex]
  have hu : Try.prog.underlying 86 = some (.map 48 54) := Try.underlying86
  have hu2 : Try.prog.underlying 48 = _ := Try.underlying48
  unfold evUpdate
  rcases h2 with ⟨rfl, h3, h4⟩ | ⟨j, d, rfl, h3, h4, h5, h6⟩
  · obtain ⟨s', g1, g2, g3, g4⟩ := setMap_kp (es' := E.map Ent.val ++ [(e.l.val, chVal e.c e.v)]) wf h
    simp only [hu, hu2, hm, hk, h1]
    rw [h4 e rfl, List.map_append]
    exact ⟨s', g1, g2, g3, g4⟩
  · rw [Nat.zero_add] at h1
    obtain ⟨s', g1, g2, g3, g4⟩ := setMap_kp (es' := (E.map Ent.val).set j (e.l.val, chVal e.c e.v)) wf h
    simp only [hu, hu2, hm, hk, h1, List.getElem?_map, h3, Option.map_some]
    have : evSame 100 (d.val).1 e.l.val = true := by
      have e1 : (d.val).1 = e.l.val := by show d.l.val = e.l.val; rw [h5]
      rw [e1]; exact same_lab e.l
    simp only [this]
    rw [h6 e rfl, List.map_set]
    exact ⟨s', g1, g2, g3, g4⟩

/-- The book that a pointer leads to. -/
structure BookAt (s : St) (p : Value) (kb mb : Nat) (E : List Ent) : Prop where
  ex : ∃ bs, p = .pointer (some ⟨bs, 0, none⟩) ∧ Blk s kb bs [.map (some mb)] 1
  mp : Mp s mb (E.map Ent.val)
  own : ∀ e ∈ E, OwnT s e.k e.v 4 e.c.last.length (rcCells e.c.last)
  ok : ∀ e ∈ E, e.c.last.length ≤ 8 ∧ ∀ r ∈ e.c.last, r.ok
  ne : kb ≠ mb ∧ ∀ e ∈ E, e.k ≠ kb ∧ e.k ≠ mb
  fam : ∀ (i j : Nat) (d e : Ent), E[i]? = some d → E[j]? = some e → d.k = e.k → i = j
def famE (mb : Nat) (E : List Ent) (j : Nat) : Prop := j = mb ∨ ∃ e ∈ E, j = e.k
theorem BookAt.keep {X : Nat → Prop} {s s' : St} {p : Value} {kb mb : Nat} {E : List Ent} (h : BookAt s p kb mb E) (k : Kp X s s') (h1 : ¬ X kb) (h2 : ∀ j, famE mb E j → ¬ X j) : BookAt s' p kb mb E := by
  obtain ⟨bs, rfl, g⟩ := h.ex
  exact ⟨⟨bs, rfl, k.blk _ _ _ _ h1 g⟩, k.map _ _ (h2 mb (.inl rfl)) h.mp, fun e he => (h.own e he).keep k (h2 e.k (.inr ⟨e, he, rfl⟩)), h.ok, h.ne, h.fam⟩
theorem BookAt.keep0 {s s' : St} {p : Value} {kb mb : Nat} {E : List Ent} (h : BookAt s p kb mb E) (k : K0 s s') : BookAt s' p kb mb E := h.keep k (fun h => h) fun _ _ h => h
theorem BookAt.relow {s s1 : St} {p : Value} {kb mb : Nat} {E : List Ent} (h : BookAt s1 p kb mb E) : BookAt (Go.Ev.relow s s1) p kb mb E := by
  obtain ⟨bs, rfl, g⟩ := h.ex
  exact ⟨⟨bs, rfl, g.relow⟩, h.mp.relow, fun e he => (h.own e he).relow, h.ok, h.ne, h.fam⟩
theorem BookAt.reset {s : St} {p : Value} {kb mb : Nat} {E : List Ent} (h : BookAt s p kb mb E) : BookAt (Go.Ev.reset s) p kb mb E := by
  obtain ⟨bs, rfl, g⟩ := h.ex
  exact ⟨⟨bs, rfl, g.reset⟩, h.mp.reset, fun e he => (h.own e he).reset, h.ok, h.ne, h.fam⟩
theorem BookAt.lt {s : St} {p : Value} {kb mb : Nat} {E : List Ent} (wf : WF s) (h : BookAt s p kb mb E) : kb < s.next ∧ ∀ j, famE mb E j → j < s.next := by
  obtain ⟨bs, rfl, g⟩ := h.ex
  refine ⟨by have := g.lt wf; omega, ?_⟩
  rintro j (rfl | ⟨e, he, rfl⟩)
  · exact h.mp.lt wf
  · exact (h.own e he).lt wf
theorem BookAt.ptr {s : St} {p : Value} {kb mb : Nat} {E : List Ent} (h : BookAt s p kb mb E) : ∃ bs, p = .pointer (some ⟨bs, 0, none⟩) ∧ Blk s kb bs [.map (some mb)] 1 := h.ex
theorem cnew_spec {s : St} (wf : WF s) : Cw Try.prog 28 [] s fun r s' => K0 s s' ∧ ∃ kb mb, s.next ≤ kb ∧ s.next ≤ mb ∧ BookAt s' r kb mb [] := by
  refine Cw.enter Try.func28 rfl rfl ?_
  conv => whnf
  obtain ⟨k1, m1⟩ := newMap_kp wf []
  refine Om.of (.map (some s.next), s.newMap []) rfl ?_
  conv => whnf
  have n1 : (s.newMap []).next = s.next + 1 := rfl
  generalize s.newMap [] = s1 at k1 m1 n1 ⊢
  obtain ⟨k2, b2⟩ := new_kp k1.wf [.map (some s.next)] 1
  refine Om.of (.pointer (some ⟨s1.next, 0, none⟩), s1.new [.map (some s.next)] 1) rfl ?_
  conv => whnf
  exact ⟨⟨k1.then k2, s1.next, s.next, by omega, Nat.le_refl _, ⟨_, rfl, b2⟩, k2.map _ _ (fun h => h) m1, (fun _ h => by cases h), (fun _ h => by cases h), ⟨by omega, fun _ h => by cases h⟩, fun _ _ _ _ h => by cases h⟩⟩
end Go.Ev
