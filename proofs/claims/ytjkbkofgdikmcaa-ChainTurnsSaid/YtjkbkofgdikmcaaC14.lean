/- Chains: numbers by labels; books in parts. No condition. -/
import Derived.Test.YtjkbkofgdikmcaaC13
noncomputable section
namespace Go.Ev
open Go.Proofs
set_option linter.unusedVariables false
set_option maxRecDepth 100000

def cntOf : List (Lb × Int) → Lb → Int
  | [], _ => 0
  | e :: M, l => if l = e.1 then e.2 else cntOf M l
def putC : List (Lb × Int) → Lb → Int → List (Lb × Int)
  | [], l, n => [(l, n)]
  | e :: M, l, n => if l = e.1 then (l, n) :: M else e :: putC M l n
def cv (e : Lb × Int) : Value × Value := (e.1.val, .int .i64 e.2)
theorem cntOf_put (M : List (Lb × Int)) (l : Lb) (n : Int) (l' : Lb) : cntOf (putC M l n) l' = if l' = l then n else cntOf M l' := by
  induction M with
  | nil => rfl
  | cons e M ih =>
    show cntOf (if l = e.1 then (l, n) :: M else e :: putC M l n) l' = _
    by_cases h : l = e.1
    · rw [if_pos h]
      by_cases h2 : l' = l
      · simp [cntOf, h2]
      · have : l' ≠ e.1 := fun x => h2 (x.trans h.symm)
        simp [cntOf, h2, this]
    · rw [if_neg h]
      show (if l' = e.1 then e.2 else cntOf (putC M l n) l') = _
      rw [ih]
      by_cases h2 : l' = l
      · have : l' ≠ e.1 := fun x => h (h2.symm.trans x)
        simp [h2]
        intro x; exact absurd x h
      · simp [cntOf, h2]
theorem find_cnt (l : Lb) : ∀ (M : List (Lb × Int)) (i : Nat), ∃ r, evFind Try.prog 48 l.val (M.map cv) i = some r ∧
    ((r = none ∧ cntOf M l = 0 ∧ ∀ n, putC M l n = M ++ [(l, n)]) ∨ ∃ j n0, r = some (i + j) ∧ M[j]? = some (l, n0) ∧ cntOf M l = n0 ∧ ∀ n, putC M l n = M.set j (l, n))
  | [], i => ⟨none, rfl, .inl ⟨rfl, rfl, fun _ => rfl⟩⟩
  | e :: M, i => by
    have h := eq_lab l e.1
    by_cases hl : l = e.1
    · refine ⟨some i, ?_, .inr ⟨0, e.2, rfl, by rw [hl]; rfl, by simp [cntOf, hl], fun n => ?_⟩⟩
      · show (match evEq Try.prog 10000 48 l.val e.1.val with | some true => some (some i) | some false => evFind Try.prog 48 l.val (M.map cv) (i + 1) | none => none) = _
        rw [h, decide_eq_true hl]
      · show (if l = e.1 then (l, n) :: M else e :: putC M l n) = _
        rw [if_pos hl]; rfl
    · obtain ⟨r, h1, h2⟩ := find_cnt l M (i + 1)
      refine ⟨r, ?_, ?_⟩
      · show (match evEq Try.prog 10000 48 l.val e.1.val with | some true => some (some i) | some false => evFind Try.prog 48 l.val (M.map cv) (i + 1) | none => none) = _
        rw [h, decide_eq_false hl]
        exact h1
      · rcases h2 with ⟨rfl, h3, h4⟩ | ⟨j, n0, rfl, h3, h4, h6⟩
        · refine .inl ⟨rfl, by simp [cntOf, hl, h3], fun n => ?_⟩
          show (if l = e.1 then (l, n) :: M else e :: putC M l n) = _
          rw [if_neg hl, h4]; rfl
        · refine .inr ⟨j + 1, n0, by rw [show i + 1 + j = i + (j + 1) by omega], h3, by simp [cntOf, hl, h4], fun n => ?_⟩
          show (if l = e.1 then (l, n) :: M else e :: putC M l n) = _
          rw [if_neg hl, h6]; rfl
section
variable {X : Nat → Prop} {s0 s : St} {R F G : List At}
theorem Hp.getC (hp : Hp X s0 R F s) {mb : Nat} {M : List (Lb × Int)} (m : Has (mapA mb (M.map cv)) F R) (l : Lb) {K : Value → Prop} (k : K (.int .i64 (cntOf M l))) :
    Om (evLookup Try.prog 78 (.map (some mb)) l.val false s) K := by
  refine .of _ ?_ k
  have h : Mp s mb (M.map cv) := hp.at m
  obtain ⟨r, h1, h2⟩ := find_cnt l M 0
  have hk : evKey Try.prog 10000 48 l.val = true := rfl
  have hm : mapOf s (.map (some mb)) = some (M.map cv) := by simp only [mapOf, h.ex]
  have hu : Try.prog.underlying 78 = some (.map 48 3) := Try.underlying78
  have hu2 : Try.prog.underlying 48 = _ := Try.underlying48
  unfold evLookup
  rcases h2 with ⟨rfl, h3, _⟩ | ⟨j, n0, rfl, h3, h4, _⟩
  · simp only [hu, hu2, hm, hk, h1]
    rw [h3]; rfl
  · rw [Nat.zero_add] at h1
    simp only [hu, hu2, hm, hk, h1, List.getElem?_map, h3, Option.map_some, h4]
    rfl
theorem Hp.setC (hp : Hp X s0 R F s) {mb : Nat} {M : List (Lb × Int)} (m : Rm (mapA mb (M.map cv)) F G) (l : Lb) (n : Int) {K : St → Prop} (k : ∀ s', Hp X s0 R (mapA mb ((putC M l n).map cv) :: G) s' → K s') :
    Om (evUpdate Try.prog 78 (.map (some mb)) l.val (.int .i64 n) s) K := by
  have h : Mp s mb (M.map cv) := hp.okF _ m.sub.1
  obtain ⟨r, h1, h2⟩ := find_cnt l M 0
  have hk : evKey Try.prog 10000 48 l.val = true := rfl
  have hm : mapOf s (.map (some mb)) = some (M.map cv) := by simp only [mapOf, h.ex]
  have hu : Try.prog.underlying 78 = some (.map 48 3) := Try.underlying78
  have hu2 : Try.prog.underlying 48 = _ := Try.underlying48
  rcases h2 with ⟨rfl, h3, h4⟩ | ⟨j, n0, rfl, h3, h4, h6⟩
  · obtain ⟨s', g1, g2, g3, g4⟩ := setMap_kp (es' := M.map cv ++ [(l.val, .int .i64 n)]) hp.wf h
    refine .of s' ?_ (k s' (hp.upd m g2 (fun j hj => .inl hj) ?_ fun j hj => .inl hj))
    · unfold evUpdate
      simp only [hu, hu2, hm, hk, h1]
      exact g1
    · show Mp s' mb ((putC M l n).map cv)
      rw [h4, List.map_append]; exact g3
  · rw [Nat.zero_add] at h1
    obtain ⟨s', g1, g2, g3, g4⟩ := setMap_kp (es' := (M.map cv).set j (l.val, .int .i64 n)) hp.wf h
    refine .of s' ?_ (k s' (hp.upd m g2 (fun j hj => .inl hj) ?_ fun j hj => .inl hj))
    · unfold evUpdate
      simp only [hu, hu2, hm, hk, h1, List.getElem?_map, h3, Option.map_some]
      have : evSame 100 (cv (l, n0)).1 l.val = true := same_lab l
      simp only [this]
      exact g1
    · show Mp s' mb ((putC M l n).map cv)
      rw [h6, List.map_set]; exact g3
theorem Hp.mkMap (hp : Hp X s0 R F s) {t : TypeId} {K : Value × St → Prop} (hev : evMakeMap Try.prog t none s = some (.map (some s.next), s.newMap [])) (k : ∀ b s', Hp X s0 R (mapA b [] :: F) s' → K0 s s' → K (.map (some b), s')) : Om (evMakeMap Try.prog t none s) K := by
  obtain ⟨k1, m1⟩ := newMap_kp hp.wf []
  exact .of _ hev (k _ _ (hp.push k1 m1 fun j hj => by subst hj; exact Nat.le_refl _) k1)
theorem lab_ne (a b : Lb) (c : Bool) : evBin Try.prog .neq 48 c a.val b.val = some (.bool (!decide (a = b))) := by
  have := eq_lab a b
  have hg : Try.prog.eqGuardType Try.prog.depth 48 = false := by decide +kernel
  show (match !(Try.prog.eqGuardType Try.prog.depth 48) with | false => none | true => (match evEq Try.prog 10000 48 a.val b.val with | some b => some (Value.bool (!b)) | none => none)) = _
  rw [hg, this]; rfl
/-! ### books in parts -/
theorem Hp.newB (hp : Hp X s0 R F s) {K : Value → St → Prop} (k : ∀ b0 kb mb s', Hp X s0 R (bookA (.pointer (some ⟨b0, 0, none⟩)) kb mb [] :: F) s' → K0 s s' → K (.pointer (some ⟨b0, 0, none⟩)) s') : Cw Try.prog 28 [] s K :=
  (cnew_spec hp.wf).mono fun r s' ⟨k1, kb, mb, n1, n2, h1⟩ => by
    obtain ⟨b0, rfl, _⟩ := h1.ex
    refine k b0 kb mb s' (hp.push k1 h1 ?_) k1
    rintro j (rfl | rfl | ⟨e, he, _⟩)
    · exact n1
    · exact n2
    · cases he
theorem Hp.ofB (hp : Hp X s0 R F s) {p : Value} {kb mb : Nat} {E : List Ent} (m : Has (bookA p kb mb E) F R) (l : Lb) {K : Value → St → Prop} (k : ∀ κ w s', Hp X s0 R (onA κ w 4 (chOf E l).last.length (rcCells (chOf E l).last) :: F) s' → K0 s s' → K (chVal (chOf E l) w) s') : Cw Try.prog 31 [p, l.val] s K :=
  (of_spec hp.wf (hp.at m : BookAt s p kb mb E) l).mono fun r s' ⟨k1, w, hr, o⟩ => by
    subst hr
    obtain ⟨κ, h⟩ := hp.on k1 o
    exact k κ w s' h k1
theorem Hp.addB (hp : Hp X s0 R F s) {p : Value} {kb mb : Nat} {E : List Ent} (m : Rm (bookA p kb mb E) F G) (l : Lb) {r : Rc} (ok : r.ok) {K : Value → St → Prop}
    (k : ∀ v E' s', Hp X s0 R (bookA p kb mb E' :: G) s' → (∀ l', chOf E' l' = if l' = l then (chOf E l).add r else chOf E l') → K v s') : Cw Try.prog 30 [p, l.val, r.val] s K :=
  (add_spec hp.wf (hp.okF _ m.sub.1 : BookAt s p kb mb E) l ok).mono fun v s' ⟨k1, E', h1, h2, h3⟩ => by
    refine k v E' s' (hp.upd m k1 (fun j hj => .inl (.inr hj)) h1 ?_) h3
    rintro j (rfl | hj)
    · exact .inl (.inl rfl)
    · rcases h2 j hj with g | g
      · exact .inl (.inr g)
      · exact .inr g
theorem Hp.book (hp : Hp X s0 R F s) {p : Value} {kb mb : Nat} {E : List Ent} (m : Has (bookA p kb mb E) F R) : BookAt s p kb mb E := hp.at m
end
end Go.Ev
