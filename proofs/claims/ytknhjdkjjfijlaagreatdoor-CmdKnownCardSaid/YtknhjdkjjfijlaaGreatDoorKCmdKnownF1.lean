/- From the steps to a law over any input: the first state, slices among the arguments. No condition. -/
import Derived.Test.YtknhjdkjjfijlaaGreatDoorKCmdKnownS4
import Derived.WalkKit
import Derived.ProofKit
import Derived.OpenShut
import Derived.ShutString
import Derived.ChangeOld
import Derived.Below
import Derived.SizedLaws
import Derived.ChangeSlices
import Derived.KernelRfl
noncomputable section
namespace Go.Ev
open Go.RowKit Go.ChangeShapes Go.WideShapes
set_option linter.unusedVariables false
variable [Lk]
set_option linter.unusedSectionVars false
def hpF : List (List Value × Nat) → Nat → T CB → T CB
 | [], _, t => t
 | p :: r, i, t => hpF r (i + 1) (t.set i (.cells p.1 0 0 p.2 false))
theorem hpF_get : ∀ (bs : List (List Value × Nat)) (i : Nat) (t : T CB) (b : Nat), (hpF bs i t).get b = if i ≤ b ∧ b < i + bs.length then (bs[b - i]?).map (fun p => CB.cells p.1 0 0 p.2 false) else t.get b
 | [], i, t, b => by
   rw [if_neg (by simp only [List.length_nil]; omega)]; rfl
 | p :: r, i, t, b => by
   unfold hpF
   rw [hpF_get r (i + 1)]
   by_cases h : i = b
   · subst h
     rw [if_neg (by omega), if_pos (by simp)]
     simp
   · by_cases h2 : i + 1 ≤ b ∧ b < i + 1 + r.length
     · rw [if_pos h2, if_pos (by simp; omega)]
       have : b - i = (b - (i + 1)) + 1 := by omega
       rw [this, List.getElem?_cons_succ]
     · rw [if_neg h2, if_neg (by simp; omega), T.get_set_ne _ (by omega)]
/-- The caller's blocks: cells, cells of an element. -/
def initC (bs : List (List Value × Nat)) : St := { heap := hpF bs 0 .nil, fams := .nil, tys := .nil, next := bs.length, low := bs.length }
theorem initC_get (bs : List (List Value × Nat)) (b : Nat) : (initC bs).heap.get b = (bs[b]?).map (fun p => CB.cells p.1 0 0 p.2 false) := by
 simp only [initC]
 rw [hpF_get]
 split
 · simp
 · rename_i h
   have : bs[b]? = none := List.getElem?_eq_none (by omega)
   rw [this]; simp
theorem initC_wf (bs : List (List Value × Nat)) : WF (initC bs) where
 lt := fun b cb h => by
  rw [initC_get] at h
  show b < bs.length
  rcases Nat.lt_or_ge b bs.length with g | g
  · exact g
  · rw [List.getElem?_eq_none g] at h; cases h
 fam := fun b cs k base esz h => by
  rw [initC_get] at h
  cases hb : bs[b]? with
  | none => rw [hb] at h; cases h
  | some p => rw [hb] at h; injection h with h; injection h with _ _ _ _ h; cases h
 low := Nat.le_refl _
theorem initC_ro {bs : List (List Value × Nat)} {b e : Nat} {cs : List Value} (h : bs[b]? = some (cs, e)) : Ro (initC bs) b cs e := ⟨0, 0, by rw [initC_get, h]; rfl⟩
theorem initC_rd {bs : List (List Value × Nat)} {b : Nat} {cs : List Value} (h : (initC bs).rd b = some cs) : ∃ e, bs[b]? = some (cs, e) := by
 unfold St.rd at h
 rw [initC_get] at h
 cases hb : bs[b]? with
 | none => rw [hb] at h; cases h
 | some p =>
   rw [hb] at h
   simp only [Option.map_some] at h
   injection h with h
   subst h
   exact ⟨p.2, rfl⟩
theorem init_rel {bs : List (List Value × Nat)} {β : B} {W : World} (hgl : ∀ g i, Lk.gl g = some i → ∃ e l, β i = some ⟨g, 0, e, l⟩) (hβ : ∀ b bi, β b = some bi → ∃ cs e C t fr, bs[b]? = some (cs, e) ∧ bi.esz = e ∧ W.heap[bi.blk]? = some (.cells C t fr) ∧
  ∀ (i : Nat) (v : Value), cs[i]? = some v → ∃ v', C[i + bi.sh]? = some v' ∧ VR β v v') {J : Nat} (hJ : bs.length ≤ J) : Rel J W.heap.size W β (initC bs) W where
 nx := hJ
 dom := fun b bi h => by
  obtain ⟨cs, e, C, t, fr, h1, h2, h3, h4⟩ := hβ b bi h
  exact ⟨(Array.getElem?_eq_some_iff.1 h3).1, .inl ⟨_, by rw [initC_get, h1]; rfl⟩⟩
 rd := fun b bi cs h hr => by
  obtain ⟨cs', e, C, t, fr, h1, h2, h3, h4⟩ := hβ b bi h
  obtain ⟨e', g⟩ := initC_rd hr
  rw [h1] at g; injection g with g; injection g with g1 g2; subst g1
  exact ⟨C, t, fr, h3, h4⟩
 own := fun b bi cs k base esz h hg => by
  rw [initC_get] at hg
  cases hb : bs[b]? with
  | none => rw [hb] at hg; cases hg
  | some p => rw [hb] at hg; injection hg with hg; injection hg with _ _ _ _ hg; cases hg
 ro := fun b bi cs k base esz h hg => by
  obtain ⟨cs', e, C, t, fr, h1, h2, h3, h4⟩ := hβ b bi h
  rw [initC_get, h1] at hg
  injection hg with hg
  injection hg with _ _ _ hg _
  exact ⟨by rw [h2]; exact hg, (Array.getElem?_eq_some_iff.1 h3).1⟩
 map := fun b bi es h hg => by
  rw [initC_get] at hg
  cases hb : bs[b]? with
  | none => rw [hb] at hg; cases hg
  | some p => rw [hb] at hg; injection hg with hg; cases hg
 fam := fun b1 b2 bi1 bi2 cs1 cs2 k1 k2 base1 base2 e1 e2 _ _ _ hg => by
  rw [initC_get] at hg
  cases hb : bs[b1]? with
  | none => rw [hb] at hg; cases hg
  | some p => rw [hb] at hg; injection hg with hg; injection hg with _ _ _ _ hg; cases hg
 inj := fun b1 b2 bi1 bi2 es _ _ _ hg => by
  rw [initC_get] at hg
  cases hb : bs[b1]? with
  | none => rw [hb] at hg; cases hg
  | some p => rw [hb] at hg; injection hg with hg; cases hg
 iter := fun b bi t pos h hg => by
  rw [initC_get] at hg
  cases hb : bs[b]? with
  | none => rw [hb] at hg; cases hg
  | some p => rw [hb] at hg; injection hg with hg; cases hg
 gl := hgl
 below := .refl _ _
 base := Nat.le_refl _
/-- A law that answers true. -/
theorem calls_of_cw {P : Program} (hP : Good P) {f : Nat} {fn : Func} {c : Code} (hf : P.funcs[f]? = some fn) (hb : fn.body = some c) {bs : List (List Value × Nat)} {args : List Value} (h : Cw P f args (initC bs) fun v _ => v = .bool true)
  {W : World} {β : B} (hβ : ∀ b bi, β b = some bi → ∃ cs e C t fr, bs[b]? = some (cs, e) ∧ bi.esz = e ∧ W.heap[bi.blk]? = some (.cells C t fr) ∧ ∀ (i : Nat) (v : Value), cs[i]? = some v → ∃ v', C[i + bi.sh]? = some v' ∧ VR β v v')
  (hgl : ∀ g i, Lk.gl g = some i → ∃ e l, β i = some ⟨g, 0, e, l⟩) {args' : Array Value} (ha : LR β args args'.toList) : Calls P f args' W (fun e W' => e = .returned (.bool true) ∧ Below W.heap.size W W') := by
 obtain ⟨v, s', rfl, h⟩ := h.out
 rcases h with ⟨k0, h⟩ | ⟨_, fn', h1, h2, _⟩ | ⟨fn', h1, h2, _⟩
 · obtain ⟨u, _, hc⟩ := ev_sim hP k0 _ _ _ _ _ (h k0 (Nat.le_refl _)) (initC_wf bs)
   refine (hc s'.next W.heap.size W β W args' (Nat.le_refl _) (init_rel hgl hβ u.next) ha).mono ?_
   rintro e W' ⟨β', v', rfl, hst, hv⟩
   cases hv
   exact ⟨rfl, hst.rel.below⟩
 · rw [hf] at h1; injection h1 with h1; subst h1
   rw [hb] at h2; cases h2
 · rw [hf] at h1; injection h1 with h1; subst h1
   rw [hb] at h2; cases h2
/-- A slice among the arguments: n elements, cells 'cs' that lead nowhere. -/
structure CArg (W : World) (v' : Value) (e n : Nat) (cs : List Value) : Prop where
 closed : ∀ x ∈ cs, closedV 6 x = true
 ex : (v' = .slice none 0 0 ∧ n = 0 ∧ cs = []) ∨ ∃ a cap C t fr, v' = .slice (some a) n cap ∧ a.spot = none ∧ n ≤ cap ∧ cs.length = n * e ∧ W.heap[a.block]? = some (.cells C t fr) ∧ ∀ i x, cs[i]? = some x → C[i + a.off]? = some x
def biOf (e : Nat) : Value → Option BI
 | .slice (some a) _ c => some ⟨a.block, a.off, e, a.off + c * e⟩
 | _ => none
/-- Where the slices among the arguments lie. -/
def betaOf (vs : List (Value × Nat)) : B := fun b => (vs[b]?).bind fun p => biOf p.2 p.1
end Go.Ev
