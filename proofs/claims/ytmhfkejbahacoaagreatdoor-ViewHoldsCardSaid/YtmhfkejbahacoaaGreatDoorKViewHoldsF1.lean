/- From the steps to a law over any input: the first state, slices among the arguments. No condition. -/
import Derived.Test.YtmhfkejbahacoaaGreatDoorKViewHoldsS4
import Derived.WalkKit
import Derived.ProofKit
import Derived.OpenShut
import Derived.ShutString
import Derived.ChangeOld
import Derived.Below
import Derived.SizedLaws
import Derived.ChangeSlices
import Derived.KernelRfl
noncomputable section
namespace Go.Ev
open Go.RowKit Go.ChangeShapes Go.WideShapes
set_option linter.unusedVariables false
variable [Lk]
set_option linter.unusedSectionVars false

def hpF : List (List Value × Nat) → Nat → T CB → T CB
  | [], _, t => t
  | p :: r, i, t => hpF r (i + 1) (t.set i (.cells p.1 0 0 p.2 false))
theorem hpF_get : ∀ (bs : List (List Value × Nat)) (i : Nat) (t : T CB) (b : Nat), (hpF bs i t).get b = if i ≤ b ∧ b < i + bs.length then (bs[b - i]?).map (fun p => CB.cells p.1 0 0 p.2 false) else t.get b
  | [], i, t, b => by
    rw [if_neg (by simp only [List.length_nil]; omega)]; rfl
  | p :: r, i, t, b => by
    unfold hpF
    rw [hpF_get r (i + 1)]
    by_cases h : i = b
    · subst h
      rw [if_neg (by omega), if_pos (by simp)]
      simp
    · by_cases h2 : i + 1 ≤ b ∧ b < i + 1 + r.length
      · rw [if_pos h2, if_pos (by simp; omega)]
        have : b - i = (b - (i + 1)) + 1 := by omega
        rw [this, List.getElem?_cons_succ]
      · rw [if_neg h2, if_neg (by simp; omega), T.get_set_ne _ (by omega)]
/-- The caller's blocks: cells, cells of an element. -/
def initC (bs : List (List Value × Nat)) : St := { heap := hpF bs 0 .nil, fams := .nil, tys := .nil, next := bs.length, low := bs.length }
theorem initC_get (bs : List (List Value × Nat)) (b : Nat) : (initC bs).heap.get b = (bs[b]?).map (fun p => CB.cells p.1 0 0 p.2 false) := by
  simp only [initC]
  rw [hpF_get]
  split
  · simp
  · rename_i h
    have : bs[b]? = none := List.getElem?_eq_none (by omega)
    rw [this]; simp
theorem initC_wf (bs : List (List Value × Nat)) : WF (initC bs) where
  lt := fun b cb h => by
    rw [initC_get] at h
    show b < bs.length
    rcases Nat.lt_or_ge b bs.length with g | g
    · exact g
    · rw [List.getElem?_eq_none g] at h; cases h
  fam := fun b cs k base esz h => by
    rw [initC_get] at h
    cases hb : bs[b]? with
    | none => rw [hb] at h; cases h
    | some p => rw [hb] at h; injection h with h; injection h with _ _ _ _ h; cases h
  low := Nat.le_refl _
theorem initC_ro {bs : List (List Value × Nat)} {b e : Nat} {cs : List Value} (h : bs[b]? = some (cs, e)) : Ro (initC bs) b cs e := ⟨0, 0, by rw [initC_get, h]; rfl⟩
theorem initC_rd {bs : List (List Value × Nat)} {b : Nat} {cs : List Value} (h : (initC bs).rd b = some cs) : ∃ e, bs[b]? = some (cs, e) := by
  unfold St.rd at h
  rw [initC_get] at h
  cases hb : bs[b]? with
  | none => rw [hb] at h; cases h
  | some p =>
    rw [hb] at h
    simp only [Option.map_some] at h
    injection h with h
    subst h
    exact ⟨p.2, rfl⟩
theorem init_rel {bs : List (List Value × Nat)} {β : B} {W : World} (hgl : ∀ g i, Lk.gl g = some i → ∃ e l, β i = some ⟨g, 0, e, l⟩) (hβ : ∀ b bi, β b = some bi → ∃ cs e C t fr, bs[b]? = some (cs, e) ∧ bi.esz = e ∧ W.heap[bi.blk]? = some (.cells C t fr) ∧
    ∀ (i : Nat) (v : Value), cs[i]? = some v → ∃ v', C[i + bi.sh]? = some v' ∧ VR β v v') {J : Nat} (hJ : bs.length ≤ J) : Rel J W.heap.size W β (initC bs) W where
  nx := hJ
  dom := fun b bi h => by
    obtain ⟨cs, e, C, t, fr, h1, h2, h3, h4⟩ := hβ b bi h
    exact ⟨(Array.getElem?_eq_some_iff.1 h3).1, .inl ⟨_, by rw [initC_get, h1]; rfl⟩⟩
  rd := fun b bi cs h hr => by
    obtain ⟨cs', e, C, t, fr, h1, h2, h3, h4⟩ := hβ b bi h
    obtain ⟨e', g⟩ := initC_rd hr
    rw [h1] at g; injection g with g; injection g with g1 g2; subst g1
    exact ⟨C, t, fr, h3, h4⟩
  own := fun b bi cs k base esz h hg => by
    rw [initC_get] at hg
    cases hb : bs[b]? with
    | none => rw [hb] at hg; cases hg
    | some p => rw [hb] at hg; injection hg with hg; injection hg with _ _ _ _ hg; cases hg
  ro := fun b bi cs k base esz h hg => by
    obtain ⟨cs', e, C, t, fr, h1, h2, h3, h4⟩ := hβ b bi h
    rw [initC_get, h1] at hg
    injection hg with hg
    injection hg with _ _ _ hg _
    exact ⟨by rw [h2]; exact hg, (Array.getElem?_eq_some_iff.1 h3).1⟩
  map := fun b bi es h hg => by
    rw [initC_get] at hg
    cases hb : bs[b]? with
    | none => rw [hb] at hg; cases hg
    | some p => rw [hb] at hg; injection hg with hg; cases hg
  fam := fun b1 b2 bi1 bi2 cs1 cs2 k1 k2 base1 base2 e1 e2 _ _ _ hg => by
    rw [initC_get] at hg
    cases hb : bs[b1]? with
    | none => rw [hb] at hg; cases hg
    | some p => rw [hb] at hg; injection hg with hg; injection hg with _ _ _ _ hg; cases hg
  inj := fun b1 b2 bi1 bi2 es _ _ _ hg => by
    rw [initC_get] at hg
    cases hb : bs[b1]? with
    | none => rw [hb] at hg; cases hg
    | some p => rw [hb] at hg; injection hg with hg; cases hg
  iter := fun b bi t pos h hg => by
    rw [initC_get] at hg
    cases hb : bs[b]? with
    | none => rw [hb] at hg; cases hg
    | some p => rw [hb] at hg; injection hg with hg; cases hg
  gl := hgl
  below := .refl _ _
  base := Nat.le_refl _

/-- A law that answers true. -/
theorem calls_of_cw {P : Program} (hP : Good P) {f : Nat} {fn : Func} {c : Code} (hf : P.funcs[f]? = some fn) (hb : fn.body = some c) {bs : List (List Value × Nat)} {args : List Value} (h : Cw P f args (initC bs) fun v _ => v = .bool true)
    {W : World} {β : B} (hβ : ∀ b bi, β b = some bi → ∃ cs e C t fr, bs[b]? = some (cs, e) ∧ bi.esz = e ∧ W.heap[bi.blk]? = some (.cells C t fr) ∧ ∀ (i : Nat) (v : Value), cs[i]? = some v → ∃ v', C[i + bi.sh]? = some v' ∧ VR β v v')
    (hgl : ∀ g i, Lk.gl g = some i → ∃ e l, β i = some ⟨g, 0, e, l⟩) {args' : Array Value} (ha : LR β args args'.toList) : Calls P f args' W (fun e W' => e = .returned (.bool true) ∧ Below W.heap.size W W') := by
  obtain ⟨v, s', rfl, h⟩ := h.out
  rcases h with ⟨k0, h⟩ | ⟨_, fn', h1, h2, _⟩ | ⟨fn', h1, h2, _⟩
  · obtain ⟨u, _, hc⟩ := ev_sim hP k0 _ _ _ _ _ (h k0 (Nat.le_refl _)) (initC_wf bs)
    refine (hc s'.next W.heap.size W β W args' (Nat.le_refl _) (init_rel hgl hβ u.next) ha).mono ?_
    rintro e W' ⟨β', v', rfl, hst, hv⟩
    cases hv
    exact ⟨rfl, hst.rel.below⟩
  · rw [hf] at h1; injection h1 with h1; subst h1
    rw [hb] at h2; cases h2
  · rw [hf] at h1; injection h1 with h1; subst h1
    rw [hb] at h2; cases h2

/-- A slice among the arguments: n elements, cells 'cs' that lead nowhere. -/
structure CArg (W : World) (v' : Value) (e n : Nat) (cs : List Value) : Prop where
  closed : ∀ x ∈ cs, closedV 6 x = true
  ex : (v' = .slice none 0 0 ∧ n = 0 ∧ cs = []) ∨ ∃ a cap C t fr, v' = .slice (some a) n cap ∧ a.spot = none ∧ n ≤ cap ∧ cs.length = n * e ∧ W.heap[a.block]? = some (.cells C t fr) ∧ ∀ i x, cs[i]? = some x → C[i + a.off]? = some x
def biOf (e : Nat) : Value → Option BI
  | .slice (some a) _ c => some ⟨a.block, a.off, e, a.off + c * e⟩
  | _ => none
/-- The canonical argument. -/
def canV (i : Nat) : Value → Value
  | .slice (some _) n _ => .slice (some ⟨i, 0, none⟩) n n
  | _ => .slice none 0 0
theorem CArg.vr {W : World} {v' : Value} {e n i : Nat} {cs : List Value} (h : CArg W v' e n cs) {β : B} (hb : β i = biOf e v') : VR β (canV i v') v' := by
  rcases h.ex with ⟨rfl, _, _⟩ | ⟨a, cap, C, t, fr, rfl, h1, h2, _⟩
  · exact .nils
  · exact .slice (Nat.le_refl _) ⟨_, hb, rfl, h1, rfl, .inr (by simp), h2, Nat.le_refl _⟩
theorem CArg.sl {W : World} {v' : Value} {e n i : Nat} {cs : List Value} (h : CArg W v' e n cs) {bs : List (List Value × Nat)} (hb : bs[i]? = some (cs, e)) : Sl (initC bs) none (canV i v') e n cs := by
  rcases h.ex with ⟨rfl, rfl, rfl⟩ | ⟨a, cap, C, t, fr, rfl, h1, h2, h3, _⟩
  · exact Sl.nil _ _
  · exact ⟨.inr ⟨i, 0, n, cs, rfl, Nat.le_refl _, h3, sl_all h3, .inr ⟨rfl, initC_ro hb⟩⟩⟩
/-- Where the slices among the arguments lie. -/
def betaOf (vs : List (Value × Nat)) : B := fun b => (vs[b]?).bind fun p => biOf p.2 p.1
theorem beta_ok {W : World} {vs : List (Value × Nat)} {bs : List (List Value × Nat)} (h : ∀ (i : Nat) (v : Value) (e : Nat), vs[i]? = some (v, e) → ∃ n cs, bs[i]? = some (cs, e) ∧ CArg W v e n cs) :
    ∀ b bi, betaOf vs b = some bi → ∃ cs e C t fr, bs[b]? = some (cs, e) ∧ bi.esz = e ∧ W.heap[bi.blk]? = some (.cells C t fr) ∧ ∀ (i : Nat) (v : Value), cs[i]? = some v → ∃ v', C[i + bi.sh]? = some v' ∧ VR (betaOf vs) v v' := by
  intro b bi hb
  unfold betaOf at hb
  cases hv : vs[b]? with
  | none => rw [hv] at hb; cases hb
  | some p =>
    obtain ⟨v, e⟩ := p
    rw [hv] at hb
    simp only [Option.bind_some] at hb
    obtain ⟨n, cs, h1, h2⟩ := h b v e hv
    rcases h2.ex with ⟨rfl, _, _⟩ | ⟨a, cap, C, t, fr, rfl, h3, h4, h5, h6, h7⟩
    · cases hb
    · simp only [biOf] at hb
      injection hb with hb
      subst hb
      refine ⟨cs, e, C, t, fr, h1, rfl, h6, fun i v hv => ⟨v, h7 i v hv, ?_⟩⟩
      exact closedV_VR _ 6 _ (h2.closed v (List.mem_of_getElem? hv))

/-- A slice of whole numbers, opened. -/
theorem open_row {H : Type} {enc : TypeId × Value → H} {P : Program} {W : World} {base base' : Nat} {spare : Nat → Bool} {held : Bool} {t e : TypeId} {k : IntKind} {v : Value} {d : DataW H} {ps : List MemPlace} (hu : P.underlying t = some (.slice e)) (he : P.underlying e = some (.int k)) (hc : P.cellsOf e = 1)
    (hok : Value.okWide P W .any base t v) (h : DataW.Trod enc P W base' spare held t v d ps) : ∃ zs : List Int, CArg W v 1 zs.length (zs.map (Value.int k)) ∧ ∀ n ∈ zs, (Lit.int k n).wf = true := by
  obtain ⟨a0, len0, cap0, rfl⟩ := okWide_slice hu hok
  obtain ⟨fuel, hf⟩ := h
  rcases open_ints hu he hc hf with ⟨hcs, _⟩ | ⟨a, len, cap, zs, hcs, _, hl, hm, hz, _, hcell, hwf⟩
  · simp [Value.cells] at hcs
    obtain ⟨rfl, rfl, rfl⟩ := hcs
    exact ⟨[], ⟨by simp, .inl ⟨rfl, rfl, rfl⟩⟩, by simp⟩
  · simp [Value.cells] at hcs
    obtain ⟨rfl, rfl, rfl⟩ := hcs
    have hzl : len0 ≤ zs.length := by rw [hz]; split <;> omega
    have hlen : (zs.take len0).length = len0 := by simp; omega
    have hok' : a.spot = none ∧ ∃ row cells, W.shape? a.block = some (row, cells) := by
      simp only [Value.okWide, hu, Cell.okWide, Cell.ok] at hok
      obtain ⟨_, _, _, h2, row, cells, h3, _⟩ := hok
      exact ⟨h2, row, cells, h3⟩
    obtain ⟨hsp, row, cells, hsh⟩ := hok'
    obtain ⟨C, t', fr, hC⟩ : ∃ C t' fr, W.heap[a.block]? = some (.cells C t' fr) := by
      unfold World.shape? at hsh
      split at hsh
      · rename_i c el fr hh; exact ⟨c, el, fr, hh⟩
      · cases hsh
    refine ⟨zs.take len0, ⟨?_, .inr ⟨a, cap0, C, t', fr, by rw [hlen], hsp, by rw [hlen]; exact hl, by simp, hC, ?_⟩⟩, fun n hn => hwf n (List.mem_of_mem_take hn)⟩
    · intro x hx
      obtain ⟨n, _, rfl⟩ := List.mem_map.1 hx
      rfl
    · intro i x hx
      rw [List.getElem?_map, List.getElem?_take] at hx
      split at hx
      · rename_i hi
        have hi2 : i < zs.length := by omega
        have := hcell i hi2
        rw [List.getElem?_eq_getElem hi2] at hx
        simp only [Option.map_some] at hx
        injection hx with hx
        subst hx
        have hg : zs.getD i 0 = zs[i] := by simp [List.getD, hi2]
        rw [hg] at this
        unfold World.cell? at this
        have e2 : (a.add i) = ⟨a.block, a.off + i, none⟩ := by
          obtain ⟨ab, ao, asp⟩ := a
          simp only at hsp; subst hsp
          exact addr_add _ _ _
        rw [e2] at this
        simp only [hC] at this
        simp only [Option.isSome_none, Bool.false_eq_true, if_false] at this
        rw [Nat.add_comm]; exact this
      · cases hx
theorem i64_wf {n : Int} (h : (Lit.int .i64 n).wf = true) : -9223372036854775808 ≤ n ∧ n < 9223372036854775808 := by
  have : -9223372036854775808 ≤ n ∧ n ≤ 9223372036854775807 := by simpa [Lit.wf, IntKind.min, IntKind.max, IntKind.signed, IntKind.bits] using h
  omega
/-- A slice of numbers is no longer than its weight lets it. -/
theorem row_len {H : Type} {enc : TypeId × Value → H} {P : Program} {W : World} {base : Nat} {spare : Nat → Bool} {held : Bool} {t e : TypeId} {k : IntKind} {a : Option Addr} {len cap : Nat} {d : DataW H} {ps : List MemPlace} {ts : List TypeId} {ds : List (DataW H)} {j : Nat}
    (hsz : (DataW.weightsEach P ts ds).all (· ≤ reachBytes) = true) (ht : ts[j]? = some t) (hd : ds[j]? = some d) (hu : P.underlying t = some (.slice e)) (he : P.underlying e = some (.int k)) (hc : P.cellsOf e = 1) (hB : 0 < P.bytesOf e)
    (h : DataW.Trod enc P W base spare held t (.slice a len cap) d ps) : len ≤ 140737488351232 := by
  obtain ⟨fuel, hf⟩ := h
  rcases open_ints hu he hc hf with ⟨hcs, _⟩ | ⟨x, l, c, zs, hcs, _, hl, _, hz, hx, _, _⟩
  · simp [Value.cells] at hcs
    obtain ⟨rfl, rfl, rfl⟩ := hcs
    simp
  · simp [Value.cells] at hcs
    obtain ⟨rfl, rfl, rfl⟩ := hcs
    obtain ⟨hx, _⟩ := Prod.mk.inj hx
    subst hx
    have z := sized_slice hsz ht hd hu
    have hl2 : len ≤ zs.length := by rw [hz]; split <;> omega
    have h1 : (lits (H := H) k (zs.take len)).length + (lits (H := H) k (zs.drop len)).length = zs.length := by
      simp [lits]
      omega
    rw [h1] at z
    have : zs.length * 1 ≤ zs.length * P.bytesOf e := Nat.mul_le_mul_left _ hB
    have hr : reachBytes = 140737488351232 := by decide
    omega
theorem CArg.len {W : World} {v : Value} {n : Nat} {cs : List Value} (c : CArg W v 1 n cs) {H : Type} {enc : TypeId × Value → H} {P : Program} {base : Nat} {spare : Nat → Bool} {held : Bool} {t e : TypeId} {k : IntKind} {d : DataW H} {ps : List MemPlace} {ts : List TypeId} {ds : List (DataW H)} {j : Nat}
    (hsz : (DataW.weightsEach P ts ds).all (· ≤ reachBytes) = true) (ht : ts[j]? = some t) (hd : ds[j]? = some d) (hu : P.underlying t = some (.slice e)) (he : P.underlying e = some (.int k)) (hc : P.cellsOf e = 1) (hB : 0 < P.bytesOf e)
    (h : DataW.Trod enc P W base spare held t v d ps) : n ≤ 140737488351232 := by
  rcases c.ex with ⟨_, rfl, _⟩ | ⟨a, cap, C, t', fr, rfl, _⟩
  · omega
  · exact row_len hsz ht hd hu he hc hB h
end Go.Ev
