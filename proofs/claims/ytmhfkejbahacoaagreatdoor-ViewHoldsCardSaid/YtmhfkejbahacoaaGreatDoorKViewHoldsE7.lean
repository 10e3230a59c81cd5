/- A proved evaluator, part 7: the operations that do not touch memory, all of them. No condition. -/
import Derived.Test.YtmhfkejbahacoaaGreatDoorKViewHoldsE6
noncomputable section
namespace Go.Ev
open Go.RowKit
set_option linter.unusedVariables false
variable [Lk]
set_option linter.unusedSectionVars false

/-! ### what is built -/
def fillL (place : Nat → Option (Nat × Nat)) (cells : List Value) : List (Nat × Value) → Option (List Value)
  | [] => some cells
  | (i, v) :: rest => match place i with
    | none => none
    | some (off, size) => match Nat.beq v.cells.toList.length size, Nat.ble (off + v.cells.toList.length) cells.length with
      | true, true => fillL place (putAt cells off v.cells.toList) rest
      | _, _ => none
theorem putAt_cons {cs vs : List Value} {v : Value} {off : Nat} (h : off + (vs.length + 1) ≤ cs.length) : putAt cs off (v :: vs) = putAt (cs.set off v) (off + 1) vs := by
  apply List.ext_getElem?
  intro i
  rw [putAt_get (by simpa using h), putAt_get (by simp; omega), List.getElem?_set]
  by_cases hi : i = off
  · subst hi; rw [if_pos (by simp), if_neg (by omega)]; simp; omega
  · by_cases h2 : off ≤ i ∧ i < off + (v :: vs).length
    · rw [if_pos h2, if_pos (by simp at h2; omega)]
      rw [show i - off = (i - (off + 1)) + 1 by omega]; simp
    · rw [if_neg h2, if_neg (by simp at h2 ⊢; omega), if_neg (by omega)]
theorem foldl_set (off : Nat) : ∀ (vs : List Value) (k : Nat) (cells : Array Value), off + k + vs.length ≤ cells.size →
    ((vs.zipIdx k).foldl (fun (cs : Array Value) (p : Value × Nat) => cs.setIfInBounds (off + p.2) p.1) cells).toList = putAt cells.toList (off + k) vs
  | [], k, cells, _ => by simp [putAt]
  | v :: vs, k, cells, h => by
    simp only [List.zipIdx_cons, List.foldl_cons]
    simp only [List.length_cons] at h
    rw [foldl_set off vs (k + 1) _ (by simp; omega), putAt_cons (by simp; omega)]
    simp [Nat.add_assoc]
theorem LR.putAt {β : B} {cs cs' vs vs' : List Value} {off : Nat} (h : LR β cs cs') (hv : LR β vs vs') : LR β (putAt cs off vs) (putAt cs' off vs') := by
  unfold Go.Ev.putAt
  rw [← hv.length]
  exact ((h.take off).append hv).append (h.drop _)
/-- Parts, one by one. -/
inductive PR (β : B) : List (Nat × Value) → List (Nat × Value) → Prop
  | nil : PR β [] []
  | cons {i : Nat} {v v' : Value} {l l' : List (Nat × Value)} (h : VR β v v') (t : PR β l l') : PR β ((i, v) :: l) ((i, v') :: l')
theorem fill_sim {β : B} {place : Nat → Option (Nat × Nat)} : ∀ {parts parts' : List (Nat × Value)}, PR β parts parts' → ∀ {cells : List Value} {cells' : Array Value} {out : List Value}, LR β cells cells'.toList →
    fillL place cells parts = some out → ∃ out', Instr.fill place cells' parts' = some out' ∧ LR β out out'.toList := by
  intro parts parts' hp
  induction hp with
  | nil => intro cells cells' out hl h; simp only [fillL] at h; injection h with h; subst h; exact ⟨cells', rfl, hl⟩
  | cons hv _ ih =>
    intro cells cells' out hl h
    rename_i i v v' l l' _
    unfold fillL at h
    split at h
    · cases h
    · rename_i off size hpl
      split at h
      · rename_i h1 h2
        have h1 := Nat.eq_of_beq_eq_true h1
        have h2 := Nat.le_of_ble_eq_true h2
        have hc := hv.cells
        have hcl := hc.length
        have hll := hl.length
        simp only [Array.length_toList] at hcl hll h1 h2
        have e : (v'.cells.zipIdx.foldl (fun (cs : Array Value) (p : Value × Nat) => cs.setIfInBounds (off + p.2) p.1) cells').toList = Go.Ev.putAt cells'.toList off v'.cells.toList := by
          rw [← Array.foldl_toList, Array.toList_zipIdx]
          have := foldl_set off v'.cells.toList 0 cells' (by simp; omega)
          simpa using this
        obtain ⟨out', ho, hr⟩ := ih (cells' := v'.cells.zipIdx.foldl (fun (cs : Array Value) (p : Value × Nat) => cs.setIfInBounds (off + p.2) p.1) cells') (by rw [e]; exact hl.putAt hc) h
        refine ⟨out', ?_, hr⟩
        unfold Instr.fill
        simp only [hpl]
        rw [if_neg (by simp; omega)]
        exact ho
      · cases h

def opvs (ρ : Operand → Option Value) : List Operand → Option (List Value)
  | [] => some []
  | x :: xs => match ρ x, opvs ρ xs with
    | some v, some vs => some (v :: vs)
    | _, _ => none
theorem opvs_sim {β : B} {ρ : Operand → Option Value} {ρ' : Operand → Value} (hρ : OR β ρ ρ') : ∀ {xs : List Operand} {vs : List Value}, opvs ρ xs = some vs → LR β vs (xs.map ρ')
  | [], vs, h => by simp only [opvs] at h; injection h with h; subst h; exact .nil
  | x :: xs, vs, h => by
    unfold opvs at h
    split at h
    · rename_i v vs' h1 h2
      injection h with h; subst h
      exact .cons (hρ x v h1) (opvs_sim hρ h2)
    · cases h
def opps (ρ : Operand → Option Value) : List (Nat × Operand) → Option (List (Nat × Value))
  | [] => some []
  | (i, x) :: xs => match ρ x, opps ρ xs with
    | some v, some vs => some ((i, v) :: vs)
    | _, _ => none
theorem opps_sim {β : B} {ρ : Operand → Option Value} {ρ' : Operand → Value} (hρ : OR β ρ ρ') : ∀ {xs : List (Nat × Operand)} {vs : List (Nat × Value)}, opps ρ xs = some vs → PR β vs (xs.map fun (i, x) => (i, ρ' x))
  | [], vs, h => by simp only [opps] at h; injection h with h; subst h; exact .nil
  | (i, x) :: xs, vs, h => by
    unfold opps at h
    split at h
    · rename_i v vs' h1 h2
      injection h with h; subst h
      exact .cons (hρ x v h1) (opps_sim hρ h2)
    · cases h

/-- Where the fields of a struct lie, and of how many cells they are. -/
def placesL (P : Program) : List Field → Option (List (Nat × Nat))
  | [] => some []
  | f :: fs => match P.info? f.type, placesL P fs with
    | some i, some r => some ((f.offset, i.size) :: r)
    | _, _ => none
theorem places_run {P : Program} : ∀ {fs : List Field} {r : List (Nat × Nat)}, placesL P fs = some r → ∀ w, (fs.mapM (fun f => do pure (f.offset, ← sizeOf f.type)) : Sem (List (Nat × Nat))).run P w = .ok r w
  | [], r, h => by intro w; simp only [placesL] at h; injection h with h; subst h; simp
  | f :: fs, r, h => by
    intro w
    unfold placesL at h
    split at h
    · rename_i i r' hi hr
      injection h with h; subst h
      simp only [List.mapM_cons, Sem.run_bind, run_sizeOf' hi, Result.andThen_ok, Sem.run_pure, places_run hr w]
    · cases h

def evBuild (P : Program) (t : TypeId) (parts : List (Nat × Value)) : Option Value :=
  match P.info? t with
  | some i => match i.zero with
    | some z => match closedV 6 z, P.underlying t with
      | true, some (.struct fs) => match placesL P fs.toList with
        | some ps => match fillL (fun j => ps[j]?) z.cells.toList parts with
          | some cells => some (.agg cells.toArray)
          | none => none
        | none => none
      | true, some (.array _ e) => match P.info? e with
        | some j => match fillL (fun k => some (k * j.size, j.size)) z.cells.toList parts with
          | some cells => some (.agg cells.toArray)
          | none => none
        | none => none
      | _, _ => none
    | none => none
  | none => none
theorem build_sim {P : Program} {β : B} {t : TypeId} {parts : List (Nat × Value)} {parts' : Array (Nat × Value)} {v : Value} (h : evBuild P t parts = some v) (hp : PR β parts parts'.toList) :
    ∃ v', VR β v v' ∧ Gives P (Instr.build t parts') v' := by
  unfold evBuild at h
  split at h <;> first | contradiction | skip
  rename_i i hi
  split at h <;> first | contradiction | skip
  rename_i z hz
  have hzl : closedV 6 z = true → LR β z.cells.toList z.cells.toList := fun hc => (closedV_VR β 6 z hc).cells
  split at h <;> first | contradiction | skip
  · rename_i fs hc hu
    split at h <;> first | contradiction | skip
    rename_i ps hps
    split at h <;> first | contradiction | skip
    rename_i cells hf
    injection h with h; subst h
    obtain ⟨out', ho, hr⟩ := fill_sim (cells' := z.cells) hp (hzl hc) hf
    refine ⟨.agg out', by have := VR.agg_of hr; simpa using this, fun w => ?_⟩
    have hpl := places_run hps w
    have hm : (fs.mapM (fun f => do pure (f.offset, ← sizeOf f.type)) : Sem (Array (Nat × Nat))).run P w = .ok ps.toArray w := by
      rw [Array.mapM_eq_mapM_toList]
      simp only [Functor.map]
      rw [Sem.run_bind', hpl]
      rfl
    have ho' : Instr.fill (fun x => ps.toArray[x]?) z.cells parts'.toList = some out' := by simpa using ho
    simp only [Instr.build, Sem.run_bind, run_zero' hi hz, run_underlying' hu, Result.andThen_ok, hm, ho', Sem.run_pure]
  · rename_i n e hc hu
    split at h <;> first | contradiction | skip
    rename_i j hj
    split at h <;> first | contradiction | skip
    rename_i cells hf
    injection h with h; subst h
    obtain ⟨out', ho, hr⟩ := fill_sim (cells' := z.cells) hp (hzl hc) hf
    refine ⟨.agg out', by have := VR.agg_of hr; simpa using this, fun w => ?_⟩
    simp only [Instr.build, Sem.run_bind, run_zero' hi hz, run_underlying' hu, Result.andThen_ok, run_sizeOf' hj, ho, Sem.run_pure]

end Go.Ev
