/- A proved evaluator, part 14b: operations that only make a new block, wherever they stand. No condition. -/
import Derived.Test.YtmhfkejbahacoaaGreatDoorKViewHoldsE14
noncomputable section
namespace Go.Ev
open Go.RowKit
set_option linter.unusedVariables false
variable [Lk]
set_option linter.unusedSectionVars false

/-- It makes a new block, and looks at none. -/
def isFree : Op → Bool
  | .alloc _ => true
  | .box _ _ => true
  | .buildSlice _ _ _ => true
  | .makeSlice _ _ _ => true
  | _ => false

/-- So it runs, in any world. -/
def FreeRun (P : Program) (m : (Operand → Value) → Sem Value) (ρ : Operand → Option Value) (n : Nat) (v : Value) (cs : List Value) (esz ty : Nat) : Prop :=
  ∀ (β : B) (ρ' : Operand → Value) (w : World), OR β ρ ρ' → ∃ C e v', LR β cs C.toList ∧ (m ρ').run P w = .ok v' (w.alloc (.cells C e)) ∧ (∀ t, ty = t + 1 → e = t) ∧
    ∀ β' : B, (∀ b bi, β b = some bi → β' b = some bi) → β' n = some ⟨w.heap.size, 0, esz, C.size⟩ → VR β' v v'

theorem var_free {P : Program} {ρ : Operand → Option Value} {t : TypeId} {v r : Value} {s s1 : St} (h : evVar P t v s = some (r, s1)) {f : (Operand → Value) → Value} (hf : ∀ β ρ', OR β ρ ρ' → VR β v (f ρ')) :
    ∃ cs esz ty, s1 = s.new cs esz ty ∧ FreeRun P (fun ρ' => do pure (.pointer (some (← newVar t (f ρ'))))) ρ s.next r cs esz ty := by
  unfold evVar at h
  split at h <;> first | contradiction | skip
  rename_i e he
  injection h with h; injection h with h1 h2; subst h1 h2
  refine ⟨_, e, t + 1, rfl, fun β ρ' w hρ => ⟨_, t, .pointer (some ⟨w.heap.size, 0, none⟩), (hf β ρ' hρ).cells, ?_, fun t h => by simp at h; exact h, fun β' _ hb => .ptr ⟨_, hb, rfl, rfl⟩⟩⟩
  simp [newVar, newRow]
theorem alloc_free {P : Program} {ρ : Operand → Option Value} {t : TypeId} {r : Value} {s s1 : St} (h : evAlloc P t s = some (r, s1)) :
    ∃ cs esz ty, s1 = s.new cs esz ty ∧ FreeRun P (fun _ => Instr.alloc t true (.tuple #[])) ρ s.next r cs esz ty := by
  unfold evAlloc at h
  split at h <;> first | contradiction | skip
  rename_i i hi
  split at h <;> first | contradiction | skip
  rename_i z hz
  split at h <;> first | contradiction | skip
  rename_i hc
  obtain ⟨cs, esz, ty, g1, g2⟩ := var_free (ρ := ρ) (f := fun _ => z) h (fun β ρ' _ => closedV_VR β 6 z hc)
  refine ⟨cs, esz, ty, g1, fun β ρ' w hρ => ?_⟩
  obtain ⟨C, e, v', h1, h2, h4, h3⟩ := g2 β ρ' w hρ
  refine ⟨C, e, v', h1, ?_, h4, h3⟩
  simp only [Instr.alloc, Sem.run_bind, run_zero' hi hz, Result.andThen_ok]
  simpa using h2
theorem buildSlice_free {P : Program} {ρ : Operand → Option Value} {t : TypeId} {len : Nat} {parts : List (Nat × Value)} {f : (Operand → Value) → Array (Nat × Value)} {r : Value} {s s' : St}
    (h : evBuildSlice P t len parts s = some (r, s')) (hp : ∀ β ρ', OR β ρ ρ' → PR β parts (f ρ').toList) : ∃ cs esz ty, s' = s.new cs esz ty ∧ FreeRun P (fun ρ' => Instr.buildSlice t len (f ρ')) ρ s.next r cs esz ty := by
  unfold evBuildSlice at h
  split at h <;> first | contradiction | skip
  rename_i e hu
  split at h <;> first | contradiction | skip
  rename_i i hi
  split at h <;> first | contradiction | skip
  rename_i z hz
  split at h <;> first | contradiction | skip
  rename_i hc hzs hpos hle
  split at h <;> first | contradiction | skip
  rename_i cells hf
  injection h with h; injection h with h1 h2; subst h1 h2
  refine ⟨cells, i.size, e + 1, rfl, fun β ρ' w hρ => ?_⟩
  have hzs := Nat.eq_of_beq_eq_true hzs
  have hpos : 0 < i.size := by simpa [Nat.blt_eq] using hpos
  have hle := Nat.le_of_ble_eq_true hle
  have hzl := zeros_LR β hc (by omega) (len * i.size)
  have hfl := fillL_length hf
  have hzn : (zeros z.cells.toList (len * i.size)).length = len * i.size := by simp [zeros]
  obtain ⟨out', ho, hr⟩ := fill_sim (hp β ρ' hρ) hzl hf
  have hsz : out'.size = len * i.size := by have := hr.length; simp at this; omega
  refine ⟨out', e, .slice (some ⟨w.heap.size, 0, none⟩) len len, hr, ?_, fun t h => by simp at h; exact h, fun β' _ hb => .slice (Nat.le_refl _) ⟨_, hb, rfl, rfl, rfl, .inr rfl, Nat.le_refl _, ?_⟩⟩
  · have hnot : ¬ len * i.size > 2 ^ 24 := by omega
    by_cases h0 : len * i.size = 0
    · have e0 : ((Array.range (len * i.size)).map fun (k : Nat) => (#[] : Array Value)[k % (#[] : Array Value).size]!) = (Array.range (len * i.size)).map fun (k : Nat) => z.cells[k % z.cells.size]! := by simp [h0]
      simp only [Instr.buildSlice, Sem.run_bind, run_underlying' hu, run_sizeOf' hi, Result.andThen_ok, if_neg hnot, if_pos h0, Sem.run_pure, e0, ho, newRow, run_newObj_alloc]
    · simp only [Instr.buildSlice, Sem.run_bind, run_underlying' hu, run_sizeOf' hi, run_zero' hi hz, Result.andThen_ok, if_neg hnot, if_neg h0, Sem.run_pure, ho, newRow, run_newObj_alloc]
  · simp only; omega
theorem makeSlice_free {P : Program} {ρ : Operand → Option Value} {t : TypeId} {len cap : Value} {f g : (Operand → Value) → Value} {r : Value} {s s' : St}
    (h : evMakeSlice P t len cap s = some (r, s')) (hf : ∀ β ρ', OR β ρ ρ' → VR β len (f ρ')) (hg : ∀ β ρ', OR β ρ ρ' → VR β cap (g ρ')) : ∃ cs esz ty, s' = s.new cs esz ty ∧ FreeRun P (fun ρ' => Instr.makeSlice t (f ρ') (g ρ')) ρ s.next r cs esz ty := by
  unfold evMakeSlice at h
  split at h <;> first | contradiction | skip
  rename_i e k1 l k2 c hu
  split at h <;> first | contradiction | skip
  rename_i i hi
  split at h <;> first | contradiction | skip
  rename_i z hz
  split at h <;> first | contradiction | skip
  rename_i hc hzs hpos hlc hcb hby
  injection h with h; injection h with h1 h2; subst h1 h2
  refine ⟨_, i.size, e + 1, rfl, fun β ρ' w hρ => ?_⟩
  have v1 := hf β ρ' hρ
  have v2 := hg β ρ' hρ
  dsimp only
  generalize f ρ' = len' at v1 ⊢
  generalize g ρ' = cap' at v2 ⊢
  cases v1; cases v2
  have hzs := Nat.eq_of_beq_eq_true hzs
  have hpos : 0 < i.size := by simpa [Nat.blt_eq] using hpos
  have hlc := Nat.le_of_ble_eq_true hlc
  have hcb := Nat.le_of_ble_eq_true hcb
  have hby := Nat.le_of_ble_eq_true hby
  have hzl := zeros_LR β hc (by omega) (c * i.size)
  have hsz : ((Array.range (c * i.size)).map (fun (k : Nat) => z.cells[k % z.cells.size]!)).size = c * i.size := by simp
  refine ⟨_, e, .slice (some ⟨w.heap.size, 0, none⟩) l c, hzl, ?_, fun t h => by simp at h; exact h, fun β' _ hb => .slice hlc ⟨_, hb, rfl, rfl, rfl, .inr rfl, Nat.le_refl _, ?_⟩⟩
  · have hw1 := wrap_small (c := l) (by omega)
    have hw2 := wrap_small hcb
    have hb2 : ¬ ((i.bytes : Int) * (c : Int) > 2 ^ 48) := by
      have : ((i.bytes * c : Nat) : Int) ≤ 281474976710656 := Int.ofNat_le.2 hby
      rw [Int.natCast_mul] at this
      omega
    have hcn : (Int.ofNat c).toNat = c := rfl
    have hln : (Int.ofNat l).toNat = l := rfl
    have hcond : (decide (Int.ofNat c < 0) || decide ((i.bytes : Int) * Int.ofNat c > 2 ^ 48) || decide (Int.ofNat l < 0) || decide (Int.ofNat l > Int.ofNat c)) = false := by
      have a1 : ¬ (Int.ofNat c < 0) := by simp
      have a2 : ¬ (Int.ofNat l < 0) := by simp
      have a3 : ¬ (Int.ofNat l > Int.ofNat c) := by simp; omega
      simp only [a1, a2, a3, decide_false, Bool.or_false]
      simpa using hb2
    by_cases h0 : c * i.size = 0
    · have e0 : ((Array.range (c * i.size)).map fun (k : Nat) => (#[] : Array Value)[k % (#[] : Array Value).size]!) = (Array.range (c * i.size)).map fun (k : Nat) => z.cells[k % z.cells.size]! := by simp [h0]
      simp only [Instr.makeSlice, asInt, asIntOf, Sem.run_bind, run_underlying' hu, run_typeInfo' hi, Sem.run_pure, Result.andThen_ok, hw1, hw2]
      simp only [hcond, Bool.false_eq_true, if_false, Sem.run_bind, run_sizeOf' hi, Sem.run_pure, Result.andThen_ok, run_askRoom, hcn, hln, if_pos h0, e0, newRow, run_newObj_alloc]
    · simp only [Instr.makeSlice, asInt, asIntOf, Sem.run_bind, run_underlying' hu, run_typeInfo' hi, Sem.run_pure, Result.andThen_ok, hw1, hw2]
      simp only [hcond, Bool.false_eq_true, if_false, Sem.run_bind, run_sizeOf' hi, Sem.run_pure, Result.andThen_ok, run_askRoom, hcn, hln, if_neg h0, run_zero' hi hz, newRow, run_newObj_alloc]
  · simp only; rw [hsz]; omega

/-- A free operation, evaluated: a new block; and so it runs in any world. -/
theorem free_op {P : Program} {call : Call} {ρ : Operand → Option Value} {o : Oper} {s s1 : St} {v : Value} (hf : isFree o.op = true) (h : evOp P call ρ o.op s = some (v, s1)) :
    ∃ cs esz ty, s1 = s.new cs esz ty ∧ ∀ (β : B) (ρ' : Operand → Value) (w : World), OR β ρ ρ' → ∃ C e v', LR β cs C.toList ∧ (execOp ρ' o).run P w = .ok (.value v') (w.alloc (.cells C e)) ∧ (∀ t, ty = t + 1 → e = t) ∧
      ∀ β' : B, (∀ b bi, β b = some bi → β' b = some bi) → β' s.next = some ⟨w.heap.size, 0, esz, C.size⟩ → VR β' v v' := by
  have hp : evPure P ρ o.op = none := by
    revert hf
    cases o.op <;> intro hf <;> first | rfl | (cases hf; done)
  have hx : evX P ρ o.op = none := by
    revert hf
    cases o.op <;> intro hf <;> first | rfl | (cases hf; done)
  have hxm : evXM P ρ o.op s = none := by
    revert hf
    cases o.op <;> intro hf <;> first | rfl | (cases hf; done)
  have hcl : evCall call ρ o.op s = none := by
    revert hf
    cases o.op <;> intro hf <;> first | rfl | (cases hf; done)
  have hm : evMem P ρ o.op s = some (v, s1) := by
    unfold evOp at h
    rw [hp] at h
    simp only at h
    split at h
    · rename_i r hr; rw [hr]; exact h
    · rw [hx] at h; simp only at h; rw [hxm, hcl] at h; cases h
  have fin : ∀ {m : (Operand → Value) → Sem Value}, (∀ ρ', execOp ρ' o = (do pure (.value (← m ρ')))) → (∃ cs esz ty, s1 = s.new cs esz ty ∧ FreeRun P m ρ s.next v cs esz ty) →
      ∃ cs esz ty, s1 = s.new cs esz ty ∧ ∀ (β : B) (ρ' : Operand → Value) (w : World), OR β ρ ρ' → ∃ C e v', LR β cs C.toList ∧ (execOp ρ' o).run P w = .ok (.value v') (w.alloc (.cells C e)) ∧ (∀ t, ty = t + 1 → e = t) ∧
        ∀ β' : B, (∀ b bi, β b = some bi → β' b = some bi) → β' s.next = some ⟨w.heap.size, 0, esz, C.size⟩ → VR β' v v' := by
    rintro m he ⟨cs, esz, ty, g1, g2⟩
    refine ⟨cs, esz, ty, g1, fun β ρ' w hρ => ?_⟩
    obtain ⟨C, e, v', h1, h2, h4, h3⟩ := g2 β ρ' w hρ
    exact ⟨C, e, v', h1, by rw [he]; simp only [Sem.run_bind, h2, Result.andThen_ok, Sem.run_pure], h4, h3⟩
  obtain ⟨dst, op, type, pos, after, guard⟩ := o
  simp only at hf hm
  have hv := fun ρ' => execOp_v ρ' dst type pos after guard
  unfold evMem at hm
  cases op <;> first | (cases hf; done) | skip
  · rename_i t
    exact fin (fun ρ' => (hv ρ').1 t) (alloc_free hm)
  · rename_i t x
    simp only at hm
    split at hm <;> first | contradiction | skip
    rename_i a ha
    exact fin (fun ρ' => (hv ρ').2.1 t x) (var_free (f := fun ρ' => ρ' x) hm fun β ρ' hρ => hρ _ _ ha)
  · rename_i t len parts
    simp only at hm
    split at hm <;> first | contradiction | skip
    rename_i ps hps
    exact fin (fun ρ' => (hv ρ').2.2.1 t len parts) (buildSlice_free hm fun β ρ' hρ => mapP_PR hρ hps)
  · rename_i t l c
    simp only at hm
    split at hm <;> first | contradiction | skip
    rename_i a b ha hb
    exact fin (fun ρ' => (hv ρ').2.2.2.2.2.1 t l c) (makeSlice_free hm (fun β ρ' hρ => hρ _ _ ha) (fun β ρ' hρ => hρ _ _ hb))

end Go.Ev
