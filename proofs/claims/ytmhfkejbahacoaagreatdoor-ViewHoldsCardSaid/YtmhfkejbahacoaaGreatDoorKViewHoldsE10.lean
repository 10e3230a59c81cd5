/- A proved evaluator, part 10: new blocks, loads and stores. No condition. -/
import Derived.Test.YtmhfkejbahacoaaGreatDoorKViewHoldsE9
import Derived.Laws.NewFold
import Derived.IntWalk
noncomputable section
namespace Go.Ev
open Go.RowKit
set_option linter.unusedVariables false
variable [Lk]
set_option linter.unusedSectionVars false

/-- The operation runs so. -/
def Runs (P : Program) (ρ' : Operand → Value) (o : Oper) (w : World) (v : Value) (w' : World) : Prop :=
  (execOp ρ' o).run P w = .ok (.value v) w' ∨ (v = undef ∧ (execOp ρ' o).run P w = .ok .skip w')
theorem runs_of {P : Program} {ρ' : Operand → Value} {o : Oper} {m : Sem Value} {v : Value} {w w' : World} (h : execOp ρ' o = (do pure (.value (← m)))) (hg : m.run P w = .ok v w') : Runs P ρ' o w v w' := .inl (by
  rw [h]; simp only [Sem.run_bind, hg, Result.andThen_ok, Sem.run_pure])

/-- What a step of memory shows. -/
def MemSim (P : Program) (J B0 : Nat) (w0 : World) (β : B) (s : St) (w : World) (m : Sem Value) (v : Value) (s' : St) : Prop :=
  ∃ β' v' w', Step J B0 w0 β s w β' s' w' ∧ VR β' v v' ∧ m.run P w = .ok v' w'

def eszOf (P : Program) (t : TypeId) : Option Nat :=
  match P.underlying t, P.info? t with
  | some (.array _ e), _ => match P.info? e with
    | some i => some i.size
    | none => none
  | some _, some i => some i.size
  | _, _ => none

/-- A new variable. -/
def evVar (P : Program) (t : TypeId) (v : Value) (s : St) : Option (Value × St) :=
  match eszOf P t with
  | some e => some (.pointer (some ⟨s.next, 0, none⟩), s.new v.cells.toList e (t + 1))
  | none => none
theorem var_U {P : Program} {t : TypeId} {v r : Value} {s s' : St} (wf : WF s) (h : evVar P t v s = some (r, s')) : U s s' := by
  unfold evVar at h
  split at h <;> first | contradiction | skip
  injection h with h; injection h with h1 h2; subst h2
  exact new_U wf _ _ _
theorem var_sim {P : Program} {J B0 : Nat} {w0 : World} {β : B} {s s' : St} {w : World} {t : TypeId} {v v' r : Value} (hR : Rel J B0 w0 β s w) (wf : WF s) (h : evVar P t v s = some (r, s')) (hJ : s'.next ≤ J) (hv : VR β v v') :
    MemSim P J B0 w0 β s w (do pure (.pointer (some (← newVar t v')))) r s' := by
  unfold evVar at h
  split at h <;> first | contradiction | skip
  rename_i e he
  injection h with h; injection h with h1 h2; subst h1 h2
  refine ⟨_, _, _, sim_new hR wf hJ hv.cells e t, .ptr ⟨_, upd_same _ _ _, rfl, rfl⟩, ?_⟩
  simp [newVar, newRow]
def evAlloc (P : Program) (t : TypeId) (s : St) : Option (Value × St) :=
  match P.info? t with
  | some i => match i.zero with
    | some z => match closedV 6 z with
      | true => evVar P t z s
      | false => none
    | none => none
  | none => none
theorem alloc_U {P : Program} {t : TypeId} {r : Value} {s s' : St} (wf : WF s) (h : evAlloc P t s = some (r, s')) : U s s' := by
  unfold evAlloc at h
  split at h <;> first | contradiction | skip
  split at h <;> first | contradiction | skip
  split at h <;> first | contradiction | skip
  exact var_U wf h
theorem alloc_sim {P : Program} {J B0 : Nat} {w0 : World} {β : B} {s s' : St} {w : World} {t : TypeId} {r : Value} (hR : Rel J B0 w0 β s w) (wf : WF s) (h : evAlloc P t s = some (r, s')) (hJ : s'.next ≤ J) :
    MemSim P J B0 w0 β s w (Instr.alloc t true (.tuple #[])) r s' := by
  unfold evAlloc at h
  split at h <;> first | contradiction | skip
  rename_i i hi
  split at h <;> first | contradiction | skip
  rename_i z hz
  split at h <;> first | contradiction | skip
  rename_i hc
  obtain ⟨β', v', w', h1, h2, h3⟩ := var_sim (P := P) hR wf h hJ (closedV_VR β 6 z hc)
  refine ⟨β', v', w', h1, h2, ?_⟩
  simp only [Instr.alloc, Sem.run_bind, run_zero' hi hz, Result.andThen_ok]
  simpa using h3

/-- Zero values, one behind the other: n cells, a zero value of s cells. -/
def zeros (z : List Value) (n : Nat) : List Value := (List.range n).map fun i => z.getD (i % z.length) undef
theorem zeros_LR (β : B) {z : Value} (hc : closedV 6 z = true) (h0 : 0 < z.cells.size) (n : Nat) : LR β (zeros z.cells.toList n) ((Array.range n).map (fun (i : Nat) => z.cells[i % z.cells.size]!)).toList := by
  have hz := (closedV_VR β 6 z hc).cells
  refine LR.of_get (by simp [zeros]) fun i x y hx hy => ?_
  simp only [zeros, List.getElem?_map, Option.map_eq_some_iff] at hx
  obtain ⟨j, hj, rfl⟩ := hx
  simp only [Array.toList_map, Array.toList_range, List.getElem?_map, Option.map_eq_some_iff] at hy
  obtain ⟨j', hj', rfl⟩ := hy
  rw [hj] at hj'; injection hj' with hj'; subst hj'
  have g : j % z.cells.size < z.cells.size := Nat.mod_lt _ h0
  have e1 : z.cells[j % z.cells.size]! = z.cells[j % z.cells.size]'g := getElem!_pos z.cells (j % z.cells.size) g
  have e0 : z.cells.toList[j % z.cells.size]? = some (z.cells[j % z.cells.size]'g) := by simp [g]
  rw [e1, List.getD_eq_getElem?_getD, Array.length_toList, e0]
  obtain ⟨v', hv', hr⟩ := hz.get e0
  rw [e0] at hv'; injection hv' with hv'; subst hv'; exact hr

def evBuildSlice (P : Program) (t : TypeId) (len : Nat) (parts : List (Nat × Value)) (s : St) : Option (Value × St) :=
  match P.underlying t with
  | some (.slice e) => match P.info? e with
    | some i => match i.zero with
      | some z => match closedV 6 z, Nat.beq z.cells.size i.size, Nat.blt 0 i.size, Nat.ble (len * i.size) 16777216 with
        | true, true, true, true => match fillL (fun k => some (k * i.size, i.size)) (zeros z.cells.toList (len * i.size)) parts with
          | some cells => some (.slice (some ⟨s.next, 0, none⟩) len len, s.new cells i.size (e + 1))
          | none => none
        | _, _, _, _ => none
      | none => none
    | none => none
  | _ => none
theorem buildSlice_U {P : Program} {t : TypeId} {len : Nat} {parts : List (Nat × Value)} {r : Value} {s s' : St} (wf : WF s) (h : evBuildSlice P t len parts s = some (r, s')) : U s s' := by
  unfold evBuildSlice at h
  split at h <;> first | contradiction | skip
  split at h <;> first | contradiction | skip
  split at h <;> first | contradiction | skip
  split at h <;> first | contradiction | skip
  split at h <;> first | contradiction | skip
  injection h with h; injection h with h1 h2; subst h2
  exact new_U wf _ _ _
theorem fillL_length : ∀ {parts : List (Nat × Value)} {place : Nat → Option (Nat × Nat)} {cells out : List Value}, fillL place cells parts = some out → out.length = cells.length
  | [], _, _, _, h => by simp only [fillL] at h; injection h with h; subst h; rfl
  | (i, v) :: rest, place, cells, out, h => by
    unfold fillL at h
    split at h <;> first | contradiction | skip
    split at h <;> first | contradiction | skip
    rename_i h1 h2
    rw [fillL_length h, putAt_length (Nat.le_of_ble_eq_true h2)]
theorem buildSlice_sim {P : Program} {J B0 : Nat} {w0 : World} {β : B} {s s' : St} {w : World} {t : TypeId} {len : Nat} {parts : List (Nat × Value)} {parts' : Array (Nat × Value)} {r : Value} (hR : Rel J B0 w0 β s w) (wf : WF s)
    (h : evBuildSlice P t len parts s = some (r, s')) (hJ : s'.next ≤ J) (hp : PR β parts parts'.toList) : MemSim P J B0 w0 β s w (Instr.buildSlice t len parts') r s' := by
  unfold evBuildSlice at h
  split at h <;> first | contradiction | skip
  rename_i e hu
  split at h <;> first | contradiction | skip
  rename_i i hi
  split at h <;> first | contradiction | skip
  rename_i z hz
  split at h <;> first | contradiction | skip
  rename_i hc hzs hpos hle
  split at h <;> first | contradiction | skip
  rename_i cells hf
  injection h with h; injection h with h1 h2; subst h1 h2
  have hzs := Nat.eq_of_beq_eq_true hzs
  have hpos : 0 < i.size := by simpa [Nat.blt_eq] using hpos
  have hle := Nat.le_of_ble_eq_true hle
  have hzl := zeros_LR β hc (by omega) (len * i.size)
  have hfl := fillL_length hf
  have hzn : (zeros z.cells.toList (len * i.size)).length = len * i.size := by simp [zeros]
  obtain ⟨out', ho, hr⟩ := fill_sim hp hzl hf
  have hsz : out'.size = len * i.size := by have := hr.length; simp at this; omega
  refine ⟨_, .slice (some ⟨w.heap.size, 0, none⟩) len len, _, sim_new hR wf hJ hr i.size e, .slice (Nat.le_refl _) ⟨_, upd_same _ _ _, rfl, rfl, rfl, .inr rfl, Nat.le_refl _, ?_⟩, ?_⟩
  · simp only; omega
  · have hnot : ¬ len * i.size > 2 ^ 24 := by omega
    by_cases h0 : len * i.size = 0
    · have e0 : ((Array.range (len * i.size)).map fun (k : Nat) => (#[] : Array Value)[k % (#[] : Array Value).size]!) = (Array.range (len * i.size)).map fun (k : Nat) => z.cells[k % z.cells.size]! := by simp [h0]
      simp only [Instr.buildSlice, Sem.run_bind, run_underlying' hu, run_sizeOf' hi, Result.andThen_ok, if_neg hnot, if_pos h0, Sem.run_pure, e0, ho, newRow, run_newObj_alloc]
    · simp only [Instr.buildSlice, Sem.run_bind, run_underlying' hu, run_sizeOf' hi, run_zero' hi hz, Result.andThen_ok, if_neg hnot, if_neg h0, Sem.run_pure, ho, newRow, run_newObj_alloc]

/-- Reading a variable. -/
def evLoad (P : Program) (t : TypeId) (x : Value) (s : St) : Option Value :=
  match x with
  | .pointer (some a) => match s.rd a.block with
    | some cs => match P.underlying t, P.info? t with
      | some (.struct _), some i | some (.array _ _), some i => match sl cs a.off i.size with
        | some l => some (.agg l.toArray)
        | none => none
      | some _, some _ => match sl cs a.off 1 with
        | some [v] => some v
        | _ => none
      | _, _ => none
    | none => none
  | _ => none
theorem load_sim {P : Program} {J B0 : Nat} {w0 : World} {β : B} {s : St} {w : World} {t : TypeId} {x x' r : Value} (hR : Rel J B0 w0 β s w) (h : evLoad P t x s = some r) (hx : VR β x x') :
    ∃ r', VR β r r' ∧ (Instr.loadAt t x').run P w = .ok r' w := by
  unfold evLoad at h
  split at h <;> first | contradiction | skip
  rename_i a
  cases hx with | ptr ha =>
  obtain ⟨bi, hb, hs, rfl⟩ := ha
  split at h <;> first | contradiction | skip
  rename_i cs hr
  split at h
  · rename_i fs i hu hi
    split at h <;> first | contradiction | skip
    rename_i l hl
    injection h with h; subst h
    obtain ⟨l', hl', hrun⟩ := hR.reads P hb hr hl
    exact ⟨_, .agg_of hl', by simp [Instr.loadAt, Instr.sureAddr, loadVar, isAgg, run_underlying' hu, run_sizeOf' hi, hrun]⟩
  · rename_i n e i hu hi
    split at h <;> first | contradiction | skip
    rename_i l hl
    injection h with h; subst h
    obtain ⟨l', hl', hrun⟩ := hR.reads P hb hr hl
    exact ⟨_, .agg_of hl', by simp [Instr.loadAt, Instr.sureAddr, loadVar, isAgg, run_underlying' hu, run_sizeOf' hi, hrun]⟩
  · rename_i d i hn1 hn2 hu hi
    split at h <;> first | contradiction | skip
    rename_i v hl
    injection h with h; subst h
    obtain ⟨_, _, _, h4⟩ := sl_some hl
    have hv := h4 0 v (by simp)
    obtain ⟨C, e, fr, hC, hcell⟩ := hR.rd _ _ _ hb hr
    obtain ⟨v', hv', hvr⟩ := hcell _ _ hv
    refine ⟨v', hvr, ?_⟩
    have hcl : w.cell? ⟨bi.blk, a.off + bi.sh, none⟩ = some v' := by simp only [World.cell?, hC]; simpa using hv'
    cases d with
    | struct fs => exact (hn1 fs rfl).elim
    | array n e => exact (hn2 n e rfl).elim
    | _ => simp [Instr.loadAt, Instr.sureAddr, loadVar, isAgg, run_underlying' hu, hcl]
  · cases h

/-- Writing a variable. -/
def evStore (P : Program) (t : TypeId) (x v : Value) (s : St) : Option St :=
  match x, P.info? t with
  | .pointer (some a), some i => match Nat.beq v.cells.size i.size, v.cells.toList.all (·.oneCell') with
    | true, true => s.write a.block a.off v.cells.toList
    | _, _ => none
  | _, _ => none
theorem store_U {P : Program} {t : TypeId} {x v : Value} {s s' : St} (wf : WF s) (h : evStore P t x v s = some s') : U s s' := by
  unfold evStore at h
  split at h <;> first | contradiction | skip
  split at h <;> first | contradiction | skip
  exact write_U wf h
theorem store_sim {P : Program} {J B0 : Nat} {w0 : World} {β : B} {s s' : St} {w : World} {t : TypeId} {x x' v v' : Value} (hR : Rel J B0 w0 β s w) (wf : WF s) (h : evStore P t x v s = some s') (hx : VR β x x') (hv : VR β v v') :
    ∃ w', Step J B0 w0 β s w β s' w' ∧ (Instr.storeAt t x' v').run P w = .ok () w' := by
  unfold evStore at h
  split at h <;> first | contradiction | skip
  rename_i a i hi
  cases hx with | ptr ha =>
  obtain ⟨bi, hb, hs, rfl⟩ := ha
  split at h <;> first | contradiction | skip
  rename_i h1 h2
  have h1 := Nat.eq_of_beq_eq_true h1
  have hc := hv.cells
  have hl := hc.length
  have h1c := hc.oneCell (fun x hx => List.all_eq_true.1 h2 x hx)
  obtain ⟨r1, r2⟩ := sim_write hR wf hb h hc h1c P
  refine ⟨_, r2, ?_⟩
  have hsz : ¬ v'.cells.size ≠ i.size := by simp at hl; omega
  simp only [Instr.storeAt, Instr.sureAddr, storeVar, Sem.run_bind, Sem.run_pure, Result.andThen_ok, run_sizeOf' hi, if_neg hsz]
  exact r1

def evMakeSlice (P : Program) (t : TypeId) (len cap : Value) (s : St) : Option (Value × St) :=
  match P.underlying t, len, cap with
  | some (.slice e), .int _ (.ofNat l), .int _ (.ofNat c) => match P.info? e with
    | some i => match i.zero with
      | some z => match closedV 6 z, Nat.beq z.cells.size i.size, Nat.blt 0 i.size, Nat.ble l c, Nat.ble c 281474976710656, Nat.ble (i.bytes * c) 281474976710656 with
        | true, true, true, true, true, true => some (.slice (some ⟨s.next, 0, none⟩) l c, s.new (zeros z.cells.toList (c * i.size)) i.size (e + 1))
        | _, _, _, _, _, _ => none
      | none => none
    | none => none
  | _, _, _ => none
theorem makeSlice_U {P : Program} {t : TypeId} {len cap : Value} {r : Value} {s s' : St} (wf : WF s) (h : evMakeSlice P t len cap s = some (r, s')) : U s s' := by
  unfold evMakeSlice at h
  split at h <;> first | contradiction | skip
  split at h <;> first | contradiction | skip
  split at h <;> first | contradiction | skip
  split at h <;> first | contradiction | skip
  injection h with h; injection h with h1 h2; subst h2
  exact new_U wf _ _ _
theorem wrap_small {c : Nat} (h : c ≤ 281474976710656) : IntKind.i64.wrap (Int.ofNat c) = Int.ofNat c := by
  show IntKind.i64.wrap (c : Int) = (c : Int)
  exact IntWalk.i64_in _ (by omega)
theorem makeSlice_sim {P : Program} {J B0 : Nat} {w0 : World} {β : B} {s s' : St} {w : World} {t : TypeId} {len cap len' cap' r : Value} (hR : Rel J B0 w0 β s w) (wf : WF s)
    (h : evMakeSlice P t len cap s = some (r, s')) (hJ : s'.next ≤ J) (h1 : VR β len len') (h2 : VR β cap cap') : MemSim P J B0 w0 β s w (Instr.makeSlice t len' cap') r s' := by
  unfold evMakeSlice at h
  split at h <;> first | contradiction | skip
  rename_i e k1 l k2 c hu
  cases h1; cases h2
  split at h <;> first | contradiction | skip
  rename_i i hi
  split at h <;> first | contradiction | skip
  rename_i z hz
  split at h <;> first | contradiction | skip
  rename_i hc hzs hpos hlc hcb hby
  injection h with h; injection h with h1 h2; subst h1 h2
  have hzs := Nat.eq_of_beq_eq_true hzs
  have hpos : 0 < i.size := by simpa [Nat.blt_eq] using hpos
  have hlc := Nat.le_of_ble_eq_true hlc
  have hcb := Nat.le_of_ble_eq_true hcb
  have hby := Nat.le_of_ble_eq_true hby
  have hzl := zeros_LR β hc (by omega) (c * i.size)
  have hsz : ((Array.range (c * i.size)).map (fun (k : Nat) => z.cells[k % z.cells.size]!)).size = c * i.size := by simp
  refine ⟨_, .slice (some ⟨w.heap.size, 0, none⟩) l c, _, sim_new hR wf hJ hzl i.size e, .slice hlc ⟨_, upd_same _ _ _, rfl, rfl, rfl, .inr rfl, Nat.le_refl _, ?_⟩, ?_⟩
  · simp only; rw [hsz]; omega
  · have hw1 := wrap_small (c := l) (by omega)
    have hw2 := wrap_small hcb
    have hb2 : ¬ ((i.bytes : Int) * (c : Int) > 2 ^ 48) := by
      have : ((i.bytes * c : Nat) : Int) ≤ 281474976710656 := Int.ofNat_le.2 hby
      rw [Int.natCast_mul] at this
      omega
    have hcn : (Int.ofNat c).toNat = c := rfl
    have hln : (Int.ofNat l).toNat = l := rfl
    have hcond : (decide (Int.ofNat c < 0) || decide ((i.bytes : Int) * Int.ofNat c > 2 ^ 48) || decide (Int.ofNat l < 0) || decide (Int.ofNat l > Int.ofNat c)) = false := by
      have a1 : ¬ (Int.ofNat c < 0) := by simp
      have a2 : ¬ (Int.ofNat l < 0) := by simp
      have a3 : ¬ (Int.ofNat l > Int.ofNat c) := by simp; omega
      simp only [a1, a2, a3, decide_false, Bool.or_false]
      simpa using hb2
    by_cases h0 : c * i.size = 0
    · have e0 : ((Array.range (c * i.size)).map fun (k : Nat) => (#[] : Array Value)[k % (#[] : Array Value).size]!) = (Array.range (c * i.size)).map fun (k : Nat) => z.cells[k % z.cells.size]! := by simp [h0]
      simp only [Instr.makeSlice, asInt, asIntOf, Sem.run_bind, run_underlying' hu, run_typeInfo' hi, Sem.run_pure, Result.andThen_ok, hw1, hw2]
      simp only [hcond, Bool.false_eq_true, if_false, Sem.run_bind, run_sizeOf' hi, Sem.run_pure, Result.andThen_ok, run_askRoom, hcn, hln, if_pos h0, e0, newRow, run_newObj_alloc]
    · simp only [Instr.makeSlice, asInt, asIntOf, Sem.run_bind, run_underlying' hu, run_typeInfo' hi, Sem.run_pure, Result.andThen_ok, hw1, hw2]
      simp only [hcond, Bool.false_eq_true, if_false, Sem.run_bind, run_sizeOf' hi, Sem.run_pure, Result.andThen_ok, run_askRoom, hcn, hln, if_neg h0, run_zero' hi hz, newRow, run_newObj_alloc]

end Go.Ev
