/- A proved evaluator, part 13: one operation, calls among them. No condition. -/
import Derived.Test.YtmhfkejbahacoaaGreatDoorKViewHoldsE12d
noncomputable section
namespace Go.Ev
open Go.RowKit
set_option linter.unusedVariables false
variable [Lk]
set_option linter.unusedSectionVars false

/-- One operation that touches memory, and no function of the program. -/
def evMem (P : Program) (ρ : Operand → Option Value) (o : Op) (s : St) : Option (Value × St) :=
  match o with
  | .alloc t => evAlloc P t s
  | .box t x => match ρ x with
    | some v => evVar P t v s
    | none => none
  | .buildSlice t len parts => match opps ρ parts.toList with
    | some ps => evBuildSlice P t len ps s
    | none => none
  | .load t x => match ρ x with
    | some a => match evLoad P t a s with
      | some v => some (v, s)
      | none => none
    | none => none
  | .store t x y => match ρ x, ρ y with
    | some a, some v => match evStore P t a v s with
      | some s' => some (undef, s')
      | none => none
    | _, _ => none
  | .convert src dst x => match ρ x with
    | some a => evConvMem P src dst a s
    | none => none
  | .makeSlice t l c => match ρ l, ρ c with
    | some a, some b => evMakeSlice P t a b s
    | _, _ => none
  | .slice t x lo hi mx => match ρ x, opo ρ lo, opo ρ hi, opo ρ mx with
    | some a, some b, some c, some d => match evSliceMem P t a b c d s with
      | some v => some (v, s)
      | none => none
    | _, _, _, _ => none
  | .call { callee := .builtin .append, args, argTypes } => match opvs ρ args.toList, argTypes[0]?, argTypes[1]? with
    | some (x :: y :: _), some t, some u => match evAppend P t u x y s with
      | some r => some r
      | none => evAppendZ P t u x y s
    | _, _, _ => none
  | .call { callee := .builtin .copy, args, argTypes } => match opvs ρ args.toList, argTypes[0]? with
    | some (x :: y :: _), some t => evCopy P t x y s
    | _, _ => none
  | .lookup t x ix ok => match ρ x, ρ ix with
    | some a, some b => match evLookup P t a b ok s with
      | some v => some (v, s)
      | none => none
    | _, _ => none
  | .mapUpdate t m k x => match ρ m, ρ k, ρ x with
    | some a, some b, some c => match evUpdate P t a b c s with
      | some s' => some (undef, s')
      | none => none
    | _, _, _ => none
  | .makeMap t r => match opo ρ r with
    | some n => evMakeMap P t n s
    | none => none
  | .call { callee := .builtin .delete, args, argTypes } => match opvs ρ args.toList, argTypes[0]? with
    | some (x :: y :: _), some t => match evDelete P t x y s with
      | some s' => some (undef, s')
      | none => none
    | _, _ => none
  | .call { callee := .builtin .len, args, argTypes } => match opvs ρ args.toList, argTypes[0]? with
    | some (x :: _), some t => match evLenMap P t x s with
      | some v => some (v, s)
      | none => none
    | _, _ => none
  | .call { callee := .builtin .cap, args, argTypes } => match opvs ρ args.toList, argTypes[0]? with
    | some (x :: _), some t => match evCap P t x with
      | some v => some (v, s)
      | none => none
    | _, _ => none
  | .range t x => match ρ x with
    | some a => evRange P t a s
    | none => none
  | .next x i => match ρ x with
    | some a => evNext a i s
    | none => none
  | .call { callee := .builtin .unsafeSliceData, args, .. } => match opvs ρ args.toList with
    | some [x] => match evUSD x with
      | some v => some (v, s)
      | none => none
    | _ => none
  | .call { callee := .builtin .unsafeString, args, argTypes } => match opvs ρ args.toList with
    | some [x, n] => evUStr P argTypes.toList x n s
    | _ => none
  | _ => none

theorem mem_U {P : Program} {ρ : Operand → Option Value} {o : Op} {s s' : St} {v : Value} (wf : WF s) (h : evMem P ρ o s = some (v, s')) : U s s' := by
  unfold evMem at h
  split at h
  · exact alloc_U wf h
  · split at h <;> first | contradiction | exact var_U wf h
  · split at h <;> first | contradiction | exact buildSlice_U wf h
  · split at h <;> first | contradiction | skip
    split at h <;> first | contradiction | skip
    injection h with h; injection h with h1 h2; subst h2; exact U.refl wf
  · split at h <;> first | contradiction | skip
    split at h <;> first | contradiction | skip
    injection h with h; injection h with h1 h2; subst h2; exact store_U wf (by assumption)
  · split at h <;> first | contradiction | exact convMem_U wf h
  · split at h <;> first | contradiction | exact makeSlice_U wf h
  · split at h <;> first | contradiction | skip
    split at h <;> first | contradiction | skip
    injection h with h; injection h with h1 h2; subst h2; exact U.refl wf
  · split at h <;> first | contradiction | skip
    split at h
    · injection h with h; subst h; exact append_U wf (by assumption)
    · exact appendZ_U wf h
  · split at h <;> first | contradiction | exact copy_U wf h
  · split at h <;> first | contradiction | skip
    split at h <;> first | contradiction | skip
    injection h with h; injection h with h1 h2; subst h2; exact U.refl wf
  · split at h <;> first | contradiction | skip
    split at h <;> first | contradiction | skip
    injection h with h; injection h with h1 h2; subst h2; exact update_U wf (by assumption)
  · split at h <;> first | contradiction | exact makeMap_U wf h
  · split at h <;> first | contradiction | skip
    split at h <;> first | contradiction | skip
    injection h with h; injection h with h1 h2; subst h2; exact delete_U wf (by assumption)
  · split at h <;> first | contradiction | skip
    split at h <;> first | contradiction | skip
    injection h with h; injection h with h1 h2; subst h2; exact U.refl wf
  · split at h <;> first | contradiction | skip
    split at h <;> first | contradiction | skip
    injection h with h; injection h with h1 h2; subst h2; exact U.refl wf
  · split at h <;> first | contradiction | exact range_U wf h
  · split at h <;> first | contradiction | exact next_U wf h
  · split at h <;> first | contradiction | skip
    split at h <;> first | contradiction | skip
    injection h with h; injection h with h1 h2; subst h2; exact U.refl wf
  · split at h <;> first | contradiction | exact ustr_U wf h
  · cases h

theorem box_sim {P : Program} {J B0 : Nat} {w0 : World} {β : B} {s s' : St} {w : World} {t : TypeId} {v v' r : Value} (hR : Rel J B0 w0 β s w) (wf : WF s) (h : evVar P t v s = some (r, s')) (hJ : s'.next ≤ J) (hv : VR β v v') :
    MemSim P J B0 w0 β s w (Instr.box t v') r s' := by
  unfold Instr.box
  exact var_sim hR wf h hJ hv
def mapP (ρ' : Operand → Value) (ps : Array (Nat × Operand)) : Array (Nat × Value) := ps.map fun (i, x) => (i, ρ' x)
theorem mapP_PR {β : B} {ρ : Operand → Option Value} {ρ' : Operand → Value} (hρ : OR β ρ ρ') {ps : Array (Nat × Operand)} {vs : List (Nat × Value)} (h : opps ρ ps.toList = some vs) : PR β vs (mapP ρ' ps).toList := by
  have := opps_sim hρ h
  unfold mapP
  rw [Array.toList_map]
  exact this
theorem execOp_v (ρ' : Operand → Value) (dst : Option Tmp) (type : TypeId) (pos : String) (after : Array Edge) (guard : Option (Nat × Bool)) :
    (∀ t, execOp ρ' ⟨dst, .alloc t, type, pos, after, guard⟩ = (do pure (.value (← Instr.alloc t true (.tuple #[]))))) ∧
    (∀ t x, execOp ρ' ⟨dst, .box t x, type, pos, after, guard⟩ = (do pure (.value (← Instr.box t (ρ' x))))) ∧
    (∀ t n ps, execOp ρ' ⟨dst, .buildSlice t n ps, type, pos, after, guard⟩ = (do pure (.value (← Instr.buildSlice t n (mapP ρ' ps))))) ∧
    (∀ t x, execOp ρ' ⟨dst, .load t x, type, pos, after, guard⟩ = (do pure (.value (← Instr.loadAt t (ρ' x))))) ∧
    (∀ a b x, execOp ρ' ⟨dst, .convert a b x, type, pos, after, guard⟩ = (do pure (.value (← convert a b (ρ' x))))) ∧
    (∀ t x y, execOp ρ' ⟨dst, .makeSlice t x y, type, pos, after, guard⟩ = (do pure (.value (← Instr.makeSlice t (ρ' x) (ρ' y))))) ∧
    (∀ t x a b c, execOp ρ' ⟨dst, .slice t x a b c, type, pos, after, guard⟩ = (do pure (.value (← Instr.sliceAt t (ρ' x) (a.map ρ') (b.map ρ') (c.map ρ'))))) ∧
    (∀ t x y ok, execOp ρ' ⟨dst, .lookup t x y ok, type, pos, after, guard⟩ = (do pure (.value (← Instr.lookup t (ρ' x) (ρ' y) ok)))) ∧
    (∀ t n, execOp ρ' ⟨dst, .makeMap t n, type, pos, after, guard⟩ = (do pure (.value (← Instr.makeMap t (n.map ρ'))))) :=
  ⟨fun _ => rfl, fun _ _ => rfl, fun _ _ _ => rfl, fun _ _ => rfl, fun _ _ _ => rfl, fun _ _ _ => rfl, fun _ _ _ _ _ => rfl, fun _ _ _ _ => rfl, fun _ _ => rfl⟩
theorem execOp_u (ρ' : Operand → Value) (dst : Option Tmp) (type : TypeId) (pos : String) (after : Array Edge) (guard : Option (Nat × Bool)) :
    (∀ t x, execOp ρ' ⟨dst, .range t x, type, pos, after, guard⟩ = (do pure (.value (← Instr.range t (ρ' x))))) ∧
    (∀ x i, execOp ρ' ⟨dst, .next x i, type, pos, after, guard⟩ = (do pure (.value (← Instr.next (ρ' x) i type)))) :=
  ⟨fun _ _ => rfl, fun _ _ => rfl⟩
theorem mem_sim {P : Program} {J B0 : Nat} {w0 : World} {β : B} {s s' : St} {w : World} {ρ : Operand → Option Value} {ρ' : Operand → Value} (hρ : OR β ρ ρ') {o : Oper} {v : Value} (hR : Rel J B0 w0 β s w) (wf : WF s)
    (h : evMem P ρ o.op s = some (v, s')) (hJ : s'.next ≤ J) : ∃ β' v' w', Step J B0 w0 β s w β' s' w' ∧ VR β' v v' ∧ Runs P ρ' o w v' w' := by
  have fin : ∀ {m : Sem Value}, execOp ρ' o = (do pure (.value (← m))) → MemSim P J B0 w0 β s w m v s' → ∃ β' v' w', Step J B0 w0 β s w β' s' w' ∧ VR β' v v' ∧ Runs P ρ' o w v' w' := by
    rintro m he ⟨β', v', w', h1, h2, h3⟩
    exact ⟨β', v', w', h1, h2, runs_of he h3⟩
  obtain ⟨dst, op, type, pos, after, guard⟩ := o
  obtain ⟨x1, x2, x3, x4, x5, x6, x7, y1, y2⟩ := execOp_v ρ' dst type pos after guard
  obtain ⟨u1, u2⟩ := execOp_u ρ' dst type pos after guard
  change evMem P ρ op s = some (v, s') at h
  unfold evMem at h
  split at h
  · rename_i t
    exact fin (x1 t) (alloc_sim hR wf h hJ)
  · rename_i t x
    split at h <;> first | contradiction | skip
    rename_i a ha
    exact fin (x2 t x) (box_sim hR wf h hJ (hρ _ _ ha))
  · rename_i t len parts
    split at h <;> first | contradiction | skip
    rename_i ps hps
    exact fin (x3 t len parts) (buildSlice_sim hR wf h hJ (mapP_PR hρ hps))
  · rename_i t x
    split at h <;> first | contradiction | skip
    rename_i a ha
    split at h <;> first | contradiction | skip
    rename_i r hr
    injection h with h; injection h with h1 h2; subst h1 h2
    obtain ⟨r', hr1, hr2⟩ := load_sim (P := P) hR hr (hρ _ _ ha)
    exact fin (x4 t x) ⟨β, r', w, .refl hR, hr1, hr2⟩
  · rename_i t x y
    split at h <;> first | contradiction | skip
    rename_i a b ha hb
    split at h <;> first | contradiction | skip
    rename_i s0 hs
    injection h with h; injection h with h1 h2; subst h1 h2
    obtain ⟨w', h1, h2⟩ := store_sim (P := P) hR wf hs (hρ _ _ ha) (hρ _ _ hb)
    refine ⟨β, undef, w', h1, .tuple rfl (fun i x y hx hy => by simp at hx), .inr ⟨rfl, ?_⟩⟩
    simp only [execOp, Sem.run_bind, h2, Result.andThen_ok, Sem.run_pure]
  · rename_i src dst0 x
    split at h <;> first | contradiction | skip
    rename_i a ha
    exact fin (x5 src dst0 x) (convMem_sim hR wf h hJ (hρ _ _ ha))
  · rename_i t l c
    split at h <;> first | contradiction | skip
    rename_i a b ha hb
    exact fin (x6 t l c) (makeSlice_sim hR wf h hJ (hρ _ _ ha) (hρ _ _ hb))
  · rename_i t x lo hi mx
    split at h <;> first | contradiction | skip
    rename_i a b c d ha hb hc hd
    split at h <;> first | contradiction | skip
    rename_i r hr
    injection h with h; injection h with h1 h2; subst h1 h2
    obtain ⟨r', hr1, hr2⟩ := sliceMem_sim (P := P) hR hr (hρ _ _ ha) (opo_sim hρ hb) (opo_sim hρ hc) (opo_sim hρ hd)
    exact fin (x7 t x lo hi mx) ⟨β, r', w, .refl hR, hr1, hr2⟩
  · rename_i args ats
    split at h <;> first | contradiction | skip
    rename_i x y r t u ha ht hu
    have la := opvs_sim hρ ha
    obtain ⟨x', hx', hrx⟩ := la.get (i := 0) (v := x) rfl
    obtain ⟨y', hy', hry⟩ := la.get (i := 1) (v := y) rfl
    have hap : MemSim P J B0 w0 β s w (Builtin.append_ ats type (args.map ρ')) v s' := by
      split at h
      · rename_i r0 hr0
        injection h with h; subst h
        exact append_sim (P := P) (ty := type) (ats := ats) (xs := args.map ρ') hR wf hr0 hJ hrx hry ht hu (by simpa using hx') (by simpa using hy')
      · exact appendZ_sim (P := P) (ty := type) (ats := ats) (xs := args.map ρ') hR wf h hJ hrx hry ht hu (by simpa using hx') (by simpa using hy')
    obtain ⟨β', v', w', h1, h2, h3⟩ := hap
    exact ⟨β', v', w', h1, h2, .inl (by simp only [execOp, resolve, invoke, builtin, Sem.run_bind, Sem.run_pure, Result.andThen_ok, h3])⟩
  · rename_i args ats
    split at h <;> first | contradiction | skip
    rename_i x y r t ha ht
    have la := opvs_sim hρ ha
    obtain ⟨x', hx', hrx⟩ := la.get (i := 0) (v := x) rfl
    obtain ⟨y', hy', hry⟩ := la.get (i := 1) (v := y) rfl
    obtain ⟨β', v', w', h1, h2, h3⟩ := copy_sim (P := P) (ty := type) (ats := ats) (xs := args.map ρ') hR wf h hrx hry ht (by simpa using hx') (by simpa using hy')
    exact ⟨β', v', w', h1, h2, .inl (by simp only [execOp, resolve, invoke, builtin, Sem.run_bind, Sem.run_pure, Result.andThen_ok, h3])⟩
  · rename_i t x ix ok
    split at h <;> first | contradiction | skip
    rename_i a b ha hb
    split at h <;> first | contradiction | skip
    rename_i r hr
    injection h with h; injection h with h1 h2; subst h1 h2
    obtain ⟨r', hr1, hr2⟩ := lookup_sim (P := P) hR hr (hρ _ _ ha) (hρ _ _ hb)
    exact fin (y1 t x ix ok) ⟨β, r', w, .refl hR, hr1, hr2⟩
  · rename_i t m k x
    split at h <;> first | contradiction | skip
    rename_i a b c ha hb hc
    split at h <;> first | contradiction | skip
    rename_i s0 hs
    injection h with h; injection h with h1 h2; subst h1 h2
    obtain ⟨w', h1, h2⟩ := update_sim (P := P) hR wf hs (hρ _ _ ha) (hρ _ _ hb) (hρ _ _ hc)
    refine ⟨β, undef, w', h1, .tuple rfl (fun i x y hx hy => by simp at hx), .inr ⟨rfl, ?_⟩⟩
    simp only [execOp, Sem.run_bind, h2, Result.andThen_ok, Sem.run_pure]
  · rename_i t r
    split at h <;> first | contradiction | skip
    rename_i n hn
    exact fin (y2 t r) (makeMap_sim hR wf h hJ (opo_sim hρ hn))
  · rename_i args ats
    split at h <;> first | contradiction | skip
    rename_i x y r t ha ht
    split at h <;> first | contradiction | skip
    rename_i s0 hs
    injection h with h; injection h with h1 h2; subst h1 h2
    have la := opvs_sim hρ ha
    obtain ⟨x', hx', hrx⟩ := la.get (i := 0) (v := x) rfl
    obtain ⟨y', hy', hry⟩ := la.get (i := 1) (v := y) rfl
    obtain ⟨w', h1, h3⟩ := delete_sim (P := P) (ty := type) (ats := ats) (xs := args.map ρ') hR wf hs hrx hry ht (by simpa using hx') (by simpa using hy')
    exact ⟨β, undef, w', h1, .tuple rfl (fun i x y hx hy => by simp at hx), .inl (by simp only [execOp, resolve, invoke, builtin, Sem.run_bind, Sem.run_pure, Result.andThen_ok, h3]; rfl)⟩
  · rename_i args ats
    split at h <;> first | contradiction | skip
    rename_i x r t ha ht
    split at h <;> first | contradiction | skip
    rename_i u hu
    injection h with h; injection h with h1 h2; subst h1 h2
    have la := opvs_sim hρ ha
    obtain ⟨x', hx', hrx⟩ := la.get (i := 0) (v := x) rfl
    obtain ⟨h1, h3⟩ := lenMap_sim (P := P) (ty := type) (ats := ats) (xs := args.map ρ') hR hu hrx ht (by simpa using hx')
    exact ⟨β, u, w, .refl hR, h1, .inl (by simp only [execOp, resolve, invoke, builtin, Sem.run_bind, Sem.run_pure, Result.andThen_ok, h3])⟩
  · rename_i args ats
    split at h <;> first | contradiction | skip
    rename_i x r t ha ht
    split at h <;> first | contradiction | skip
    rename_i u hu
    injection h with h; injection h with h1 h2; subst h1 h2
    have la := opvs_sim hρ ha
    obtain ⟨x', hx', hrx⟩ := la.get (i := 0) (v := x) rfl
    obtain ⟨h1, h3⟩ := cap_sim (w := w) (ty := type) (ats := ats) (xs := args.map ρ') hu hrx ht (by simpa using hx')
    exact ⟨β, u, w, .refl hR, h1, .inl (by simp only [execOp, resolve, invoke, builtin, Sem.run_bind, Sem.run_pure, Result.andThen_ok, h3])⟩
  · rename_i t x
    split at h <;> first | contradiction | skip
    rename_i a ha
    exact fin (u1 t x) (range_sim hR wf h hJ (hρ _ _ ha))
  · rename_i x i
    split at h <;> first | contradiction | skip
    rename_i a ha
    obtain ⟨w', h1, h2, h3⟩ := next_sim (P := P) (ty := type) hR wf h (hρ _ _ ha)
    exact fin (u2 x i) ⟨β, v, w', h1, h2, h3⟩
  · rename_i args ats
    split at h <;> first | contradiction | skip
    rename_i x ha
    split at h <;> first | contradiction | skip
    rename_i u hu
    injection h with h; injection h with h1 h2; subst h1 h2
    have la := opvs_sim hρ ha
    generalize hm : args.toList.map ρ' = m at la
    cases la with | cons hx ht =>
    cases ht
    rename_i x'
    obtain ⟨v', h1, h2⟩ := usd_sim (P := P) (ats := ats) (ty := type) hu hx
    have e : args.map ρ' = #[x'] := by apply Array.ext'; simpa using hm
    refine ⟨β, v', w, .refl hR, h1, .inl ?_⟩
    have h3 := h2 w
    simp only [execOp, resolve, invoke, builtin, Sem.run_bind, Sem.run_pure, Result.andThen_ok, e]
    rw [h3, Result.andThen_ok]
  · rename_i args ats
    split at h <;> first | contradiction | skip
    rename_i x n ha
    have la := opvs_sim hρ ha
    generalize hm : args.toList.map ρ' = m at la
    cases la with | cons hx ht =>
    cases ht with | cons hn ht =>
    cases ht
    rename_i x' n'
    obtain ⟨β', v', w', h1, h2, h3⟩ := ustr_sim (P := P) (ats := ats) (ty := type) hR wf h hx hn
    have e : args.map ρ' = #[x', n'] := by apply Array.ext'; simpa using hm
    refine ⟨β', v', w', h1, h2, .inl ?_⟩
    simp only [execOp, resolve, invoke, builtin, Sem.run_bind, Sem.run_pure, Result.andThen_ok, e]
    rw [h3, Result.andThen_ok]
  · cases h

abbrev Call := FuncId → List Value → St → Option (Value × St)
/-- A call of a function of the program. -/
def evCall (call : Call) (ρ : Operand → Option Value) (o : Op) (s : St) : Option (Value × St) :=
  match o with
  | .call { callee := .value f, args, .. } => match ρ f, opvs ρ args.toList with
    | some (.func (.func g) us vs), some xs => call g (us.toList ++ xs ++ vs.toList) s
    | _, _ => none
  | _ => none

/-- A call of a function without a body, for which the model has an entry. -/
def evX (P : Program) (ρ : Operand → Option Value) (o : Op) : Option Value :=
  match o with
  | .call { callee := .value f, args, .. } => match ρ f, opvs ρ args.toList with
    | some (.func (.func g) us vs), some xs => match P.funcs[g]? with
      | some fn => match fn.body with
        | none => evExt fn.name (us.toList ++ xs ++ vs.toList)
        | some _ => none
      | none => none
    | _, _ => none
  | _ => none

/-- .. that touches memory. -/
def evXM (P : Program) (ρ : Operand → Option Value) (o : Op) (s : St) : Option (Value × St) :=
  match o with
  | .call { callee := .value f, args, .. } => match ρ f, opvs ρ args.toList with
    | some (.func (.func g) us vs), some xs => match P.funcs[g]? with
      | some fn => match fn.body with
        | none => evMNZ P fn (us.toList ++ xs ++ vs.toList) s
        | some _ => none
      | none => none
    | _, _ => none
  | _ => none

/-- What is asked of a program. -/
structure Good (P : Program) : Prop where
  names : ∀ (g : Nat) (fn : Func), P.funcs[g]? = some fn → (fn.name == "runtime.NumGoroutine") = false
  ext : ∀ (g : Nat) (fn : Func), P.funcs[g]? = some fn → extName fn.name = true → Extern.findNext fn = none
  follows : P.follows .mixedOrders = true

def CallSim (P : Program) (call : Call) : Prop := ∀ g args s v s', call g args s = some (v, s') → WF s → U s s' ∧ (∃ fn c, P.funcs[g]? = some fn ∧ fn.body = some c) ∧
  ∀ J B0 w0 β w (args' : Array Value), s'.next ≤ J → Rel J B0 w0 β s w → LR β args args'.toList → Calls P g args' w (fun e w' => ∃ β' v', e = .returned v' ∧ Step J B0 w0 β s w β' s' w' ∧ VR β' v v')

def evOp (P : Program) (call : Call) (ρ : Operand → Option Value) (o : Op) (s : St) : Option (Value × St) :=
  match evPure P ρ o with
  | some v => some (v, s)
  | none => match evMem P ρ o s with
    | some r => some r
    | none => match evX P ρ o with
      | some v => some (v, s)
      | none => match evXM P ρ o s with
        | some r => some r
        | none => evCall call ρ o s

theorem op_U {P : Program} {call : Call} (hc : CallSim P call) {ρ : Operand → Option Value} {o : Op} {s s' : St} {v : Value} (wf : WF s) (h : evOp P call ρ o s = some (v, s')) : U s s' := by
  unfold evOp at h
  split at h
  · injection h with h; injection h with h1 h2; subst h2; exact U.refl wf
  · split at h
    · rename_i r hr
      injection h with h; subst h; exact mem_U wf hr
    · split at h
      · injection h with h; injection h with h1 h2; subst h2; exact U.refl wf
      split at h
      · rename_i r hr
        injection h with h; subst h
        unfold evXM at hr
        split at hr <;> first | contradiction | skip
        split at hr <;> first | contradiction | skip
        split at hr <;> first | contradiction | skip
        split at hr <;> first | contradiction | exact mnz_U wf hr
      unfold evCall at h
      split at h <;> first | contradiction | skip
      split at h <;> first | contradiction | skip
      exact (hc _ _ _ _ _ h wf).1

/-- ONE OPERATION: what stands behind it is asked of what the evaluator gives. -/
theorem op_sim {P : Program} (hP : Good P) {call : Call} (hc : CallSim P call) {J B0 : Nat} {w0 : World} {β : B} {s s' : St} {w : World} {ρ : Operand → Option Value} {a : Act} (hρ : OR β ρ a.eval) {o : Oper} {v : Value} (hR : Rel J B0 w0 β s w) (wf : WF s)
    (h : evOp P call ρ o.op s = some (v, s')) (hJ : s'.next ≤ J) {K : Act → World → Prop} {Q : Exit → Act → World → Prop} (hK : ∀ β' v' w', Step J B0 w0 β s w β' s' w' → VR β' v v' → K (a.put o.dst v') w') : o.wp P a w K Q := by
  unfold evOp at h
  unfold Oper.wp
  split at h
  · rename_i v0 hv
    injection h with h; injection h with h1 h2; subst h1 h2
    obtain ⟨v', hr, hy⟩ := pure_sim (P := P) hρ hv
    rw [hy w]
    exact hK β v' w (.refl hR) hr
  · split at h
    · rename_i r hr
      injection h with h; subst h
      obtain ⟨β', v', w', h1, h2, h3⟩ := mem_sim hρ hR wf hr hJ
      rcases h3 with h3 | ⟨rfl, h3⟩
      · rw [h3]; exact hK _ _ _ h1 h2
      · rw [h3]; exact hK _ _ _ h1 h2
    · split at h
      · rename_i v0 hv0
        injection h with h; injection h with h1 h2; subst h1 h2
        unfold evX at hv0
        split at hv0 <;> first | contradiction | skip
        rename_i f args ats heq
        split at hv0 <;> first | contradiction | skip
        rename_i g us vs xs hf hx
        split at hv0 <;> first | contradiction | skip
        rename_i fn hfn
        split at hv0 <;> first | contradiction | skip
        rename_i hbody
        have hfr := hρ _ _ hf
        generalize hff : a.eval f = ff at hfr
        cases hfr with | func _ h1 h2 h3 h4 =>
        rename_i us' vs'
        have la := ((LR.of_arr h1 h2).append (opvs_sim hρ hx)).append (LR.of_arr h3 h4)
        obtain ⟨v1, hcf⟩ := ext_sim (P := P) (f := g) (args' := us' ++ args.map a.eval ++ vs') hv0 (by simpa using la) hfn hbody (hP.names g fn hfn) (hP.ext g fn hfn) w
        have hrun : (execOp a.eval o).run P w = .ok (.value v1) w := by
          obtain ⟨dst, op, type, pos, after, guard⟩ := o
          simp only at heq
          subst heq
          simp only [execOp, resolve, hff, Deferred.ofValue, invoke, Sem.run_bind, Sem.run_pure, Result.andThen_ok]
          exact hcf.2
        rw [hrun]
        exact hK β v1 w (.refl hR) hcf.1
      split at h
      · rename_i r hv0
        injection h with h; subst h
        unfold evXM at hv0
        split at hv0 <;> first | contradiction | skip
        rename_i f args ats heq
        split at hv0 <;> first | contradiction | skip
        rename_i g us vs xs hf hx
        split at hv0 <;> first | contradiction | skip
        rename_i fn hfn
        split at hv0 <;> first | contradiction | skip
        rename_i hbody
        have hfr := hρ _ _ hf
        generalize hff : a.eval f = ff at hfr
        cases hfr with | func _ h1 h2 h3 h4 =>
        rename_i us' vs'
        have la := ((LR.of_arr h1 h2).append (opvs_sim hρ hx)).append (LR.of_arr h3 h4)
        obtain ⟨β', v1, w', hst, hv1, hcf⟩ := mnz_sim (P := P) (f := g) (args' := us' ++ args.map a.eval ++ vs') hR wf hv0 hJ (by simpa using la) hfn hbody (hP.names g fn hfn) (hP.ext g fn hfn)
        have hrun : (execOp a.eval o).run P w = .ok (.value v1) w' := by
          obtain ⟨dst, op, type, pos, after, guard⟩ := o
          simp only at heq
          subst heq
          simp only [execOp, resolve, hff, Deferred.ofValue, invoke, Sem.run_bind, Sem.run_pure, Result.andThen_ok]
          exact hcf
        rw [hrun]
        exact hK _ _ _ hst hv1
      unfold evCall at h
      split at h <;> first | contradiction | skip
      rename_i f args ats heq
      split at h <;> first | contradiction | skip
      rename_i g us vs xs hf hx
      obtain ⟨_, ⟨fn, c, hfn, hbody⟩, hcall⟩ := hc _ _ _ _ _ h wf
      have hfr := hρ _ _ hf
      generalize hff : a.eval f = ff at hfr
      cases hfr with | func _ h1 h2 h3 h4 =>
      rename_i us' vs'
      have la := ((LR.of_arr h1 h2).append (opvs_sim hρ hx)).append (LR.of_arr h3 h4)
      have hrun : (execOp a.eval o).run P w = .ok (.enter g (us' ++ args.map a.eval ++ vs')) w := by
        have hn := hP.names g fn hfn
        have hn' : ¬ fn.name = "runtime.NumGoroutine" := by simpa using hn
        obtain ⟨dst, op, type, pos, after, guard⟩ := o
        simp only at heq
        subst heq
        simp [execOp, resolve, hff, Deferred.ofValue, invoke, callFunc, hfn, hn', hbody]
      rw [hrun]
      simp only [Oper.upon]
      refine (hcall J B0 w0 β w (us' ++ args.map a.eval ++ vs') hJ hR (by simpa using la)).mono ?_
      rintro e w' ⟨β', v', rfl, hst, hv⟩
      exact hK _ _ _ hst hv

end Go.Ev
