/- A proved evaluator, part 14: a frame's temporaries; a region in the order of its text. No condition. -/
import Derived.Test.YtmhfkejbahacoaaGreatDoorKViewHoldsE13
noncomputable section
namespace Go.Ev
open Go.RowKit
set_option linter.unusedVariables false
variable [Lk]
set_option linter.unusedSectionVars false

structure FR (β : B) (n : Nat) (t : T Value) (a : Act) : Prop where
  size : a.tmps.size = n
  val : ∀ i v, t.get i = some v → VR β v (a.tmps.getD i undef)
  un : ∀ i, t.get i = none → a.tmps.getD i undef = undef
  defers : a.defers = []
  gl : ∀ g i, Lk.gl g = some i → ∃ e l, β i = some ⟨g, 0, e, l⟩

theorem FR.mono {β β' : B} (h : ∀ b bi, β b = some bi → β' b = some bi) {n : Nat} {t : T Value} {a : Act} (hf : FR β n t a) : FR β' n t a :=
  ⟨hf.size, fun i v hv => (hf.val i v hv).mono h, hf.un, hf.defers, fun g i hg => (hf.gl g i hg).imp fun e hh => hh.imp fun l hb => h _ _ hb⟩
theorem FR.op {β : B} {n : Nat} {t : T Value} {a : Act} (hf : FR β n t a) : OR β (opv t) a.eval := by
  intro x v hx
  cases x with
  | tmp i =>
    simp only [opv] at hx
    split at hx <;> first | contradiction | skip
    rename_i v0 hv
    injection hx with hx; subst hx
    exact hf.val i _ hv
  | const c =>
    simp only [opv] at hx
    split at hx <;> first | contradiction | skip
    rename_i hc
    injection hx with hx; subst hx
    exact closedV_VR β 6 _ hc
  | global g =>
    simp only [opv] at hx
    split at hx <;> first | contradiction | skip
    rename_i i hi
    injection hx with hx; subst hx
    obtain ⟨e, l, hb⟩ := hf.gl g i hi
    exact .ptr ⟨_, hb, rfl, rfl⟩
  | func f =>
    simp only [opv] at hx
    injection hx with hx; subst hx
    exact .func _ rfl (fun i x y hx => by simp at hx) rfl (fun i x y hx => by simp at hx)

def putT (n : Nat) (t : T Value) (dst : Option Tmp) (v : Value) : Option (T Value) :=
  match dst with
  | none => some t
  | some d => match Nat.blt d n with
    | true => some (t.set d v)
    | false => none
theorem FR.put {β : B} {n : Nat} {t t' : T Value} {a : Act} (hf : FR β n t a) {dst : Option Tmp} {v v' : Value} (h : putT n t dst v = some t') (hv : VR β v v') : FR β n t' (a.put dst v') := by
  cases dst with
  | none => simp only [putT] at h; injection h with h; subst h; exact hf
  | some d =>
    simp only [putT] at h
    split at h <;> first | contradiction | skip
    rename_i hd
    have hd : d < n := by simpa [Nat.blt_eq] using hd
    injection h with h; subst h
    have hs := hf.size
    refine ⟨by simp [Act.put, hs], fun i x hx => ?_, fun i hx => ?_, hf.defers, hf.gl⟩
    · rw [T.get_set] at hx
      split at hx
      · rename_i e; subst e
        injection hx with hx; subst hx
        have : (a.put (some i) v').tmps.getD i undef = v' := by simp [Act.put, Array.getD, hs, hd]
        rw [this]; exact hv
      · rename_i e
        have : (a.put (some d) v').tmps.getD i undef = a.tmps.getD i undef := by
          simp only [Act.put, Array.getD_eq_getD_getElem?]
          rw [Array.getElem?_setIfInBounds_ne (by omega)]
        rw [this]; exact hf.val i x hx
    · rw [T.get_set] at hx
      split at hx
      · cases hx
      · rename_i e
        have : (a.put (some d) v').tmps.getD i undef = a.tmps.getD i undef := by
          simp only [Act.put, Array.getD_eq_getD_getElem?]
          rw [Array.getElem?_setIfInBounds_ne (by omega)]
        rw [this]; exact hf.un i hx
theorem undef_VR (β : B) : VR β undef undef := .tuple rfl (fun i x y hx => by simp at hx)

def yieldT (ops : Array Oper) (t : T Value) (j : Nat) : Option Bool :=
  match ops[j]? with
  | some o => match o.dst with
    | some d => match t.get d with
      | some (.bool b) => some b
      | _ => none
    | none => none
  | none => none
theorem yield_eq {β : B} {n : Nat} {t : T Value} {a : Act} (hf : FR β n t a) (ops : Array Oper) (j : Nat) : yielded ops a.tmps j = yieldT ops t j := by
  unfold yielded yieldT
  cases hj : ops[j]? with
  | none => simp
  | some o =>
    cases hd : o.dst with
    | none => simp [hd]
    | some d =>
      simp only [Option.bind_some, hd]
      cases ht : t.get d with
      | none =>
        have := hf.un d ht
        rw [Array.getD_eq_getD_getElem?] at this
        cases hx : a.tmps[d]? with
        | none => rfl
        | some x => rw [hx] at this; simp at this; subst this; rfl
      | some v =>
        have := hf.val d v ht
        rw [Array.getD_eq_getD_getElem?] at this
        cases hx : a.tmps[d]? with
        | none =>
          rw [hx] at this
          simp only [Option.getD_none] at this
          generalize hu : undef = u at this
          cases this <;> simp_all [undef]
        | some x =>
          rw [hx] at this
          simp only [Option.getD_some] at this
          cases this <;> rfl

def wantT (ops : Array Oper) (t : T Value) (o : Oper) : Bool :=
  match o.guard with
  | none => true
  | some (j, want) => match yieldT ops t j with
    | some b => b == want
    | none => false
theorem want_eq {β : B} {n : Nat} {t : T Value} {a : Act} (hf : FR β n t a) (ops : Array Oper) (o : Oper) : Region.wanted o (yielded ops a.tmps) = wantT ops t o := by
  unfold Region.wanted wantT
  cases o.guard with
  | none => rfl
  | some g =>
    obtain ⟨j, want⟩ := g
    simp only [yield_eq hf]
    cases yieldT ops t j with
    | none => rfl
    | some b => rfl

/-- A region in the order of its text. -/
def evOps (P : Program) (call : Call) (n : Nat) (ops : Array Oper) : List Oper → T Value → St → Option (T Value × St)
  | [], t, s => some (t, s)
  | o :: rest, t, s => match wantT ops t o with
    | true => match evOp P call (opv t) o.op s with
      | some (v, s') => match putT n t o.dst v with
        | some t' => evOps P call n ops rest t' s'
        | none => none
      | none => none
    | false => match putT n t o.dst undef with
      | some t' => evOps P call n ops rest t' s
      | none => none

theorem ops_U {P : Program} {call : Call} (hc : CallSim P call) {n : Nat} {ops : Array Oper} : ∀ {l : List Oper} {t t' : T Value} {s s' : St}, WF s → evOps P call n ops l t s = some (t', s') → U s s'
  | [], t, t', s, s', wf, h => by simp only [evOps] at h; injection h with h; injection h with h1 h2; subst h2; exact U.refl wf
  | o :: rest, t, t', s, s', wf, h => by
    unfold evOps at h
    split at h
    · split at h <;> first | contradiction | skip
      rename_i v s1 ho
      split at h <;> first | contradiction | skip
      have u := op_U hc wf ho
      exact u.trans (ops_U hc u.wf h)
    · split at h <;> first | contradiction | skip
      exact ops_U hc wf h

theorem ops_sim {P : Program} (hP : Good P) {call : Call} (hc : CallSim P call) {J B0 : Nat} {w0 : World} {n : Nat} {ops : Array Oper} {Q : Exit → Act → World → Prop} : ∀ {l : List Oper} {β : B} {t t' : T Value} {s s' : St} {a : Act} {w : World},
    WF s → Rel J B0 w0 β s w → FR β n t a → evOps P call n ops l t s = some (t', s') → s'.next ≤ J → (∀ β' a' w', Step J B0 w0 β s w β' s' w' → FR β' n t' a' → Q .normal a' w') → wpList P ops Q l a w
  | [], β, t, t', s, s', a, w, wf, hR, hf, h, _, hQ => by
    simp only [evOps] at h; injection h with h; injection h with h1 h2; subst h1 h2
    exact hQ β a w (.refl hR) hf
  | o :: rest, β, t, t', s, s', a, w, wf, hR, hf, h, hJ, hQ => by
    unfold evOps at h
    unfold wpList
    rw [want_eq hf]
    split at h
    · rename_i hw
      rw [if_pos hw]
      split at h <;> first | contradiction | skip
      rename_i v s1 ho
      split at h <;> first | contradiction | skip
      rename_i t1 ht
      have uu := ops_U hc (op_U hc wf ho).wf h
      refine .inl (op_sim hP hc hf.op hR wf ho (Nat.le_trans uu.next hJ) fun β' v' w' hst hv => ?_)
      exact ops_sim hP hc (op_U hc wf ho).wf hst.rel ((hf.mono hst.ext).put ht hv) h hJ fun β2 a2 w2 hst2 hf2 => hQ β2 a2 w2 (hst.trans hst2) hf2
    · rename_i hw
      rw [if_neg (by rw [hw]; simp)]
      split at h <;> first | contradiction | skip
      rename_i t1 ht
      exact ops_sim hP hc wf hR (hf.put ht (undef_VR β)) h hJ hQ

end Go.Ev
