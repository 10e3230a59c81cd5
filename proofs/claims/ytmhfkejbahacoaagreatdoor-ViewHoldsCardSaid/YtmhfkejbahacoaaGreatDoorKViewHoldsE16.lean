/- A proved evaluator, part 16: code, functions, and that what the evaluator gives the machine gives. No condition. -/
import Derived.Test.YtmhfkejbahacoaaGreatDoorKViewHoldsE15d
noncomputable section
namespace Go.Ev
open Go.RowKit
set_option linter.unusedVariables false
variable [Lk]
set_option linter.unusedSectionVars false

inductive Ex where
  | normal
  | ret
  | exit (id : Nat)
def Ex.toExit : Ex → Exit
  | .normal => .normal
  | .ret => .ret
  | .exit id => .exit id

abbrev CR := Option (Ex × T Value × St)
def iter (body : T Value → St → CR) : Nat → T Value → St → CR
  | 0, _, _ => none
  | k + 1, t, s => match body t s with
    | some (.normal, t', s') => iter body k t' s'
    | r => r

def evCode (P : Program) (call : Call) (k n : Nat) : Code → T Value → St → CR
  | .skip, t, s => some (.normal, t, s)
  | .region _ ops false, t, s => match evOps P call n ops ops.toList t s with
    | some (t', s') => some (.normal, t', s')
    | none => none
  | .region _ ops true, t, s => match evDraw P call n ops t s with
    | some (t', s') => some (.normal, t', s')
    | none => none
  | .seq a b, t, s => match evCode P call k n a t s with
    | some (.normal, t', s') => evCode P call k n b t' s'
    | r => r
  | .cond c a b, t, s => match opv t c with
    | some (.bool true) => evCode P call k n a t s
    | some (.bool false) => evCode P call k n b t s
    | _ => none
  | .block id c, t, s => match evCode P call k n c t s with
    | some (.exit id', t', s') => match Nat.beq id' id with
      | true => some (.normal, t', s')
      | false => some (.exit id', t', s')
    | r => r
  | .loop c, t, s => iter (evCode P call k n c) k t s
  | .exit id, t, s => some (.exit id, t, s)
  | .ret, t, s => some (.ret, t, s)
  | .label _, t, s => some (.normal, t, s)
  | _, _, _ => none

def evRes (P : Program) (t : T Value) (s : St) : List ResultVar → Option (List Value)
  | [] => some []
  | .tmp i :: r => match t.get i, evRes P t s r with
    | some v, some l => some (v :: l)
    | _, _ => none
  | .cell i ty :: r => match t.get i with
    | some x => match evLoad P ty x s, evRes P t s r with
      | some v, some l => some (v :: l)
      | _, _ => none
    | none => none
def packRes : List Value → Value
  | [v] => v
  | l => .tuple l.toArray

def argT : List Value → Nat → T Value → T Value
  | [], _, t => t
  | v :: r, i, t => argT r (i + 1) (t.set i v)

/-- A function of the program, k rounds deep. -/
def ev (P : Program) : Nat → Call
  | 0 => fun _ _ _ => none
  | k + 1 => fun f args s => match P.funcs[f]? with
    | some fn => match fn.body with
      | some c => match Nat.ble args.length fn.ntmps with
        | true => match evCode P (ev P k) k fn.ntmps c (argT args 0 .nil) s with
          | some (.exit _, _, _) => none
          | some (_, t, s') => match evRes P t s' fn.results.toList with
            | some l => some (packRes l, s')
            | none => none
          | none => none
        | false => none
      | none => none
    | none => none

theorem iter_U {body : T Value → St → CR} (hb : ∀ t s e t' s', WF s → body t s = some (e, t', s') → U s s') : ∀ {k : Nat} {t t' : T Value} {s s' : St} {e : Ex}, WF s → iter body k t s = some (e, t', s') → U s s'
  | 0, _, _, _, _, _, _, h => by simp [iter] at h
  | k + 1, t, t', s, s', e, wf, h => by
    unfold iter at h
    split at h
    · rename_i t1 s1 h1
      have u := hb _ _ _ _ _ wf h1
      exact u.trans (iter_U hb u.wf h)
    · exact hb _ _ _ _ _ wf h

theorem code_U {P : Program} {call : Call} (hc : CallSim P call) {k n : Nat} : ∀ (c : Code) {t t' : T Value} {s s' : St} {e : Ex}, WF s → evCode P call k n c t s = some (e, t', s') → U s s' := by
  intro c
  induction c with
  | skip => intro t t' s s' e wf h; simp only [evCode] at h; injection h with h; injection h with h1 h2; injection h2 with h2 h3; subst h3; exact U.refl wf
  | region id ops draw =>
    intro t t' s s' e wf h
    cases draw with
    | false =>
      simp only [evCode] at h
      split at h <;> first | contradiction | skip
      rename_i t1 s1 h1
      injection h with h; injection h with h1' h2; injection h2 with h2 h3; subst h3; exact ops_U hc wf h1
    | true =>
      simp only [evCode] at h
      split at h <;> first | contradiction | skip
      rename_i t1 s1 h1
      injection h with h; injection h with h1' h2; injection h2 with h2 h3; subst h3; exact draw_U hc wf h1
  | seq a b iha ihb =>
    intro t t' s s' e wf h
    simp only [evCode] at h
    split at h
    · rename_i t1 s1 h1
      have u := iha wf h1
      exact u.trans (ihb u.wf h)
    · exact iha wf h
  | cond c a b iha ihb =>
    intro t t' s s' e wf h
    simp only [evCode] at h
    split at h
    · exact iha wf h
    · exact ihb wf h
    · cases h
  | block id c ih =>
    intro t t' s s' e wf h
    simp only [evCode] at h
    split at h
    · rename_i id' t1 s1 h1
      have u := ih wf h1
      split at h <;> (injection h with h; injection h with h1' h2; injection h2 with h2 h3; subst h3; exact u)
    · exact ih wf h
  | loop c ih =>
    intro t t' s s' e wf h
    simp only [evCode] at h
    exact iter_U (fun t s e t' s' wf h => ih wf h) wf h
  | exit id => intro t t' s s' e wf h; simp only [evCode] at h; injection h with h; injection h with h1 h2; injection h2 with h2 h3; subst h3; exact U.refl wf
  | ret => intro t t' s s' e wf h; simp only [evCode] at h; injection h with h; injection h with h1 h2; injection h2 with h2 h3; subst h3; exact U.refl wf
  | label l => intro t t' s s' e wf h; simp only [evCode] at h; injection h with h; injection h with h1 h2; injection h2 with h2 h3; subst h3; exact U.refl wf
  | rangeFunc _ _ _ _ _ _ => intro t t' s s' e wf h; simp [evCode] at h
  | scope _ _ => intro t t' s s' e wf h; simp [evCode] at h
  | goto _ => intro t t' s s' e wf h; simp [evCode] at h
  | refuse _ => intro t t' s s' e wf h; simp [evCode] at h

/-- A loop, so many rounds. -/
theorem wp_loop_iter {P : Program} {c : Code} {Q : Exit → Act → World → Prop} (I : Nat → Act → World → Prop) (round : ∀ k a w, I k a w → ∃ k', k = k' + 1 ∧ c.wp P (Exit.then (fun a' w' => I k' a' w') Q) a w) :
    ∀ {k : Nat} {a : Act} {w : World}, I k a w → (Code.loop c).wp P Q a w := by
  intro k a w h0 b kk cs
  have key : ∀ n a w, I n a w → ∃ e a' w', Q e a' w' ∧ Arrives P (lone (b.at a (.code c :: .inLoop c :: kk)) cs w) b kk cs e a' w' := by
    intro n
    induction n with
    | zero => intro a w hI; obtain ⟨k', hk, _⟩ := round 0 a w hI; omega
    | succ n ih =>
      intro a w hI
      obtain ⟨k', hk, hwp⟩ := round (n + 1) a w hI
      obtain rfl : k' = n := by omega
      obtain ⟨e, a₁, w₁, hq, harr⟩ := hwp b (.inLoop c :: kk) cs
      cases e with
      | normal =>
        obtain ⟨e₂, a₂, w₂, hq₂, harr₂⟩ := ih a₁ w₁ hq
        exact ⟨e₂, a₂, w₂, hq₂, .of_steps (Steps.trans harr (.one step_inLoop)) harr₂⟩
      | exit id => exact ⟨_, a₁, w₁, hq, .pass (x := .inLoop c) rfl (fun _ _ => .inl (by simp)) harr⟩
      | goto l => exact ⟨_, a₁, w₁, hq, .pass (x := .inLoop c) rfl (fun _ _ => .inl (by simp)) harr⟩
      | ret => exact ⟨_, a₁, w₁, hq, .pass (x := .inLoop c) rfl (fun _ _ => .inl (by simp)) harr⟩
      | panic ch => exact ⟨_, a₁, w₁, hq, .pass (x := .inLoop c) rfl (fun _ _ => .inl (by simp)) harr⟩
      | outgrown => exact ⟨_, a₁, w₁, hq, .pass (x := .inLoop c) rfl (fun _ _ => .inl (by simp)) harr⟩
  obtain ⟨e, a', w', hq, harr⟩ := key k a w h0
  exact ⟨e, a', w', hq, .of_steps (.one step_loop) harr⟩

theorem code_sim {P : Program} (hP : Good P) {call : Call} (hc : CallSim P call) {k n J B0 : Nat} {w0 : World} : ∀ (c : Code) {β : B} {t t' : T Value} {s s' : St} {e : Ex} {a : Act} {w : World} {Q : Exit → Act → World → Prop},
    WF s → Rel J B0 w0 β s w → FR β n t a → evCode P call k n c t s = some (e, t', s') → s'.next ≤ J → (∀ β' a' w', Step J B0 w0 β s w β' s' w' → FR β' n t' a' → Q e.toExit a' w') → c.wp P Q a w := by
  intro c
  induction c with
  | skip =>
    intro β t t' s s' e a w Q wf hR hf h hJ hQ
    simp only [evCode] at h; injection h with h; injection h with h1 h2; injection h2 with h2 h3; subst h1 h2 h3
    exact wp_skip (hQ β a w (.refl hR) hf)
  | region id ops draw =>
    intro β t t' s s' e a w Q wf hR hf h hJ hQ
    cases draw with
    | false =>
      simp only [evCode] at h
      split at h <;> first | contradiction | skip
      rename_i t1 s1 h1
      injection h with h; injection h with h1' h2; injection h2 with h2 h3; subst h1' h2 h3
      exact wp_region_list (ops_sim hP hc wf hR hf h1 hJ hQ)
    | true =>
      simp only [evCode] at h
      split at h <;> first | contradiction | skip
      rename_i t1 s1 h1
      injection h with h; injection h with h1' h2; injection h2 with h2 h3; subst h1' h2 h3
      exact draw_sim hP hc wf hR hf h1 hJ hQ
  | seq x y ihx ihy =>
    intro β t t' s s' e a w Q wf hR hf h hJ hQ
    simp only [evCode] at h
    apply wp_seq
    split at h
    · rename_i t1 s1 h1
      have u1 := code_U hc x wf h1
      have u2 := code_U hc y u1.wf h
      refine ihx wf hR hf h1 (Nat.le_trans u2.next hJ) fun β1 a1 w1 hst hf1 => ?_
      exact ihy u1.wf hst.rel hf1 h hJ fun β2 a2 w2 hst2 hf2 => hQ β2 a2 w2 (hst.trans hst2) hf2
    · rename_i hne
      refine ihx wf hR hf h hJ fun β1 a1 w1 hst hf1 => ?_
      have := hQ β1 a1 w1 hst hf1
      cases e with
      | normal => exact (hne t' s' h).elim
      | ret => exact this
      | exit id => exact this
  | cond c x y ihx ihy =>
    intro β t t' s s' e a w Q wf hR hf h hJ hQ
    simp only [evCode] at h
    split at h
    · rename_i hcv
      have := hf.op _ _ hcv
      generalize hv : a.eval c = v at this
      cases this
      exact wp_cond_true hv (ihx wf hR hf h hJ hQ)
    · rename_i hcv
      have := hf.op _ _ hcv
      generalize hv : a.eval c = v at this
      cases this
      exact wp_cond_false hv (ihy wf hR hf h hJ hQ)
    · cases h
  | block id x ih =>
    intro β t t' s s' e a w Q wf hR hf h hJ hQ
    simp only [evCode] at h
    apply wp_block
    split at h
    · rename_i id' t1 s1 h1
      split at h
      · rename_i hid
        have hid := Nat.eq_of_beq_eq_true hid
        injection h with h; injection h with h1' h2; injection h2 with h2 h3; subst h1' h2 h3
        refine ih wf hR hf h1 hJ fun β1 a1 w1 hst hf1 => ?_
        simp only [Ex.toExit, Exit.inBlock, hid, if_true]
        exact hQ β1 a1 w1 hst hf1
      · rename_i hid
        have hid : id' ≠ id := Nat.ne_of_beq_eq_false hid
        injection h with h; injection h with h1' h2; injection h2 with h2 h3; subst h1' h2 h3
        refine ih wf hR hf h1 hJ fun β1 a1 w1 hst hf1 => ?_
        simp only [Ex.toExit, Exit.inBlock, hid, if_false]
        exact hQ β1 a1 w1 hst hf1
    · rename_i hne
      refine ih wf hR hf h hJ fun β1 a1 w1 hst hf1 => ?_
      have := hQ β1 a1 w1 hst hf1
      cases e with
      | normal => exact this
      | ret => exact this
      | exit id' => exact (hne id' t' s' h).elim
  | loop x ih =>
    intro β t t' s s' e a w Q wf hR hf h hJ hQ
    simp only [evCode] at h
    refine wp_loop_iter (fun j a1 w1 => ∃ β1 t1 s1, WF s1 ∧ Step J B0 w0 β s w β1 s1 w1 ∧ FR β1 n t1 a1 ∧ iter (evCode P call k n x) j t1 s1 = some (e, t', s')) ?_ ⟨β, t, s, wf, .refl hR, hf, h⟩
    rintro j a1 w1 ⟨β1, t1, s1, wf1, hst1, hf1, h1⟩
    cases j with
    | zero => simp [iter] at h1
    | succ j =>
      refine ⟨j, rfl, ?_⟩
      unfold iter at h1
      split at h1
      · rename_i t2 s2 h2
        have u2 := code_U hc x wf1 h2
        have u3 := iter_U (fun t s e t' s' wf h => code_U hc x wf h) u2.wf h1
        refine ih wf1 hst1.rel hf1 h2 (Nat.le_trans u3.next hJ) fun β2 a2 w2 hst2 hf2 => ?_
        exact ⟨β2, t2, s2, (code_U hc x wf1 h2).wf, hst1.trans hst2, hf2, h1⟩
      · rename_i hne
        refine ih wf1 hst1.rel hf1 h1 hJ fun β2 a2 w2 hst2 hf2 => ?_
        have := hQ β2 a2 w2 (hst1.trans hst2) hf2
        cases e with
        | normal => exact (hne t' s' h1).elim
        | ret => exact this
        | exit id => exact this
  | exit id =>
    intro β t t' s s' e a w Q wf hR hf h hJ hQ
    simp only [evCode] at h; injection h with h; injection h with h1 h2; injection h2 with h2 h3; subst h1 h2 h3
    exact wp_exit (hQ β a w (.refl hR) hf)
  | ret =>
    intro β t t' s s' e a w Q wf hR hf h hJ hQ
    simp only [evCode] at h; injection h with h; injection h with h1 h2; injection h2 with h2 h3; subst h1 h2 h3
    exact wp_ret (hQ β a w (.refl hR) hf)
  | label l =>
    intro β t t' s s' e a w Q wf hR hf h hJ hQ
    simp only [evCode] at h; injection h with h; injection h with h1 h2; injection h2 with h2 h3; subst h1 h2 h3
    exact wp_label (hQ β a w (.refl hR) hf)
  | rangeFunc _ _ _ _ _ _ => intro β t t' s s' e a w Q wf hR hf h hJ hQ; simp [evCode] at h
  | scope _ _ => intro β t t' s s' e a w Q wf hR hf h hJ hQ; simp [evCode] at h
  | goto _ => intro β t t' s s' e a w Q wf hR hf h hJ hQ; simp [evCode] at h
  | refuse _ => intro β t t' s s' e a w Q wf hR hf h hJ hQ; simp [evCode] at h

def resF (tmps : Array Value) : ResultVar → Sem Value
  | .tmp t => pure (tmps.getD t undef)
  | .cell x ty => do loadVar ty (← asAddr (tmps.getD x undef))
theorem results_eq (fn : Func) (tmps : Array Value) : results fn tmps = (fn.results.mapM (resF tmps) >>= fun vs => pure (if h : vs.size = 1 then vs[0] else .tuple vs)) := rfl
theorem res_sim {P : Program} {J B0 : Nat} {w0 : World} {β : B} {s : St} {w : World} {n : Nat} {t : T Value} {a : Act} (hR : Rel J B0 w0 β s w) (hf : FR β n t a) : ∀ {rs : List ResultVar} {l : List Value}, evRes P t s rs = some l →
    ∃ l', LR β l l' ∧ (rs.mapM (resF a.tmps)).run P w = .ok l' w
  | [], l, h => by simp only [evRes] at h; injection h with h; subst h; exact ⟨[], .nil, rfl⟩
  | .tmp i :: r, l, h => by
    unfold evRes at h
    split at h <;> first | contradiction | skip
    rename_i v l0 hv hl
    injection h with h; subst h
    obtain ⟨l', h1, h2⟩ := res_sim hR hf hl
    refine ⟨_, .cons (hf.val i v hv) h1, ?_⟩
    simp only [List.mapM_cons, resF, Sem.run_bind, Sem.run_pure, Result.andThen_ok, h2]
  | .cell i ty :: r, l, h => by
    unfold evRes at h
    split at h <;> first | contradiction | skip
    rename_i x hx
    split at h <;> first | contradiction | skip
    rename_i v l0 hv hl
    injection h with h; subst h
    obtain ⟨l', h1, h2⟩ := res_sim hR hf hl
    have hxr := hf.val i x hx
    obtain ⟨v', hr, hrun⟩ := load_sim (P := P) hR hv hxr
    refine ⟨_, .cons hr h1, ?_⟩
    have hload : (resF a.tmps (.cell i ty)).run P w = .ok v' w := by
      generalize hy : a.tmps.getD i undef = y at hxr hrun
      have hy' : asAddr (a.tmps.getD i undef) = asAddr y := by rw [hy]
      unfold resF
      rw [Sem.run_bind, hy']
      cases hxr <;> simp only [Instr.loadAt, Instr.sureAddr, asAddr, Sem.run_bind, Sem.run_pure, Result.andThen_ok] at hrun ⊢ <;> first | exact hrun | (simp [evLoad] at hv)
    simp only [List.mapM_cons, Sem.run_bind, Sem.run_pure, hload, Result.andThen_ok, h2]

theorem pack_sim {β : B} {l l' : List Value} (h : LR β l l') : VR β (packRes l) (if h : l'.toArray.size = 1 then l'.toArray[0] else .tuple l'.toArray) := by
  have hl := h.length
  cases h with
  | nil => simp only [packRes]; exact .tuple rfl (fun i x y hx => by simp at hx)
  | cons hv ht =>
    cases ht with
    | nil => simpa [packRes] using hv
    | cons hv2 ht2 =>
      rw [dif_neg (by simp)]
      have := (LR.cons hv (.cons hv2 ht2)).arr
      exact .tuple this.1 this.2

theorem argT_FR {β : B} {n : Nat} : ∀ {args args' : List Value}, LR β args args' → ∀ {i : Nat} {t : T Value} {a : Act}, FR β n t a → i + args.length ≤ n → FR β n (argT args i t) ((args'.zipIdx i).foldl (fun a p => a.put (some p.2) p.1) a)
  | [], _, h, i, t, a, hf, hn => by cases h; exact hf
  | v :: r, _, h, i, t, a, hf, hn => by
    cases h with | cons hv ht =>
    simp only [argT, List.zipIdx_cons, List.foldl_cons]
    simp only [List.length_cons] at hn
    refine argT_FR ht (hf.put (dst := some i) ?_ hv) (by omega)
    simp only [putT]
    rw [show Nat.blt i n = true by simp [Nat.blt_eq]; omega]

theorem put_fold : ∀ (args' : List Value) (i : Nat) (pre rest : List Value), pre.length = i → args'.length ≤ rest.length →
    ((args'.zipIdx i).foldl (fun (a : Act) p => a.put (some p.2) p.1) ⟨(pre ++ rest).toArray, []⟩) = ⟨(pre ++ args' ++ rest.drop args'.length).toArray, []⟩
  | [], i, pre, rest, _, _ => by simp
  | v :: r, i, pre, rest, hp, hl => by
    cases rest with
    | nil => simp at hl
    | cons x rest =>
      simp only [List.zipIdx_cons, List.foldl_cons]
      have : (⟨(pre ++ x :: rest).toArray, []⟩ : Act).put (some i) v = ⟨((pre ++ [v]) ++ rest).toArray, []⟩ := by
        simp only [Act.put]
        congr 1
        apply Array.ext'
        simp only [List.setIfInBounds_toArray, List.append_assoc, List.singleton_append]
        rw [List.set_append_right _ _ (by omega)]
        simp [hp]
      rw [this, put_fold r (i + 1) (pre ++ [v]) rest (by simp [hp]) (by simpa using hl)]
      simp

theorem FR_nil {β : B} (hgl : ∀ g i, Lk.gl g = some i → ∃ e l, β i = some ⟨g, 0, e, l⟩) (n : Nat) : FR β n .nil ⟨Array.replicate n undef, []⟩ :=
  ⟨by simp, fun i v h => by simp at h, fun i _ => by simp [Array.getD_eq_getD_getElem?, Array.getElem?_replicate]; split <;> rfl, rfl, hgl⟩

theorem args_FR {β : B} (hgl : ∀ g i, Lk.gl g = some i → ∃ e l, β i = some ⟨g, 0, e, l⟩) {n : Nat} {args : List Value} {args' : Array Value} (h : LR β args args'.toList) (hn : args.length ≤ n) : FR β n (argT args 0 .nil) ⟨args' ++ Array.replicate (n - args'.size) undef, []⟩ := by
  have h1 := argT_FR h (i := 0) (FR_nil hgl n) (by omega)
  have hl := h.length
  have h2 := put_fold args'.toList 0 [] (List.replicate n undef) rfl (by simp at hl ⊢; omega)
  have e : (⟨Array.replicate n undef, []⟩ : Act) = ⟨([] ++ List.replicate n undef).toArray, []⟩ := by simp
  rw [e, h2] at h1
  have e2 : ([] ++ args'.toList ++ (List.replicate n undef).drop args'.toList.length).toArray = args' ++ Array.replicate (n - args'.size) undef := by
    apply Array.ext'; simp
  rw [e2] at h1
  exact h1

theorem ev_sim {P : Program} (hP : Good P) : ∀ k, CallSim P (ev P k)
  | 0 => fun _ _ _ _ _ h => by simp [ev] at h
  | k + 1 => by
    intro f args s v s' h wf
    have ih := ev_sim hP k
    simp only [ev] at h
    split at h <;> first | contradiction | skip
    rename_i fn hfn
    split at h <;> first | contradiction | skip
    rename_i c hbody
    split at h <;> first | contradiction | skip
    rename_i hn
    have hn := Nat.le_of_ble_eq_true hn
    split at h <;> first | contradiction | skip
    rename_i e t1 s1 hne hcode
    split at h <;> first | contradiction | skip
    rename_i l hres
    injection h with h; injection h with h1 h2; subst h1 h2
    have u := code_U ih c wf hcode
    refine ⟨u, ⟨fn, c, hfn, hbody⟩, ?_⟩
    intro J B0 w0 β w args' hJ hR hargs
    refine calls_of_wp hfn hbody ?_
    refine code_sim hP ih c wf hR (args_FR hR.gl hargs hn) hcode hJ fun β' a' w' hst hf => ?_
    obtain ⟨l', hl', hrun⟩ := res_sim (P := P) hst.rel hf hres
    have hpost : a'.defers = [] ∧ ∃ v, (results fn a'.tmps).run P w' = .ok v w' ∧ ∃ β'' v', (Ending.returned v = .returned v') ∧ Step J B0 w0 β s w β'' s1 w' ∧ VR β'' (packRes l) v' := by
      refine ⟨hf.defers, _, ?_, β', _, rfl, hst, pack_sim hl'⟩
      rw [results_eq, Sem.run_bind]
      have hm : (fn.results.mapM (resF a'.tmps)).run P w' = .ok l'.toArray w' := by
        rw [Array.mapM_eq_mapM_toList]
        simp only [Functor.map]
        rw [Sem.run_bind', hrun]
        rfl
      rw [hm]
      rfl
    cases e with
    | normal => exact hpost
    | ret => exact hpost
    | exit id => exact (hne id rfl).elim

end Go.Ev
