/- A proved evaluator, part 12b: maps. No condition. -/
import Derived.Test.YtmhfkejbahacoaaGreatDoorKViewHoldsE12
import Derived.Laws.RangeString
noncomputable section
namespace Go.Ev
open Go.RowKit
set_option linter.unusedVariables false
variable [Lk]
set_option linter.unusedSectionVars false

def evKeyF (P : Program) (ok : TypeId → Value → Bool) (cs : List Value) : List Field → Bool
  | [] => true
  | f :: fs => match f.name == "_" with
    | true => evKeyF P ok cs fs
    | false => match partL P f.type cs f.offset with
      | some a => match ok f.type a with
        | true => evKeyF P ok cs fs
        | false => false
      | none => false
def evKeyI (P : Program) (ok : TypeId → Value → Bool) (e : TypeId) (n : Nat) (cs : List Value) : List Nat → Bool
  | [] => true
  | i :: is => match partL P e cs (i * n) with
    | some a => match ok e a with
      | true => evKeyI P ok e n cs is
      | false => false
    | none => false
/-- May it be a key? -/
def evKey (P : Program) : Nat → TypeId → Value → Bool
  | 0, _, _ => false
  | n + 1, t, v => match P.underlying t with
    | none => false
    | some (.interface _) => false
    | some (.array k e) => match v, P.info? e with
      | .agg cs, some i => evKeyI P (evKey P n) e i.size cs.toList (List.range k)
      | _, _ => false
    | some (.struct fs) => match v with
      | .agg cs => evKeyF P (evKey P n) cs.toList fs.toList
      | _ => false
    | some _ => true

theorem evKey_sim {P : Program} {β : B} {empty : Bool} : ∀ (n : Nat) (t : TypeId) (v v' : Value), evKey P n t v = true → VR β v v' → ∀ w, (Instr.checkKey empty n t v').run P w = .ok () w := by
  intro n
  induction n with
  | zero => intro t v v' h; simp [evKey] at h
  | succ n ih =>
    intro t v v' h hv w
    unfold evKey at h
    split at h <;> first | contradiction | skip
    · rename_i k e hu
      split at h <;> first | contradiction | skip
      rename_i cs i hi
      cases hv with | agg h1 h2 =>
      rename_i cs'
      have hl := LR.of_arr h1 h2
      simp only [Instr.checkKey, Sem.run_bind, run_underlying' hu, Result.andThen_ok]
      simp only [Std.Legacy.Range.forIn_eq_forIn_range', Std.Legacy.Range.size, Nat.sub_zero, Nat.add_one_sub_one, Nat.div_one]
      rw [List.range_eq_range'] at h
      generalize List.range' 0 k = is at h
      induction is with
      | nil => simp
      | cons j is ihL =>
        unfold evKeyI at h
        split at h <;> first | contradiction | skip
        rename_i a ha
        split at h <;> first | contradiction | skip
        rename_i hk
        obtain ⟨a', hr, hg⟩ := partL_sim ha hl
        have := ih e a a' hk hr w
        simp only [List.forIn_cons, Sem.run_bind, run_sizeOf' hi, Result.andThen_ok, hg w, this, Sem.run_pure]
        exact ihL h
    · rename_i fs hu
      split at h <;> first | contradiction | skip
      rename_i cs
      cases hv with | agg h1 h2 =>
      rename_i cs'
      have hl := LR.of_arr h1 h2
      simp only [Instr.checkKey, Sem.run_bind, run_underlying' hu, Result.andThen_ok]
      rw [← Array.forIn_toList]
      generalize fs.toList = L at h
      induction L with
      | nil => simp
      | cons f L ihL =>
        unfold evKeyF at h
        split at h
        · rename_i hn
          have hn : f.name = "_" := by simpa using hn
          simp only [List.forIn_cons, Sem.run_bind, hn, ne_eq, not_true_eq_false, if_false, Sem.run_pure, Result.andThen_ok]
          exact ihL h
        · rename_i hn
          have hn : f.name ≠ "_" := by simpa using hn
          split at h <;> first | contradiction | skip
          rename_i a ha
          split at h <;> first | contradiction | skip
          rename_i hk
          obtain ⟨a', hr, hg⟩ := partL_sim ha hl
          have := ih f.type a a' hk hr w
          simp only [List.forIn_cons, Sem.run_bind, hn, ne_eq, not_false_eq_true, if_true, hg w, Result.andThen_ok, this, Sem.run_pure]
          exact ihL h
    · rename_i d h1 h2 h3 hu
      clear h
      unfold Instr.checkKey
      rw [Sem.run_bind, run_underlying' hu, Result.andThen_ok]
      cases d <;> first
        | exact (h1 _ rfl).elim
        | exact (h2 _ _ rfl).elim
        | exact (h3 _ rfl).elim
        | rfl
        | (cases hv <;> rfl)

/-- Where a key stands among the entries. -/
def evFind (P : Program) (kt : TypeId) (k : Value) : List (Value × Value) → Nat → Option (Option Nat)
  | [], _ => some none
  | e :: es, i => match evEq P 10000 kt k e.1 with
    | some true => some (some i)
    | some false => evFind P kt k es (i + 1)
    | none => none
def asFound (ms : List MapEntry) (i0 : Nat) : Option Nat → Option (Nat × Value)
  | none => none
  | some i => match ms[i - i0]? with
    | some e => some (i, e.val)
    | none => none
theorem evFind_ge {P : Program} {kt : TypeId} {k : Value} : ∀ {es : List (Value × Value)} {i j : Nat}, evFind P kt k es i = some (some j) → i ≤ j ∧ j < i + es.length
  | [], i, j, h => by simp [evFind] at h
  | e :: es, i, j, h => by
    unfold evFind at h
    split at h
    · injection h with h; injection h with h; subst h; simp
    · have := evFind_ge h; simp only [List.length_cons]; omega
    · cases h
theorem MR.cons {β : B} {e : Value × Value} {es : List (Value × Value)} {m : MapEntry} {ms : List MapEntry} (h : MR β (e :: es) (m :: ms)) : VR β e.1 m.key ∧ VR β e.2 m.val ∧ MR β es ms := by
  obtain ⟨h1, h2⟩ := h
  simp only [List.map_cons] at h1 h2
  cases h1 with | cons a1 a2 =>
  cases h2 with | cons b1 b2 =>
  exact ⟨a1, b1, a2, b2⟩
theorem MR.nil_inv {β : B} {ms : List MapEntry} (h : MR β [] ms) : ms = [] := by
  have := h.keys.length
  simp at this
  exact List.length_eq_zero_iff.1 this.symm
theorem asking_sim {P : Program} {β : B} {kt : TypeId} {k k' : Value} (hk : VR β k k') : ∀ {es : List (Value × Value)} {ms : List MapEntry} {i : Nat} {r : Option Nat}, MR β es ms → evFind P kt k es i = some r → ∀ w, (Instr.findAsking kt k' ms i).run P w = .ok (asFound ms i r) w
  | [], ms, i, r, hm, h, w => by
    obtain rfl := hm.nil_inv
    simp only [evFind] at h; injection h with h; subst h
    simp [Instr.findAsking, asFound]
  | e :: es, ms, i, r, hm, h, w => by
    cases ms with
    | nil => have := hm.keys.length; simp at this
    | cons m ms =>
      obtain ⟨h1, h2, h3⟩ := hm.cons
      unfold evFind at h
      split at h
      · rename_i he
        injection h with h; subst h
        have := evEq_sim 10000 kt k e.1 k' m.key true he hk h1 w
        simp only [Instr.findAsking, Sem.run_bind, Op.equal, Op.maxDepth, this, Result.andThen_ok, if_true, Sem.run_pure, asFound]
        simp
      · rename_i he
        have := evEq_sim 10000 kt k e.1 k' m.key false he hk h1 w
        have ih := asking_sim hk h3 h w
        simp only [Instr.findAsking, Sem.run_bind, Op.equal, Op.maxDepth, this, Result.andThen_ok, Bool.false_eq_true, if_false]
        rw [ih]
        cases r with
        | none => rfl
        | some j =>
          have := evFind_ge h
          simp only [asFound]
          rw [show j - i = (j - (i + 1)) + 1 by omega]
          simp
      · cases h
theorem now_sim {P : Program} {β : B} {kt : TypeId} {k k' : Value} {d : TypeDesc} (hu : P.underlying kt = some d) (hk : VR β k k') : ∀ {es : List (Value × Value)} {ms : List MapEntry} {i : Nat} {r : Option Nat} {x : Option (Nat × Value)}, MR β es ms → evFind P kt k es i = some r → Instr.findNow d k' ms i = some x → x = asFound ms i r
  | [], ms, i, r, x, hm, h, hx => by
    obtain rfl := hm.nil_inv
    simp only [evFind] at h; injection h with h; subst h
    simp only [Instr.findNow] at hx; injection hx with hx; subst hx; rfl
  | e :: es, ms, i, r, x, hm, h, hx => by
    cases ms with
    | nil => have := hm.keys.length; simp at this
    | cons m ms =>
      obtain ⟨h1, h2, h3⟩ := hm.cons
      have hsame : ∀ b, Instr.sameNow d k' m.key = some b → evEq P 10000 kt k e.1 = none ∨ evEq P 10000 kt k e.1 = some b := by
        intro b hb
        unfold evEq
        rw [hu]
        cases d <;> first | (simp [Instr.sameNow] at hb; done) | skip
        all_goals
          generalize e.1 = y at h1
          generalize m.key = y' at h1 hb
          cases hk <;> cases h1 <;> simp_all [Instr.sameNow, bs_beq]
      unfold Instr.findNow at hx
      unfold evFind at h
      split at hx
      · rename_i hs
        injection hx with hx; subst hx
        rcases hsame true hs with g | g
        · rw [g] at h; simp at h
        · rw [g] at h; simp only at h; injection h with h; subst h
          simp [asFound]
      · rename_i hs
        rcases hsame false hs with g | g
        · rw [g] at h; simp at h
        · rw [g] at h; simp only at h
          have ih := now_sim hu hk h3 h hx
          rw [ih]
          cases r with
          | none => rfl
          | some j =>
            have := evFind_ge h
            simp only [asFound]
            rw [show j - i = (j - (i + 1)) + 1 by omega]
            simp
      · cases hx
theorem find_sim {P : Program} {β : B} {kt : TypeId} {k k' : Value} {d : TypeDesc} (hu : P.underlying kt = some d) (hk : VR β k k') {es : List (Value × Value)} {ms : List MapEntry} {r : Option Nat} (hm : MR β es ms) (h : evFind P kt k es 0 = some r) (w : World) :
    (Instr.findKey kt k' ms).run P w = .ok (asFound ms 0 r) w := by
  simp only [Instr.findKey, Sem.run_bind, run_underlying' hu, Result.andThen_ok]
  split
  · rename_i x hx
    rw [now_sim hu hk hm h hx]; rfl
  · exact asking_sim hk hm h w

def mapOf (s : St) (x : Value) : Option (List (Value × Value)) :=
  match x with
  | .map none => some []
  | .map (some r) => match s.heap.get r with
    | some (.map es) => some es
    | _ => none
  | _ => none
def evLookup (P : Program) (t : TypeId) (x ix : Value) (ok : Bool) (s : St) : Option Value :=
  match P.underlying t with
  | some (.map kt et) => match mapOf s x with
    | some es => match evKey P 10000 kt ix, P.underlying kt, evFind P kt ix es 0 with
      | true, some _, some (some i) => match es[i]? with
        | some e => match ok with
          | true => some (.tuple #[e.2, .bool true])
          | false => some e.2
        | none => none
      | true, some _, some none => match P.info? et with
        | some inf => match inf.zero with
          | some z => match closedV 6 z with
            | true => match ok with
              | true => some (.tuple #[z, .bool false])
              | false => some z
            | false => none
          | none => none
        | none => none
      | _, _, _ => none
    | none => none
  | _ => none
theorem pair_VR {β : B} {v v' : Value} (h : VR β v v') (b : Bool) : VR β (.tuple #[v, .bool b]) (.tuple #[v', .bool b]) := by
  have := (LR.cons h (.cons (.bool b) .nil)).arr
  exact .tuple this.1 this.2
/-- The machine's map of a canonical one. -/
theorem map_get {J B0 : Nat} {w0 : World} {β : B} {s : St} {w : World} {x x' : Value} {es : List (Value × Value)} (hR : Rel J B0 w0 β s w) (h : mapOf s x = some es) (hx : VR β x x') :
    (x' = .map none ∧ x = .map none ∧ es = []) ∨ ∃ r r' bi ms clock, x = .map (some r) ∧ x' = .map (some r') ∧ β r = some bi ∧ bi.blk = r' ∧ s.heap.get r = some (.map es) ∧ w.heap[r']? = some (.map ms clock) ∧ MR β es ms.toList := by
  unfold mapOf at h
  split at h <;> first | contradiction | skip
  · cases hx; injection h with h; subst h
    exact .inl ⟨rfl, rfl, rfl⟩
  · rename_i r
    cases hx with | map hb =>
    split at h <;> first | contradiction | skip
    rename_i es0 hg
    injection h with h; subst h
    obtain ⟨_, ms, clock, hm, hmr⟩ := hR.map _ _ _ hb hg
    exact .inr ⟨r, _, _, ms, clock, rfl, rfl, hb, rfl, hg, hm, hmr⟩
theorem MR.get {β : B} : ∀ {es : List (Value × Value)} {ms : List MapEntry} {i : Nat} {e : Value × Value}, MR β es ms → es[i]? = some e → ∃ m, ms[i]? = some m ∧ VR β e.1 m.key ∧ VR β e.2 m.val
  | [], _, i, e, _, h => by simp at h
  | e0 :: es, [], i, e, hm, h => by have := hm.keys.length; simp at this
  | e0 :: es, m :: ms, 0, e, hm, h => by
    obtain ⟨h1, h2, h3⟩ := hm.cons
    simp at h; subst h
    exact ⟨m, rfl, h1, h2⟩
  | e0 :: es, m :: ms, i + 1, e, hm, h => by
    obtain ⟨h1, h2, h3⟩ := hm.cons
    simp only [List.getElem?_cons_succ] at h
    obtain ⟨m', a, b, c⟩ := h3.get h
    exact ⟨m', by simpa using a, b, c⟩
theorem run_getMap {P : Program} {w : World} {r : Nat} {es : Array MapEntry} {c : Nat} (hb : w.heap[r]? = some (.map es c)) : (getObj r).run P w = .ok (.map es c) w := by
  simp [getObj, Sem.run, hb]
def putM (w : World) (r : Nat) (o : Obj) : World := { w with heap := w.heap.setIfInBounds r o }
theorem run_setMap {P : Program} {w : World} {r : Nat} {es : Array MapEntry} {c : Nat} (o' : Obj) (hb : w.heap[r]? = some (.map es c)) : (setObj r o').run P w = .ok () (putM w r o') := by
  simp [setObj, Sem.run, hb, putM]
theorem lookup_sim {P : Program} {J B0 : Nat} {w0 : World} {β : B} {s : St} {w : World} {t : TypeId} {x x' ix ix' r : Value} {ok : Bool} (hR : Rel J B0 w0 β s w) (h : evLookup P t x ix ok s = some r) (hx : VR β x x') (hi : VR β ix ix') :
    ∃ r', VR β r r' ∧ (Instr.lookup t x' ix' ok).run P w = .ok r' w := by
  unfold evLookup at h
  split at h <;> first | contradiction | skip
  rename_i kt et hu
  split at h <;> first | contradiction | skip
  rename_i es hes
  have key : ∀ ms : Array MapEntry, MR β es ms.toList → ∃ r', VR β r r' ∧ (do
      Instr.checkKey ms.isEmpty 10000 kt ix'
      let (v, b) ← match ← Instr.findKey kt ix' ms.toList with
        | some (_, v) => pure (v, true)
        | none => pure (← zeroValue et, false)
      pure (if ok then .tuple #[v, .bool b] else v) : Sem Value).run P w = .ok r' w := by
    intro ms hmr
    split at h <;> first | contradiction | skip
    · rename_i d i hk hd hf
      split at h <;> first | contradiction | skip
      rename_i e he
      obtain ⟨m, hm, hv1, hv2⟩ := hmr.get he
      have h1 := evKey_sim (empty := ms.isEmpty) 10000 kt ix ix' hk hi w
      have h2 := find_sim hd hi hmr hf w
      simp only [asFound, Nat.sub_zero, hm] at h2
      simp only [Sem.run_bind, h1, h2, Result.andThen_ok, Sem.run_pure]
      cases ok <;> (simp only at h; injection h with h; subst h)
      · exact ⟨_, hv2, rfl⟩
      · exact ⟨_, pair_VR hv2 true, rfl⟩
    · rename_i d hk hd hf
      split at h <;> first | contradiction | skip
      rename_i inf hinf
      split at h <;> first | contradiction | skip
      rename_i z hz
      split at h <;> first | contradiction | skip
      rename_i hc
      have h1 := evKey_sim (empty := ms.isEmpty) 10000 kt ix ix' hk hi w
      have h2 := find_sim hd hi hmr hf w
      simp only [asFound] at h2
      simp only [Sem.run_bind, h1, h2, Result.andThen_ok, Sem.run_pure, run_zero' hinf hz]
      cases ok <;> (simp only at h; injection h with h; subst h)
      · exact ⟨_, closedV_VR β 6 z hc, rfl⟩
      · exact ⟨_, pair_VR (closedV_VR β 6 z hc) false, rfl⟩
  rcases map_get hR hes hx with ⟨rfl, _, rfl⟩ | ⟨r0, r', bi, ms, clock, _, rfl, hb, _, _, hm, hmr⟩
  · obtain ⟨r', h1, h2⟩ := key #[] ⟨.nil, .nil⟩
    refine ⟨r', h1, ?_⟩
    rw [← h2]
    simp only [Instr.lookup, Sem.run_bind, run_underlying' hu, Result.andThen_ok, Sem.run_pure]
    rfl
  · obtain ⟨r', h1, h2⟩ := key ms hmr
    refine ⟨r', h1, ?_⟩
    rw [← h2]
    simp only [Instr.lookup, Sem.run_bind, run_underlying' hu, Result.andThen_ok, Sem.run_pure, run_getMap hm]
    rfl

theorem setMap_some {s s' : St} {b : Nat} {es : List (Value × Value)} (h : s.setMap b es = some s') :
    ∃ es0, s.heap.get b = some (.map es0) ∧ s' = { heap := s.heap.set b (.map es), fams := s.fams, tys := s.tys, next := s.next, low := touch s b } := by
  unfold St.setMap at h
  split at h
  · rename_i es0 hb
    injection h with h
    exact ⟨es0, hb, h.symm⟩
  · cases h
theorem putM_get (w : World) (r : Nat) (o : Obj) (i : Nat) (h : r < w.heap.size) : (putM w r o).heap[i]? = if i = r then some o else w.heap[i]? := by
  simp only [putM, Array.getElem?_setIfInBounds]
  by_cases e : r = i
  · subst e; simp [h]
  · rw [if_neg e, if_neg (fun h => e h.symm)]
theorem sim_setMap {J B0 : Nat} {w0 : World} {β : B} {s s' : St} {w : World} (h : Rel J B0 w0 β s w) (wf : WF s) {b : Nat} {es : List (Value × Value)} {ms : Array MapEntry} {bi : BI} (hb : β b = some bi)
    (hw : s.setMap b es = some s') (hl : MR β es ms.toList) (clock : Nat) : Step J B0 w0 β s w β s' (putM w bi.blk (.map ms clock)) := by
  obtain ⟨es0, hg, hs'⟩ := setMap_some hw
  obtain ⟨o1, ms0, c0, o2, o3⟩ := h.map b bi es0 hb hg
  have hlt : bi.blk < w.heap.size := (h.dom b bi hb).1
  have hget := putM_get w bi.blk (.map ms clock)
  have hsz : (putM w bi.blk (.map ms clock)).heap.size = w.heap.size := by simp [putM]
  have hheap : ∀ b1, b1 ≠ b → s'.heap.get b1 = s.heap.get b1 := fun b1 hb1 => by rw [hs']; exact T.get_set_ne _ hb1 _
  have hself : s'.heap.get b = some (.map es) := by rw [hs']; exact T.get_set_same _ _ _
  have hfams : s'.fams = s.fams := by rw [hs']
  have htys : s'.tys = s.tys := by rw [hs']
  have hrd : ∀ b1, b1 ≠ b → s'.rd b1 = s.rd b1 := fun b1 hb1 => by unfold St.rd; rw [hheap b1 hb1, hfams]
  have hblk : ∀ b1 bi1, b1 ≠ b → β b1 = some bi1 → bi1.blk ≠ bi.blk := fun b1 bi1 hne hb1 hh => hne (h.inj b b1 bi bi1 es0 hb hb1 hh.symm hg).symm
  refine ⟨⟨by rw [hs']; exact h.nx, ?_, ?_, ?_, ?_, ?_, ?_, ?_, ?_, h.gl, ?_, by rw [hsz]; exact h.base⟩, fun _ _ hx => hx, fun _ _ hx => .inl hx, ?_, ?_, by rw [hsz]; exact Nat.le_refl _, by rw [hs']; exact Nat.le_refl _, by rw [hs']; exact touch_le _ _⟩
  · intro b1 bi1 hb1
    obtain ⟨d1, d2⟩ := h.dom b1 bi1 hb1
    refine ⟨by rw [hsz]; exact d1, ?_⟩
    by_cases e : b1 = b
    · subst e; exact .inl ⟨_, hself⟩
    · rw [hheap b1 e]; exact d2
  · intro b1 bi1 cs1 hb1 hr1
    by_cases e : b1 = b
    · subst e; unfold St.rd at hr1; rw [hself] at hr1; cases hr1
    · rw [hrd b1 e] at hr1
      obtain ⟨C, e1, fr, y1, y2⟩ := h.rd b1 bi1 cs1 hb1 hr1
      exact ⟨C, e1, fr, by rw [hget _ hlt, if_neg (hblk b1 bi1 e hb1)]; exact y1, y2⟩
  · intro b1 bi1 cs1 k base esz hb1 hg1
    by_cases e : b1 = b
    · subst e; rw [hself] at hg1; injection hg1 with hg1; cases hg1
    · rw [hheap b1 e] at hg1
      obtain ⟨y1, y2, y3, C, e1, fr, y4, y5⟩ := h.own b1 bi1 cs1 k base esz hb1 hg1
      exact ⟨y1, y2, y3, C, e1, fr, by rw [hget _ hlt, if_neg (hblk b1 bi1 e hb1)]; exact y4, by rw [htys, hfams]; exact y5⟩
  · intro b1 bi1 cs1 k base esz hb1 hg1
    by_cases e : b1 = b
    · subst e; rw [hself] at hg1; injection hg1 with hg1; cases hg1
    · rw [hheap b1 e] at hg1
      exact h.ro b1 bi1 cs1 k base esz hb1 hg1
  · intro b1 bi1 es1 hb1 hg1
    by_cases e : b1 = b
    · subst e
      rw [hb] at hb1; injection hb1 with hb1; subst hb1
      rw [hself] at hg1; injection hg1 with hg1; injection hg1 with hg1; subst hg1
      exact ⟨o1, ms, clock, by rw [hget _ hlt, if_pos rfl], hl⟩
    · rw [hheap b1 e] at hg1
      obtain ⟨y1, ms1, c1, y2, y3⟩ := h.map b1 bi1 es1 hb1 hg1
      exact ⟨y1, ms1, c1, by rw [hget _ hlt, if_neg (hblk b1 bi1 e hb1)]; exact y2, y3⟩
  · intro b1 b2 bi1 bi2 cs1 cs2 k1 k2 base1 base2 e1 e2 hb1 hb2 heq hg1 hg2
    by_cases e : b1 = b
    · subst e; rw [hself] at hg1; injection hg1 with hg1; cases hg1
    by_cases e' : b2 = b
    · subst e'; rw [hself] at hg2; injection hg2 with hg2; cases hg2
    rw [hheap b1 e] at hg1
    rw [hheap b2 e'] at hg2
    exact h.fam b1 b2 bi1 bi2 cs1 cs2 k1 k2 base1 base2 e1 e2 hb1 hb2 heq hg1 hg2
  · intro b1 b2 bi1 bi2 es1 hb1 hb2 heq hg1
    by_cases e : b1 = b
    · subst e; exact h.inj b1 b2 bi1 bi2 es0 hb1 hb2 heq hg
    · rw [hheap b1 e] at hg1
      exact h.inj b1 b2 bi1 bi2 es1 hb1 hb2 heq hg1
  · intro b1 bi1 t pos hb1 hg1
    by_cases e : b1 = b
    · subst e; rw [hself] at hg1; injection hg1 with hg1; cases hg1
    · rw [hheap b1 e] at hg1
      obtain ⟨y1, y2, y3, y4⟩ := h.iter b1 bi1 t pos hb1 hg1
      exact ⟨y1, y2, by rw [hget _ hlt, if_neg (hblk b1 bi1 e hb1)]; exact y3, y4⟩
  · refine ⟨h.below.os, h.below.tape, h.below.output, ?_, ?_⟩
    · rw [hsz]; exact h.below.size
    · intro k hk
      rw [hget _ hlt, if_neg (by omega)]
      exact h.below.block k hk
  · intro i _ hi
    rw [hget _ hlt, if_neg (fun hh => hi b bi hb (by have := h.nx; have := wf.lt b _ hg; omega) hh.symm)]
  · intro b1 hb1 _
    have e : b1 ≠ b := fun hh => by subst hh; rw [hb] at hb1; cases hb1
    exact ⟨hheap b1 e, by rw [hfams]⟩

/-! ### iterators of texts -/
theorem setIter_some {s s' : St} {b : Nat} {t : ByteArray} {pos : Nat} (h : s.setIter b t pos = some s') :
    ∃ t0 p0, s.heap.get b = some (.iter t0 p0) ∧ s' = { heap := s.heap.set b (.iter t pos), fams := s.fams, tys := s.tys, next := s.next, low := touch s b } := by
  unfold St.setIter at h
  split at h
  · rename_i t0 p0 hb
    injection h with h
    exact ⟨t0, p0, hb, h.symm⟩
  · cases h
theorem sim_setIter {J B0 : Nat} {w0 : World} {β : B} {s s' : St} {w : World} (h : Rel J B0 w0 β s w) (wf : WF s) {b : Nat} {t : ByteArray} {pos : Nat} {bi : BI} (hb : β b = some bi)
    (hw : s.setIter b t pos = some s') : Step J B0 w0 β s w β s' (putM w bi.blk (.stringIter t pos)) := by
  obtain ⟨t0, p0, hg, hs'⟩ := setIter_some hw
  obtain ⟨o1, o2, o3, o4⟩ := h.iter b bi t0 p0 hb hg
  have hlt : bi.blk < w.heap.size := (h.dom b bi hb).1
  have hget := putM_get w bi.blk (.stringIter t pos)
  have hsz : (putM w bi.blk (.stringIter t pos)).heap.size = w.heap.size := by simp [putM]
  have hheap : ∀ b1, b1 ≠ b → s'.heap.get b1 = s.heap.get b1 := fun b1 hb1 => by rw [hs']; exact T.get_set_ne _ hb1 _
  have hself : s'.heap.get b = some (.iter t pos) := by rw [hs']; exact T.get_set_same _ _ _
  have hfams : s'.fams = s.fams := by rw [hs']
  have htys : s'.tys = s.tys := by rw [hs']
  have hrd : ∀ b1, b1 ≠ b → s'.rd b1 = s.rd b1 := fun b1 hb1 => by unfold St.rd; rw [hheap b1 hb1, hfams]
  have hblk : ∀ b1 bi1, b1 ≠ b → β b1 = some bi1 → bi1.blk ≠ bi.blk := fun b1 bi1 hne hb1 hh => hne (o4 b1 bi1 hb1 hh)
  refine ⟨⟨by rw [hs']; exact h.nx, ?_, ?_, ?_, ?_, ?_, ?_, ?_, ?_, h.gl, ?_, by rw [hsz]; exact h.base⟩, fun _ _ hx => hx, fun _ _ hx => .inl hx, ?_, ?_, by rw [hsz]; exact Nat.le_refl _, by rw [hs']; exact Nat.le_refl _, by rw [hs']; exact touch_le _ _⟩
  · intro b1 bi1 hb1
    obtain ⟨d1, d2⟩ := h.dom b1 bi1 hb1
    refine ⟨by rw [hsz]; exact d1, ?_⟩
    by_cases e : b1 = b
    · subst e; exact .inl ⟨_, hself⟩
    · rw [hheap b1 e]; exact d2
  · intro b1 bi1 cs1 hb1 hr1
    by_cases e : b1 = b
    · subst e; unfold St.rd at hr1; rw [hself] at hr1; cases hr1
    · rw [hrd b1 e] at hr1
      obtain ⟨C, e1, fr, y1, y2⟩ := h.rd b1 bi1 cs1 hb1 hr1
      exact ⟨C, e1, fr, by rw [hget _ hlt, if_neg (hblk b1 bi1 e hb1)]; exact y1, y2⟩
  · intro b1 bi1 cs1 k base esz hb1 hg1
    by_cases e : b1 = b
    · subst e; rw [hself] at hg1; injection hg1 with hg1; cases hg1
    · rw [hheap b1 e] at hg1
      obtain ⟨y1, y2, y3, C, e1, fr, y4, y5⟩ := h.own b1 bi1 cs1 k base esz hb1 hg1
      exact ⟨y1, y2, y3, C, e1, fr, by rw [hget _ hlt, if_neg (hblk b1 bi1 e hb1)]; exact y4, by rw [htys, hfams]; exact y5⟩
  · intro b1 bi1 cs1 k base esz hb1 hg1
    by_cases e : b1 = b
    · subst e; rw [hself] at hg1; injection hg1 with hg1; cases hg1
    · rw [hheap b1 e] at hg1
      exact h.ro b1 bi1 cs1 k base esz hb1 hg1
  · intro b1 bi1 es1 hb1 hg1
    by_cases e : b1 = b
    · subst e; rw [hself] at hg1; injection hg1 with hg1; cases hg1
    · rw [hheap b1 e] at hg1
      obtain ⟨y1, ms1, c1, y2, y3⟩ := h.map b1 bi1 es1 hb1 hg1
      exact ⟨y1, ms1, c1, by rw [hget _ hlt, if_neg (hblk b1 bi1 e hb1)]; exact y2, y3⟩
  · intro b1 b2 bi1 bi2 cs1 cs2 k1 k2 base1 base2 e1 e2 hb1 hb2 heq hg1 hg2
    by_cases e : b1 = b
    · subst e; rw [hself] at hg1; injection hg1 with hg1; cases hg1
    by_cases e' : b2 = b
    · subst e'; rw [hself] at hg2; injection hg2 with hg2; cases hg2
    rw [hheap b1 e] at hg1
    rw [hheap b2 e'] at hg2
    exact h.fam b1 b2 bi1 bi2 cs1 cs2 k1 k2 base1 base2 e1 e2 hb1 hb2 heq hg1 hg2
  · intro b1 b2 bi1 bi2 es1 hb1 hb2 heq hg1
    by_cases e : b1 = b
    · subst e; rw [hself] at hg1; injection hg1 with hg1; cases hg1
    · rw [hheap b1 e] at hg1
      exact h.inj b1 b2 bi1 bi2 es1 hb1 hb2 heq hg1
  · intro b1 bi1 t1 p1 hb1 hg1
    by_cases e : b1 = b
    · subst e
      rw [hb] at hb1; injection hb1 with hb1; subst hb1
      rw [hself] at hg1; injection hg1 with hg1; injection hg1 with g1 g2; subst g1 g2
      exact ⟨o1, o2, by rw [hget _ hlt, if_pos rfl], o4⟩
    · rw [hheap b1 e] at hg1
      obtain ⟨y1, y2, y3, y4⟩ := h.iter b1 bi1 t1 p1 hb1 hg1
      exact ⟨y1, y2, by rw [hget _ hlt, if_neg (hblk b1 bi1 e hb1)]; exact y3, y4⟩
  · refine ⟨h.below.os, h.below.tape, h.below.output, ?_, ?_⟩
    · rw [hsz]; exact h.below.size
    · intro k hk
      rw [hget _ hlt, if_neg (by omega)]
      exact h.below.block k hk
  · intro i _ hi
    rw [hget _ hlt, if_neg (fun hh => hi b bi hb (by have := h.nx; have := wf.lt b _ hg; omega) hh.symm)]
  · intro b1 hb1 _
    have e : b1 ≠ b := fun hh => by subst hh; rw [hb] at hb1; cases hb1
    exact ⟨hheap b1 e, by rw [hfams]⟩

def evRange (P : Program) (t : TypeId) (x : Value) (s : St) : Option (Value × St) :=
  match P.underlying t, x with
  | some .string, .string u => some (.pointer (some ⟨s.next, 0, none⟩), s.newIter u 0)
  | _, _ => none
theorem range_U {P : Program} {t : TypeId} {x r : Value} {s s' : St} (wf : WF s) (h : evRange P t x s = some (r, s')) : U s s' := by
  unfold evRange at h
  split at h <;> first | contradiction | skip
  injection h with h; injection h with h1 h2; subst h2
  exact newIter_U wf _ _
theorem range_sim {P : Program} {J B0 : Nat} {w0 : World} {β : B} {s s' : St} {w : World} {t : TypeId} {x x' r : Value} (hR : Rel J B0 w0 β s w) (wf : WF s) (h : evRange P t x s = some (r, s')) (hJ : s'.next ≤ J) (hx : VR β x x') :
    MemSim P J B0 w0 β s w (Instr.range t x') r s' := by
  unfold evRange at h
  split at h <;> first | contradiction | skip
  rename_i u hu
  injection h with h; injection h with h1 h2; subst h1 h2
  cases hx
  refine ⟨_, _, _, sim_newIter hR wf hJ u 0, .ptr ⟨_, upd_same _ _ _, rfl, rfl⟩, ?_⟩
  simp only [Instr.range, Sem.run_bind, run_underlying' hu, Result.andThen_ok, Sem.run_pure, run_newObj_alloc]
/-- The next letter of a text, if it is one of one byte. -/
def evNext (x : Value) (isStr : Bool) (s : St) : Option (Value × St) :=
  match isStr, x with
  | true, .pointer (some ⟨b, 0, none⟩) => match s.heap.get b with
    | some (.iter t pos) => match (bs t)[pos]? with
      | some c => match Nat.blt c.toNat 128, s.setIter b t (pos + 1) with
        | true, some s' => some (.tuple #[.bool true, .int .i64 (pos : Int), .int .i32 (c.toNat : Int)], s')
        | _, _ => none
      | none => some (.tuple #[.bool false], s)
    | _ => none
  | _, _ => none
theorem next_U {x r : Value} {i : Bool} {s s' : St} (wf : WF s) (h : evNext x i s = some (r, s')) : U s s' := by
  unfold evNext at h
  split at h <;> first | contradiction | skip
  split at h <;> first | contradiction | skip
  split at h
  · split at h <;> first | contradiction | skip
    injection h with h; injection h with h1 h2; subst h2
    exact setIter_U wf (by assumption)
  · injection h with h; injection h with h1 h2; subst h2; exact U.refl wf
theorem dec_ascii {t : ByteArray} {pos : Nat} {c : UInt8} (h : (bs t)[pos]? = some c) (hc : c.toNat < 128) : Utf8.decode t pos = (c.toNat, 1) := by
  obtain ⟨h1, h2⟩ := List.getElem?_eq_some_iff.1 h
  have hlt : pos < t.size := by simpa [bs] using h1
  have he : t[pos]'hlt = c := by rw [← h2]; rfl
  have := decode_ascii t pos hlt (by rw [he]; exact hc)
  rw [this, he]
theorem next_sim {P : Program} {J B0 : Nat} {w0 : World} {β : B} {s s' : St} {w : World} {x x' r : Value} {i : Bool} {ty : TypeId} (hR : Rel J B0 w0 β s w) (wf : WF s) (h : evNext x i s = some (r, s')) (hx : VR β x x') :
    ∃ w', Step J B0 w0 β s w β s' w' ∧ VR β r r ∧ (Instr.next x' i ty).run P w = .ok r w' := by
  unfold evNext at h
  split at h <;> first | contradiction | skip
  rename_i b
  cases hx with | ptr ha =>
  obtain ⟨bi, hb, _, rfl⟩ := ha
  split at h <;> first | contradiction | skip
  rename_i t pos hg
  obtain ⟨y1, y2, y3, y4⟩ := hR.iter b bi t pos hb hg
  have hget : (getObj bi.blk).run P w = .ok (.stringIter t pos) w := by simp [getObj, Sem.run, y3]
  have e0 : (⟨bi.blk, 0 + bi.sh, none⟩ : Addr) = ⟨bi.blk, 0, none⟩ := by rw [y2]
  simp only at e0 ⊢
  split at h
  · rename_i c hc
    split at h <;> first | contradiction | skip
    rename_i s0 h128 hs
    injection h with h; injection h with h1 h2; subst h1 h2
    have h128 : c.toNat < 128 := by simpa [Nat.blt_eq] using h128
    have hlt : pos < t.size := by
      have := (List.getElem?_eq_some_iff.1 hc).1
      simpa [bs] using this
    refine ⟨_, sim_setIter hR wf hb hs, ?_, ?_⟩
    · exact .tuple rfl fun i x y hx hy => by
        rw [hx] at hy; injection hy with hy; subst hy
        have := List.mem_of_getElem? (l := [.bool true, .int .i64 (pos : Int), .int .i32 (c.toNat : Int)]) (i := i) (a := x) (by simpa using hx)
        simp only [List.mem_cons, List.not_mem_nil, or_false] at this
        rcases this with rfl | rfl | rfl
        · exact .bool _
        · exact .int _ _
        · exact .int _ _
    · rw [e0]
      have hset : (setObj bi.blk (.stringIter t (pos + 1))).run P w = .ok () (putM w bi.blk (.stringIter t (pos + 1))) := by simp [setObj, Sem.run, y3, putM]
      simp only [Instr.next, Sem.run_bind, hget, Result.andThen_ok, if_pos hlt, dec_ascii hc h128, hset, Sem.run_pure]
      rfl
  · rename_i hc
    injection h with h; injection h with h1 h2; subst h1 h2
    have hlt : ¬ pos < t.size := by
      have := List.getElem?_eq_none_iff.1 hc
      simp [bs] at this
      have e : t.size = t.data.size := rfl
      omega
    refine ⟨w, .refl hR, ?_, ?_⟩
    · exact .tuple rfl fun i x y hx hy => by
        rw [hx] at hy; injection hy with hy; subst hy
        have := List.mem_of_getElem? (l := [.bool false]) (i := i) (a := x) (by simpa using hx)
        simp only [List.mem_cons, List.not_mem_nil, or_false] at this
        subst this; exact .bool _
    · rw [e0]
      simp only [Instr.next, Sem.run_bind, hget, Result.andThen_ok, if_neg hlt, Sem.run_pure]

/-- Are two keys the same, sign by sign? -/
def evSameL (f : Value → Value → Bool) : List Value → List Value → Bool
  | [], [] => true
  | x :: xs, y :: ys => match f x y with
    | true => evSameL f xs ys
    | false => false
  | _, _ => false
def evSame : Nat → Value → Value → Bool
  | 0, _, _ => false
  | n + 1, x, y => match x, y with
    | .bool a, .bool b => a == b
    | .int j a, .int k b => match decide (j = k) with
      | true => a == b
      | false => false
    | .string a, .string b => bs a == bs b
    | .agg a, .agg b => evSameL (evSame n) a.toList b.toList
    | _, _ => false
theorem evSame_sim {β : B} : ∀ (n m : Nat) {x y x' y' : Value}, n ≤ m → evSame n x y = true → VR β x x' → VR β y y' → Instr.sameBits m x' y' = true
  | 0, _, _, _, _, _, _, h, _, _ => by simp [evSame] at h
  | n + 1, m, x, y, x', y', hm, h, hx, hy => by
    obtain ⟨m, rfl⟩ : ∃ m', m = m' + 1 := ⟨m - 1, by omega⟩
    unfold evSame at h
    split at h <;> first | contradiction | skip
    · cases hx; cases hy; simpa [Instr.sameBits] using h
    · split at h <;> first | contradiction | skip
      rename_i hd
      cases hx; cases hy
      have := of_decide_eq_true hd
      subst this
      simp [Instr.sameBits, beq_iff_eq.1 h]
    · cases hx; cases hy; simpa [Instr.sameBits, bs_beq] using h
    · rename_i a b
      cases hx with | agg h1 h2 =>
      rename_i a'
      cases hy with | agg h3 h4 =>
      rename_i b'
      have l1 := LR.of_arr h1 h2
      have l2 := LR.of_arr h3 h4
      have hlen : ∀ {f : Value → Value → Bool} {xs ys : List Value}, evSameL f xs ys = true → xs.length = ys.length := by
        intro f xs
        induction xs with
        | nil => intro ys h; cases ys <;> simp_all [evSameL]
        | cons x xs ih =>
          intro ys h
          cases ys with
          | nil => simp [evSameL] at h
          | cons y ys =>
            simp only [evSameL] at h
            split at h <;> first | contradiction | skip
            simp [ih h]
      have hsz : a'.size = b'.size := by
        have := hlen h
        simp only [Array.length_toList] at this
        omega
      have hall : ∀ {xs ys xs' ys' : List Value}, evSameL (evSame n) xs ys = true → LR β xs xs' → LR β ys ys' → (xs'.zip ys').all (fun (x, y) => Instr.sameBits m x y) = true := by
        intro xs
        induction xs with
        | nil => intro ys xs' ys' h k1 k2; cases k1; simp
        | cons x xs ih =>
          intro ys xs' ys' h k1 k2
          cases ys with
          | nil => simp [evSameL] at h
          | cons y ys =>
            simp only [evSameL] at h
            split at h <;> first | contradiction | skip
            rename_i hxy
            cases k1 with | cons a1 a2 =>
            cases k2 with | cons b1 b2 =>
            simp only [List.zip_cons_cons, List.all_cons, Bool.and_eq_true]
            exact ⟨evSame_sim n m (by omega) hxy a1 b1, ih h a2 b2⟩
      simp only [Instr.sameBits, Bool.and_eq_true, beq_iff_eq]
      exact ⟨hsz, hall h l1 l2⟩

def setVal (es : List (Value × Value)) (i : Nat) (k v : Value) : List (Value × Value) := es.set i (k, v)
def evUpdate (P : Program) (t : TypeId) (x k v : Value) (s : St) : Option St :=
  match P.underlying t, x with
  | some (.map kt _), .map (some r) => match mapOf s x with
    | some es => match evKey P 10000 kt k, P.underlying kt, evFind P kt k es 0 with
      | true, some _, some (some i) => match es[i]? with
        | some e => match evSame 100 e.1 k with
          | true => s.setMap r (setVal es i k v)
          | false => none
        | none => none
      | true, some _, some none => s.setMap r (es ++ [(k, v)])
      | _, _, _ => none
    | none => none
  | _, _ => none
theorem MR.append {β : B} {es : List (Value × Value)} {ms : List MapEntry} {k k' v v' : Value} {c : Nat} (h : MR β es ms) (hk : VR β k k') (hv : VR β v v') : MR β (es ++ [(k, v)]) (ms ++ [{ key := k', val := v', born := c }]) := by
  refine ⟨?_, ?_⟩
  · simp only [List.map_append, List.map_cons, List.map_nil]; exact h.keys.append (.cons hk .nil)
  · simp only [List.map_append, List.map_cons, List.map_nil]; exact h.vals.append (.cons hv .nil)
theorem MR.setVal {β : B} {k k' v v' : Value} (hk : VR β k k') (hv : VR β v v') : ∀ {es : List (Value × Value)} {ms : List MapEntry} (i : Nat), MR β es ms → MR β (setVal es i k v) (ms.modify i fun e => { e with key := k', val := v' })
  | [], ms, i, h => by
    obtain rfl := h.nil_inv
    simpa [Ev.setVal] using h
  | e :: es, [], i, h => by have := h.keys.length; simp at this
  | e :: es, m :: ms, 0, h => by
    obtain ⟨h1, h2, h3⟩ := h.cons
    exact ⟨.cons hk h3.keys, .cons hv h3.vals⟩
  | e :: es, m :: ms, i + 1, h => by
    obtain ⟨h1, h2, h3⟩ := h.cons
    have := MR.setVal hk hv i h3
    exact ⟨.cons h1 this.keys, .cons h2 this.vals⟩
theorem update_U {P : Program} {t : TypeId} {x k v : Value} {s s' : St} (wf : WF s) (h : evUpdate P t x k v s = some s') : U s s' := by
  unfold evUpdate at h
  split at h <;> first | contradiction | skip
  split at h <;> first | contradiction | skip
  split at h <;> first | contradiction | skip
  · split at h <;> first | contradiction | skip
    split at h <;> first | contradiction | exact setMap_U wf h
  · exact setMap_U wf h
theorem update_sim {P : Program} {J B0 : Nat} {w0 : World} {β : B} {s s' : St} {w : World} {t : TypeId} {x x' k k' v v' : Value} (hR : Rel J B0 w0 β s w) (wf : WF s) (h : evUpdate P t x k v s = some s') (hx : VR β x x') (hk : VR β k k') (hv : VR β v v') :
    ∃ w', Step J B0 w0 β s w β s' w' ∧ (Instr.mapUpdate t x' k' v').run P w = .ok () w' := by
  unfold evUpdate at h
  split at h <;> first | contradiction | skip
  rename_i kt et r hu
  split at h <;> first | contradiction | skip
  rename_i es hes
  rcases map_get hR hes hx with ⟨_, hx0, _⟩ | ⟨r0, r', bi, ms, clock, hx0, rfl, hb, rfl, _, hm, hmr⟩
  · cases hx0
  injection hx0 with hx0; injection hx0 with hx0; subst hx0
  split at h <;> first | contradiction | skip
  · rename_i d i hkk hd hf
    split at h <;> first | contradiction | skip
    rename_i e he
    split at h <;> first | contradiction | skip
    rename_i hsame
    obtain ⟨m, hmi, hv1, hv2⟩ := hmr.get he
    have h1 := evKey_sim (empty := false) 10000 kt k k' hkk hk w
    have h2 := find_sim hd hk hmr hf w
    simp only [asFound, Nat.sub_zero, hmi] at h2
    have h3 := evSame_sim 100 10000 (by omega) hsame hv1 hk
    have hmi' : ms[i]? = some m := by simpa using hmi
    refine ⟨putM w bi.blk (.map (ms.modify i fun e => { e with key := k', val := v' }) clock), ?_, ?_⟩
    · refine sim_setMap hR wf hb h ?_ clock
      rw [Array.toList_modify]
      exact MR.setVal hk hv i hmr
    · simp only [Instr.mapUpdate, Sem.run_bind, run_underlying' hu, Result.andThen_ok, run_getMap hm, h1, h2, hmi', Option.map_some, Option.getD_some, Instr.keyThatStays, h3, if_true, Sem.run_pure, run_setMap _ hm]
  · rename_i d hkk hd hf
    have h1 := evKey_sim (empty := false) 10000 kt k k' hkk hk w
    have h2 := find_sim hd hk hmr hf w
    simp only [asFound] at h2
    refine ⟨putM w bi.blk (.map (ms.push { key := k', val := v', born := clock }) (clock + 1)), ?_, ?_⟩
    · refine sim_setMap hR wf hb h ?_ _
      rw [Array.toList_push]
      exact hmr.append hk hv
    · simp only [Instr.mapUpdate, Sem.run_bind, run_underlying' hu, Result.andThen_ok, run_getMap hm, h1, h2, run_setMap _ hm]

/-- A new map. -/
def evMakeMap (P : Program) (t : TypeId) (n : Option Value) (s : St) : Option (Value × St) :=
  match n with
  | none => some (.map (some s.next), s.newMap [])
  | some (.int _ _) => match P.underlying t with
    | some (.map _ _) => some (.map (some s.next), s.newMap [])
    | _ => none
  | some _ => none
theorem makeMap_U {P : Program} {t : TypeId} {n : Option Value} {s s' : St} {r : Value} (wf : WF s) (h : evMakeMap P t n s = some (r, s')) : U s s' := by
  unfold evMakeMap at h
  split at h
  · injection h with h; injection h with h1 h2; subst h2; exact newMap_U wf _
  · split at h <;> first | contradiction | skip
    injection h with h; injection h with h1 h2; subst h2; exact newMap_U wf _
  · cases h
theorem makeMap_sim {P : Program} {J B0 : Nat} {w0 : World} {β : B} {s s' : St} {w : World} {t : TypeId} {n n' : Option Value} {r : Value} (hR : Rel J B0 w0 β s w) (wf : WF s) (h : evMakeMap P t n s = some (r, s')) (hJ : s'.next ≤ J) (hn : OV β n n') :
    MemSim P J B0 w0 β s w (Instr.makeMap t n') r s' := by
  have fin : s.newMap [] = s' → r = .map (some s.next) → ∃ β' v', Step J B0 w0 β s w β' s' (w.alloc (.map #[] 0)) ∧ VR β' r v' ∧ v' = .map (some w.heap.size) := by
    rintro rfl rfl
    exact ⟨_, .map (some w.heap.size), sim_newMap (ms := #[]) hR wf hJ ⟨.nil, .nil⟩ 0, .map (bi := ⟨w.heap.size, 0, 0, 0⟩) (upd_same _ _ _), rfl⟩
  unfold evMakeMap at h
  split at h
  · injection h with h; injection h with h1 h2
    obtain ⟨β', v', k1, k2, rfl⟩ := fin h2 h1.symm
    cases hn
    exact ⟨β', _, _, k1, k2, by simp only [Instr.makeMap, Sem.run_bind, Sem.run_pure, Result.andThen_ok, run_newObj_alloc]⟩
  · split at h <;> first | contradiction | skip
    rename_i hu
    injection h with h; injection h with h1 h2
    obtain ⟨β', v', k1, k2, rfl⟩ := fin h2 h1.symm
    cases hn with | some hv =>
    cases hv
    exact ⟨β', _, _, k1, k2, by simp only [Instr.makeMap, Sem.run_bind, run_underlying' hu, asInt, asIntOf, Sem.run_pure, Result.andThen_ok, run_newObj_alloc]⟩
  · cases h

/-- delete. -/
def evDelete (P : Program) (t : TypeId) (x k : Value) (s : St) : Option St :=
  match P.underlying t with
  | some (.map kt _) => match x with
    | .map none => match evKey P 10000 kt k with
      | true => some s
      | false => none
    | .map (some r) => match mapOf s x with
      | some es => match evKey P 10000 kt k, P.underlying kt, evFind P kt k es 0 with
        | true, some _, some (some i) => s.setMap r (es.eraseIdx i)
        | true, some _, some none => s.setMap r es
        | _, _, _ => none
      | none => none
    | _ => none
  | _ => none
theorem delete_U {P : Program} {t : TypeId} {x k : Value} {s s' : St} (wf : WF s) (h : evDelete P t x k s = some s') : U s s' := by
  unfold evDelete at h
  split at h <;> first | contradiction | skip
  split at h <;> first | contradiction | skip
  · split at h <;> first | contradiction | skip
    injection h with h; subst h; exact U.refl wf
  · split at h <;> first | contradiction | skip
    split at h <;> first | contradiction | exact setMap_U wf h
theorem MR.erase {β : B} : ∀ {es : List (Value × Value)} {ms : List MapEntry} (i : Nat), MR β es ms → MR β (es.eraseIdx i) (ms.eraseIdx i)
  | [], ms, i, h => by
    obtain rfl := h.nil_inv
    simpa using h
  | e :: es, [], i, h => by have := h.keys.length; simp at this
  | e :: es, m :: ms, 0, h => h.cons.2.2
  | e :: es, m :: ms, i + 1, h => by
    obtain ⟨h1, h2, h3⟩ := h.cons
    have := MR.erase i h3
    exact ⟨.cons h1 this.keys, .cons h2 this.vals⟩

theorem delete_sim {P : Program} {J B0 : Nat} {w0 : World} {β : B} {s s' : St} {w : World} {t ty : TypeId} {x x' k k' : Value} {ats : Array TypeId} {xs : Array Value} (hR : Rel J B0 w0 β s w) (wf : WF s) (h : evDelete P t x k s = some s') (hx : VR β x x') (hk : VR β k k')
    (ht : ats[0]? = some t) (h0 : xs[0]? = some x') (h1 : xs[1]? = some k') :
    ∃ w', Step J B0 w0 β s w β s' w' ∧ (Builtin.delete_ ats ty xs).run P w = .ok (.tuple #[]) w' := by
  unfold evDelete at h
  split at h <;> first | contradiction | skip
  rename_i kt et hu
  split at h <;> first | contradiction | skip
  · split at h <;> first | contradiction | skip
    rename_i hkk
    injection h with h; subst h
    cases hx
    have g1 := evKey_sim (empty := true) 10000 kt k k' hkk hk w
    exact ⟨w, .refl hR, by simp only [Builtin.delete_, ht, h0, h1, Sem.run_bind, run_underlying' hu, Result.andThen_ok, g1, Sem.run_pure]⟩
  · rename_i r
    split at h <;> first | contradiction | skip
    rename_i es hes
    rcases map_get hR hes hx with ⟨_, hx0, _⟩ | ⟨r0, r', bi, ms, clock, hx0, rfl, hb, rfl, _, hm, hmr⟩
    · cases hx0
    injection hx0 with hx0; injection hx0 with hx0; subst hx0
    split at h <;> first | contradiction | skip
    · rename_i d i hkk hd hf
      obtain ⟨_, hlt⟩ := evFind_ge hf
      have hlen : es.length = ms.toList.length := by simpa using hmr.keys.length
      obtain ⟨m, hmi⟩ : ∃ m, ms.toList[i]? = some m := ⟨_, List.getElem?_eq_getElem (by omega)⟩
      have g1 := evKey_sim (empty := ms.isEmpty) 10000 kt k k' hkk hk w
      have g2 := find_sim hd hk hmr hf w
      simp only [asFound, Nat.sub_zero, hmi] at g2
      refine ⟨putM w bi.blk (.map (ms.eraseIdxIfInBounds i) clock), ?_, ?_⟩
      · refine sim_setMap hR wf hb h ?_ _
        have : (ms.eraseIdxIfInBounds i).toList = ms.toList.eraseIdx i := by
          simp [Array.eraseIdxIfInBounds, show i < ms.size by simp only [Array.length_toList] at hlen; omega]
        rw [this]
        exact MR.erase i hmr
      · simp only [Builtin.delete_, ht, h0, h1, Sem.run_bind, run_underlying' hu, Result.andThen_ok, run_getMap hm, g1, g2, run_setMap _ hm, Sem.run_pure]
    · rename_i d hkk hd hf
      have g1 := evKey_sim (empty := ms.isEmpty) 10000 kt k k' hkk hk w
      have g2 := find_sim hd hk hmr hf w
      simp only [asFound] at g2
      refine ⟨putM w bi.blk (.map ms clock), sim_setMap hR wf hb h hmr _, ?_⟩
      simp only [Builtin.delete_, ht, h0, h1, Sem.run_bind, run_underlying' hu, Result.andThen_ok, run_getMap hm, g1, g2, run_setMap _ hm, Sem.run_pure]
/-- len of a map. -/
def evLenMap (P : Program) (t : TypeId) (x : Value) (s : St) : Option Value :=
  match P.underlying t with
  | some (.map _ _) => match mapOf s x with
    | some es => some (goInt es.length)
    | none => none
  | _ => none
theorem lenMap_sim {P : Program} {J B0 : Nat} {w0 : World} {β : B} {s : St} {w : World} {t ty : TypeId} {x x' r : Value} {ats : Array TypeId} {xs : Array Value} (hR : Rel J B0 w0 β s w) (h : evLenMap P t x s = some r) (hx : VR β x x')
    (ht : ats[0]? = some t) (h0 : xs[0]? = some x') : VR β r r ∧ (Builtin.len_ ats ty xs).run P w = .ok r w := by
  unfold evLenMap at h
  split at h <;> first | contradiction | skip
  rename_i kt et hu
  split at h <;> first | contradiction | skip
  rename_i es hes
  injection h with h; subst h
  refine ⟨.int _ _, ?_⟩
  rcases map_get hR hes hx with ⟨rfl, _, rfl⟩ | ⟨r0, r', bi, ms, clock, _, rfl, hb, _, _, hm, hmr⟩
  · simp only [Builtin.len_, ht, h0, Sem.run_bind, run_underlying' hu, Result.andThen_ok, Sem.run_pure]; rfl
  · have hlen : es.length = ms.size := by simpa using hmr.keys.length
    simp only [Builtin.len_, ht, h0, Sem.run_bind, run_underlying' hu, Result.andThen_ok, Sem.run_pure, run_getMap hm, hlen]

/-- cap of a nil slice. -/
def evCap (P : Program) (t : TypeId) (x : Value) : Option Value :=
  match P.underlying t, x with
  | some (.slice _), .slice none 0 0 => some (goInt 0)
  | _, _ => none
theorem cap_sim {P : Program} {β : B} {w : World} {t ty : TypeId} {x x' r : Value} {ats : Array TypeId} {xs : Array Value} (h : evCap P t x = some r) (hx : VR β x x')
    (ht : ats[0]? = some t) (h0 : xs[0]? = some x') : VR β r r ∧ (Builtin.cap_ ats ty xs).run P w = .ok r w := by
  unfold evCap at h
  split at h <;> first | contradiction | skip
  rename_i e hu
  injection h with h; subst h
  cases hx
  exact ⟨.int _ _, by simp only [Builtin.cap_, ht, h0, Sem.run_bind, run_underlying' hu, Result.andThen_ok, Sem.run_pure]; rfl⟩

/-- Zero values, appended to a nil slice. -/
def evAppendZ (P : Program) (sT xT : TypeId) (sv x : Value) (s : St) : Option (Value × St) :=
  match P.underlying sT, P.underlying xT, sv, x with
  | some (.slice e), some (.int _), .slice none 0 0, .int _ (.ofNat m) => match P.info? e with
    | some i => match i.zero with
      | some z => match closedV 6 z, Nat.beq z.cells.size i.size, Nat.blt 0 i.size, Nat.blt 0 i.bytes, roomOk m i.bytes, Nat.blt 0 m with
        | true, true, true, true, true, true => some (.slice (some ⟨s.next, 0, none⟩) m m, s.new (zeros z.cells.toList (m * i.size)) i.size (e + 1))
        | _, _, _, _, _, _ => none
      | none => none
    | none => none
  | _, _, _, _ => none
theorem appendZ_U {P : Program} {sT xT : TypeId} {sv x r : Value} {s s' : St} (wf : WF s) (h : evAppendZ P sT xT sv x s = some (r, s')) : U s s' := by
  unfold evAppendZ at h
  repeat' (split at h <;> first | contradiction | skip)
  injection h with h; injection h with h1 h2; subst h2; exact new_U wf _ _ _
theorem appendZ_sim {P : Program} {J B0 : Nat} {w0 : World} {β : B} {s s' : St} {w : World} {sT xT ty : TypeId} {sv sv' x x' r : Value} {ats : Array TypeId} {xs : Array Value} (hR : Rel J B0 w0 β s w) (wf : WF s)
    (h : evAppendZ P sT xT sv x s = some (r, s')) (hJ : s'.next ≤ J) (hs : VR β sv sv') (hx : VR β x x') (hat : ats[0]? = some sT) (hat1 : ats[1]? = some xT) (hx0 : xs[0]? = some sv') (hx1 : xs[1]? = some x') :
    MemSim P J B0 w0 β s w (Builtin.append_ ats ty xs) r s' := by
  unfold evAppendZ at h
  split at h <;> first | contradiction | skip
  rename_i e k k' m hu hd
  split at h <;> first | contradiction | skip
  rename_i i hi
  split at h <;> first | contradiction | skip
  rename_i z hz
  split at h <;> first | contradiction | skip
  rename_i hcz hzs hpos hbp hok hm
  have hzs := Nat.eq_of_beq_eq_true hzs
  have hpos : 0 < i.size := by simpa [Nat.blt_eq] using hpos
  have hbp : 0 < i.bytes := by simpa [Nat.blt_eq] using hbp
  have hm : 0 < m := by simpa [Nat.blt_eq] using hm
  injection h with h; injection h with h1 h2; subst h1 h2
  cases hs
  cases hx
  obtain ⟨g1, g2⟩ := room_spec hok hm
  have hbig : m ≤ m + m / 4 + 1024 := by omega
  have hbytes : (m : Nat) * i.bytes ≤ 281474976710656 := by
    unfold roomOk at hok
    simp only [Bool.and_eq_true] at hok
    exact Nat.le_trans (Nat.mul_le_mul_right _ hbig) (Nat.le_of_ble_eq_true hok.2)
  have hw1 := wrap_small (c := m) g2
  have hn1 : ¬ (Int.ofNat m < 0) := by simp
  have hn2 : ¬ (Int.ofNat m * (i.bytes : Int) > 2 ^ 48) := by
    have : ((m * i.bytes : Nat) : Int) ≤ 281474976710656 := Int.ofNat_le.2 hbytes
    rw [Int.natCast_mul] at this
    simp only [Int.ofNat_eq_natCast]
    omega
  have hroom : ¬ 0 + m ≤ 0 := by omega
  have hmz : ¬ m * i.size = 0 := by
    have := Nat.mul_pos hm hpos
    omega
  have g3 : ¬ (((0 + m : Nat) : Int) > IntKind.i64.max ∧ (True ∨ i.bytes = 0)) := fun h => by
    have h1 := h.1
    have h2 : IntKind.i64.max = 9223372036854775807 := rfl
    omega
  rw [← Nat.zero_add m] at g1
  have hnf : Question.forced (.appendCap (0 + m) 0 e) = false := rfl
  let nc := Question.cut (.appendCap (0 + m) 0 e) (w.tape w.drawn (.appendCap (0 + m) 0 e))
  have hnc : m ≤ nc := by simp [nc, Question.cut]
  have hfo : (Builtin.firstCells i.size 0 (.slice none 0 0)).run P w.drew = .ok #[] w.drew := rfl
  let C : Array Value := #[] ++ Builtin.zeroCells z.cells m ++ Builtin.zeroCells z.cells (nc - (0 + m))
  have hrun : (Builtin.append_ ats ty xs).run P w = .ok (.slice (some ⟨w.heap.size, 0, none⟩) (0 + m) nc) (w.drew.alloc (.cells C e)) := by
    simp only [Builtin.append_, hat, hat1, hx0, hx1, Sem.run_bind, run_underlying' hu, run_underlying' hd, Result.andThen_ok, run_sizeOf' hi, Sem.run_pure, asInt, asIntOf]
    simp only [if_true, Sem.run_bind, hw1, if_neg hn1, run_typeInfo' hi, Result.andThen_ok, if_neg hn2, Sem.run_pure, show (Int.ofNat m).toNat = m from rfl, if_neg hroom, if_neg g3, if_neg g1, run_choose_drew, hnf, run_askRoom, hfo, Bool.not_true, Bool.false_eq_true, if_false, if_neg hmz, run_zero' hi hz, newRow, run_newObj_alloc]
    rfl
  have hzl := zeros_LR β hcz (by omega) (m * i.size)
  have hCsz : C.size = nc * i.size := by
    simp only [C, Builtin.zeroCells, Array.size_append, Array.size_map, Array.size_range, hzs]
    simp only [List.size_toArray, List.length_nil, Nat.zero_add]
    rw [← Nat.add_mul]; congr 1; omega
  have hst := sim_newW (w' := w.drew.alloc (.cells C e)) hR.drew wf hJ (cs := zeros z.cells.toList (m * i.size)) (C := C) (fun j v hv => by
      obtain ⟨v', hv', hr⟩ := hzl.get hv
      refine ⟨v', ?_, hr⟩
      have hj : j < m * i.size := by
        have : j < (zeros z.cells.toList (m * i.size)).length := (List.getElem?_eq_some_iff.1 hv).1
        simpa [zeros] using this
      simp only [Array.getElem?_toList] at hv'
      simp only [C, Builtin.zeroCells, Array.empty_append, hzs]
      rw [Array.getElem?_append, if_pos (by simpa using hj)]
      rw [← hzs]
      rw [← hzs] at hv'
      exact hv') i.size rfl rfl rfl (by simp) (fun j hj => heap_push_old hj) (heap_push_new _ _) (fun j _ => by simp) (ty := e + 1) (fun t h => by simp at h; exact h)
  rw [Nat.zero_add] at hrun
  refine ⟨_, _, _, hst.of_drew, .slice (Nat.le_refl _) ⟨_, upd_same _ _ _, rfl, rfl, rfl, .inr rfl, hnc, ?_⟩, hrun⟩
  simp only; rw [hCsz]; omega

end Go.Ev
