/- Steps over the evaluator for values that are not known: what is asked of a code is unfolded by computation, and stops where a fact is wanted. No condition. -/
import Derived.Test.YtmhfkejbahacoaaGreatDoorKViewHoldsE17
noncomputable section
namespace Go.Ev
open Go.RowKit
set_option linter.unusedVariables false
variable [Lk]
set_option linter.unusedSectionVars false

/-- Temporaries that are known. -/
abbrev En := List (Nat × Value)
def lk (i : Nat) (L : En) : Option Value :=
  List.rec (motive := fun _ => Option Value) none (fun p _ ih => Prod.rec (motive := fun _ => Option Value) (fun j v => Bool.rec (motive := fun _ => Option Value) ih (some v) (Nat.beq i j)) p) L
theorem lk_cons (i d : Nat) (v : Value) (L : En) : lk i ((d, v) :: L) = if i = d then some v else lk i L := by
  show Bool.rec (motive := fun _ => Option Value) (lk i L) (some v) (Nat.beq i d) = _
  by_cases h : i = d
  · subst h; simp
  · rw [beq_no h, if_neg h]
def opl (L : En) : Operand → Option Value
  | .tmp i => lk i L
  | .const v => match closedV 6 v with
    | true => some v
    | false => none
  | .global g => match Lk.gl g with
    | some i => some (.pointer (some ⟨i, 0, none⟩))
    | none => none
  | .func f => some (.func (.func f) #[] #[])
def oplR (l : List Tmp) (L : En) : Operand → Option Value
  | .tmp i => match l.any (Nat.beq i) with
    | true => lk i L
    | false => none
  | x => opl L x
def Env (t : T Value) (L : En) : Prop := ∀ i v, lk i L = some v → t.get i = some v
def Le (ρ ρ' : Operand → Option Value) : Prop := ∀ x v, ρ x = some v → ρ' x = some v
theorem Env.nil (t : T Value) : Env t [] := fun i v h => by cases h
theorem Env.cons {t : T Value} {L : En} (h : Env t L) (d : Nat) (v : Value) : Env (t.set d v) ((d, v) :: L) := by
  intro i x hx
  rw [lk_cons] at hx
  rw [T.get_set]
  split at hx
  · rename_i e; rw [if_pos e]; exact hx
  · rename_i e; rw [if_neg e]; exact h i x hx
theorem Env.op {t : T Value} {L : En} (h : Env t L) : Le (opl L) (opv t) := by
  intro x v hx
  cases x with
  | tmp i => simp only [opv]; rw [h i v hx]
  | const c => exact hx
  | global g => exact hx
  | func f => exact hx
theorem Env.opR {t : T Value} {L : En} (h : Env t L) (l : List Tmp) : Le (oplR l L) (opvR l t) := by
  intro x v hx
  cases x with
  | tmp i =>
    simp only [oplR] at hx
    simp only [opvR]
    split at hx
    · rename_i e; rw [e]; exact h i v hx
    · cases hx
  | const c => exact hx
  | global g => exact hx
  | func f => exact hx

/-! ### what is asked -/
/-- Computes. -/
def Rq {α : Type} (x : Option α) (K : α → Prop) : Prop := Option.rec (motive := fun _ => Prop) False K x
theorem Rq.out {α : Type} {x : Option α} {K : α → Prop} (h : Rq x K) : ∃ v, x = some v ∧ K v := by
  cases x with
  | none => exact h.elim
  | some v => exact ⟨v, rfl, h⟩
/-- Stops: a fact is wanted. -/
structure Om {α : Type} (x : Option α) (K : α → Prop) : Prop where
  out : ∃ v, x = some v ∧ K v
theorem Om.of {α : Type} {x : Option α} {K : α → Prop} (v : α) (h : x = some v) (k : K v) : Om x K := ⟨v, h, k⟩
/-- Stops: two ways. -/
structure Br (b : Bool) (p q : Prop) : Prop where
  t : b = true → p
  f : b = false → q
theorem Br.yes {b : Bool} {p q : Prop} (h : b = true) (k : p) : Br b p q := ⟨fun _ => k, fun e => by rw [h] at e; cases e⟩
theorem Br.no {b : Bool} {p q : Prop} (h : b = false) (k : q) : Br b p q := ⟨fun e => (by rw [h] at e; cases e), fun _ => k⟩
theorem Br.split {b : Bool} {p q : Prop} (h : Br b p q) : (b = true ∧ p) ∨ (b = false ∧ q) := by
  cases b with
  | true => exact .inl ⟨rfl, h.t rfl⟩
  | false => exact .inr ⟨rfl, h.f rfl⟩
/-- Stops: a call. -/
structure Cw (P : Program) (g : Nat) (args : List Value) (s : St) (K : Value → St → Prop) : Prop where
  out : ∃ v s', K v s' ∧ ((∃ k0, ∀ k, k0 ≤ k → ev P k g args s = some (v, s')) ∨ (s' = s ∧ ∃ fn, P.funcs[g]? = some fn ∧ fn.body = none ∧ evExt fn.name args = some v) ∨ ∃ fn, P.funcs[g]? = some fn ∧ fn.body = none ∧ evExt fn.name args = none ∧ evMNZ P fn args s = some (v, s'))
theorem Cw.mono {P : Program} {g : Nat} {args : List Value} {s : St} {K K' : Value → St → Prop} (h : Cw P g args s K) (k : ∀ v s', K v s' → K' v s') : Cw P g args s K' := by
  obtain ⟨v, s', h1, h2⟩ := h.out
  exact ⟨v, s', k _ _ h1, h2⟩

def evAp (P : Program) (t u : TypeId) (x y : Value) (s : St) : Option (Value × St) :=
  match evAppend P t u x y s with
  | some r => some r
  | none => evAppendZ P t u x y s
def BinK (P : Program) (op : BinOp) (t : TypeId) (cst : Bool) (x y : Value) (K : Value → Prop) : Prop :=
  match x, y with
  | .int k a, .int k' b => match op with
    | .quo => Om (evBin P .quo t cst (.int k a) (.int k' b)) K
    | .rem => Om (evBin P .rem t cst (.int k a) (.int k' b)) K
    | .shl => Om (evBin P .shl t cst (.int k a) (.int k' b)) K
    | .shr => Om (evBin P .shr t cst (.int k a) (.int k' b)) K
    | op => Rq (evBin P op t cst (.int k a) (.int k' b)) K
  | x, y => Om (evBin P op t cst x y) K
theorem BinK.out {P : Program} {op : BinOp} {t : TypeId} {cst : Bool} {x y : Value} {K : Value → Prop} (h : BinK P op t cst x y K) : ∃ v, evBin P op t cst x y = some v ∧ K v := by
  unfold BinK at h
  split at h
  · split at h <;> first | exact h.out | exact Rq.out h
  · exact h.out

abbrev CW := Nat → List Value → St → (Value → St → Prop) → Prop

/-- A pair, taken apart by computation. -/
def K2 (K : Value → St → Prop) (r : Value × St) : Prop := Prod.rec (motive := fun _ => Prop) K r
/-- One operation. -/
def stp (P : Program) (C : CW) (ρ : Operand → Option Value) (o : Op) (s : St) (Kp : Value → Prop) (K : Value → St → Prop) : Prop :=
  match o with
  | .pick c a b => Rq (ρ c) fun v => match v with
    | .bool x => Br x (Rq (ρ a) Kp) (Rq (ρ b) Kp)
    | _ => False
  | .binOp op t x y _ => Rq (ρ x) fun a => Rq (ρ y) fun b => BinK P op t (isConst x || isConst y) a b Kp
  | .indexAddr t x ix => Rq (ρ x) fun a => Rq (ρ ix) fun b => Om (evIndexAddr P t a b) Kp
  | .index t x ix => Rq (ρ x) fun a => Rq (ρ ix) fun b => Om (evIndex P t a b) Kp
  | .slice t x lo hi mx => Rq (ρ x) fun a => Rq (opo ρ lo) fun b => Rq (opo ρ hi) fun c => Rq (opo ρ mx) fun d => match P.underlying t, d with
    | some .string, none => Om (evSliceStr P t a b c) Kp
    | _, _ => Om (evSliceMem P t a b c d s) fun v => K v s
  | .load t x => Rq (ρ x) fun a => Om (evLoad P t a s) fun v => K v s
  | .store t x y => Rq (ρ x) fun a => Rq (ρ y) fun v => Om (evStore P t a v s) fun s' => K undef s'
  | .alloc t => Om (evAlloc P t s) (K2 K)
  | .box t x => Rq (ρ x) fun v => Om (evVar P t v s) (K2 K)
  | .buildSlice t len parts => Rq (opps ρ parts.toList) fun ps => Om (evBuildSlice P t len ps s) (K2 K)
  | .convert src dst x => Rq (ρ x) fun a => match P.underlying src, P.underlying dst with
    | some (.slice _), some .string => Om (evConvMem P src dst a s) (K2 K)
    | _, _ => match evConv P src dst a with
      | some v => Kp v
      | none => Om (evConvMem P src dst a s) (K2 K)
  | .makeSlice t l c => Rq (ρ l) fun a => Rq (ρ c) fun b => Om (evMakeSlice P t a b s) (K2 K)
  | .lookup t x ix ok => Rq (ρ x) fun a => Rq (ρ ix) fun b => Om (evLookup P t a b ok s) fun v => K v s
  | .mapUpdate t m k x => Rq (ρ m) fun a => Rq (ρ k) fun b => Rq (ρ x) fun c => Om (evUpdate P t a b c s) fun s' => K undef s'
  | .makeMap t r => Rq (opo ρ r) fun n => Om (evMakeMap P t n s) (K2 K)
  | .call { callee := .builtin .append, args, argTypes } => Rq (opvs ρ args.toList) fun l => match l, argTypes[0]?, argTypes[1]? with
    | x :: y :: _, some t, some u => Om (evAp P t u x y s) (K2 K)
    | _, _, _ => False
  | .call { callee := .builtin .copy, args, argTypes } => Rq (opvs ρ args.toList) fun l => match l, argTypes[0]? with
    | x :: y :: _, some t => Om (evCopy P t x y s) (K2 K)
    | _, _ => False
  | .call { callee := .builtin .delete, args, argTypes } => Rq (opvs ρ args.toList) fun l => match l, argTypes[0]? with
    | x :: y :: _, some t => Om (evDelete P t x y s) fun s' => K undef s'
    | _, _ => False
  | .call { callee := .builtin .len, args, argTypes } => Rq (opvs ρ args.toList) fun l => match l, argTypes[0]? with
    | x :: _, some t => match evLen P t x with
      | some v => Kp v
      | none => Om (evLenMap P t x s) fun v => K v s
    | _, _ => False
  | .call { callee := .builtin .cap, args, argTypes } => Rq (opvs ρ args.toList) fun l => match l, argTypes[0]? with
    | x :: _, some t => Om (evCap P t x) fun v => K v s
    | _, _ => False
  | .range t x => Rq (ρ x) fun a => Om (evRange P t a s) (K2 K)
  | .next x i => Rq (ρ x) fun a => Om (evNext a i s) (K2 K)
  | .call { callee := .builtin .unsafeSliceData, args, .. } => Rq (opvs ρ args.toList) fun l => match l with
    | [x] => Om (evUSD x) fun v => K v s
    | _ => False
  | .call { callee := .builtin .unsafeString, args, argTypes } => Rq (opvs ρ args.toList) fun l => match l with
    | [x, n] => Om (evUStr P argTypes.toList x n s) (K2 K)
    | _ => False
  | .call { callee := .value f, args, .. } => Rq (ρ f) fun fv => Rq (opvs ρ args.toList) fun xs => match fv with
    | .func (.func g) us vs => C g (us.toList ++ xs ++ vs.toList) s K
    | _ => False
  | o => Rq (evPure P ρ o) Kp

theorem opvs_mono {ρ ρ' : Operand → Option Value} (h : Le ρ ρ') : ∀ {l : List Operand} {vs : List Value}, opvs ρ l = some vs → opvs ρ' l = some vs
  | [], vs, e => e
  | x :: xs, vs, e => by
    unfold opvs at e ⊢
    split at e
    · rename_i v vs' h1 h2
      rw [h _ _ h1, opvs_mono h h2]; exact e
    · cases e
theorem opps_mono {ρ ρ' : Operand → Option Value} (h : Le ρ ρ') : ∀ {l : List (Nat × Operand)} {vs : List (Nat × Value)}, opps ρ l = some vs → opps ρ' l = some vs
  | [], vs, e => e
  | (i, x) :: xs, vs, e => by
    unfold opps at e ⊢
    split at e
    · rename_i v vs' h1 h2
      rw [h _ _ h1, opps_mono h h2]; exact e
    · cases e
theorem opo_mono {ρ ρ' : Operand → Option Value} (h : Le ρ ρ') : ∀ {x : Option Operand} {v : Option Value}, opo ρ x = some v → opo ρ' x = some v
  | none, v, e => e
  | some x, v, e => by
    unfold opo at e ⊢
    simp only at e ⊢
    split at e
    · rename_i v0 h1
      rw [h _ _ h1]; exact e
    · cases e
theorem pure_mono {P : Program} {ρ ρ' : Operand → Option Value} (h : Le ρ ρ') {o : Op} {v : Value} (e : evPure P ρ o = some v) : evPure P ρ' o = some v := by
  unfold evPure at e
  split at e
  · exact h _ _ e
  · exact h _ _ e
  · split at e <;> first | contradiction | skip
    · rename_i hc; simp only [evPure, h _ _ hc]; exact h _ _ e
    · rename_i hc; simp only [evPure, h _ _ hc]; exact h _ _ e
  · split at e <;> first | contradiction | skip
    rename_i hc; simp only [evPure, opps_mono h hc]; exact e
  · split at e <;> first | contradiction | skip
    · rename_i hc; simp only [evPure, h _ _ hc]; exact e
    · rename_i hc; simp only [evPure, h _ _ hc]; exact e
  · split at e <;> first | contradiction | skip
    rename_i h1 h2; simp only [evPure, h _ _ h1, h _ _ h2]; exact e
  · split at e <;> first | contradiction | skip
    rename_i h1; simp only [evPure, h _ _ h1]; exact e
  · split at e <;> first | contradiction | skip
    rename_i h1; simp only [evPure, h _ _ h1]; exact e
  · split at e <;> first | contradiction | skip
    rename_i h0
    split at e <;> first | contradiction | skip
    rename_i h1
    simp only [evPure, h _ _ h1]
    split
    · simp_all
      rename_i hne _
      exact hne _ h0.symm
    · exact e
    · simp_all
  · split at e <;> first | contradiction | skip
    rename_i h1 h2; simp only [evPure, opvs_mono h h1, opvs_mono h h2]; exact e
  · split at e <;> first | contradiction | skip
    rename_i h1; simp only [evPure, h _ _ h1]; exact e
  · split at e <;> first | contradiction | skip
    rename_i h1; simp only [evPure, h _ _ h1]; exact e
  · split at e <;> first | contradiction | skip
    rename_i h1 h2; simp only [evPure, h _ _ h1, h _ _ h2]; exact e
  · split at e <;> first | contradiction | skip
    rename_i h1 h2; simp only [evPure, h _ _ h1, h _ _ h2]; exact e
  · split at e <;> first | contradiction | skip
    rename_i h1 h2 h3; simp only [evPure, h _ _ h1, opo_mono h h2, opo_mono h h3]; exact e
  · split at e <;> first | contradiction | skip
    rename_i h1; simp only [evPure, h _ _ h1]; exact e
  · split at e <;> first | contradiction | skip
    rename_i h1 h2; simp only [evPure, opvs_mono h h1, h2]; exact e
  · split at e <;> first | contradiction | skip
    rename_i h1; simp only [evPure, opvs_mono h h1]; exact e
  · split at e <;> first | contradiction | skip
    rename_i h1; simp only [evPure, opvs_mono h h1]; exact e
  · cases e

/-- One operation: what is asked is so. -/
theorem stp_ok {P : Program} {ρ ρ' : Operand → Option Value} (hL : Le ρ ρ') {o : Op} {s : St} {K : Value → St → Prop} {Kp : Value → Prop} (h : stp P (Cw P) ρ o s Kp K) :
    (∃ v, Kp v ∧ evPure P ρ' o = some v) ∨ (∃ v s', K v s' ∧ evPure P ρ' o = none ∧ ∃ k0, ∀ k, k0 ≤ k → evOp P (ev P k) ρ' o s = some (v, s')) := by
  have pur : ∀ {v : Value}, evPure P ρ' o = some v → Kp v → (∃ v, Kp v ∧ evPure P ρ' o = some v) ∨ (∃ v s', K v s' ∧ evPure P ρ' o = none ∧ ∃ k0, ∀ k, k0 ≤ k → evOp P (ev P k) ρ' o s = some (v, s')) :=
    fun hv hk => .inl ⟨_, hk, hv⟩
  have mem : ∀ {v : Value} {s' : St}, evPure P ρ' o = none → evMem P ρ' o s = some (v, s') → K v s' → (∃ v, Kp v ∧ evPure P ρ' o = some v) ∨ (∃ v s', K v s' ∧ evPure P ρ' o = none ∧ ∃ k0, ∀ k, k0 ≤ k → evOp P (ev P k) ρ' o s = some (v, s')) := by
    intro v s' h0 hv hk
    exact .inr ⟨v, s', hk, h0, 0, fun k _ => by simp only [evOp, h0, hv]⟩
  unfold stp at h
  split at h
  · obtain ⟨c, hc, h⟩ := Rq.out h
    split at h <;> first | contradiction | skip
    rename_i x
    rcases h.split with ⟨rfl, h'⟩ | ⟨rfl, h'⟩
    · obtain ⟨a, ha, hk⟩ := Rq.out h'
      exact pur (by simp only [evPure, hL _ _ hc]; exact hL _ _ ha) hk
    · obtain ⟨a, ha, hk⟩ := Rq.out h'
      exact pur (by simp only [evPure, hL _ _ hc]; exact hL _ _ ha) hk
  · obtain ⟨a, ha, h⟩ := Rq.out h
    obtain ⟨b, hb, h⟩ := Rq.out h
    obtain ⟨v, hv, hk⟩ := h.out
    exact pur (by simp only [evPure, hL _ _ ha, hL _ _ hb]; exact hv) hk
  · obtain ⟨a, ha, h⟩ := Rq.out h
    obtain ⟨b, hb, h⟩ := Rq.out h
    obtain ⟨v, hv, hk⟩ := h.out
    exact pur (by simp only [evPure, hL _ _ ha, hL _ _ hb]; exact hv) hk
  · obtain ⟨a, ha, h⟩ := Rq.out h
    obtain ⟨b, hb, h⟩ := Rq.out h
    obtain ⟨v, hv, hk⟩ := h.out
    exact pur (by simp only [evPure, hL _ _ ha, hL _ _ hb]; exact hv) hk
  · rename_i t x lo hi mx
    obtain ⟨a, ha, h1⟩ := Rq.out h
    obtain ⟨b, hb, h2⟩ := Rq.out h1
    obtain ⟨c, hc, h3⟩ := Rq.out h2
    obtain ⟨d, hd, h4⟩ := Rq.out h3
    clear h h1 h2 h3
    split at h4
    · rename_i hu
      have hmx : mx = none := by
        cases mx with
        | none => rfl
        | some m =>
          unfold opo at hd; simp only at hd
          split at hd <;> cases hd
      subst hmx
      obtain ⟨v, hv, hk⟩ := h4.out
      exact pur (by simp only [evPure, hL _ _ ha, opo_mono hL hb, opo_mono hL hc]; exact hv) hk
    · rename_i hu
      obtain ⟨v, hv, hk⟩ := h4.out
      refine mem ?_ (by simp only [evMem, hL _ _ ha, opo_mono hL hb, opo_mono hL hc, opo_mono hL hd, hv]) hk
      cases mx with
      | some m => simp only [evPure]
      | none =>
        simp only [evPure, hL _ _ ha, opo_mono hL hb, opo_mono hL hc]
        unfold evSliceStr
        split
        · rename_i h1
          unfold evSliceMem at hv
          rw [h1] at hv
          split at hv <;> first | contradiction | (rename_i g1 _; cases g1) | (rename_i g1; cases g1)
        · rfl
  · obtain ⟨a, ha, h⟩ := Rq.out h
    obtain ⟨v, hv, hk⟩ := h.out
    exact mem (by simp only [evPure]) (by simp only [evMem, hL _ _ ha, hv]) hk
  · obtain ⟨a, ha, h⟩ := Rq.out h
    obtain ⟨b, hb, h⟩ := Rq.out h
    obtain ⟨v, hv, hk⟩ := h.out
    exact mem (by simp only [evPure]) (by simp only [evMem, hL _ _ ha, hL _ _ hb, hv]) hk
  · obtain ⟨v, hv, hk⟩ := h.out
    exact mem (by simp only [evPure]) (by simp only [evMem, hv]) hk
  · obtain ⟨a, ha, h⟩ := Rq.out h
    obtain ⟨v, hv, hk⟩ := h.out
    exact mem (by simp only [evPure]) (by simp only [evMem, hL _ _ ha, hv]) hk
  · obtain ⟨a, ha, h⟩ := Rq.out h
    obtain ⟨v, hv, hk⟩ := h.out
    exact mem (by simp only [evPure]) (by simp only [evMem, opps_mono hL ha, hv]) hk
  · rename_i src dst x
    obtain ⟨a, ha, h⟩ := Rq.out h
    split at h
    · rename_i h1 h2
      obtain ⟨v, hv, hk⟩ := h.out
      refine mem ?_ (by simp only [evMem, hL _ _ ha, hv]) hk
      simp only [evPure, hL _ _ ha]
      cases hc : evConv P src dst a with
      | none => rfl
      | some x =>
        unfold evConv at hc
        rw [h1, h2] at hc
        simp only at hc
        split at hc <;> first | contradiction | skip
        unfold evConvMem at hv
        rw [h1, h2] at hv
        simp only at hv
        split at hv <;> first | contradiction | (rename_i g; cases g)
    · split at h
      · rename_i v hv
        exact pur (by simp only [evPure, hL _ _ ha, hv]) h
      · rename_i hn
        obtain ⟨v, hv, hk⟩ := h.out
        exact mem (by simp only [evPure, hL _ _ ha, hn]) (by simp only [evMem, hL _ _ ha, hv]) hk
  · obtain ⟨a, ha, h⟩ := Rq.out h
    obtain ⟨b, hb, h⟩ := Rq.out h
    obtain ⟨v, hv, hk⟩ := h.out
    exact mem (by simp only [evPure]) (by simp only [evMem, hL _ _ ha, hL _ _ hb, hv]) hk
  · obtain ⟨a, ha, h⟩ := Rq.out h
    obtain ⟨b, hb, h⟩ := Rq.out h
    obtain ⟨v, hv, hk⟩ := h.out
    exact mem (by simp only [evPure]) (by simp only [evMem, hL _ _ ha, hL _ _ hb, hv]) hk
  · obtain ⟨a, ha, h⟩ := Rq.out h
    obtain ⟨b, hb, h⟩ := Rq.out h
    obtain ⟨c, hc, h⟩ := Rq.out h
    obtain ⟨v, hv, hk⟩ := h.out
    exact mem (by simp only [evPure]) (by simp only [evMem, hL _ _ ha, hL _ _ hb, hL _ _ hc, hv]) hk
  · obtain ⟨a, ha, h⟩ := Rq.out h
    obtain ⟨v, hv, hk⟩ := h.out
    exact mem (by simp only [evPure]) (by simp only [evMem, opo_mono hL ha, hv]) hk
  · obtain ⟨l, hl, h⟩ := Rq.out h
    split at h <;> first | contradiction | skip
    rename_i x y r t u ht hu
    obtain ⟨v, hv, hk⟩ := h.out
    unfold evAp at hv
    exact mem (by simp only [evPure]) (by simp only [evMem, opvs_mono hL hl, ht, hu]; exact hv) hk
  · obtain ⟨l, hl, h⟩ := Rq.out h
    split at h <;> first | contradiction | skip
    rename_i x y r t ht
    obtain ⟨v, hv, hk⟩ := h.out
    exact mem (by simp only [evPure]) (by simp only [evMem, opvs_mono hL hl, ht, hv]) hk
  · obtain ⟨l, hl, h⟩ := Rq.out h
    split at h <;> first | contradiction | skip
    rename_i x y r t ht
    obtain ⟨v, hv, hk⟩ := h.out
    exact mem (by simp only [evPure]) (by simp only [evMem, opvs_mono hL hl, ht, hv]) hk
  · obtain ⟨l, hl, h⟩ := Rq.out h
    split at h <;> first | contradiction | skip
    rename_i x r t ht
    split at h
    · rename_i v hv
      exact pur (by simp only [evPure, opvs_mono hL hl, ht, hv]) h
    · rename_i hn
      obtain ⟨v, hv, hk⟩ := h.out
      exact mem (by simp only [evPure, opvs_mono hL hl, ht, hn]) (by simp only [evMem, opvs_mono hL hl, ht, hv]) hk
  · obtain ⟨l, hl, h⟩ := Rq.out h
    split at h <;> first | contradiction | skip
    rename_i x r t ht
    obtain ⟨v, hv, hk⟩ := h.out
    exact mem (by simp only [evPure]) (by simp only [evMem, opvs_mono hL hl, ht, hv]) hk
  · obtain ⟨a, ha, h⟩ := Rq.out h
    obtain ⟨v, hv, hk⟩ := h.out
    exact mem (by simp only [evPure]) (by simp only [evMem, hL _ _ ha, hv]) hk
  · obtain ⟨a, ha, h⟩ := Rq.out h
    obtain ⟨v, hv, hk⟩ := h.out
    exact mem (by simp only [evPure]) (by simp only [evMem, hL _ _ ha, hv]) hk
  · obtain ⟨l, hl, h⟩ := Rq.out h
    split at h <;> first | contradiction | skip
    obtain ⟨v, hv, hk⟩ := h.out
    exact mem (by simp only [evPure]) (by simp only [evMem, opvs_mono hL hl, hv]) hk
  · obtain ⟨l, hl, h⟩ := Rq.out h
    split at h <;> first | contradiction | skip
    obtain ⟨v, hv, hk⟩ := h.out
    exact mem (by simp only [evPure]) (by simp only [evMem, opvs_mono hL hl, hv]) hk
  · obtain ⟨fv, hf, h⟩ := Rq.out h
    obtain ⟨xs, hx, h⟩ := Rq.out h
    split at h <;> first | contradiction | skip
    rename_i g us vs
    obtain ⟨v, s', hk, h⟩ := h.out
    rcases h with ⟨k0, h⟩ | ⟨rfl, fn, h1, h2, h3⟩ | ⟨fn, h1, h2, h3, h4⟩
    · refine .inr ⟨v, s', hk, by simp only [evPure], k0 + 1, fun k hkk => ?_⟩
      have hx1 : evX P ρ' (.call { callee := .value ‹_›, args := ‹_›, argTypes := ‹_› }) = none := by
        simp only [evX, hL _ _ hf, opvs_mono hL hx]
        have := h (k0 + 1) (by omega)
        simp only [ev] at this
        split at this <;> first | contradiction | skip
        rename_i fn hfn
        split at this <;> first | contradiction | skip
        rename_i c hc
        rw [hfn]; simp only [hc]
      have hx2 : evXM P ρ' (.call { callee := .value ‹_›, args := ‹_›, argTypes := ‹_› }) s = none := by
        simp only [evXM, hL _ _ hf, opvs_mono hL hx]
        have := h (k0 + 1) (by omega)
        simp only [ev] at this
        split at this <;> first | contradiction | skip
        rename_i fn hfn
        split at this <;> first | contradiction | skip
        rename_i c hc
        rw [hfn]; simp only [hc]
      simp only [evOp, evPure, evMem, hx1, hx2, evCall, hL _ _ hf, opvs_mono hL hx]
      exact h k (by omega)
    · refine .inr ⟨v, s', hk, by simp only [evPure], 0, fun k _ => ?_⟩
      simp only [evOp, evPure, evMem, evX, hL _ _ hf, opvs_mono hL hx, h1, h2, h3]
    · refine .inr ⟨v, s', hk, by simp only [evPure], 0, fun k _ => ?_⟩
      simp only [evOp, evPure, evMem, evX, evXM, hL _ _ hf, opvs_mono hL hx, h1, h2, h3, h4]
  · obtain ⟨v, hv, hk⟩ := Rq.out h
    exact pur (pure_mono hL hv) hk

end Go.Ev
