/- A proved evaluator, part 15: regions that draw their order: evaluated in the order of the text, right in every order that may be drawn. No condition. -/
import Derived.Test.YtmhfkejbahacoaaGreatDoorKViewHoldsE14b
noncomputable section
namespace Go.Ev
open Go.RowKit
set_option linter.unusedVariables false
variable [Lk]
set_option linter.unusedSectionVars false

/-- What must come before an operation, as bits: 'acc' are the masks of those ahead. -/
def maskOf (acc : List Nat) (o : Oper) : Nat :=
  o.after.toList.foldl (fun m e => match Region.binds .any e with
    | true => m ||| 2 ^ e.on ||| acc.getD e.on 0
    | false => m) 0
def masks : List Oper → List Nat → List Nat
  | [], acc => acc
  | o :: r, acc => masks r (acc ++ [maskOf acc o])

/-- Edges lead to those ahead; those that name one temporary are ordered; there is no select. -/
def drawOkL (ops : Array Oper) (A : List Nat) : List Oper → Nat → List Oper → Bool
  | [], _, _ => true
  | o :: r, j, prev => o.after.toList.all (fun e => !(Region.binds .any e) || Nat.blt e.on j) &&
    prev.zipIdx.all (fun p => Oper.apart ops p.1 o || (A.getD j 0).testBit p.2) &&
    drawOkL ops A r (j + 1) (prev ++ [o])
def drawOk (ops : Array Oper) : Bool := drawOkL ops (masks ops.toList []) ops.toList 0 []

def opvR (l : List Tmp) (t : T Value) : Operand → Option Value
  | .tmp i => match l.any (Nat.beq i) with
    | true => t.get i
    | false => none
  | x => opv t x

def reset (s : St) : St := { heap := s.heap, fams := s.fams, tys := s.tys, next := s.next, low := s.next }
def relow (s s1 : St) : St := { heap := s1.heap, fams := s1.fams, tys := s1.tys, next := s1.next, low := if s1.low < s.low then s1.low else s.low }

/-- A plain load, and where it looks. -/
def loadAt (ρ : Operand → Option Value) : Op → Option (TypeId × Addr)
  | .load t x => match ρ x with
    | some (.pointer (some a)) => some (t, a)
    | _ => none
  | _ => none
def storeAt (ρ : Operand → Option Value) : Op → Option Nat
  | .store _ x _ => match ρ x with
    | some (.pointer (some a)) => some a.block
    | _ => none
  | _ => none
def famOf (s : St) (b : Nat) : Option Nat :=
  match s.heap.get b with
  | some (.cells _ k _ _ _) => some k
  | _ => none
/-- A piece of a slice. -/
def pieceAt (P : Program) (ρ : Operand → Option Value) (o : Op) : Option (TypeId × Value × Option Value × Option Value × Option Value) :=
  match o with
  | .slice t x lo hi mx => match P.underlying t, ρ x, opo ρ lo, opo ρ hi, opo ρ mx with
    | some (.slice _), some v, some l, some h, some m => some (t, v, l, h, m)
    | _, _, _, _, _ => none
  | _ => none
/-- The block that a slice lies in. -/
def blkOf : Value → Option Nat
  | .slice (some a) _ _ => some a.block
  | _ => none
/-- What is looked at of a block is the same: its cells ('true'), or how many cells an element has. -/
def Same (l : Bool) (b : Option Nat) (s s' : St) : Prop :=
  match b with
  | none => True
  | some b => match l with
    | true => s'.rd b = s.rd b
    | false => blkEsz s' b = blkEsz s b
def optB : Option Nat → Option Nat → Bool
  | some x, some y => Nat.beq x y
  | _, _ => false
theorem optB_eq {x y : Option Nat} (h : optB x y = true) : x = y := by
  cases x with
  | none => cases h
  | some x => cases y with
    | none => cases h
    | some y => rw [Nat.eq_of_beq_eq_true h]
/-- Computed where it can be; else by a proof. -/
def sameB (l : Bool) (b : Option Nat) (s s' : St) : Bool :=
  match b with
  | none => true
  | some b => match l with
    | true => @decide (s'.rd b = s.rd b) (Classical.propDecidable _)
    | false => match optB (blkEsz s' b) (blkEsz s b) with
      | true => true
      | false => @decide (blkEsz s' b = blkEsz s b) (Classical.propDecidable _)
theorem sameB_iff {l : Bool} {b : Option Nat} {s s' : St} : sameB l b s s' = true ↔ Same l b s s' := by
  unfold sameB Same
  cases b with
  | none => simp
  | some b =>
    cases l with
    | true => simp
    | false =>
      simp only
      split
      · rename_i h; exact ⟨fun _ => optB_eq h, fun _ => rfl⟩
      · simp
def famApart (l : Bool) (s : St) (sb : Option Nat) (b : Option Nat) : Bool :=
  match l, sb, b with
  | true, some bw, some b => match famOf s b, famOf s bw with
    | some k, some k' => match Nat.beq k k' with
      | true => false
      | false => true
    | _, _ => false
  | _, _, _ => false
/-- A look may come up on either side of each writer ahead of it in the text, or must come behind it. -/
def earlyOk (m : Nat) (l : Bool) (b : Option Nat) : List (Nat × St × St) → Bool
  | [] => true
  | e :: W => match m.testBit e.1 with
    | true => earlyOk m l b W
    | false => match sameB l b e.2.1 e.2.2 with
      | true => earlyOk m l b W
      | false => false
/-- A writer may come up on either side of each look ahead of it in the text, or must come behind it. -/
def floatOk (m : Nat) (s s2 : St) (sb : Option Nat) : List (Nat × Option Nat × Bool) → Bool
  | [] => true
  | e :: F => match m.testBit e.1 with
    | true => floatOk m s s2 sb F
    | false => match famApart e.2.2 s sb e.2.1 with
      | true => floatOk m s s2 sb F
      | false => match sameB e.2.2 e.2.1 s s2 with
        | true => floatOk m s s2 sb F
        | false => false

def evDr (P : Program) (call : Call) (n : Nat) (ops : Array Oper) (A : List Nat) : List Oper → Nat → Nat → Nat → List (Nat × Option Nat × Bool) → List (Nat × St × St) → T Value → St → Option (T Value × St)
  | [], _, _, _, _, _, t, s => some (t, s)
  | o :: rest, i, mN, mW, F, W, t, s => match wantT ops t o with
    | false => match putT n t o.dst undef with
      | some t' => evDr P call n ops A rest (i + 1) mN mW F W t' s
      | none => none
    | true => match evPure P (opvR (o.looksAt ops) t) o.op with
      | some v => match putT n t o.dst v with
        | some t' => evDr P call n ops A rest (i + 1) mN mW F W t' s
        | none => none
      | none => match loadAt (opvR (o.looksAt ops) t) o.op with
        | some (ty, a) => match evLoad P ty (.pointer (some a)) s with
          | some v => match putT n t o.dst v with
            | some t' => match earlyOk (A.getD i 0) true (some a.block) W with
              | true => evDr P call n ops A rest (i + 1) mN mW ((i, some a.block, true) :: F) W t' s
              | false => none
            | none => none
          | none => none
        | none => match pieceAt P (opvR (o.looksAt ops) t) o.op with
          | some (ty, x, lo, hi, mx) => match evSliceMem P ty x lo hi mx s with
            | some v => match putT n t o.dst v with
              | some t' => match earlyOk (A.getD i 0) false (blkOf x) W with
                | true => evDr P call n ops A rest (i + 1) mN mW ((i, blkOf x, false) :: F) W t' s
                | false => none
              | none => none
            | none => none
          | none => match evOp P call (opvR (o.looksAt ops) t) o.op (reset s) with
            | some (v, s1) => match putT n t o.dst v with
              | some t' => match Nat.ble s.next s1.low with
                | true => match isFree o.op with
                  | true => evDr P call n ops A rest (i + 1) mN mW F W t' (relow s s1)
                  | false => match Nat.beq (mW &&& A.getD i 0) mW with
                    | true => evDr P call n ops A rest (i + 1) (mN ||| 2 ^ i) mW F W t' (relow s s1)
                    | false => none
                | false => match Nat.beq (mN &&& A.getD i 0) mN with
                  | true => match floatOk (A.getD i 0) s (relow s s1) (storeAt (opvR (o.looksAt ops) t) o.op) F with
                    | true => evDr P call n ops A rest (i + 1) (mN ||| 2 ^ i) (mW ||| 2 ^ i) F ((i, s, relow s s1) :: W) t' (relow s s1)
                    | false => none
                  | false => none
              | none => none
            | none => none

def evDraw (P : Program) (call : Call) (n : Nat) (ops : Array Oper) (t : T Value) (s : St) : Option (T Value × St) :=
  match drawOk ops with
  | true => evDr P call n ops (masks ops.toList []) ops.toList 0 0 0 [] [] t s
  | false => none

theorem loadAt_some {ρ : Operand → Option Value} {o : Op} {t : TypeId} {a : Addr} (h : loadAt ρ o = some (t, a)) : ∃ x, o = .load t x ∧ ρ x = some (.pointer (some a)) := by
  unfold loadAt at h
  split at h <;> first | contradiction | skip
  split at h <;> first | contradiction | skip
  rename_i h'
  injection h with h; injection h with h1 h2; subst h1 h2
  exact ⟨_, rfl, h'⟩
theorem storeAt_some {ρ : Operand → Option Value} {o : Op} {b : Nat} (h : storeAt ρ o = some b) : ∃ t x y a, o = .store t x y ∧ ρ x = some (.pointer (some a)) ∧ a.block = b := by
  unfold storeAt at h
  split at h <;> first | contradiction | skip
  split at h <;> first | contradiction | skip
  rename_i h'
  injection h with h
  exact ⟨_, _, _, _, rfl, h', h⟩
theorem rd_store {P : Program} {call : Call} {ρ : Operand → Option Value} {o : Op} {s s1 : St} {v : Value} {b bw : Nat} (ho : evOp P call ρ o (reset s) = some (v, s1)) (hs : storeAt ρ o = some bw)
    {k k' : Nat} (hk : famOf s b = some k) (hk' : famOf s bw = some k') (hne : k ≠ k') : (relow s s1).rd b = s.rd b := by
  obtain ⟨t, x, y, a, rfl, hx, rfl⟩ := storeAt_some hs
  have hp : evPure P ρ (.store t x y) = none := rfl
  unfold evOp at ho
  rw [hp] at ho
  simp only [evMem, hx] at ho
  cases hy : ρ y with
  | none => simp [hy, evCall, evX, evXM] at ho
  | some u =>
    simp only [hy] at ho
    cases hst : evStore P t (.pointer (some a)) u (reset s) with
    | none => simp [hst, evCall, evX, evXM] at ho
    | some s2 =>
      simp only [hst] at ho
      injection ho with ho; injection ho with _ ho; subst ho
      unfold evStore at hst
      split at hst <;> first | contradiction | skip
      rename_i a' i h1 h2
      injection h1 with h1; injection h1 with h1; subst h1
      split at hst <;> first | contradiction | skip
      obtain ⟨cs, kw, base, esz, fl, g1, g2, g3, _, g4⟩ := write_some hst
      have g1' : s.heap.get a.block = some (.cells cs kw base esz true) := g1
      have e1 : kw = k' := by simpa [famOf, g1'] using hk'
      subst e1
      have hbb : b ≠ a.block := by
        rintro rfl
        rw [hk'] at hk; injection hk with hk; exact hne hk.symm
      have hheap : (relow s s2).heap.get b = s.heap.get b := by rw [show (relow s s2).heap = s2.heap from rfl, g4]; exact T.get_set_ne _ hbb _
      have hfams : ∀ kk, kk ≠ kw → (relow s s2).fams.get kk = s.fams.get kk := fun kk h => by rw [show (relow s s2).fams = s2.fams from rfl, g4]; exact T.get_set_ne _ h _
      unfold St.rd
      rw [hheap]
      unfold famOf at hk
      cases hg : s.heap.get b with
      | none => rfl
      | some cb =>
        cases cb with
        | map es => rfl
        | iter t p => rfl
        | cells cs1 k1 b1 e1 own =>
          rw [hg] at hk
          injection hk with hk; subst hk
          cases own with
          | false => rfl
          | true => simp only [hfams k1 hne]
theorem floatOk_spec {P : Program} {call : Call} {ρ : Operand → Option Value} {o : Op} {s s1 : St} {v : Value} (ho : evOp P call ρ o (reset s) = some (v, s1)) {m : Nat} : ∀ {F : List (Nat × Option Nat × Bool)}, floatOk m s (relow s s1) (storeAt ρ o) F = true → ∀ e ∈ F, m.testBit e.1 = true ∨ Same e.2.2 e.2.1 s (relow s s1)
  | [], _, e, he => by cases he
  | e0 :: F, h, e, he => by
    unfold floatOk at h
    split at h
    · rename_i hb
      cases he with
      | head => exact .inl hb
      | tail _ he => exact floatOk_spec ho h e he
    · split at h
      · rename_i hf
        cases he with
        | tail _ he => exact floatOk_spec ho h e he
        | head =>
          right
          unfold famApart at hf
          split at hf <;> first | contradiction | skip
          rename_i bw b0 hl hs hb0
          split at hf <;> first | contradiction | skip
          rename_i k k' h1 h2
          split at hf <;> first | contradiction | skip
          rename_i hb
          rw [hl, hb0]
          exact rd_store ho hs h1 h2 (fun e => by subst e; simp at hb)
      · split at h <;> first | contradiction | skip
        rename_i hs
        cases he with
        | head => exact .inr (sameB_iff.1 hs)
        | tail _ he => exact floatOk_spec ho h e he
theorem earlyOk_spec {m : Nat} {l : Bool} {b : Option Nat} : ∀ {W : List (Nat × St × St)}, earlyOk m l b W = true → ∀ e ∈ W, m.testBit e.1 = true ∨ Same l b e.2.1 e.2.2
  | [], _, e, he => by cases he
  | e0 :: W, h, e, he => by
    unfold earlyOk at h
    split at h
    · rename_i hb
      cases he with
      | head => exact .inl hb
      | tail _ he => exact earlyOk_spec h e he
    · split at h <;> first | contradiction | skip
      rename_i hs
      cases he with
      | head => exact .inr (sameB_iff.1 hs)
      | tail _ he => exact earlyOk_spec h e he
theorem pieceAt_some {P : Program} {ρ : Operand → Option Value} {o : Op} {t : TypeId} {v : Value} {vl vh vm : Option Value} (h : pieceAt P ρ o = some (t, v, vl, vh, vm)) :
    ∃ x lo hi mx e, o = .slice t x lo hi mx ∧ P.underlying t = some (.slice e) ∧ ρ x = some v ∧ opo ρ lo = some vl ∧ opo ρ hi = some vh ∧ opo ρ mx = some vm := by
  unfold pieceAt at h
  split at h <;> first | contradiction | skip
  split at h <;> first | contradiction | skip
  rename_i h1 h2 h3 h4 h5
  simp only [Option.some.injEq, Prod.mk.injEq] at h
  obtain ⟨rfl, rfl, rfl, rfl, rfl⟩ := h
  exact ⟨_, _, _, _, _, rfl, h1, h2, h3, h4, h5⟩
/-- What depends on no more than one block's look. -/
def Look (P : Program) (ρ : Operand → Option Value) (o : Op) (l : Bool) (b : Option Nat) (f : St → Option Value) : Prop :=
  (∃ ty x a, o = .load ty x ∧ ρ x = some (.pointer (some a)) ∧ l = true ∧ b = some a.block ∧ f = evLoad P ty (.pointer (some a))) ∨
  (∃ t x lo hi mx v e vl vh vm, o = .slice t x lo hi mx ∧ P.underlying t = some (.slice e) ∧ ρ x = some v ∧ opo ρ lo = some vl ∧ opo ρ hi = some vh ∧ opo ρ mx = some vm ∧ l = false ∧ b = blkOf v ∧ f = evSliceMem P t v vl vh vm)
theorem load_same {P : Program} {t : TypeId} {a : Addr} {s s' : St} (h : s'.rd a.block = s.rd a.block) : evLoad P t (.pointer (some a)) s' = evLoad P t (.pointer (some a)) s := by
  unfold evLoad; simp only [h]

theorem slice_same {P : Program} {t e : TypeId} (hu : P.underlying t = some (.slice e)) {v : Value} {vl vh vm : Option Value} {s s' : St} (h : Same false (blkOf v) s s') : evSliceMem P t v vl vh vm s' = evSliceMem P t v vl vh vm s := by
  unfold evSliceMem; rw [hu]
  cases v with
  | slice a n c =>
    cases a with
    | none => cases n <;> cases c <;> rfl
    | some a =>
      have h : blkEsz s' a.block = blkEsz s a.block := h
      simp only [h]
  | _ => rfl
/-- There is such a block. -/
theorem Look.blk {P : Program} {ρ : Operand → Option Value} {o : Op} {l : Bool} {b : Nat} {f : St → Option Value} (h : Look P ρ o l (some b) f) {s : St} {v : Value} (hv : f s = some v) : ∃ cb, s.heap.get b = some cb := by
  rcases h with ⟨ty, x, a, _, _, rfl, hb, rfl⟩ | ⟨t, x, lo, hi, mx, u, e, vl, vh, vm, _, hu, _, _, _, _, rfl, hb, rfl⟩
  · injection hb with hb; subst hb
    unfold evLoad at hv
    simp only at hv
    split at hv <;> first | contradiction | skip
    obtain ⟨k, base, esz, own, hg⟩ := rd_cells (by assumption : s.rd a.block = some _)
    exact ⟨_, hg⟩
  · unfold blkOf at hb
    split at hb <;> first | contradiction | skip
    injection hb with hb; subst hb
    unfold evSliceMem at hv
    rw [hu] at hv
    simp only at hv
    split at hv <;> first | contradiction | skip
    rename_i h2
    unfold blkEsz at h2
    split at h2 <;> first | contradiction | skip
    exact ⟨_, by assumption⟩

theorem reset_wf {s : St} (h : WF s) : WF (reset s) := ⟨h.lt, h.fam, Nat.le_refl _⟩
theorem relow_U {s s1 : St} (wf : WF s) (h : U (reset s) s1) : U s (relow s s1) := by
  refine ⟨⟨h.wf.lt, h.wf.fam, ?_⟩, h.next, ?_, fun b hb => ?_, fun b hb => ?_, h.tys⟩
  · simp only [relow]; have := h.wf.low; have := wf.low; have := h.next; simp only [reset] at this; split <;> omega
  · simp only [relow]; split <;> omega
  · exact h.heap b (by simp only [relow] at hb; split at hb <;> omega)
  · exact h.fams b (by simp only [relow] at hb; split at hb <;> omega)

theorem dr_U {P : Program} {call : Call} (hc : CallSim P call) {n : Nat} {ops : Array Oper} {A : List Nat} : ∀ {l : List Oper} {i mN mW : Nat} {F : List (Nat × Option Nat × Bool)} {W : List (Nat × St × St)} {t t' : T Value} {s s' : St}, WF s → evDr P call n ops A l i mN mW F W t s = some (t', s') → U s s'
  | [], _, _, _, _, _, t, t', s, s', wf, h => by simp only [evDr] at h; injection h with h; injection h with h1 h2; subst h2; exact U.refl wf
  | o :: rest, i, mN, mW, F, W, t, t', s, s', wf, h => by
    unfold evDr at h
    split at h
    · split at h <;> first | contradiction | exact dr_U hc wf h
    · split at h
      · split at h <;> first | contradiction | exact dr_U hc wf h
      · split at h
        · split at h <;> first | contradiction | skip
          split at h <;> first | contradiction | skip
          split at h <;> first | contradiction | exact dr_U hc wf h
        · split at h
          · split at h <;> first | contradiction | skip
            split at h <;> first | contradiction | skip
            split at h <;> first | contradiction | exact dr_U hc wf h
          · split at h <;> first | contradiction | skip
            rename_i v s1 ho
            have u := relow_U wf (op_U hc (reset_wf wf) ho)
            split at h <;> first | contradiction | skip
            split at h
            · split at h
              · exact u.trans (dr_U hc u.wf h)
              · split at h <;> first | contradiction | exact u.trans (dr_U hc u.wf h)
            · split at h <;> first | contradiction | skip
              split at h <;> first | contradiction | exact u.trans (dr_U hc u.wf h)
theorem draw_U {P : Program} {call : Call} (hc : CallSim P call) {n : Nat} {ops : Array Oper} {t t' : T Value} {s s' : St} (wf : WF s) (h : evDraw P call n ops t s = some (t', s')) : U s s' := by
  unfold evDraw at h
  split at h <;> first | contradiction | exact dr_U hc wf h

/-! ### the run in the order of the text, place by place -/
structure StepAt (P : Program) (call : Call) (n : Nat) (ops : Array Oper) (A : List Nat) (H : Nat → St) (tt : Nat → T Value) (kd : Nat → Nat) (lo : Nat → Option (Bool × Option Nat)) (i : Nat) (o : Oper) : Prop where
  put : ∃ v s1, putT n (tt i) o.dst v = some (tt (i + 1)) ∧
    ((kd i = 0 ∧ H (i + 1) = H i ∧ wantT ops (tt i) o = false ∧ v = undef) ∨
     (kd i = 0 ∧ H (i + 1) = H i ∧ wantT ops (tt i) o = true ∧ evPure P (opvR (o.looksAt ops) (tt i)) o.op = some v) ∨
     (0 < kd i ∧ H (i + 1) = relow (H i) s1 ∧ wantT ops (tt i) o = true ∧ evOp P call (opvR (o.looksAt ops) (tt i)) o.op (reset (H i)) = some (v, s1) ∧ (kd i ≠ 2 → (H i).next ≤ s1.low) ∧ (kd i = 3 → isFree o.op = true)) ∨
     (kd i = 0 ∧ H (i + 1) = H i ∧ wantT ops (tt i) o = true ∧ ∃ l b f, lo i = some (l, b) ∧ Look P (opvR (o.looksAt ops) (tt i)) o.op l b f ∧ f (H i) = some v))

structure Trace (P : Program) (call : Call) (n : Nat) (ops : Array Oper) (A : List Nat) (H : Nat → St) (tt : Nat → T Value) (kd : Nat → Nat) (lo : Nat → Option (Bool × Option Nat)) (i0 : Nat) : Prop where
  step : ∀ i o, i0 ≤ i → ops[i]? = some o → StepAt P call n ops A H tt kd lo i o
  ord2 : ∀ i j, i0 ≤ i → i < j → j < ops.size → kd i = 2 → 0 < kd j → kd j ≠ 3 → (A.getD j 0).testBit i = true
  ord1 : ∀ i j, i0 ≤ i → i < j → j < ops.size → 0 < kd i → kd i ≠ 3 → kd j = 2 → (A.getD j 0).testBit i = true
  early : ∀ i j l b, i0 ≤ i → i < j → j < ops.size → kd i = 2 → lo j = some (l, b) → (A.getD j 0).testBit i = true ∨ Same l b (H i) (H (i + 1))
  late : ∀ i j l b, i0 ≤ i → i < j → j < ops.size → kd j = 2 → lo i = some (l, b) → (A.getD j 0).testBit i = true ∨ Same l b (H j) (H (j + 1))
  kd : ∀ i, kd i ≤ 3

theorem sub_bits {m x : Nat} (h : Nat.beq (m &&& x) m = true) {b : Nat} (hb : m.testBit b = true) : x.testBit b = true := by
  have h := Nat.eq_of_beq_eq_true h
  have := congrArg (fun y => Nat.testBit y b) h
  simp only [Nat.testBit_and, hb, Bool.true_and] at this
  exact this
theorem bit_or {m i b : Nat} : (m ||| 2 ^ i).testBit b = (m.testBit b || decide (i = b)) := by
  rw [Nat.testBit_or, Nat.testBit_two_pow]

theorem trace_of {P : Program} {call : Call} {n : Nat} {ops : Array Oper} {A : List Nat} : ∀ {l : List Oper} {i mN mW : Nat} {F : List (Nat × Option Nat × Bool)} {W : List (Nat × St × St)} {t t' : T Value} {s s' : St}, (∀ j, l[j]? = ops[i + j]?) → i ≤ ops.size → evDr P call n ops A l i mN mW F W t s = some (t', s') →
    ∃ H tt kd lo, Trace P call n ops A H tt kd lo i ∧ H i = s ∧ tt i = t ∧ H ops.size = s' ∧ tt ops.size = t' ∧
      (∀ j b, i ≤ j → j < ops.size → kd j = 2 → mN.testBit b = true → (A.getD j 0).testBit b = true) ∧
      (∀ j b, i ≤ j → j < ops.size → kd j = 1 → mW.testBit b = true → (A.getD j 0).testBit b = true) ∧
      (∀ j l b, i ≤ j → j < ops.size → lo j = some (l, b) → ∀ e ∈ W, (A.getD j 0).testBit e.1 = true ∨ Same l b e.2.1 e.2.2) ∧
      (∀ e ∈ F, ∀ m, i ≤ m → m < ops.size → kd m = 2 → (A.getD m 0).testBit e.1 = true ∨ Same e.2.2 e.2.1 (H m) (H (m + 1)))
  | [], i, mN, mW, F, W, t, t', s, s', hl, hi, h => by
    simp only [evDr] at h; injection h with h; injection h with h1 h2; subst h1 h2
    have : i = ops.size := by
      have := hl 0
      simp at this
      omega
    subst this
    exact ⟨fun _ => s, fun _ => t, fun _ => 0, fun _ => none, ⟨fun j o hj ho => by have := (Array.getElem?_eq_some_iff.1 ho).1; omega, fun j k hj hk hk2 => by omega, fun j k hj hk hk2 => by omega, fun j k l b hj hk hk2 => by omega, fun j k l b hj hk hk2 => by omega, fun _ => Nat.zero_le _⟩, rfl, rfl, rfl, rfl,
      fun j b h1 h2 => by omega, fun j b h1 h2 => by omega, fun j l b h1 h2 => by omega, fun e _ m h1 h2 => by omega⟩
  | o :: rest, i, mN, mW, F, W, t, t', s, s', hl, hi, h => by
    have h0 : ops[i]? = some o := by simpa using (hl 0).symm
    have hlt : i < ops.size := (Array.getElem?_eq_some_iff.1 h0).1
    have hl' : ∀ j, rest[j]? = ops[i + 1 + j]? := fun j => by have := hl (j + 1); simpa [Nat.add_assoc, Nat.add_comm 1 j] using this
    -- one more place ahead
    have cons : ∀ {mN' mW' : Nat} {F' : List (Nat × Option Nat × Bool)} {W' : List (Nat × St × St)} {t1 : T Value} {s1 : St} (k0 : Nat) (l0 : Option (Bool × Option Nat)) (v : Value) (sx : St), k0 ≤ 3 → (∀ b, mN.testBit b = true → mN'.testBit b = true) → (∀ b, mW.testBit b = true → mW'.testBit b = true) → (∀ e ∈ F, e ∈ F') → (∀ e ∈ W, e ∈ W') →
        (0 < k0 → k0 ≠ 3 → mN'.testBit i = true) → (k0 = 2 → mW'.testBit i = true) → (k0 = 2 → (i, s, s1) ∈ W') →
        (k0 = 2 → ∀ b, mN.testBit b = true → (A.getD i 0).testBit b = true) → (k0 = 1 → ∀ b, mW.testBit b = true → (A.getD i 0).testBit b = true) → (∀ l b, l0 = some (l, b) → ∀ e ∈ W, (A.getD i 0).testBit e.1 = true ∨ Same l b e.2.1 e.2.2) →
        (k0 = 2 → ∀ e ∈ F, (A.getD i 0).testBit e.1 = true ∨ Same e.2.2 e.2.1 s s1) → (∀ l b, l0 = some (l, b) → (i, b, l) ∈ F') →
        putT n t o.dst v = some t1 →
        ((k0 = 0 ∧ s1 = s ∧ wantT ops t o = false ∧ v = undef) ∨ (k0 = 0 ∧ s1 = s ∧ wantT ops t o = true ∧ evPure P (opvR (o.looksAt ops) t) o.op = some v) ∨
          (0 < k0 ∧ s1 = relow s sx ∧ wantT ops t o = true ∧ evOp P call (opvR (o.looksAt ops) t) o.op (reset s) = some (v, sx) ∧ (k0 ≠ 2 → s.next ≤ sx.low) ∧ (k0 = 3 → isFree o.op = true)) ∨
          (k0 = 0 ∧ s1 = s ∧ wantT ops t o = true ∧ ∃ l b f, l0 = some (l, b) ∧ Look P (opvR (o.looksAt ops) t) o.op l b f ∧ f s = some v)) →
        evDr P call n ops A rest (i + 1) mN' mW' F' W' t1 s1 = some (t', s') →
        ∃ H tt kd lo, Trace P call n ops A H tt kd lo i ∧ H i = s ∧ tt i = t ∧ H ops.size = s' ∧ tt ops.size = t' ∧
          (∀ j b, i ≤ j → j < ops.size → kd j = 2 → mN.testBit b = true → (A.getD j 0).testBit b = true) ∧
          (∀ j b, i ≤ j → j < ops.size → kd j = 1 → mW.testBit b = true → (A.getD j 0).testBit b = true) ∧
          (∀ j l b, i ≤ j → j < ops.size → lo j = some (l, b) → ∀ e ∈ W, (A.getD j 0).testBit e.1 = true ∨ Same l b e.2.1 e.2.2) ∧
          (∀ e ∈ F, ∀ m, i ≤ m → m < ops.size → kd m = 2 → (A.getD m 0).testBit e.1 = true ∨ Same e.2.2 e.2.1 (H m) (H (m + 1))) := by
      intro mN' mW' F' W' t1 s1 k0 l0 v sx hk0 hN hW hF hWW hNi hWi hWs c2 c1 c3 c4 c5 hput hst hrest
      obtain ⟨H, tt, kd, lo, tr, e1, e2, e3, e4, f2, f3, f4, f5⟩ := trace_of hl' (by omega) hrest
      have hH : ∀ j, i + 1 ≤ j → (if j = i then s else H j) = H j := fun j hj => if_neg (by omega)
      have hT : ∀ j, i + 1 ≤ j → (if j = i then t else tt j) = tt j := fun j hj => if_neg (by omega)
      have hK : ∀ j, i + 1 ≤ j → (if j = i then k0 else kd j) = kd j := fun j hj => if_neg (by omega)
      have hL : ∀ j, i + 1 ≤ j → (if j = i then l0 else lo j) = lo j := fun j hj => if_neg (by omega)
      refine ⟨fun j => if j = i then s else H j, fun j => if j = i then t else tt j, fun j => if j = i then k0 else kd j, fun j => if j = i then l0 else lo j, ⟨?_, ?_, ?_, ?_, ?_, ?_⟩, by simp, by simp, (hH _ (by omega)).trans e3, (hT _ (by omega)).trans e4, ?_, ?_, ?_, ?_⟩
      · intro j oj hj hoj
        by_cases hji : j = i
        · subst hji
          rw [h0] at hoj; injection hoj with hoj; subst hoj
          refine ⟨v, sx, ?_, ?_⟩
          · simp only [if_true]; rw [hT _ (by omega), e2]; exact hput
          · simp only [if_true]; rw [hH _ (by omega), e1]
            exact hst
        · obtain ⟨v', sx', p1, p2⟩ := (tr.step j oj (by omega) hoj).put
          refine ⟨v', sx', ?_, ?_⟩
          · rw [hT j (by omega), hT (j + 1) (by omega)]; exact p1
          · rw [hT j (by omega), hH j (by omega), hH (j + 1) (by omega), hK j (by omega), hL j (by omega)]
            exact p2
      · intro a b ha hab hb ka kb kb3
        rw [hK b (by omega)] at kb kb3
        by_cases hai : a = i
        · subst hai
          simp only [if_true] at ka
          rcases Nat.lt_or_ge (kd b) 2 with g | g
          · exact f3 b a (by omega) hb (by omega) (hWi ka)
          · have := tr.kd b; exact f2 b a (by omega) hb (by omega) (hNi (by omega) (by omega))
        · rw [hK a (by omega)] at ka
          exact tr.ord2 a b (by omega) hab hb ka kb kb3
      · intro a b ha hab hb ka ka3 kb
        rw [hK b (by omega)] at kb
        by_cases hai : a = i
        · subst hai
          simp only [if_true] at ka ka3
          exact f2 b a (by omega) hb kb (hNi ka ka3)
        · rw [hK a (by omega)] at ka ka3
          exact tr.ord1 a b (by omega) hab hb ka ka3 kb
      · intro a b l bl ha hab hb ka kb
        rw [hL b (by omega)] at kb
        by_cases hai : a = i
        · subst hai
          simp only [if_true] at ka ⊢
          rw [hH _ (by omega), e1]
          exact f4 b l bl (by omega) hb kb _ (hWs ka)
        · rw [hK a (by omega)] at ka
          rw [hH a (by omega), hH (a + 1) (by omega)]
          exact tr.early a b l bl (by omega) hab hb ka kb
      · intro a b l bl ha hab hb ka kb
        rw [hK b (by omega)] at ka
        rw [hH b (by omega), hH (b + 1) (by omega)]
        by_cases hai : a = i
        · subst hai
          simp only [if_true] at kb
          exact f5 _ (c5 l bl kb) b (by omega) hb ka
        · rw [hL a (by omega)] at kb
          exact tr.late a b l bl (by omega) hab hb ka kb
      · intro j
        split
        · exact hk0
        · exact tr.kd j
      · intro j b hj hjs hk hb
        change (if j = i then k0 else kd j) = 2 at hk
        by_cases hji : j = i
        · subst hji; simp only [if_true] at hk; exact c2 hk b hb
        · rw [hK j (by omega)] at hk; exact f2 j b (by omega) hjs hk (hN b hb)
      · intro j b hj hjs hk hb
        change (if j = i then k0 else kd j) = 1 at hk
        by_cases hji : j = i
        · subst hji; simp only [if_true] at hk; exact c1 hk b hb
        · rw [hK j (by omega)] at hk; exact f3 j b (by omega) hjs hk (hW b hb)
      · intro j l b hj hjs hk e he
        change (if j = i then l0 else lo j) = _ at hk
        by_cases hji : j = i
        · subst hji; simp only [if_true] at hk; exact c3 l b hk e he
        · rw [hL j (by omega)] at hk; exact f4 j l b (by omega) hjs hk e (hWW e he)
      · intro e he m hm hms hk
        change (if m = i then k0 else kd m) = 2 at hk
        by_cases hmi : m = i
        · subst hmi
          simp only [if_true] at hk ⊢
          rw [hH _ (by omega), e1]
          exact c4 hk e he
        · rw [hK m (by omega)] at hk
          simp only []
          rw [hH m (by omega), hH (m + 1) (by omega)]
          exact f5 e (hF e he) m (by omega) hms hk
    unfold evDr at h
    split at h
    · rename_i hw
      split at h <;> first | contradiction | skip
      rename_i t1 ht
      exact cons 0 none undef s (by omega) (fun _ h => h) (fun _ h => h) (fun _ h => h) (fun _ h => h) (by omega) (by omega) (by omega) (by omega) (by omega) (fun l b h => by cases h) (by omega) (fun l b h => by cases h) ht (.inl ⟨rfl, rfl, hw, rfl⟩) h
    · rename_i hw
      split at h
      · rename_i v hp
        split at h <;> first | contradiction | skip
        rename_i t1 ht
        exact cons 0 none v s (by omega) (fun _ h => h) (fun _ h => h) (fun _ h => h) (fun _ h => h) (by omega) (by omega) (by omega) (by omega) (by omega) (fun l b h => by cases h) (by omega) (fun l b h => by cases h) ht (.inr (.inl ⟨rfl, rfl, hw, hp⟩)) h
      · split at h
        · rename_i ty a hla
          obtain ⟨x, hox, hxa⟩ := loadAt_some hla
          split at h <;> first | contradiction | skip
          rename_i v hv
          split at h <;> first | contradiction | skip
          rename_i t1 ht
          split at h <;> first | contradiction | skip
          rename_i hm
          exact cons 0 (some (true, some a.block)) v s (by omega) (fun _ h => h) (fun _ h => h) (fun _ h => .tail _ h) (fun _ h => h) (by omega) (by omega) (by omega) (by omega) (by omega) (fun l b h => by injection h with h; injection h with h1 h2; subst h1 h2; exact earlyOk_spec hm) (by omega) (fun l b h => by injection h with h; injection h with h1 h2; subst h1 h2; exact .head _) ht
            (.inr (.inr (.inr ⟨rfl, rfl, hw, true, some a.block, _, rfl, .inl ⟨ty, x, a, hox, hxa, rfl, rfl, rfl⟩, hv⟩))) h
        · split at h
          · rename_i ty x0 vl vh vm hpc
            obtain ⟨x, lo, hi, mx, e0, hox, hu, hx, h1, h2, h3⟩ := pieceAt_some hpc
            split at h <;> first | contradiction | skip
            rename_i v hv
            split at h <;> first | contradiction | skip
            rename_i t1 ht
            split at h <;> first | contradiction | skip
            rename_i hm
            exact cons 0 (some (false, blkOf x0)) v s (by omega) (fun _ h => h) (fun _ h => h) (fun _ h => .tail _ h) (fun _ h => h) (by omega) (by omega) (by omega) (by omega) (by omega) (fun l b h => by injection h with h; injection h with h1 h2; subst h1 h2; exact earlyOk_spec hm) (by omega) (fun l b h => by injection h with h; injection h with h1 h2; subst h1 h2; exact .head _) ht
              (.inr (.inr (.inr ⟨rfl, rfl, hw, false, blkOf x0, _, rfl, .inr ⟨ty, x, lo, hi, mx, x0, e0, vl, vh, vm, hox, hu, hx, h1, h2, h3, rfl, rfl, rfl⟩, hv⟩))) h
          · split at h <;> first | contradiction | skip
            rename_i v s1 ho
            split at h <;> first | contradiction | skip
            rename_i t1 ht
            split at h
            · rename_i hpl
              split at h
              · rename_i hfr
                exact cons 3 none v s1 (by omega) (fun _ h => h) (fun _ h => h) (fun _ h => h) (fun _ h => h) (by omega) (by omega) (by omega) (by omega) (by omega) (fun l b h => by cases h) (by omega) (fun l b h => by cases h) ht
                  (.inr (.inr (.inl ⟨by omega, rfl, hw, ho, fun _ => Nat.le_of_ble_eq_true hpl, fun _ => hfr⟩))) h
              split at h <;> first | contradiction | skip
              rename_i hm
              exact cons 1 none v s1 (by omega) (fun b hb => by rw [bit_or, hb]; rfl) (fun _ h => h) (fun _ h => h) (fun _ h => h) (fun _ _ => by rw [bit_or]; simp) (by omega) (by omega) (by omega) (fun _ b hb => sub_bits hm hb) (fun l b h => by cases h) (by omega) (fun l b h => by cases h) ht
                (.inr (.inr (.inl ⟨by omega, rfl, hw, ho, fun _ => Nat.le_of_ble_eq_true hpl, by omega⟩))) h
            · split at h <;> first | contradiction | skip
              rename_i hm
              split at h <;> first | contradiction | skip
              rename_i hfl
              exact cons 2 none v s1 (by omega) (fun b hb => by rw [bit_or, hb]; rfl) (fun b hb => by rw [bit_or, hb]; rfl) (fun _ h => h) (fun _ h => .tail _ h) (fun _ _ => by rw [bit_or]; simp) (fun _ => by rw [bit_or]; simp) (fun _ => .head _) (fun _ b hb => sub_bits hm hb) (by omega) (fun l b h => by cases h) (fun _ => floatOk_spec ho hfl) (fun l b h => by cases h) ht
                (.inr (.inr (.inl ⟨by omega, rfl, hw, ho, by omega, by omega⟩))) h

end Go.Ev
