/- Steps over the evaluator for values that are not known: regions, codes, functions. No condition. -/
import Derived.Test.YtmhfkejbahacoaaGreatDoorKViewHoldsS1
noncomputable section
namespace Go.Ev
open Go.RowKit
set_option linter.unusedVariables false
variable [Lk]
set_option linter.unusedSectionVars false

/-- The operation j yielded a truth value, or is known to be skipped. -/
def wantK (ops : Array Oper) (L : En) (o : Oper) (p q : Prop) : Prop :=
  match o.guard with
  | none => p
  | some (j, want) => match ops[j]? with
    | some o' => match o'.dst with
      | some d => Rq (lk d L) fun v => match v with
        | .bool b => match want with
          | true => Br b p q
          | false => Br b q p
        | .tuple _ => q
        | _ => False
      | none => False
    | none => False
theorem wantK_ok {t : T Value} {L : En} (hL : Env t L) {ops : Array Oper} {o : Oper} {p q : Prop} (h : wantK ops L o p q) : (wantT ops t o = true ∧ p) ∨ (wantT ops t o = false ∧ q) := by
  unfold wantK at h
  unfold wantT
  cases hg : o.guard with
  | none => rw [hg] at h; exact .inl ⟨rfl, h⟩
  | some g =>
    obtain ⟨j, want⟩ := g
    rw [hg] at h
    simp only at h ⊢
    unfold yieldT
    split at h <;> first | contradiction | skip
    rename_i o' ho
    split at h <;> first | contradiction | skip
    rename_i d hd
    obtain ⟨v, hv, h⟩ := Rq.out h
    simp only [ho, hd, hL _ _ hv]
    split at h <;> first | contradiction | skip
    · rename_i b
      split at h
      · rcases h.split with ⟨rfl, h'⟩ | ⟨rfl, h'⟩
        · exact .inl ⟨rfl, h'⟩
        · exact .inr ⟨rfl, h'⟩
      · rcases h.split with ⟨rfl, h'⟩ | ⟨rfl, h'⟩
        · exact .inr ⟨rfl, h'⟩
        · exact .inl ⟨rfl, h'⟩
    · exact .inr ⟨rfl, h⟩
def putK (n : Nat) (L : En) (dst : Option Tmp) (v : Value) (K : En → Prop) : Prop :=
  match dst with
  | none => K L
  | some d => match Nat.blt d n with
    | true => K ((d, v) :: L)
    | false => False
theorem putK_ok {n : Nat} {t : T Value} {L : En} (hL : Env t L) {dst : Option Tmp} {v : Value} {K : En → Prop} (h : putK n L dst v K) : ∃ t' L', putT n t dst v = some t' ∧ Env t' L' ∧ K L' := by
  unfold putK at h
  unfold putT
  split at h
  · exact ⟨t, L, rfl, hL, h⟩
  · rename_i d
    split at h <;> first | contradiction | skip
    rename_i hd
    simp only [hd]
    exact ⟨_, _, rfl, hL.cons d v, h⟩

/-- A region in the order of its text. -/
def Wo (P : Program) (C : CW) (n : Nat) (ops : Array Oper) (l : List Oper) : En → St → (En → St → Prop) → Prop :=
  List.rec (motive := fun _ => En → St → (En → St → Prop) → Prop) (fun L s Q => Q L s)
    (fun o _ ih L s Q => wantK ops L o (stp P C (opl L) o.op s (fun v => putK n L o.dst v fun L' => ih L' s Q) fun v s' => putK n L o.dst v fun L' => ih L' s' Q) (putK n L o.dst undef fun L' => ih L' s Q)) l
theorem Wo_ok {P : Program} {n : Nat} {ops : Array Oper} {Q : En → St → Prop} : ∀ {l : List Oper} {t : T Value} {L : En} {s : St}, Env t L → Wo P (Cw P) n ops l L s Q →
    ∃ t' s' L', Env t' L' ∧ Q L' s' ∧ ∃ k0, ∀ k, k0 ≤ k → evOps P (ev P k) n ops l t s = some (t', s')
  | [], t, L, s, hL, h => ⟨t, s, L, hL, h, 0, fun k _ => rfl⟩
  | o :: r, t, L, s, hL, h => by
    rcases wantK_ok hL h with ⟨hw, h⟩ | ⟨hw, h⟩
    · rcases stp_ok hL.op h with ⟨v, h, hev⟩ | ⟨v, s1, h, _, k0, hev⟩
      · obtain ⟨t1, L1, hp, hL1, h⟩ := putK_ok hL h
        obtain ⟨t2, s2, L2, hL2, hQ, k1, he⟩ := Wo_ok hL1 h
        refine ⟨t2, s2, L2, hL2, hQ, k1, fun k hk => ?_⟩
        simp only [evOps, hw, evOp, hev, hp, he k (by omega)]
      · obtain ⟨t1, L1, hp, hL1, h⟩ := putK_ok hL h
        obtain ⟨t2, s2, L2, hL2, hQ, k1, he⟩ := Wo_ok hL1 h
        refine ⟨t2, s2, L2, hL2, hQ, k0 + k1, fun k hk => ?_⟩
        simp only [evOps, hw, hev k (by omega), hp, he k (by omega)]
    · obtain ⟨t1, L1, hp, hL1, h⟩ := putK_ok hL h
      obtain ⟨t2, s2, L2, hL2, hQ, k1, he⟩ := Wo_ok hL1 h
      refine ⟨t2, s2, L2, hL2, hQ, k1, fun k hk => ?_⟩
      simp only [evOps, hw, hp, he k (by omega)]

/-- Stops: a fact is wanted, of what it is not known beforehand whether it writes. -/
structure Dk (s s1 : St) (R1 R2 : St → Prop) : Prop where
  out : (s.next ≤ s1.low ∧ R1 (relow s s1)) ∨ (s1.low < s.next ∧ R2 (relow s s1))
/-- Stops: what is looked at of a block is the same behind a writer. -/
structure Sa (l : Bool) (b : Option Nat) (s s' : St) : Prop where
  out : Same l b s s'
def bitB (m i : Nat) : Bool := Nat.beq (m / 2 ^ i % 2) 1
theorem bitB_eq (m i : Nat) : bitB m i = m.testBit i := by
  rw [Nat.testBit_eq_decide_div_mod_eq]
  unfold bitB
  rw [Bool.eq_iff_iff, Nat.beq_eq]
  simp
def earlyK (m : Nat) (l : Bool) (b : Option Nat) (W : List (Nat × St × St)) (p : Prop) : Prop :=
  List.rec (motive := fun _ => Prop) p (fun e _ ih => Prod.rec (motive := fun _ => Prop) (fun j ss => Prod.rec (motive := fun _ => Prop) (fun s1 s2 => Bool.rec (motive := fun _ => Prop) (Sa l b s1 s2 ∧ ih) ih (bitB m j)) ss) e) W
theorem earlyK_ok {m : Nat} {l : Bool} {b : Option Nat} {p : Prop} : ∀ {W : List (Nat × St × St)}, earlyK m l b W p → earlyOk m l b W = true ∧ p
  | [], h => ⟨rfl, h⟩
  | (j, s1, s2) :: W, h => by
    change Bool.rec (motive := fun _ => Prop) (Sa l b s1 s2 ∧ earlyK m l b W p) (earlyK m l b W p) (bitB m j) at h
    rw [bitB_eq] at h
    unfold earlyOk
    simp only
    cases hm : m.testBit j with
    | true => rw [hm] at h; exact earlyK_ok h
    | false =>
      rw [hm] at h
      simp only [sameB_iff.2 h.1.out]
      exact earlyK_ok h.2
def floatK (m : Nat) (s s2 : St) (F : List (Nat × Option Nat × Bool)) (p : Prop) : Prop :=
  List.rec (motive := fun _ => Prop) p (fun e _ ih => Prod.rec (motive := fun _ => Prop) (fun j bl => Prod.rec (motive := fun _ => Prop) (fun b l => Bool.rec (motive := fun _ => Prop) (Sa l b s s2 ∧ ih) ih (bitB m j)) bl) e) F
theorem floatK_ok {m : Nat} {s s2 : St} {sb : Option Nat} {p : Prop} : ∀ {F : List (Nat × Option Nat × Bool)}, floatK m s s2 F p → floatOk m s s2 sb F = true ∧ p
  | [], h => ⟨rfl, h⟩
  | (j, b, l) :: F, h => by
    change Bool.rec (motive := fun _ => Prop) (Sa l b s s2 ∧ floatK m s s2 F p) (floatK m s s2 F p) (bitB m j) at h
    rw [bitB_eq] at h
    unfold floatOk
    simp only
    cases hm : m.testBit j with
    | true => rw [hm] at h; exact floatK_ok h
    | false =>
      rw [hm] at h
      simp only [sameB_iff.2 h.1.out]
      split
      · exact floatK_ok h.2
      · exact floatK_ok h.2
def ask (b : Bool) (p : Prop) : Prop := Bool.rec (motive := fun _ => Prop) False p b
theorem ask_ok {b : Bool} {p : Prop} (h : ask b p) : b = true ∧ p := by
  cases b with
  | true => exact ⟨rfl, h⟩
  | false => exact h.elim
/-- The place of a plain load. -/
def isLoad : Op → Option (TypeId × Operand)
  | .load t x => some (t, x)
  | _ => none

/-- The place of a piece of a slice. -/
def isPiece (P : Program) : Op → Option (TypeId × Operand × Option Operand × Option Operand × Option Operand)
  | .slice t x lo hi mx => match P.underlying t with
    | some (.slice _) => some (t, x, lo, hi, mx)
    | _ => none
  | _ => none
/-- A region that draws its order. 'A': what must come before each operation, as bits. -/
def Wd (P : Program) (C : CW) (n : Nat) (ops : Array Oper) (A : List Nat) (l : List Oper) : Nat → Nat → Nat → List (Nat × Option Nat × Bool) → List (Nat × St × St) → En → St → (En → St → Prop) → Prop :=
  List.rec (motive := fun _ => Nat → Nat → Nat → List (Nat × Option Nat × Bool) → List (Nat × St × St) → En → St → (En → St → Prop) → Prop) (fun _ _ _ _ _ L s Q => Q L s)
    (fun o _ ih i mN mW F W L s Q => wantK ops L o
    (match isLoad o.op with
      | some (ty, x) => Rq (oplR (o.looksAt ops) L x) fun a => match a with
        | .pointer (some a) => Om (evLoad P ty (.pointer (some a)) s) fun v => putK n L o.dst v fun L' => earlyK (A.getD i 0) true (some a.block) W (ih (i + 1) mN mW ((i, some a.block, true) :: F) W L' s Q)
        | _ => False
      | none => match isPiece P o.op with
        | some (t, x, lo, hi, mx) => Rq (oplR (o.looksAt ops) L x) fun a => Rq (opo (oplR (o.looksAt ops) L) lo) fun vl => Rq (opo (oplR (o.looksAt ops) L) hi) fun vh => Rq (opo (oplR (o.looksAt ops) L) mx) fun vm =>
          Om (evSliceMem P t a vl vh vm s) fun v => putK n L o.dst v fun L' => earlyK (A.getD i 0) false (blkOf a) W (ih (i + 1) mN mW ((i, blkOf a, false) :: F) W L' s Q)
        | none => stp P C (oplR (o.looksAt ops) L) o.op (reset s) (fun v => putK n L o.dst v fun L' => ih (i + 1) mN mW F W L' s Q) fun v s1 => putK n L o.dst v fun L' =>
            Dk s s1 (fun s2 => Bool.rec (motive := fun _ => Prop) (ask (Nat.beq (mW &&& A.getD i 0) mW) (ih (i + 1) (mN ||| 2 ^ i) mW F W L' s2 Q)) (ih (i + 1) mN mW F W L' s2 Q) (isFree o.op))
              (fun s2 => ask (Nat.beq (mN &&& A.getD i 0) mN) (floatK (A.getD i 0) s s2 F (ih (i + 1) (mN ||| 2 ^ i) (mW ||| 2 ^ i) F ((i, s, s2) :: W) L' s2 Q))))
    (putK n L o.dst undef fun L' => ih (i + 1) mN mW F W L' s Q)) l

theorem ble_false {a b : Nat} (h : b < a) : Nat.ble a b = false := by
  cases hb : Nat.ble a b with
  | false => rfl
  | true => have := Nat.le_of_ble_eq_true hb; omega
theorem relow_reset {s : St} (wf : WF s) : relow s (reset s) = s := by
  unfold relow reset
  have := wf.low
  simp only
  split
  · have : s.low = s.next := by omega
    cases s; simp_all
  · rfl
/-- The state is what it was. -/
theorem Dk.same {s : St} {R1 R2 : St → Prop} (wf : WF s) (k : R1 s) : Dk s (reset s) R1 R2 := ⟨.inl ⟨Nat.le_refl _, by rw [relow_reset wf]; exact k⟩⟩
/-- Whether it writes or not. -/
theorem Dk.any {s s1 : St} {R1 R2 : St → Prop} (k1 : R1 (relow s s1)) (k2 : R2 (relow s s1)) : Dk s s1 R1 R2 := by
  rcases Nat.lt_or_ge s1.low s.next with h | h
  · exact ⟨.inr ⟨h, k2⟩⟩
  · exact ⟨.inl ⟨h, k1⟩⟩
theorem isLoad_some {o : Op} {ty : TypeId} {x : Operand} (h : isLoad o = some (ty, x)) : o = .load ty x := by
  unfold isLoad at h
  split at h <;> first | contradiction | skip
  injection h with h; injection h with h1 h2; subst h1 h2; rfl
theorem isLoad_none {o : Op} (h : isLoad o = none) (ρ : Operand → Option Value) : loadAt ρ o = none := by
  unfold loadAt
  split
  · simp [isLoad] at h
  · rfl
theorem isPiece_some {P : Program} {o : Op} {t : TypeId} {x : Operand} {lo hi mx : Option Operand} (h : isPiece P o = some (t, x, lo, hi, mx)) : o = .slice t x lo hi mx ∧ ∃ e, P.underlying t = some (.slice e) := by
  unfold isPiece at h
  split at h <;> first | contradiction | skip
  split at h <;> first | contradiction | skip
  rename_i e hu
  simp only [Option.some.injEq, Prod.mk.injEq] at h
  obtain ⟨rfl, rfl, rfl, rfl, rfl⟩ := h
  exact ⟨rfl, e, hu⟩
theorem isPiece_none {P : Program} {o : Op} (h : isPiece P o = none) (ρ : Operand → Option Value) : pieceAt P ρ o = none := by
  unfold pieceAt
  split
  · unfold isPiece at h
    split
    · rename_i hu _ _ _ _
      simp only [hu] at h
      cases h
    · rfl
  · rfl
theorem pure_piece {P : Program} {ρ : Operand → Option Value} {t : TypeId} {x : Operand} {lo hi mx : Option Operand} {e : TypeId} (hu : P.underlying t = some (.slice e)) : evPure P ρ (.slice t x lo hi mx) = none := by
  cases mx with
  | some m => simp only [evPure]
  | none =>
    simp only [evPure]
    split
    · unfold evSliceStr; rw [hu]
    · rfl
theorem Wd_ok {P : Program} {n : Nat} {ops : Array Oper} {A : List Nat} {Q : En → St → Prop} : ∀ {l : List Oper} {i mN mW : Nat} {F : List (Nat × Option Nat × Bool)} {W : List (Nat × St × St)} {t : T Value} {L : En} {s : St}, Env t L → Wd P (Cw P) n ops A l i mN mW F W L s Q →
    ∃ t' s' L', Env t' L' ∧ Q L' s' ∧ ∃ k0, ∀ k, k0 ≤ k → evDr P (ev P k) n ops A l i mN mW F W t s = some (t', s')
  | [], i, mN, mW, F, W, t, L, s, hL, h => ⟨t, s, L, hL, h, 0, fun k _ => rfl⟩
  | o :: r, i, mN, mW, F, W, t, L, s, hL, h => by
    rcases wantK_ok hL h with ⟨hw, h⟩ | ⟨hw, h⟩
    · cases hl : isLoad o.op with
      | some p =>
        obtain ⟨ty, x⟩ := p
        simp only [hl] at h
        have ho := isLoad_some hl
        obtain ⟨a, ha, h⟩ := Rq.out h
        have ha' := hL.opR (o.looksAt ops) _ _ ha
        split at h <;> first | contradiction | skip
        rename_i a
        obtain ⟨v, hv, h⟩ := h.out
        obtain ⟨t1, L1, hp, hL1, h⟩ := putK_ok hL h
        obtain ⟨hm, h⟩ := earlyK_ok h
        obtain ⟨t2, s2, L2, hL2, hQ, k1, he⟩ := Wd_ok hL1 h
        refine ⟨t2, s2, L2, hL2, hQ, k1, fun k hk => ?_⟩
        have e1 : evPure P (opvR (o.looksAt ops) t) o.op = none := by rw [ho]; simp only [evPure]
        have e2 : loadAt (opvR (o.looksAt ops) t) o.op = some (ty, a) := by rw [ho]; simp only [loadAt, ha']
        unfold evDr
        simp only [hw, e1, e2, hv, hp, hm, he k hk]
      | none =>
        simp only [hl] at h
        cases hpi : isPiece P o.op with
        | some p =>
          obtain ⟨ty, x, lo, hi, mx⟩ := p
          simp only [hpi] at h
          obtain ⟨ho, e0, hu⟩ := isPiece_some hpi
          obtain ⟨a, ha, h1⟩ := Rq.out h
          obtain ⟨vl, hvl, h2⟩ := Rq.out h1
          obtain ⟨vh, hvh, h3⟩ := Rq.out h2
          obtain ⟨vm, hvm, h4⟩ := Rq.out h3
          clear h h1 h2 h3
          have le := hL.opR (o.looksAt ops)
          have e1 : evPure P (opvR (o.looksAt ops) t) o.op = none := by rw [ho]; exact pure_piece hu
          have e2 := isLoad_none hl (opvR (o.looksAt ops) t)
          have ha' := le _ _ ha
          have hvl' := opo_mono le hvl
          have hvh' := opo_mono le hvh
          have hvm' := opo_mono le hvm
          obtain ⟨v, hv, h⟩ := h4.out
          obtain ⟨t1, L1, hp, hL1, h⟩ := putK_ok hL h
          obtain ⟨hm, h⟩ := earlyK_ok h
          obtain ⟨t2, s2, L2, hL2, hQ, k1, he⟩ := Wd_ok hL1 h
          refine ⟨t2, s2, L2, hL2, hQ, k1, fun k hk => ?_⟩
          have e3 : pieceAt P (opvR (o.looksAt ops) t) o.op = some (ty, a, vl, vh, vm) := by
            rw [ho]; simp only [pieceAt, hu, ha', hvl', hvh', hvm']
          unfold evDr
          simp only [hw, e1, e2, e3, hv, hp, hm, he k hk]
        | none =>
          simp only [hpi] at h
          rcases stp_ok (hL.opR (o.looksAt ops)) h with ⟨v, h, hev⟩ | ⟨v, s1, h, hpn, k0, hev⟩
          · obtain ⟨t1, L1, hp, hL1, h⟩ := putK_ok hL h
            obtain ⟨t2, s2, L2, hL2, hQ, k1, he⟩ := Wd_ok hL1 h
            refine ⟨t2, s2, L2, hL2, hQ, k1, fun k hk => ?_⟩
            unfold evDr
            simp only [hw, hev, hp, he k hk]
          · obtain ⟨t1, L1, hp, hL1, h⟩ := putK_ok hL h
            rcases h.out with ⟨hc, h⟩ | ⟨hc, h⟩
            · cases hfr : isFree o.op with
              | true =>
                rw [hfr] at h
                obtain ⟨t2, s2, L2, hL2, hQ, k1, he⟩ := Wd_ok hL1 h
                refine ⟨t2, s2, L2, hL2, hQ, k0 + k1, fun k hk => ?_⟩
                unfold evDr
                simp only [hw, hpn, isLoad_none hl, isPiece_none hpi, hev k (by omega), hp, Nat.ble_eq_true_of_le hc, hfr, he k (by omega)]
              | false =>
                rw [hfr] at h
                obtain ⟨hm, h⟩ := ask_ok h
                obtain ⟨t2, s2, L2, hL2, hQ, k1, he⟩ := Wd_ok hL1 h
                refine ⟨t2, s2, L2, hL2, hQ, k0 + k1, fun k hk => ?_⟩
                unfold evDr
                simp only [hw, hpn, isLoad_none hl, isPiece_none hpi, hev k (by omega), hp, Nat.ble_eq_true_of_le hc, hfr, hm, he k (by omega)]
            · obtain ⟨hm, h⟩ := ask_ok h
              obtain ⟨hf, h⟩ := floatK_ok (sb := storeAt (opvR (o.looksAt ops) t) o.op) h
              obtain ⟨t2, s2, L2, hL2, hQ, k1, he⟩ := Wd_ok hL1 h
              refine ⟨t2, s2, L2, hL2, hQ, k0 + k1, fun k hk => ?_⟩
              unfold evDr
              simp only [hw, hpn, isLoad_none hl, isPiece_none hpi, hev k (by omega), hp, ble_false hc, hm, hf, he k (by omega)]
    · obtain ⟨t1, L1, hp, hL1, h⟩ := putK_ok hL h
      obtain ⟨t2, s2, L2, hL2, hQ, k1, he⟩ := Wd_ok hL1 h
      refine ⟨t2, s2, L2, hL2, hQ, k1, fun k hk => ?_⟩
      unfold evDr
      simp only [hw, hp, he k (by omega)]

/-! ### code -/
structure Lp (P : Program) (n : Nat) (c : Code) (L : En) (s : St) (Q : Ex → En → St → Prop) : Prop where
  out : ∀ t, Env t L → ∃ e t' s' L', Env t' L' ∧ Q e L' s' ∧ ∃ k0, ∀ k, k0 ≤ k → ∀ j, k0 ≤ j → iter (evCode P (ev P k) k n c) j t s = some (e, t', s')
/-- Stops: the masks of a region. -/
structure Rg (P : Program) (C : CW) (n : Nat) (ops : Array Oper) (L : En) (s : St) (Q : En → St → Prop) : Prop where
  out : ∃ A, masks ops.toList [] = A ∧ drawOk ops = true ∧ Wd P C n ops A ops.toList 0 0 0 [] [] L s Q
def Wc (P : Program) (n : Nat) (c : Code) : En → St → (Ex → En → St → Prop) → Prop :=
  Code.rec (motive := fun _ => En → St → (Ex → En → St → Prop) → Prop)
    (fun L s Q => Q .normal L s)
    (fun _ ops dr L s Q => Bool.rec (motive := fun _ => Prop) (Wo P (Cw P) n ops ops.toList L s (Q .normal)) (Rg P (Cw P) n ops L s (Q .normal)) dr)
    (fun _ _ iha ihb L s Q => iha L s fun e L' s' => match e with
      | .normal => ihb L' s' Q
      | .ret => Q .ret L' s'
      | .exit id => Q (.exit id) L' s')
    (fun c _ _ iha ihb L s Q => Rq (opl L c) fun v => match v with
      | .bool x => Br x (iha L s Q) (ihb L s Q)
      | _ => False)
    (fun id _ ih L s Q => ih L s fun e L' s' => match e with
      | .exit id' => match Nat.beq id' id with
        | true => Q .normal L' s'
        | false => Q (.exit id') L' s'
      | .ret => Q .ret L' s'
      | .normal => Q .normal L' s')
    (fun c _ L s Q => Lp P n c L s Q)
    (fun _ _ _ _ _ _ _ _ _ => False)
    (fun id L s Q => Q (.exit id) L s)
    (fun _ _ _ _ _ => False)
    (fun _ L s Q => Q .normal L s)
    (fun _ _ _ _ => False)
    (fun L s Q => Q .ret L s)
    (fun _ _ _ _ => False) c
theorem Wc_ok {P : Program} {n : Nat} : ∀ (c : Code) {t : T Value} {L : En} {s : St} {Q : Ex → En → St → Prop}, Env t L → Wc P n c L s Q →
    ∃ e t' s' L', Env t' L' ∧ Q e L' s' ∧ ∃ k0, ∀ k, k0 ≤ k → evCode P (ev P k) k n c t s = some (e, t', s') := by
  intro c
  induction c with
  | skip => intro t L s Q hL h; exact ⟨.normal, t, s, L, hL, h, 0, fun k _ => rfl⟩
  | region id ops dr =>
    intro t L s Q hL h
    cases dr with
    | false =>
      obtain ⟨t', s', L', hL', hQ, k0, he⟩ := Wo_ok hL h
      exact ⟨.normal, t', s', L', hL', hQ, k0, fun k hk => by simp only [evCode, he k hk]⟩
    | true =>
      obtain ⟨A, hA, hd, h⟩ := h.out
      subst hA
      obtain ⟨t', s', L', hL', hQ, k0, he⟩ := Wd_ok hL h
      exact ⟨.normal, t', s', L', hL', hQ, k0, fun k hk => by simp only [evCode, evDraw, hd, he k hk]⟩
  | seq a b iha ihb =>
    intro t L s Q hL h
    obtain ⟨e, t1, s1, L1, hL1, h1, k0, he⟩ := iha hL h
    cases e with
    | normal =>
      obtain ⟨e2, t2, s2, L2, hL2, hQ, k1, he2⟩ := ihb hL1 h1
      exact ⟨e2, t2, s2, L2, hL2, hQ, k0 + k1, fun k hk => by simp only [evCode, he k (by omega), he2 k (by omega)]⟩
    | ret => exact ⟨.ret, t1, s1, L1, hL1, h1, k0, fun k hk => by simp only [evCode, he k (by omega)]⟩
    | exit id => exact ⟨.exit id, t1, s1, L1, hL1, h1, k0, fun k hk => by simp only [evCode, he k (by omega)]⟩
  | cond c a b iha ihb =>
    intro t L s Q hL h
    obtain ⟨v, hv, h⟩ := Rq.out h
    have hv' := hL.op _ _ hv
    split at h <;> first | contradiction | skip
    rename_i x
    rcases h.split with ⟨rfl, h1⟩ | ⟨rfl, h1⟩
    · obtain ⟨e, t1, s1, L1, hL1, h2, k0, he⟩ := iha hL h1
      exact ⟨e, t1, s1, L1, hL1, h2, k0, fun k hk => by simp only [evCode, hv', he k hk]⟩
    · obtain ⟨e, t1, s1, L1, hL1, h2, k0, he⟩ := ihb hL h1
      exact ⟨e, t1, s1, L1, hL1, h2, k0, fun k hk => by simp only [evCode, hv', he k hk]⟩
  | block id c ih =>
    intro t L s Q hL h
    obtain ⟨e, t1, s1, L1, hL1, h1, k0, he⟩ := ih hL h
    cases e with
    | normal => exact ⟨.normal, t1, s1, L1, hL1, h1, k0, fun k hk => by simp only [evCode, he k (by omega)]⟩
    | ret => exact ⟨.ret, t1, s1, L1, hL1, h1, k0, fun k hk => by simp only [evCode, he k (by omega)]⟩
    | exit id' =>
      simp only at h1
      split at h1
      · rename_i hid; exact ⟨.normal, t1, s1, L1, hL1, h1, k0, fun k hk => by simp only [evCode, he k (by omega), hid]⟩
      · rename_i hid; exact ⟨.exit id', t1, s1, L1, hL1, h1, k0, fun k hk => by simp only [evCode, he k (by omega), hid]⟩
  | loop c ih =>
    intro t L s Q hL h
    obtain ⟨e, t', s', L', hL', hQ, k0, he⟩ := h.out t hL
    exact ⟨e, t', s', L', hL', hQ, k0, fun k hk => by simp only [evCode]; exact he k hk k hk⟩
  | exit id => intro t L s Q hL h; exact ⟨.exit id, t, s, L, hL, h, 0, fun k _ => rfl⟩
  | ret => intro t L s Q hL h; exact ⟨.ret, t, s, L, hL, h, 0, fun k _ => rfl⟩
  | label id => intro t L s Q hL h; exact ⟨.normal, t, s, L, hL, h, 0, fun k _ => rfl⟩
  | _ => intros; rename_i h; exact h.elim

/-- What is known here is known there. -/
def Sub (L L' : En) : Prop := ∀ i v, lk i L = some v → lk i L' = some v
theorem Sub.nil (L : En) : Sub [] L := fun i v h => by cases h
theorem Sub.cons {L L' : En} {i : Nat} {v : Value} (h : lk i L' = some v) (t : Sub L L') : Sub ((i, v) :: L) L' := by
  intro j x hx
  rw [lk_cons] at hx
  split at hx
  · rename_i e; subst e; rw [h]; exact hx
  · exact t j x hx
theorem Sub.env {L L' : En} (h : Sub L L') {t : T Value} (e : Env t L') : Env t L := fun i v hv => e i v (h i v hv)
theorem Lp.of {P : Program} {n : Nat} {c : Code} {Q : Ex → En → St → Prop} {α : Type} (L0 : α → En) (I : α → St → Prop) (m : α → Nat)
    (round : ∀ x s, I x s → Wc P n c (L0 x) s (fun e L' s' => match e with
      | .normal => ∃ y, m y < m x ∧ Sub (L0 y) L' ∧ I y s'
      | .ret => Q .ret L' s'
      | .exit id => Q (.exit id) L' s')) {L : En} {s : St} (x : α) (hs : Sub (L0 x) L) (hI : I x s) : Lp P n c L s Q := by
  refine ⟨fun t ht => ?_⟩
  have ht := hs.env ht
  clear hs
  suffices ∀ k x s t, m x < k → I x s → Env t (L0 x) → ∃ e t' s' L', Env t' L' ∧ Q e L' s' ∧ ∃ k0, ∀ k, k0 ≤ k → ∀ j, k0 ≤ j → iter (evCode P (ev P k) k n c) j t s = some (e, t', s') from this (m x + 1) x s t (by omega) hI ht
  intro k
  induction k with
  | zero => intro x s t h; omega
  | succ k ih =>
    intro x s t hm hI ht
    obtain ⟨e, t1, s1, L1, hL1, h1, k0, he⟩ := Wc_ok c ht (round x s hI)
    cases e with
    | normal =>
      obtain ⟨y, hy, hsub, hIy⟩ := h1
      obtain ⟨e2, t2, s2, L2, hL2, hQ, k1, he2⟩ := ih y s1 t1 (by omega) hIy (hsub.env hL1)
      refine ⟨e2, t2, s2, L2, hL2, hQ, k0 + k1 + 1, fun k hk j hj => ?_⟩
      obtain ⟨j', rfl⟩ : ∃ j', j = j' + 1 := ⟨j - 1, by omega⟩
      simp only [iter, he k (by omega)]
      exact he2 k (by omega) j' (by omega)
    | ret =>
      refine ⟨.ret, t1, s1, L1, hL1, h1, k0 + 1, fun k hk j hj => ?_⟩
      obtain ⟨j', rfl⟩ : ∃ j', j = j' + 1 := ⟨j - 1, by omega⟩
      simp only [iter, he k (by omega)]
    | exit id =>
      refine ⟨.exit id, t1, s1, L1, hL1, h1, k0 + 1, fun k hk j hj => ?_⟩
      obtain ⟨j', rfl⟩ : ∃ j', j = j' + 1 := ⟨j - 1, by omega⟩
      simp only [iter, he k (by omega)]

/-! ### code, as it runs: rules for parts of it -/
structure Sm (P : Program) (n : Nat) (c : Code) (L : En) (s : St) (Q : Ex → En → St → Prop) : Prop where
  out : ∀ t, Env t L → ∃ e t' s' L', Env t' L' ∧ Q e L' s' ∧ ∃ k0, ∀ k, k0 ≤ k → evCode P (ev P k) k n c t s = some (e, t', s')
theorem Sm.ofW {P : Program} {n : Nat} {c : Code} {L : En} {s : St} {Q : Ex → En → St → Prop} (h : Wc P n c L s Q) : Sm P n c L s Q := ⟨fun _ ht => Wc_ok c ht h⟩
theorem Sm.mono {P : Program} {n : Nat} {c : Code} {L : En} {s : St} {Q Q' : Ex → En → St → Prop} (h : Sm P n c L s Q) (k : ∀ e L' s', Q e L' s' → Q' e L' s') : Sm P n c L s Q' := ⟨fun t ht => by
  obtain ⟨e, t', s', L', h1, h2, h3⟩ := h.out t ht
  exact ⟨e, t', s', L', h1, k _ _ _ h2, h3⟩⟩
theorem Sm.weak {P : Program} {n : Nat} {c : Code} {L : En} (L0 : En) {s : St} {Q : Ex → En → St → Prop} (hs : Sub L0 L) (h : Sm P n c L0 s Q) : Sm P n c L s Q := ⟨fun t ht => h.out t (hs.env ht)⟩
/-- How a sequence goes on. -/
def goOn (P : Program) (n : Nat) (b : Code) (Q : Ex → En → St → Prop) (e : Ex) (L : En) (s : St) : Prop :=
  match e with
  | .normal => Sm P n b L s Q
  | .ret => Q .ret L s
  | .exit id => Q (.exit id) L s
theorem Sm.seq {P : Program} {n : Nat} {a b : Code} {L : En} {s : St} {Q : Ex → En → St → Prop} (h : Sm P n a L s (goOn P n b Q)) : Sm P n (.seq a b) L s Q := ⟨fun t ht => by
  obtain ⟨e, t1, s1, L1, hL1, h1, k0, he⟩ := h.out t ht
  cases e with
  | normal =>
    obtain ⟨e2, t2, s2, L2, hL2, hQ, k1, he2⟩ := h1.out t1 hL1
    exact ⟨e2, t2, s2, L2, hL2, hQ, k0 + k1, fun k hk => by simp only [evCode, he k (by omega), he2 k (by omega)]⟩
  | ret => exact ⟨.ret, t1, s1, L1, hL1, h1, k0, fun k hk => by simp only [evCode, he k (by omega)]⟩
  | exit id => exact ⟨.exit id, t1, s1, L1, hL1, h1, k0, fun k hk => by simp only [evCode, he k (by omega)]⟩⟩
theorem Sm.seqW {P : Program} {n : Nat} {a b : Code} {L : En} {s : St} {Q : Ex → En → St → Prop} (h : Wc P n a L s (goOn P n b Q)) : Sm P n (.seq a b) L s Q := .seq (.ofW h)
theorem Sm.seqC {P : Program} {n : Nat} {a b : Code} {L : En} {s : St} {Q : Ex → En → St → Prop} (R : Ex → En → St → Prop) (h : Wc P n a L s R) (k : ∀ e L' s', R e L' s' → goOn P n b Q e L' s') : Sm P n (.seq a b) L s Q := .seq ((Sm.ofW h).mono k)
def inBl (id : Nat) (Q : Ex → En → St → Prop) (e : Ex) (L : En) (s : St) : Prop :=
  match e with
  | .exit id' => match Nat.beq id' id with
    | true => Q .normal L s
    | false => Q (.exit id') L s
  | .ret => Q .ret L s
  | .normal => Q .normal L s
theorem Sm.block {P : Program} {n id : Nat} {c : Code} {L : En} {s : St} {Q : Ex → En → St → Prop} (h : Sm P n c L s (inBl id Q)) : Sm P n (.block id c) L s Q := ⟨fun t ht => by
  obtain ⟨e, t1, s1, L1, hL1, h1, k0, he⟩ := h.out t ht
  cases e with
  | normal => exact ⟨.normal, t1, s1, L1, hL1, h1, k0, fun k hk => by simp only [evCode, he k (by omega)]⟩
  | ret => exact ⟨.ret, t1, s1, L1, hL1, h1, k0, fun k hk => by simp only [evCode, he k (by omega)]⟩
  | exit id' =>
    simp only [inBl] at h1
    split at h1
    · rename_i hid; exact ⟨.normal, t1, s1, L1, hL1, h1, k0, fun k hk => by simp only [evCode, he k (by omega), hid]⟩
    · rename_i hid; exact ⟨.exit id', t1, s1, L1, hL1, h1, k0, fun k hk => by simp only [evCode, he k (by omega), hid]⟩⟩
theorem Sm.cond {P : Program} {n : Nat} {x : Operand} {a b : Code} {L : En} {s : St} {Q : Ex → En → St → Prop} {v : Bool} (hv : opl L x = some (.bool v)) (h1 : v = true → Sm P n a L s Q) (h2 : v = false → Sm P n b L s Q) : Sm P n (.cond x a b) L s Q := ⟨fun t ht => by
  have hv' := ht.op _ _ hv
  cases v with
  | true =>
    obtain ⟨e, t1, s1, L1, hL1, h2, k0, he⟩ := (h1 rfl).out t ht
    exact ⟨e, t1, s1, L1, hL1, h2, k0, fun k hk => by simp only [evCode, hv', he k hk]⟩
  | false =>
    obtain ⟨e, t1, s1, L1, hL1, h2, k0, he⟩ := (h2 rfl).out t ht
    exact ⟨e, t1, s1, L1, hL1, h2, k0, fun k hk => by simp only [evCode, hv', he k hk]⟩⟩
/-- What is asked behind a round. -/
def roundK {α : Type} (L0 : α → En) (I : α → St → Prop) (m : α → Nat) (x : α) (Q : Ex → En → St → Prop) (e : Ex) (L : En) (s : St) : Prop :=
  match e with
  | .normal => ∃ y, m y < m x ∧ Sub (L0 y) L ∧ I y s
  | .ret => Q .ret L s
  | .exit id => Q (.exit id) L s
theorem Lp.ofS {P : Program} {n : Nat} {c : Code} {Q : Ex → En → St → Prop} {α : Type} (L0 : α → En) (I : α → St → Prop) (m : α → Nat)
    (round : ∀ x s, I x s → Sm P n c (L0 x) s (roundK L0 I m x Q)) {L : En} {s : St} (x : α) (hs : Sub (L0 x) L) (hI : I x s) : Lp P n c L s Q := by
  refine ⟨fun t ht => ?_⟩
  have ht := hs.env ht
  clear hs
  suffices ∀ k x s t, m x < k → I x s → Env t (L0 x) → ∃ e t' s' L', Env t' L' ∧ Q e L' s' ∧ ∃ k0, ∀ k, k0 ≤ k → ∀ j, k0 ≤ j → iter (evCode P (ev P k) k n c) j t s = some (e, t', s') from this (m x + 1) x s t (by omega) hI ht
  intro k
  induction k with
  | zero => intro x s t h; omega
  | succ k ih =>
    intro x s t hm hI ht
    obtain ⟨e, t1, s1, L1, hL1, h1, k0, he⟩ := (round x s hI).out t ht
    cases e with
    | normal =>
      obtain ⟨y, hy, hsub, hIy⟩ := h1
      obtain ⟨e2, t2, s2, L2, hL2, hQ, k1, he2⟩ := ih y s1 t1 (by omega) hIy (hsub.env hL1)
      refine ⟨e2, t2, s2, L2, hL2, hQ, k0 + k1 + 1, fun k hk j hj => ?_⟩
      obtain ⟨j', rfl⟩ : ∃ j', j = j' + 1 := ⟨j - 1, by omega⟩
      simp only [iter, he k (by omega)]
      exact he2 k (by omega) j' (by omega)
    | ret =>
      refine ⟨.ret, t1, s1, L1, hL1, h1, k0 + 1, fun k hk j hj => ?_⟩
      obtain ⟨j', rfl⟩ : ∃ j', j = j' + 1 := ⟨j - 1, by omega⟩
      simp only [iter, he k (by omega)]
    | exit id =>
      refine ⟨.exit id, t1, s1, L1, hL1, h1, k0 + 1, fun k hk j hj => ?_⟩
      obtain ⟨j', rfl⟩ : ∃ j', j = j' + 1 := ⟨j - 1, by omega⟩
      simp only [iter, he k (by omega)]
theorem Sm.loop {P : Program} {n : Nat} {c : Code} {L : En} {s : St} {Q : Ex → En → St → Prop} (h : Lp P n c L s Q) : Sm P n (.loop c) L s Q := .ofW h

/-! ### functions -/
def argL (l : List Value) : Nat → En → En :=
  List.rec (motive := fun _ => Nat → En → En) (fun _ L => L) (fun v _ ih i L => ih (i + 1) ((i, v) :: L)) l
theorem argL_ok : ∀ {l : List Value} {i : Nat} {t : T Value} {L : En}, Env t L → Env (argT l i t) (argL l i L)
  | [], _, _, _, h => h
  | v :: r, i, _, _, h => argL_ok (l := r) (i := i + 1) (h.cons i v)
def ResK (P : Program) (L : En) (s : St) (rs : List ResultVar) : (List Value → Prop) → Prop :=
  List.rec (motive := fun _ => (List Value → Prop) → Prop) (fun K => K [])
    (fun r _ ih K => match r with
      | .tmp i => Rq (lk i L) fun v => ih fun l => K (v :: l)
      | .cell i ty => Rq (lk i L) fun x => Om (evLoad P ty x s) fun v => ih fun l => K (v :: l)) rs
theorem ResK_ok {P : Program} {L : En} {s : St} {t : T Value} (hL : Env t L) : ∀ {rs : List ResultVar} {K : List Value → Prop}, ResK P L s rs K → ∃ l, evRes P t s rs = some l ∧ K l
  | [], K, h => ⟨[], rfl, h⟩
  | .tmp i :: r, K, h => by
    obtain ⟨v, hv, h⟩ := Rq.out h
    obtain ⟨l, hl, hk⟩ := ResK_ok hL h
    exact ⟨_, by simp only [evRes, hL _ _ hv, hl], hk⟩
  | .cell i ty :: r, K, h => by
    obtain ⟨x, hx, h⟩ := Rq.out h
    obtain ⟨v, hv, h⟩ := h.out
    obtain ⟨l, hl, hk⟩ := ResK_ok hL h
    exact ⟨_, by simp only [evRes, hL _ _ hx, hv, hl], hk⟩
/-- Stops: the answer. -/
structure Fin (K : Value → St → Prop) (v : Value) (s : St) : Prop where
  out : K v s
def retK (P : Program) (rs : List ResultVar) (K : Value → St → Prop) (e : Ex) (L : En) (s : St) : Prop :=
  match e with
  | .exit _ => False
  | .ret => ResK P L s rs fun l => Fin K (packRes l) s
  | .normal => ResK P L s rs fun l => Fin K (packRes l) s
theorem Cw.enterS {P : Program} {g : Nat} {args : List Value} {s : St} {K : Value → St → Prop} {fn : Func} {c : Code} (hf : P.funcs[g]? = some fn) (hb : fn.body = some c) (hn : Nat.ble args.length fn.ntmps = true)
    (h : Sm P fn.ntmps c (argL args 0 []) s (retK P fn.results.toList K)) : Cw P g args s K := by
  obtain ⟨e, t, s', L, hL, h, k0, he⟩ := h.out _ (argL_ok (Env.nil .nil))
  have fin : ∀ {e : Ex}, (∀ id, e ≠ .exit id) → (∀ k, k0 ≤ k → evCode P (ev P k) k fn.ntmps c (argT args 0 .nil) s = some (e, t, s')) → ResK P L s' fn.results.toList (fun l => Fin K (packRes l) s') → Cw P g args s K := by
    intro e hne he h
    obtain ⟨l, hl, hk⟩ := ResK_ok hL h
    refine ⟨packRes l, s', hk.out, .inl ⟨k0 + 1, fun k hk => ?_⟩⟩
    obtain ⟨j, rfl⟩ : ∃ j, k = j + 1 := ⟨k - 1, by omega⟩
    simp only [ev, hf, hb, hn, he j (by omega)]
    cases e with
    | exit id => exact absurd rfl (hne id)
    | ret => simp only [hl]
    | normal => simp only [hl]
  cases e with
  | exit id => exact h.elim
  | ret => exact fin (fun _ h => by cases h) he h
  | normal => exact fin (fun _ h => by cases h) he h
theorem Cw.enter {P : Program} {g : Nat} {args : List Value} {s : St} {K : Value → St → Prop} {fn : Func} {c : Code} (hf : P.funcs[g]? = some fn) (hb : fn.body = some c) (hn : Nat.ble args.length fn.ntmps = true)
    (h : Wc P fn.ntmps c (argL args 0 []) s (retK P fn.results.toList K)) : Cw P g args s K := Cw.enterS hf hb hn (.ofW h)
end Go.Ev
