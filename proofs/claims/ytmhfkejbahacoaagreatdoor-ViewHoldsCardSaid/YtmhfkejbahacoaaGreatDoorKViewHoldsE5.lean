/- A proved evaluator, part 5: the operations that do not touch memory. No condition. -/
import Derived.Test.YtmhfkejbahacoaaGreatDoorKViewHoldsE4
import Derived.Laws.Strings
import Derived.Laws.Slices
import GoSem.Dispatch
noncomputable section
namespace Go.Ev
open Go.RowKit
set_option linter.unusedVariables false
variable [Lk]
set_option linter.unusedSectionVars false

/-- A constant that leads nowhere. -/
def closedV : Nat → Value → Bool
  | _, .bool _ => true
  | _, .int _ _ => true
  | _, .string _ => true
  | _, .pointer none => true
  | _, .slice none 0 0 => true
  | _, .map none => true
  | _, .nilFunc => true
  | _, .nilIface => true
  | n + 1, .agg cs => cs.toList.all (closedV n)
  | _, _ => false
theorem closedV_VR (β : B) : ∀ (n : Nat) (v : Value), closedV n v = true → VR β v v := by
  intro n
  induction n with
  | zero =>
    intro v h
    unfold closedV at h
    split at h <;> first | exact VR.bool _ | exact VR.int _ _ | exact VR.string _ | exact VR.nilp | exact VR.nils | exact VR.nilm | exact VR.nilf | exact VR.nili | contradiction | cases h
  | succ n ih =>
    intro v h
    unfold closedV at h
    split at h <;> first | exact VR.bool _ | exact VR.int _ _ | exact VR.string _ | exact VR.nilp | exact VR.nils | exact VR.nilm | exact VR.nilf | exact VR.nili | contradiction | skip
    rename_i cs hn
    injection hn with hn; subst hn
    refine .agg rfl fun i x y hx hy => ?_
    rw [hx] at hy; injection hy with hy; subst hy
    exact ih x (List.all_eq_true.1 h x (List.mem_of_getElem? (i := i) (by simpa using hx)))

def opv (t : T Value) : Operand → Option Value
  | .tmp i => match t.get i with
    | some v => some v
    | none => none
  | .const v => match closedV 6 v with
    | true => some v
    | false => none
  | .global g => match Lk.gl g with
    | some i => some (.pointer (some ⟨i, 0, none⟩))
    | none => none
  | .func f => some (.func (.func f) #[] #[])

/-- The operands stand to each other. -/
def OR (β : B) (ρ : Operand → Option Value) (ρ' : Operand → Value) : Prop := ∀ x v, ρ x = some v → VR β v (ρ' x)
theorem OR.mono {β β' : B} (h : ∀ b bi, β b = some bi → β' b = some bi) {ρ : Operand → Option Value} {ρ' : Operand → Value} (ho : OR β ρ ρ') : OR β' ρ ρ' := fun x v hx => (ho x v hx).mono h

/-- 'm' gives v, whatever the world. -/
def Gives (P : Program) (m : Sem Value) (v : Value) : Prop := ∀ w, m.run P w = .ok v w

/-! ### two operands -/
def evInt (op : BinOp) (k : IntKind) (a b : Int) : Option Value :=
  match op with
  | .add => some (.int k (k.wrap (a + b)))
  | .sub => some (.int k (k.wrap (a - b)))
  | .mul => some (.int k (k.wrap (a * b)))
  | .quo => match decide (b = 0) with
    | true => none
    | false => some (.int k (k.wrap (a.tdiv b)))
  | .rem => match decide (b = 0) with
    | true => none
    | false => some (.int k (a.tmod b))
  | .and => some (.int k (k.wrap (BitVec.ofInt k.bits a &&& BitVec.ofInt k.bits b).toNat))
  | .or => some (.int k (k.wrap (BitVec.ofInt k.bits a ||| BitVec.ofInt k.bits b).toNat))
  | .xor => some (.int k (k.wrap (BitVec.ofInt k.bits a ^^^ BitVec.ofInt k.bits b).toNat))
  | .andNot => some (.int k (k.wrap (BitVec.ofInt k.bits a &&& ~~~ BitVec.ofInt k.bits b).toNat))
  | .eql => some (.bool (a == b))
  | .neq => some (.bool (a != b))
  | .lss => some (.bool (a < b))
  | .leq => some (.bool (a ≤ b))
  | .gtr => some (.bool (a > b))
  | .geq => some (.bool (a ≥ b))
  | _ => none
def evShift (op : BinOp) (k : IntKind) (a b : Int) : Option Value :=
  match decide (b < 0) with
  | true => none
  | false => match op with
    | .shl => some (.int k (k.wrap (a * 2 ^ (min b.toNat k.bits))))
    | .shr => some (.int k (a.fdiv (2 ^ (min b.toNat k.bits))))
    | _ => none
def bs (s : ByteArray) : List UInt8 := s.data.toList
def evStr (op : BinOp) (a b : ByteArray) : Option Value :=
  match op with
  | .add => match Nat.ble ((bs a).length + (bs b).length) 281474976710656 with
    | true => some (.string ⟨((bs a) ++ (bs b)).toArray⟩)
    | false => none
  | .eql => some (.bool (bs a == bs b))
  | .neq => some (.bool (!(bs a == bs b)))
  | .lss => some (.bool (Op.bytesLess (bs a) (bs b)))
  | .leq => some (.bool (Op.bytesLess (bs a) (bs b) || (bs a == bs b)))
  | .gtr => some (.bool (!(Op.bytesLess (bs a) (bs b) || (bs a == bs b))))
  | .geq => some (.bool (!(Op.bytesLess (bs a) (bs b))))
  | _ => none

theorem toList_eq (s : ByteArray) : s.toList = bs s := ByteArray.toList_eq s
theorem append_eq (a b : ByteArray) : a ++ b = ⟨((bs a) ++ (bs b)).toArray⟩ := by
  apply ByteArray.ext
  rw [ByteArray.data_append]
  apply Array.ext'
  simp [bs]

theorem gives_int {P : Program} {op : BinOp} {t : TypeId} {k : IntKind} {a b : Int} {v : Value} (h : evInt op k a b = some v) : Gives P (binOp op t (.int k a) (.int k b)) v := by
  intro w
  cases op <;> simp only [evInt] at h <;> first
    | (injection h with h; subst h; simp [binOp, Op.intArith, Op.intBits, Op.intCmp]; done)
    | (split at h
       · cases h
       · rename_i hb; injection h with h; subst h; have hb' : ¬ b = 0 := by simpa using hb
         simp [binOp, Op.intDiv, hb'])
    | cases h
theorem gives_shift {P : Program} {op : BinOp} {t : TypeId} {k k' : IntKind} {a b : Int} {v : Value} (h : evShift op k a b = some v) : Gives P (binOp op t (.int k a) (.int k' b)) v := by
  intro w
  unfold evShift at h
  split at h
  · cases h
  · rename_i hb
    have hb' : ¬ b < 0 := by simpa using hb
    cases op <;> simp only at h <;> first
      | (injection h with h; subst h; simp [binOp, Op.shift, hb']; done)
      | cases h
theorem gives_str {P : Program} {op : BinOp} {t : TypeId} {a b : ByteArray} {v : Value} (h : evStr op a b = some v) : Gives P (binOp op t (.string a) (.string b)) v := by
  intro w
  cases op <;> simp only [evStr] at h <;> first
    | (injection h with h; subst h; simp [binOp, Op.stringOp, toList_eq]; done)
    | (split at h
       · rename_i hb
         injection h with h; subst h
         have hb := Nat.le_of_ble_eq_true hb
         have h1 : ¬ ((a.size + b.size : Nat) : Int) > IntKind.i64.max := by
           have e1 : a.size = (bs a).length := rfl
           have e2 : b.size = (bs b).length := rfl
           have e3 : IntKind.i64.max = 9223372036854775807 := by simp [IntKind.max, IntKind.signed, IntKind.bits]
           rw [e1, e2, e3]; omega
         simp only [binOp, Op.stringOp]
         rw [if_neg h1, append_eq]; rfl
       · cases h)
    | cases h

/-! ### equality -/
def partL (P : Program) (t : TypeId) (cs : List Value) (off : Nat) : Option Value :=
  match P.underlying t, P.info? t with
  | some (.struct _), some i | some (.array _ _), some i => match sl cs off i.size with
    | some l => some (.agg l.toArray)
    | none => none
  | some _, some _ => cs[off]?
  | _, _ => none

theorem sl_arr {cs : Array Value} {off n : Nat} {l : List Value} (h : sl cs.toList off n = some l) : cs.extract off (off + n) = l.toArray := by
  obtain ⟨h1, h2, _, _⟩ := sl_some h
  apply Array.ext'
  rw [Array.toList_extract]
  simp [h2, List.extract_eq_take_drop]

theorem LR.sl {β : B} {cs cs' l : List Value} {off n : Nat} (h : LR β cs cs') (hs : sl cs off n = some l) : ∃ l', Go.Ev.sl cs' off n = some l' ∧ LR β l l' := by
  obtain ⟨h1, h2, _, _⟩ := sl_some hs
  have hr := (h.drop off).take n
  rw [← h2] at hr
  refine ⟨_, ?_, hr⟩
  unfold Go.Ev.sl
  simp only []
  rw [← hr.length, h1, Nat.beq_refl]

theorem run_underlying' {P : Program} {t : TypeId} {d : TypeDesc} (h : P.underlying t = some d) (w : World) : (underlying t).run P w = .ok d w := by simp [underlying, h]
theorem run_typeInfo' {P : Program} {t : TypeId} {i : TypeInfo} (h : P.info? t = some i) (w : World) : (typeInfo t).run P w = .ok i w := by simp [typeInfo, h]
theorem run_sizeOf' {P : Program} {t : TypeId} {i : TypeInfo} (h : P.info? t = some i) (w : World) : (sizeOf t).run P w = .ok i.size w := by simp [sizeOf, typeInfo, h]
theorem run_zero' {P : Program} {t : TypeId} {i : TypeInfo} {v : Value} (h : P.info? t = some i) (hz : i.zero = some v) (w : World) : (zeroValue t).run P w = .ok v w := by simp [zeroValue, typeInfo, h, hz]

theorem partL_sim {P : Program} {β : B} {t : TypeId} {cs : List Value} {cs' : Array Value} {off : Nat} {v : Value} (h : partL P t cs off = some v) (hl : LR β cs cs'.toList) :
    ∃ v', VR β v v' ∧ Gives P (part t cs' off) v' := by
  unfold partL at h
  split at h
  · rename_i fs i hu hi
    split at h
    · rename_i l hs
      injection h with h; subst h
      obtain ⟨l', hs', hr⟩ := hl.sl hs
      exact ⟨_, .agg_of hr, fun w => by simp [part, isAgg, run_underlying' hu, run_sizeOf' hi, sl_arr hs']⟩
    · cases h
  · rename_i n e i hu hi
    split at h
    · rename_i l hs
      injection h with h; subst h
      obtain ⟨l', hs', hr⟩ := hl.sl hs
      exact ⟨_, .agg_of hr, fun w => by simp [part, isAgg, run_underlying' hu, run_sizeOf' hi, sl_arr hs']⟩
    · cases h
  · rename_i d i hn1 hn2 hu hi
    obtain ⟨v', hv', hr⟩ := hl.get h
    refine ⟨v', hr, fun w => ?_⟩
    have hv'' : cs'[off]? = some v' := by simpa using hv'
    cases d with
    | struct fs => exact (hn1 fs rfl).elim
    | array n e => exact (hn2 n e rfl).elim
    | _ => simp [part, isAgg, run_underlying' hu, hv'']
  · cases h

end Go.Ev
