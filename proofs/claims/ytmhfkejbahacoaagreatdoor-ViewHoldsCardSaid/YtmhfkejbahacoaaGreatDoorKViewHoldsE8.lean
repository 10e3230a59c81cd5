/- A proved evaluator, part 8: one operation that does not touch memory. No condition. -/
import Derived.Test.YtmhfkejbahacoaaGreatDoorKViewHoldsE7
noncomputable section
namespace Go.Ev
open Go.RowKit
set_option linter.unusedVariables false
variable [Lk]
set_option linter.unusedSectionVars false

def isConst : Operand → Bool
  | .const _ => true
  | _ => false
def eqOk (P : Program) (t : TypeId) (cst : Bool) (x y : Value) : Bool :=
  match x, y with
  | .nilIface, .nilIface => cst
  | .chan _, _ => false
  | _, .chan _ => false
  | .agg _, .agg _ => !(P.eqGuardType P.depth t)
  | _, _ => true
def evBin (P : Program) (op : BinOp) (t : TypeId) (cst : Bool) (x y : Value) : Option Value :=
  match x, y with
  | .int k a, .int k' b => match op with
    | .shl => evShift .shl k a b
    | .shr => evShift .shr k a b
    | op => match decide (k = k') with
      | true => evInt op k a b
      | false => none
  | .string a, .string b => evStr op a b
  | x, y => match eqOk P t cst x y with
    | false => none
    | true => match op with
      | .eql => match evEq P 10000 t x y with
        | some r => some (.bool r)
        | none => none
      | .neq => match evEq P 10000 t x y with
        | some r => some (.bool (!r))
        | none => none
      | _ => none

theorem eqOk_chan {P : Program} {t : TypeId} {cst : Bool} {x y : Value} (h : eqOk P t cst x y = true) : x ≠ .chan none ∧ y ≠ .chan none := by
  constructor <;> rintro rfl
  · cases y <;> simp [eqOk] at h
  · cases x <;> simp [eqOk] at h
theorem eqGuard_ok {P : Program} {β : B} {op : BinOp} {t : TypeId} {ox oy : Operand} {x y x' y' : Value} (h : eqOk P t (isConst ox || isConst oy) x y = true) (hx : VR β x x') (hy : VR β y y') (w : World) :
    (eqGuard op t ox oy x' y').run P w = .ok () w := by
  unfold eqGuard
  cases op <;> simp only [Bool.not_true, Bool.not_false, Bool.false_eq_true, if_false, if_true, Sem.run_pure] <;>
  · cases hx <;> cases hy <;> first
      | rfl
      | (simp only [eqOk] at h
         cases ox <;> cases oy <;> simp_all [isConst])
      | (simp only [eqOk, Bool.not_eq_true'] at h
         simp [h])

theorem binOp_eql {P : Program} {t : TypeId} {β : B} {x y x' y' : Value} (hx : VR β x x') (hy : VR β y y') (h1 : ∀ k a k' b, x = .int k a → y = .int k' b → False) (h2 : ∀ a b, x = .string a → y = .string b → False) (h3 : x ≠ .chan none) (h4 : y ≠ .chan none) (w : World) :
    (binOp .eql t x' y').run P w = ((Op.equal t x' y').run P w).andThen fun r w' => .ok (.bool r) w' := by
  cases hx <;> cases hy <;> first
    | exact (h1 _ _ _ _ rfl rfl).elim
    | exact (h2 _ _ rfl rfl).elim
    | exact (h3 rfl).elim
    | exact (h4 rfl).elim
    | (simp only [binOp, Sem.run_bind, Sem.run_pure]; done)
    | (simp [binOp]; done)
theorem binOp_neq {P : Program} {t : TypeId} {β : B} {x y x' y' : Value} (hx : VR β x x') (hy : VR β y y') (h1 : ∀ k a k' b, x = .int k a → y = .int k' b → False) (h2 : ∀ a b, x = .string a → y = .string b → False) (h3 : x ≠ .chan none) (h4 : y ≠ .chan none) (w : World) :
    (binOp .neq t x' y').run P w = ((Op.equal t x' y').run P w).andThen fun r w' => .ok (.bool (!r)) w' := by
  cases hx <;> cases hy <;> first
    | exact (h1 _ _ _ _ rfl rfl).elim
    | exact (h2 _ _ rfl rfl).elim
    | exact (h3 rfl).elim
    | exact (h4 rfl).elim
    | (simp only [binOp, Sem.run_bind, Sem.run_pure]; done)
    | (simp [binOp]; done)

theorem bin_sim {P : Program} {β : B} {op : BinOp} {t : TypeId} {ox oy : Operand} {x y x' y' v : Value} (h : evBin P op t (isConst ox || isConst oy) x y = some v) (hx : VR β x x') (hy : VR β y y') :
    ∃ v', VR β v v' ∧ Gives P (do eqGuard op t ox oy x' y'; binOp op t x' y') v' := by
  have key : ∀ {v'}, eqOk P t (isConst ox || isConst oy) x y = true → Gives P (binOp op t x' y') v' → Gives P (do eqGuard op t ox oy x' y'; binOp op t x' y') v' := by
    intro v' hok hg w
    simp only [Sem.run_bind, eqGuard_ok hok hx hy w, Result.andThen_ok]
    exact hg w
  unfold evBin at h
  split at h
  · rename_i k a k' b
    cases hx; cases hy
    split at h
    · exact ⟨v, by unfold evShift at h; split at h <;> simp at h; subst h; exact .int _ _, key rfl (gives_shift h)⟩
    · exact ⟨v, by unfold evShift at h; split at h <;> simp at h; subst h; exact .int _ _, key rfl (gives_shift h)⟩
    · split at h
      · rename_i hk
        have hk := of_decide_eq_true hk
        subst hk
        refine ⟨v, ?_, key rfl (gives_int h)⟩
        unfold evInt at h
        split at h <;> first | contradiction | (injection h with h; subst h; first | exact .int _ _ | exact .bool _) | (split at h <;> first | contradiction | (injection h with h; subst h; exact .int _ _))
      · cases h
  · rename_i a b
    cases hx; cases hy
    refine ⟨v, ?_, key rfl (gives_str h)⟩
    unfold evStr at h
    split at h <;> first | contradiction | (injection h with h; subst h; exact .bool _) | (split at h <;> first | contradiction | (injection h with h; subst h; exact .string _))
  · rename_i h1 h2
    split at h
    · cases h
    · rename_i hok
      split at h
      · split at h
        · rename_i r hr
          injection h with h; subst h
          refine ⟨_, .bool r, key hok fun w => ?_⟩
          rw [binOp_eql hx hy (fun k a k' b e1 e2 => h1 k a k' b e1 e2) (fun a b e1 e2 => h2 a b e1 e2) (eqOk_chan hok).1 (eqOk_chan hok).2, Op.equal, evEq_sim Op.maxDepth t x y x' y' r hr hx hy w, Result.andThen_ok]
        · cases h
      · split at h
        · rename_i r hr
          injection h with h; subst h
          refine ⟨_, .bool (!r), key hok fun w => ?_⟩
          rw [binOp_neq hx hy (fun k a k' b e1 e2 => h1 k a k' b e1 e2) (fun a b e1 e2 => h2 a b e1 e2) (eqOk_chan hok).1 (eqOk_chan hok).2, Op.equal, evEq_sim Op.maxDepth t x y x' y' r hr hx hy w, Result.andThen_ok]
        · cases h
      · cases h

def evUn (op : UnOp) (x : Value) : Option Value :=
  match op, x with
  | .neg, .int k n => evInt .sub k 0 n
  | .xor, .int k n => evInt .xor k (if k.signed then -1 else k.max) n
  | .not, .bool b => some (.bool (!b))
  | _, _ => none
theorem un_sim {P : Program} {β : B} {op : UnOp} {x x' v : Value} (h : evUn op x = some v) (hx : VR β x x') : ∃ v', VR β v v' ∧ Gives P (Op.unary op x') v' := by
  unfold evUn at h
  split at h
  · cases hx; simp only [evInt] at h; injection h with h; subst h
    exact ⟨_, .int _ _, fun w => by simp [Op.unary, Op.intArith]⟩
  · cases hx; simp only [evInt] at h; injection h with h; subst h
    exact ⟨_, .int _ _, fun w => by simp [Op.unary, Op.intBits]⟩
  · cases hx; injection h with h; subst h
    exact ⟨_, .bool _, fun w => by simp [Op.unary]⟩
  · cases h

def evConv (P : Program) (src dst : TypeId) (x : Value) : Option Value :=
  match P.underlying src, P.underlying dst with
  | some _, some (.int k) => match x with
    | .int _ n => some (.int k (k.wrap n))
    | _ => none
  | some _, some .string => match x with
    | .string s => some (.string s)
    | _ => none
  | _, _ => none
theorem conv_sim {P : Program} {β : B} {src dst : TypeId} {x x' v : Value} (h : evConv P src dst x = some v) (hx : VR β x x') : ∃ v', VR β v v' ∧ Gives P (convert src dst x') v' := by
  unfold evConv at h
  split at h
  · rename_i d k h1 h2
    split at h
    · cases hx; injection h with h; subst h
      exact ⟨_, .int _ _, fun w => by simp [convert, run_underlying' h1, run_underlying' h2, Conv.intToInt]⟩
    · cases h
  · rename_i d h1 h2
    split at h
    · cases hx; injection h with h; subst h
      exact ⟨_, .string _, fun w => by simp [convert, run_underlying' h1, run_underlying' h2]⟩
    · cases h
  · cases h

def evField (P : Program) (t : TypeId) (x : Value) (f : Nat) : Option Value :=
  match P.underlying t, x with
  | some (.struct fs), .agg cs => match fs[f]? with
    | some fd => partL P fd.type cs.toList fd.offset
    | none => none
  | _, _ => none
theorem field_sim {P : Program} {β : B} {t : TypeId} {x x' v : Value} {f : Nat} (h : evField P t x f = some v) (hx : VR β x x') : ∃ v', VR β v v' ∧ Gives P (Instr.field t x' f) v' := by
  unfold evField at h
  split at h
  · rename_i fs cs hu
    cases hx with | agg h1 h2 =>
    split at h
    · rename_i fd hf
      obtain ⟨v', hr, hg⟩ := partL_sim h (LR.of_arr h1 h2)
      exact ⟨v', hr, fun w => by simp [Instr.field, run_underlying' hu, hf, asAgg, hg w]⟩
    · cases h
  · cases h

def evIndex (P : Program) (t : TypeId) (x ix : Value) : Option Value :=
  match P.underlying t, x, ix with
  | some (.array n e), .agg cs, .int _ (.ofNat i) => match Nat.blt i n, P.info? e with
    | true, some j => partL P e cs.toList (i * j.size)
    | _, _ => none
  | some .string, .string s, .int _ (.ofNat i) => match (bs s)[i]? with
    | some b => some (.int .u8 b.toNat)
    | none => none
  | _, _, _ => none
theorem index_sim {P : Program} {β : B} {t : TypeId} {x x' ix ix' v : Value} (h : evIndex P t x ix = some v) (hx : VR β x x') (hi : VR β ix ix') : ∃ v', VR β v v' ∧ Gives P (Instr.index t x' ix') v' := by
  unfold evIndex at h
  split at h
  · rename_i n e cs k i hu
    cases hi
    cases hx with | agg h1 h2 =>
    split at h
    · rename_i j hlt hj
      have hlt : i < n := by simpa [Nat.blt_eq] using hlt
      obtain ⟨v', hr, hg⟩ := partL_sim h (LR.of_arr h1 h2)
      refine ⟨v', hr, fun w => ?_⟩
      have hin : (0 : Int) ≤ Int.ofNat i ∧ Int.ofNat i < (n : Int) := ⟨Int.natCast_nonneg _, by simpa using hlt⟩
      simp only [Instr.index, asIntOf, Sem.run_bind, Sem.run_pure, Result.andThen_ok, run_underlying' hu, if_pos hin, run_sizeOf' hj]
      simpa using hg w
    · cases h
  · rename_i s k i hu
    cases hi
    cases hx
    split at h
    · rename_i b hb
      injection h with h; subst h
      refine ⟨_, .int _ _, fun w => ?_⟩
      have hlt : i < s.size := by
        rcases Nat.lt_or_ge i (bs s).length with g | g
        · exact g
        · rw [List.getElem?_eq_none g] at hb; cases hb
      have h3 : (if (0 : Int) ≤ Int.ofNat i then s[(Int.ofNat i).toNat]? else none) = some b := by
        rw [if_pos (show (0 : Int) ≤ Int.ofNat i from Int.natCast_nonneg _)]
        have e : (Int.ofNat i).toNat = i := rfl
        rw [e, ByteArray.getElem?_lt' s i hlt]
        have : (bs s)[i]? = some s[i] := by
          show s.data.toList[i]? = some s[i]
          rw [List.getElem?_eq_getElem (by simpa using hlt)]
          rfl
        rw [this] at hb; exact hb
      simp only [Instr.index, asIntOf, Sem.run_bind, Sem.run_pure, Result.andThen_ok, run_underlying' hu, h3]
    · cases h
  · cases h

end Go.Ev
