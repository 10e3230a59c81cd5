/- A proved evaluator, part 6: equality. No condition. -/
import Derived.Test.YtmhfkejbahacoaaGreatDoorKViewHoldsE5
import Derived.Laws.StructEq
import Derived.ChangeKeysEq
import Derived.LaidEqlPtr
noncomputable section
namespace Go.Ev
open Go.RowKit
set_option linter.unusedVariables false
variable [Lk]
set_option linter.unusedSectionVars false

def evEqF (P : Program) (eq : TypeId → Value → Value → Option Bool) (xs ys : List Value) : List Field → Option Bool
  | [] => some true
  | f :: fs => match f.name == "_" with
    | true => evEqF P eq xs ys fs
    | false => match partL P f.type xs f.offset, partL P f.type ys f.offset with
      | some a, some b => match eq f.type a b with
        | some true => evEqF P eq xs ys fs
        | some false => some false
        | none => none
      | _, _ => none
def evEqI (P : Program) (eq : TypeId → Value → Value → Option Bool) (e : TypeId) (n : Nat) (xs ys : List Value) : List Nat → Option Bool
  | [] => some true
  | i :: is => match partL P e xs (i * n), partL P e ys (i * n) with
    | some a, some b => match eq e a b with
      | some true => evEqI P eq e n xs ys is
      | some false => some false
      | none => none
    | _, _ => none
def evEq (P : Program) : Nat → TypeId → Value → Value → Option Bool
  | 0, _, _, _ => none
  | d + 1, t, x, y => match P.underlying t with
    | some .bool => match x, y with
      | .bool a, .bool b => some (a == b)
      | _, _ => none
    | some (.int _) => match x, y with
      | .int k a, .int k' b => match decide (k = k') with
        | true => some (a == b)
        | false => none
      | _, _ => none
    | some .string => match x, y with
      | .string a, .string b => some (bs a == bs b)
      | _, _ => none
    | some (.pointer e) => match x, y with
      | .pointer none, .pointer b => some b.isNone
      | .pointer (some _), .pointer none => some false
      | .pointer (some a), .pointer (some b) => match P.info? e, Nat.beq a.block b.block, Nat.beq a.off b.off with
        | some _, true, true => some true
        | _, _, _ => none
      | _, _ => none
    | some (.slice _) => match x, y with
      | .slice none _ _, .slice b _ _ => some b.isNone
      | .slice (some _) _ _, .slice none _ _ => some false
      | _, _ => none
    | some (.map _ _) => match x, y with
      | .map none, .map b => some b.isNone
      | .map (some _), .map none => some false
      | _, _ => none
    | some (.interface _) => match x, y with
      | .nilIface, .nilIface => some true
      | .nilIface, .iface _ _ => some false
      | .iface _ _, .nilIface => some false
      | .iface tx vx, .iface ty vy => match decide (tx = ty) with
        | false => some false
        | true => match P.info? tx with
          | some i => match i.comparable with
            | true => evEq P d tx vx vy
            | false => none
          | none => none
      | _, _ => none
    | some (.struct fs) => match x, y with
      | .agg xs, .agg ys => match P.stoodInHeld t with
        | true => none
        | false => evEqF P (evEq P d) xs.toList ys.toList fs.toList
      | _, _ => none
    | some (.array n e) => match x, y with
      | .agg xs, .agg ys => match P.info? e with
        | some i => evEqI P (evEq P d) e i.size xs.toList ys.toList (List.range n)
        | none => none
      | _, _ => none
    | _ => none

theorem fieldsOf_of {P : Program} {t : TypeId} {fs : Array Field} (h : P.underlying t = some (.struct fs)) : P.fieldsOf t = fs := by simp [Program.fieldsOf, h]

theorem bs_beq (a b : ByteArray) : (a == b) = (bs a == bs b) := by rw [beq_toListBytes, toList_eq, toList_eq]

theorem evEq_sim {P : Program} {β : B} : ∀ (d : Nat) (t : TypeId) (x y x' y' : Value) (r : Bool), evEq P d t x y = some r → VR β x x' → VR β y y' → ∀ w, (Op.equalIn d t x' y').run P w = .ok r w := by
  intro d
  induction d with
  | zero => intro t x y x' y' r h; simp [evEq] at h
  | succ d ih =>
    intro t x y x' y' r h hx hy w
    unfold evEq at h
    split at h
    · rename_i hu
      split at h <;> first | contradiction | skip
      cases hx; cases hy
      injection h with h; subst h
      simp [Op.equalIn, run_underlying' hu]
    · rename_i k0 hu
      split at h <;> first | contradiction | skip
      cases hx; cases hy
      split at h
      · rename_i hk
        injection h with h; subst h
        have hk := of_decide_eq_true hk
        subst hk
        simp [Op.equalIn, run_underlying' hu]
      · cases h
    · rename_i hu
      split at h <;> first | contradiction | skip
      cases hx; cases hy
      injection h with h; subst h
      simp [Op.equalIn, run_underlying' hu, bs_beq]
    · rename_i e0 hu
      split at h <;> first | contradiction | skip
      · injection h with h; subst h
        cases hx
        cases hy <;> simp [Op.equalIn, run_underlying' hu]
      · injection h with h; subst h
        cases hx; cases hy
        simp [Op.equalIn, run_underlying' hu]
      · rename_i a b
        split at h <;> first | contradiction | skip
        rename_i i hi hb ho
        injection h with h; subst h
        have hb := Nat.eq_of_beq_eq_true hb
        have ho := Nat.eq_of_beq_eq_true ho
        cases hx with | ptr ha =>
        cases hy with | ptr hb' =>
        obtain ⟨bi, p1, p2, rfl⟩ := ha
        obtain ⟨bi', q1, q2, rfl⟩ := hb'
        rw [← hb, p1] at q1; injection q1 with q1; subst q1
        rw [← ho]
        simp [Op.equalIn, run_underlying' hu, sizeOf, typeInfo, hi, run_sameAddr_same]
    · rename_i e0 hu
      split at h <;> first | contradiction | skip
      · injection h with h; subst h
        cases hx
        cases hy <;> simp [Op.equalIn, run_underlying' hu]
      · injection h with h; subst h
        cases hx; cases hy
        simp [Op.equalIn, run_underlying' hu]
    · rename_i k0 e0 hu
      split at h <;> first | contradiction | skip
      · injection h with h; subst h
        cases hx
        cases hy <;> simp [Op.equalIn, run_underlying' hu]
      · injection h with h; subst h
        cases hx; cases hy
        simp [Op.equalIn, run_underlying' hu]
    · rename_i ms hu
      split at h <;> first | contradiction | skip
      · injection h with h; subst h
        cases hx; cases hy
        simp [Op.equalIn, run_underlying' hu]
      · injection h with h; subst h
        cases hx; cases hy
        simp [Op.equalIn, run_underlying' hu]
      · injection h with h; subst h
        cases hx; cases hy
        simp [Op.equalIn, run_underlying' hu]
      · rename_i tx vx ty vy
        cases hx with | iface _ hvx =>
        cases hy with | iface _ hvy =>
        split at h
        · rename_i hne
          injection h with h; subst h
          have hne := of_decide_eq_false hne
          simp [Op.equalIn, run_underlying' hu, hne]
        · rename_i he
          have he := of_decide_eq_true he
          subst he
          split at h
          · rename_i i hi
            split at h
            · rename_i hc
              have := ih tx vx vy _ _ r h hvx hvy w
              simp [Op.equalIn, run_underlying' hu, run_typeInfo' hi, hc, this]
            · cases h
          · cases h
    · rename_i fs hu
      split at h <;> first | contradiction | skip
      rename_i xs ys
      cases hx with | agg hx1 hx2 =>
      cases hy with | agg hy1 hy2 =>
      rename_i xs' ys'
      split at h
      · cases h
      · rename_i hs
        have hlx := LR.of_arr hx1 hx2
        have hly := LR.of_arr hy1 hy2
        rw [run_equalIn_struct w d t xs' ys' (by rw [fieldsOf_of hu]; exact hu) hs, fieldsOf_of hu]
        generalize fs.toList = L at h
        clear hu hs
        induction L with
        | nil => simp only [evEqF] at h; injection h with h; subst h; simp [Op.eqFields]
        | cons f L ihL =>
          unfold evEqF at h
          unfold Op.eqFields
          split at h
          · rename_i hn
            have hn : f.name = "_" := by simpa using hn
            simp only [hn, ne_eq, not_true_eq_false, if_false]
            exact ihL h
          · rename_i hn
            have hn : f.name ≠ "_" := by simpa using hn
            simp only [hn, ne_eq, not_false_eq_true, if_true]
            split at h
            · rename_i a b ha hb
              obtain ⟨a', hra, hga⟩ := partL_sim ha hlx
              obtain ⟨b', hrb, hgb⟩ := partL_sim hb hly
              split at h
              · rename_i he
                have := ih _ _ _ _ _ _ he hra hrb w
                simp only [Sem.run_bind, hga w, hgb w, this, Result.andThen_ok]
                simpa using ihL h
              · rename_i he
                injection h with h; subst h
                have := ih _ _ _ _ _ _ he hra hrb w
                simp [hga w, hgb w, this]
              · cases h
            · cases h
    · rename_i n e hu
      split at h <;> first | contradiction | skip
      rename_i xs ys
      cases hx with | agg hx1 hx2 =>
      cases hy with | agg hy1 hy2 =>
      rename_i xs' ys'
      split at h
      · rename_i i hi
        have hlx := LR.of_arr hx1 hx2
        have hly := LR.of_arr hy1 hy2
        have hce : P.cellsOf e = i.size := by simp [Program.cellsOf, hi]
        rw [run_equalIn_array w d xs' ys' hu hi, hce]
        generalize List.range n = L at h
        clear hu
        induction L with
        | nil => simp only [evEqI] at h; injection h with h; subst h; simp [Op.eqItems]
        | cons j L ihL =>
          unfold evEqI at h
          unfold Op.eqItems
          split at h
          · rename_i a b ha hb
            obtain ⟨a', hra, hga⟩ := partL_sim ha hlx
            obtain ⟨b', hrb, hgb⟩ := partL_sim hb hly
            split at h
            · rename_i he
              have := ih _ _ _ _ _ _ he hra hrb w
              simp only [Sem.run_bind, hga w, hgb w, this, Result.andThen_ok]
              simpa using ihL h
            · rename_i he
              injection h with h; subst h
              have := ih _ _ _ _ _ _ he hra hrb w
              simp [hga w, hgb w, this]
            · cases h
          · cases h
      · cases h
    · cases h

end Go.Ev
