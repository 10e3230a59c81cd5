/- A proved evaluator, part 9: addresses, pieces of texts, lengths; one operation that does not touch memory. No condition. -/
import Derived.Test.YtmhfkejbahacoaaGreatDoorKViewHoldsE8
noncomputable section
namespace Go.Ev
open Go.RowKit
set_option linter.unusedVariables false
variable [Lk]
set_option linter.unusedSectionVars false

theorem AR.add {β : B} {a a' : Addr} (h : AR β a a') (n : Nat) : AR β ⟨a.block, a.off + n, none⟩ (a'.add n) := by
  obtain ⟨bi, h1, h2, rfl⟩ := h
  exact ⟨bi, h1, rfl, by rw [addr_add]; simp; omega⟩

def evFieldAddr (P : Program) (t : TypeId) (x : Value) (f : Nat) : Option Value :=
  match P.underlying t, x with
  | some (.struct fs), .pointer (some a) => match fs[f]? with
    | some fd => match P.info? fd.type with
      | some i => match i.size with
        | 0 => none
        | _ + 1 => some (.pointer (some ⟨a.block, a.off + fd.offset, none⟩))
      | none => none
    | none => none
  | _, _ => none
theorem fieldAddr_sim {P : Program} {β : B} {t : TypeId} {x x' v : Value} {f : Nat} (h : evFieldAddr P t x f = some v) (hx : VR β x x') : ∃ v', VR β v v' ∧ Gives P (Instr.fieldAt t x' f) v' := by
  unfold evFieldAddr at h
  split at h <;> first | contradiction | skip
  rename_i fs a hu
  cases hx with | ptr ha =>
  split at h <;> first | contradiction | skip
  rename_i fd hf
  split at h <;> first | contradiction | skip
  rename_i i hi
  split at h <;> first | contradiction | skip
  rename_i m hm
  injection h with h; subst h
  refine ⟨_, .ptr (ha.add fd.offset), fun w => ?_⟩
  have hz : ¬ i.size = 0 := by omega
  simp [Instr.fieldAt, run_underlying' hu, hf, Instr.sureAddr, fieldPlace, run_sizeOf' hi, hz]

def evIndexAddr (P : Program) (t : TypeId) (x ix : Value) : Option Value :=
  match P.underlying t, x, ix with
  | some (.slice e), .slice (some a) n _, .int _ (.ofNat i) => match Nat.blt i n, P.info? e with
    | true, some j => some (.pointer (some ⟨a.block, a.off + i * j.size, none⟩))
    | _, _ => none
  | some (.array n e), .pointer (some a), .int _ (.ofNat i) => match Nat.blt i n, P.info? e with
    | true, some j => some (.pointer (some ⟨a.block, a.off + i * j.size, none⟩))
    | _, _ => none
  | _, _, _ => none
theorem indexAddr_sim {P : Program} {β : B} {t : TypeId} {x x' ix ix' v : Value} (h : evIndexAddr P t x ix = some v) (hx : VR β x x') (hi : VR β ix ix') : ∃ v', VR β v v' ∧ Gives P (Instr.indexAt t x' ix') v' := by
  unfold evIndexAddr at h
  split at h
  · rename_i e a n c k i hu
    cases hi
    cases hx with | slice hn hs =>
    rename_i a' c'
    split at h <;> first | contradiction | skip
    rename_i j hlt hj
    have hlt : i < n := by simpa [Nat.blt_eq] using hlt
    injection h with h; subst h
    obtain ⟨bi, s1, s2, s3, s4, s5, s6, s7⟩ := hs
    have hoff : a'.off = a.off + bi.sh := by rcases s5 with g | g <;> omega
    have ha : AR β a a' := ⟨bi, s1, s2, by cases a'; simp_all⟩
    refine ⟨_, .ptr (ha.add (i * j.size)), fun w => ?_⟩
    have hin : (0 : Int) ≤ Int.ofNat i ∧ Int.ofNat i < (n : Int) := ⟨Int.natCast_nonneg _, by simpa using hlt⟩
    simp only [Instr.indexAt, asIntOf, Sem.run_bind, Sem.run_pure, Result.andThen_ok, run_underlying' hu, if_pos hin, run_sizeOf' hj]
    rfl
  · rename_i n e a k i hu
    cases hi
    cases hx with | ptr ha =>
    split at h <;> first | contradiction | skip
    rename_i j hlt hj
    have hlt : i < n := by simpa [Nat.blt_eq] using hlt
    injection h with h; subst h
    refine ⟨_, .ptr (ha.add (i * j.size)), fun w => ?_⟩
    have hin : (0 : Int) ≤ Int.ofNat i ∧ Int.ofNat i < (n : Int) := ⟨Int.natCast_nonneg _, by simpa using hlt⟩
    simp only [Instr.indexAt, asIntOf, Instr.sureAddr, Sem.run_bind, Sem.run_pure, Result.andThen_ok, run_underlying' hu, if_pos hin, run_sizeOf' hj]
    rfl
  · cases h

/-- A bound of a piece: at most y. -/
def bnd (x : Value) (y : Nat) : Option Nat :=
  match x with
  | .int _ (.ofNat i) => match Nat.ble i y with
    | true => some i
    | false => none
  | _ => none
theorem bnd_sim {P : Program} {β : B} {x x' : Value} {y i : Nat} (h : bnd x y = some i) (hx : VR β x x') : i ≤ y ∧ ∀ (y' : Nat) (code : BoundsCode) (w : World), y ≤ y' → (Instr.sliceBound x' y' code).run P w = .ok i w := by
  unfold bnd at h
  split at h <;> first | contradiction | skip
  rename_i k j
  split at h <;> first | contradiction | skip
  rename_i hj
  injection h with h; subst h
  have hj := Nat.le_of_ble_eq_true hj
  cases hx
  refine ⟨hj, fun y' code w hy => ?_⟩
  have h1 : (0 : Int) ≤ Int.ofNat j := Int.natCast_nonneg _
  have h2 : Int.ofNat j ≤ (y' : Int) := Int.ofNat_le.2 (Nat.le_trans hj hy)
  simp only [Instr.sliceBound, asIntOf, Sem.run_bind, Sem.run_pure, Result.andThen_ok, if_pos (And.intro h1 h2)]
  rfl
/-- Bounds of a piece: (low, high, max). 'o': operands' values. -/
def bnds (len cap : Nat) (lo hi mx : Option Value) : Option (Nat × Nat × Nat) :=
  match (match mx with
    | some v => bnd v cap
    | none => some cap) with
  | none => none
  | some m => match (match hi, mx with
      | some v, _ => bnd v m
      | none, none => some len
      | none, some _ => none) with
    | none => none
    | some h => match (match lo with
        | some v => bnd v h
        | none => some 0) with
      | none => none
      | some l => some (l, h, m)

/-- Optional values. -/
inductive OV (β : B) : Option Value → Option Value → Prop
  | none : OV β none none
  | some {v v' : Value} (h : VR β v v') : OV β (some v) (some v')

theorem bnds_sim {P : Program} {β : B} {isS : Bool} {len cap cap' : Nat} {lo hi mx lo' hi' mx' : Option Value} {l h m : Nat} (hb : bnds len cap lo hi mx = some (l, h, m)) (h1 : OV β lo lo') (h2 : OV β hi hi') (h3 : OV β mx mx')
    (hlen : len ≤ cap) (hc : cap ≤ cap') : ∃ m', m ≤ m' ∧ l ≤ h ∧ h ≤ m ∧ m' ≤ cap' ∧ ∀ w, (Instr.sliceBounds isS len cap' lo' hi' mx').run P w = .ok (l, h, m') w := by
  unfold bnds at hb
  split at hb <;> first | contradiction | skip
  rename_i m0 hm
  split at hb <;> first | contradiction | skip
  rename_i h0 hh
  split at hb <;> first | contradiction | skip
  rename_i l0 hl
  injection hb with hb; injection hb with e1 e2; injection e2 with e2 e3; subst e1 e2 e3
  cases h3 with
  | none =>
    simp only at hm; injection hm with hm; subst hm
    cases h2 with
    | none =>
      simp only at hh; injection hh with hh; subst hh
      cases h1 with
      | none =>
        simp only at hl; injection hl with hl; subst hl
        exact ⟨cap', hc, Nat.zero_le _, hlen, Nat.le_refl _, fun w => by simp only [Instr.sliceBounds, Sem.run_bind, Sem.run_pure, Result.andThen_ok]⟩
      | some hv =>
        obtain ⟨g1, r1⟩ := bnd_sim (P := P) hl hv
        exact ⟨cap', hc, g1, hlen, Nat.le_refl _, fun w => by simp only [Instr.sliceBounds, Sem.run_bind, Sem.run_pure, Result.andThen_ok, r1 _ _ w (Nat.le_refl _)]⟩
    | some hv2 =>
      obtain ⟨g2, r2⟩ := bnd_sim (P := P) hh hv2
      cases h1 with
      | none =>
        simp only at hl; injection hl with hl; subst hl
        exact ⟨cap', hc, Nat.zero_le _, g2, Nat.le_refl _, fun w => by simp only [Instr.sliceBounds, Sem.run_bind, Sem.run_pure, Result.andThen_ok, r2 _ _ w hc]⟩
      | some hv =>
        obtain ⟨g1, r1⟩ := bnd_sim (P := P) hl hv
        exact ⟨cap', hc, g1, g2, Nat.le_refl _, fun w => by simp only [Instr.sliceBounds, Sem.run_bind, Sem.run_pure, Result.andThen_ok, r2 _ _ w hc, r1 _ _ w (Nat.le_refl _)]⟩
  | some hvm =>
    obtain ⟨g0, r0⟩ := bnd_sim (P := P) hm hvm
    cases h2 with
    | none => simp at hh
    | some hv2 =>
      obtain ⟨g2, r2⟩ := bnd_sim (P := P) hh hv2
      cases h1 with
      | none =>
        simp only at hl; injection hl with hl; subst hl
        exact ⟨m0, Nat.le_refl _, Nat.zero_le _, g2, by omega, fun w => by simp only [Instr.sliceBounds, Sem.run_bind, Sem.run_pure, Result.andThen_ok, r0 _ _ w hc, r2 _ _ w (Nat.le_refl _)]⟩
      | some hv =>
        obtain ⟨g1, r1⟩ := bnd_sim (P := P) hl hv
        exact ⟨m0, Nat.le_refl _, g1, g2, by omega, fun w => by simp only [Instr.sliceBounds, Sem.run_bind, Sem.run_pure, Result.andThen_ok, r0 _ _ w hc, r2 _ _ w (Nat.le_refl _), r1 _ _ w (Nat.le_refl _)]⟩

def evSliceStr (P : Program) (t : TypeId) (x : Value) (lo hi : Option Value) : Option Value :=
  match P.underlying t, x with
  | some .string, .string s => match bnds (bs s).length (bs s).length lo hi none with
    | some (l, h, _) => some (.string ⟨(((bs s).drop l).take (h - l)).toArray⟩)
    | none => none
  | _, _ => none
theorem extract_eq (s : ByteArray) (l h : Nat) : s.extract l h = ⟨(((bs s).drop l).take (h - l)).toArray⟩ := by
  apply ByteArray.ext
  rw [ByteArray.data_extract]
  apply Array.ext'
  simp [bs, List.extract_eq_take_drop]
theorem sliceStr_sim {P : Program} {β : B} {t : TypeId} {x x' v : Value} {lo hi lo' hi' : Option Value} (h : evSliceStr P t x lo hi = some v) (hx : VR β x x') (h1 : OV β lo lo') (h2 : OV β hi hi') :
    ∃ v', VR β v v' ∧ Gives P (Instr.sliceAt t x' lo' hi' none) v' := by
  unfold evSliceStr at h
  split at h <;> first | contradiction | skip
  rename_i s hu
  cases hx
  split at h <;> first | contradiction | skip
  rename_i l h0 m hb
  injection h with h; subst h
  obtain ⟨m', q1, q2, q3, q4, q5⟩ := bnds_sim (P := P) (isS := false) hb h1 h2 .none (Nat.le_refl _) (Nat.le_refl _)
  refine ⟨_, .string _, fun w => ?_⟩
  have hsz : s.size = (bs s).length := rfl
  have := q5 w
  simp only [Instr.sliceAt, Instr.slice, Sem.run_bind, Sem.run_pure, Result.andThen_ok, run_underlying' hu, Option.isSome_none, Bool.false_eq_true, if_false, hsz, this, extract_eq]

def evLen (P : Program) (t : TypeId) (x : Value) : Option Value :=
  match P.underlying t, x with
  | some .string, .string s => some (.int .i64 ((bs s).length : Nat))
  | some (.slice _), .slice _ n _ => some (.int .i64 (n : Nat))
  | some (.array n _), _ => some (.int .i64 (n : Nat))
  | _, _ => none
theorem len_sim {P : Program} {β : B} {t ty : TypeId} {ts : Array TypeId} {x x' v : Value} {xs : Array Value} (h : evLen P t x = some v) (hx : VR β x x') (ht : ts[0]? = some t) (hxs : xs[0]? = some x') : ∃ v', VR β v v' ∧ Gives P (Builtin.len_ ts ty xs) v' := by
  unfold evLen at h
  split at h <;> first | contradiction | skip
  · rename_i s hu
    cases hx; injection h with h; subst h
    refine ⟨_, .int _ _, fun w => ?_⟩
    simp only [Builtin.len_, ht, hxs, Sem.run_bind, Result.andThen_ok, run_underlying' hu, Sem.run_pure]
    rfl
  · rename_i e a n c hu
    injection h with h; subst h
    refine ⟨_, .int _ _, fun w => ?_⟩
    cases hx <;> simp only [Builtin.len_, ht, hxs, Sem.run_bind, Result.andThen_ok, run_underlying' hu, Sem.run_pure] <;> rfl
  · rename_i n e hu
    injection h with h; subst h
    refine ⟨_, .int _ _, fun w => ?_⟩
    simp only [Builtin.len_, ht, hxs, Sem.run_bind, Result.andThen_ok, run_underlying' hu, Sem.run_pure]
    rfl

def evMM (isMax : Bool) : Value → List Value → Option Value
  | x, [] => some x
  | .int k a, .int _ b :: r => evMM isMax (.int k (match isMax with
      | true => if b > a then b else a
      | false => if b < a then b else a)) r
  | _, _ => none
theorem max_sim {P : Program} {β : B} : ∀ (r r' : List Value) (x x' v : Value), evMM true x r = some v → VR β x x' → LR β r r' → ∃ v', VR β v v' ∧ ∀ w, (r'.foldlM Builtin.max2 x').run P w = .ok v' w
  | [], r', x, x', v, h, hx, hr => by
    cases hr; simp only [evMM] at h; injection h with h; subst h; exact ⟨x', hx, fun w => by simp⟩
  | y :: r, r', x, x', v, h, hx, hr => by
    cases hr with | cons hy ht =>
    cases x <;> cases y <;> simp only [evMM] at h <;> first | contradiction | skip
    cases hx; cases hy
    obtain ⟨v', h1, h2⟩ := max_sim r _ _ _ v h (.int _ _) ht
    exact ⟨v', h1, fun w => by simp only [List.foldlM_cons, Builtin.max2, Sem.run_bind, Sem.run_pure, Result.andThen_ok]; exact h2 w⟩
theorem min_sim {P : Program} {β : B} : ∀ (r r' : List Value) (x x' v : Value), evMM false x r = some v → VR β x x' → LR β r r' → ∃ v', VR β v v' ∧ ∀ w, (r'.foldlM Builtin.min2 x').run P w = .ok v' w
  | [], r', x, x', v, h, hx, hr => by
    cases hr; simp only [evMM] at h; injection h with h; subst h; exact ⟨x', hx, fun w => by simp⟩
  | y :: r, r', x, x', v, h, hx, hr => by
    cases hr with | cons hy ht =>
    cases x <;> cases y <;> simp only [evMM] at h <;> first | contradiction | skip
    cases hx; cases hy
    obtain ⟨v', h1, h2⟩ := min_sim r _ _ _ v h (.int _ _) ht
    exact ⟨v', h1, fun w => by simp only [List.foldlM_cons, Builtin.min2, Sem.run_bind, Sem.run_pure, Result.andThen_ok]; exact h2 w⟩

def opo (ρ : Operand → Option Value) : Option Operand → Option (Option Value)
  | none => some none
  | some x => match ρ x with
    | some v => some (some v)
    | none => none
theorem opo_sim {β : B} {ρ : Operand → Option Value} {ρ' : Operand → Value} (hρ : OR β ρ ρ') {x : Option Operand} {v : Option Value} (h : opo ρ x = some v) : OV β v (x.map ρ') := by
  unfold opo at h
  split at h
  · injection h with h; subst h; exact .none
  · rename_i x
    split at h
    · rename_i v0 hv; injection h with h; subst h; exact .some (hρ _ _ hv)
    · cases h

/-- One operation that does not touch memory. -/
def evPure (P : Program) (ρ : Operand → Option Value) (o : Op) : Option Value :=
  match o with
  | .move x => ρ x
  | .assign x => ρ x
  | .pick c a b => match ρ c with
    | some (.bool true) => ρ a
    | some (.bool false) => ρ b
    | _ => none
  | .build t parts => match opps ρ parts.toList with
    | some ps => evBuild P t ps
    | none => none
  | .nilCheck x => match ρ x with
    | some (.pointer (some a)) => some (.pointer (some a))
    | some (.func (.func f) us vs) => some (.func (.func f) us vs)
    | _ => none
  | .binOp op t x y _ => match ρ x, ρ y with
    | some a, some b => evBin P op t (isConst x || isConst y) a b
    | _, _ => none
  | .unOp op _ x => match ρ x with
    | some a => evUn op a
    | none => none
  | .convert src dst x => match ρ x with
    | some a => evConv P src dst a
    | none => none
  | .makeInterface t x => match P.underlying t with
    | some (.interface _) => none
    | some _ => match ρ x with
      | some a => some (.iface t a)
      | none => none
    | none => none
  | .makeFunc fn first caps => match opvs ρ first.toList, opvs ρ caps.toList with
    | some a, some b => some (.func fn a.toArray b.toArray)
    | _, _ => none
  | .fieldAddr t x f => match ρ x with
    | some a => evFieldAddr P t a f
    | none => none
  | .field t x f => match ρ x with
    | some a => evField P t a f
    | none => none
  | .indexAddr t x ix => match ρ x, ρ ix with
    | some a, some b => evIndexAddr P t a b
    | _, _ => none
  | .index t x ix => match ρ x, ρ ix with
    | some a, some b => evIndex P t a b
    | _, _ => none
  | .slice t x lo hi none => match ρ x, opo ρ lo, opo ρ hi with
    | some a, some b, some c => evSliceStr P t a b c
    | _, _, _ => none
  | .extract x i => match ρ x with
    | some (.tuple vs) => vs[i]?
    | _ => none
  | .call { callee := .builtin .len, args, argTypes } => match opvs ρ args.toList, argTypes[0]? with
    | some (x :: _), some t => evLen P t x
    | _, _ => none
  | .call { callee := .builtin .max, args, .. } => match opvs ρ args.toList with
    | some (x :: r) => evMM true x r
    | _ => none
  | .call { callee := .builtin .min, args, .. } => match opvs ρ args.toList with
    | some (x :: r) => evMM false x r
    | _ => none
  | _ => none

/-- 'o' yields v, whatever the world. -/
def Yields1 (P : Program) (ρ' : Operand → Value) (o : Oper) (v : Value) : Prop := ∀ w, (execOp ρ' o).run P w = .ok (.value v) w
theorem yields_of {P : Program} {ρ' : Operand → Value} {o : Oper} {m : Sem Value} {v : Value} (h : execOp ρ' o = (do pure (.value (← m)))) (hg : Gives P m v) : Yields1 P ρ' o v := fun w => by
  rw [h]; simp only [Sem.run_bind, hg w, Result.andThen_ok, Sem.run_pure]

theorem pure_sim {P : Program} {β : B} {ρ : Operand → Option Value} {ρ' : Operand → Value} (hρ : OR β ρ ρ') {o : Oper} {v : Value} (h : evPure P ρ o.op = some v) : ∃ v', VR β v v' ∧ Yields1 P ρ' o v' := by
  obtain ⟨dst, op, type, pos, after, guard⟩ := o
  change evPure P ρ op = some v at h
  unfold evPure at h
  split at h
  · exact ⟨_, hρ _ _ h, fun w => rfl⟩
  · exact ⟨_, hρ _ _ h, fun w => rfl⟩
  · rename_i c a b
    split at h
    · rename_i hc
      have := hρ _ _ hc
      generalize hcc : ρ' c = cc at this
      cases this
      exact ⟨_, hρ _ _ h, fun w => by simp [execOp, hcc, asBool]⟩
    · rename_i hc
      have := hρ _ _ hc
      generalize hcc : ρ' c = cc at this
      cases this
      exact ⟨_, hρ _ _ h, fun w => by simp [execOp, hcc, asBool]⟩
    · cases h
  · rename_i t parts
    split at h
    · rename_i ps hps
      have := opps_sim hρ hps
      obtain ⟨v', h1, h2⟩ := build_sim (P := P) (parts' := parts.map fun (i, x) => (i, ρ' x)) h (by simpa using this)
      exact ⟨v', h1, yields_of rfl h2⟩
    · cases h
  · rename_i x
    split at h
    · rename_i a hx
      injection h with h; subst h
      have := hρ _ _ hx
      generalize hcc : ρ' x = cc at this
      cases this with | ptr ha =>
      exact ⟨_, .ptr ha, fun w => by simp [execOp, hcc]⟩
    · rename_i f us vs hx
      injection h with h; subst h
      have := hρ _ _ hx
      generalize hcc : ρ' x = cc at this
      cases this with | func _ h1 h2 h3 h4 =>
      exact ⟨_, .func _ h1 h2 h3 h4, fun w => by simp [execOp, hcc]⟩
    · cases h
  · rename_i op0 t x y yt
    split at h
    · rename_i a b ha hb
      obtain ⟨v', h1, h2⟩ := bin_sim (P := P) h (hρ _ _ ha) (hρ _ _ hb)
      exact ⟨v', h1, yields_of rfl h2⟩
    · cases h
  · rename_i op0 t x
    split at h
    · rename_i a ha
      obtain ⟨v', h1, h2⟩ := un_sim (P := P) h (hρ _ _ ha)
      exact ⟨v', h1, yields_of rfl h2⟩
    · cases h
  · rename_i src dst0 x
    split at h
    · rename_i a ha
      obtain ⟨v', h1, h2⟩ := conv_sim (P := P) h (hρ _ _ ha)
      exact ⟨v', h1, yields_of rfl h2⟩
    · cases h
  · rename_i t x
    split at h <;> first | contradiction | skip
    rename_i d hu hd
    split at h <;> first | contradiction | skip
    rename_i a ha
    injection h with h; subst h
    refine ⟨_, .iface t (hρ _ _ ha), yields_of rfl fun w => ?_⟩
    cases d with
    | interface ms => exact (hu ms rfl).elim
    | _ => simp [Instr.makeInterface, run_underlying' hd]
  · rename_i fn first caps
    split at h
    · rename_i a b ha hb
      injection h with h; subst h
      have la := (opvs_sim hρ ha).arr
      have lb := (opvs_sim hρ hb).arr
      refine ⟨.func fn (first.toList.map ρ').toArray (caps.toList.map ρ').toArray, .func fn la.1 la.2 lb.1 lb.2, yields_of rfl fun w => ?_⟩
      simp only [Instr.makeFunc, Sem.run_pure]
      congr 2 <;> (apply Array.ext'; simp)
    · cases h
  · rename_i t x f
    split at h
    · rename_i a ha
      obtain ⟨v', h1, h2⟩ := fieldAddr_sim (P := P) h (hρ _ _ ha)
      exact ⟨v', h1, yields_of rfl h2⟩
    · cases h
  · rename_i t x f
    split at h
    · rename_i a ha
      obtain ⟨v', h1, h2⟩ := field_sim (P := P) h (hρ _ _ ha)
      exact ⟨v', h1, yields_of rfl h2⟩
    · cases h
  · rename_i t x ix
    split at h
    · rename_i a b ha hb
      obtain ⟨v', h1, h2⟩ := indexAddr_sim (P := P) h (hρ _ _ ha) (hρ _ _ hb)
      exact ⟨v', h1, yields_of rfl h2⟩
    · cases h
  · rename_i t x ix
    split at h
    · rename_i a b ha hb
      obtain ⟨v', h1, h2⟩ := index_sim (P := P) h (hρ _ _ ha) (hρ _ _ hb)
      exact ⟨v', h1, yields_of rfl h2⟩
    · cases h
  · rename_i t x lo hi
    split at h
    · rename_i a b c ha hb hc
      obtain ⟨v', h1, h2⟩ := sliceStr_sim (P := P) h (hρ _ _ ha) (opo_sim hρ hb) (opo_sim hρ hc)
      exact ⟨v', h1, yields_of rfl h2⟩
    · cases h
  · rename_i x i
    split at h
    · rename_i vs hx
      have := hρ _ _ hx
      generalize hcc : ρ' x = cc at this
      cases this with | tuple h1 h2 =>
      rename_i ys
      have hi : i < vs.size := by
        rcases Nat.lt_or_ge i vs.size with g | g
        · exact g
        · rw [Array.getElem?_eq_none g] at h; cases h
      have hy : ys[i]? = some (ys[i]'(by omega)) := Array.getElem?_eq_getElem (by omega)
      exact ⟨_, h2 i _ _ h hy, yields_of rfl fun w => by simp [Instr.extract, hcc, hy]⟩
    · cases h
  · rename_i args ats
    split at h
    · rename_i x r t ha ht
      have la := opvs_sim hρ ha
      obtain ⟨x', hx', hr⟩ := la.get (i := 0) (v := x) rfl
      obtain ⟨v', h1, h2⟩ := len_sim (P := P) (ty := type) (ts := ats) (xs := args.map ρ') h hr ht (by simpa using hx')
      exact ⟨v', h1, fun w => by simp only [execOp, resolve, invoke, builtin, Sem.run_bind, Sem.run_pure, Result.andThen_ok, h2 w]⟩
    · cases h
  · rename_i args ats
    split at h
    · rename_i x r ha
      have la := opvs_sim hρ ha
      generalize hm : args.toList.map ρ' = m at la
      cases la with | cons hx ht =>
      rename_i x' l'
      obtain ⟨v', h1, h2⟩ := max_sim (P := P) r l' x x' v h hx ht
      have e : (args.map ρ').toList = x' :: l' := by simpa using hm
      refine ⟨v', h1, fun w => ?_⟩
      have h3 := h2 w
      simp only [execOp, resolve, invoke, builtin, Builtin.max_, Sem.run_bind, Sem.run_pure, Result.andThen_ok, e]
      rw [h3, Result.andThen_ok]
    · cases h
  · rename_i args ats
    split at h
    · rename_i x r ha
      have la := opvs_sim hρ ha
      generalize hm : args.toList.map ρ' = m at la
      cases la with | cons hx ht =>
      rename_i x' l'
      obtain ⟨v', h1, h2⟩ := min_sim (P := P) r l' x x' v h hx ht
      have e : (args.map ρ').toList = x' :: l' := by simpa using hm
      refine ⟨v', h1, fun w => ?_⟩
      have h3 := h2 w
      simp only [execOp, resolve, invoke, builtin, Builtin.min_, Sem.run_bind, Sem.run_pure, Result.andThen_ok, e]
      rw [h3, Result.andThen_ok]
    · cases h
  · cases h

end Go.Ev
