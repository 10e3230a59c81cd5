/- Books of chains: what they hold, looking up. No condition. -/
import Derived.Test.YtjkbkofgdikmcaaC1
noncomputable section
namespace Go.Ev
open Go.Proofs
set_option linter.unusedVariables false
set_option maxRecDepth 100000

/-- A slice of records. -/
theorem R52 : SlT Try.prog 52 51 4 40 (.agg #[.int .i64 0, .int .i64 0, .int .i64 0, .string ⟨#[]⟩]) := ⟨Try.underlying52, ⟨_, rfl, rfl, rfl, rfl⟩, rfl, rfl, by decide, by decide⟩
def rcCells (l : List Rc) : List Value := l.flatMap Rc.cells
theorem rcCells_length (l : List Rc) : (rcCells l).length = l.length * 4 := by
  induction l with
  | nil => rfl
  | cons r l ih =>
    show (Rc.cells r ++ rcCells l).length = _
    rw [List.length_append, ih]; simp [Rc.cells]; omega
theorem rcCells_one (l : List Rc) : (rcCells l).all (·.oneCell') = true := by
  rw [List.all_eq_true]
  intro x hx
  obtain ⟨r, _, hr⟩ := List.mem_flatMap.1 hx
  simp only [Rc.cells, List.mem_cons, List.not_mem_nil, or_false] at hr
  rcases hr with rfl | rfl | rfl | rfl <;> rfl
theorem rcCells_append (a b : List Rc) : rcCells (a ++ b) = rcCells a ++ rcCells b := by simp [rcCells]
theorem rcCells_drop (l : List Rc) (i : Nat) : (rcCells l).drop (i * 4) = rcCells (l.drop i) := by
  induction i generalizing l with
  | zero => simp
  | succ i ih =>
    cases l with
    | nil => simp [rcCells]
    | cons r l =>
      show (Rc.cells r ++ rcCells l).drop _ = _
      rw [show (i + 1) * 4 = 4 + i * 4 by omega, ← List.drop_drop]
      show ((rcCells l).drop (i * 4)) = _
      rw [ih]; rfl
theorem rcCells_take (l : List Rc) (i : Nat) : (rcCells l).take (i * 4) = rcCells (l.take i) := by
  induction i generalizing l with
  | zero => simp [rcCells]
  | succ i ih =>
    cases l with
    | nil => simp [rcCells]
    | cons r l =>
      show (Rc.cells r ++ rcCells l).take _ = Rc.cells r ++ rcCells (l.take i)
      rw [← ih, List.take_append, List.take_of_length_le (l := Rc.cells r) (by simp [Rc.cells]; omega)]
      congr 2; simp [Rc.cells]; omega
abbrev Sr (s : St) (κ : Option Nat) (v : Value) (l : List Rc) : Prop := Sl s κ v 4 l.length (rcCells l)
abbrev Or (m : Nat) (s : St) (v : Value) (l : List Rc) : Prop := OwnN m s v 4 l.length (rcCells l)
/-- One element of a slice of structs. -/
theorem load_agg {P : Program} {t : TypeId} {fs : Array Field} {i : TypeInfo} (hu : P.underlying t = some (.struct fs)) (hi : P.info? t = some i) {s : St} {b off : Nat} {C cs : List Value} (hr : s.rd b = some C) (hs : sl C off i.size = some cs) :
    evLoad P t (.pointer (some ⟨b, off, none⟩)) s = some (.agg cs.toArray) := by
  unfold evLoad
  simp only [hr, hu, hi, hs]
theorem sl_sub {C cs : List Value} {off n i m : Nat} (h : Go.Ev.sl C off n = some cs) (hi : i + m ≤ n) : Go.Ev.sl C (off + i) m = some ((cs.drop i).take m) := by
  obtain ⟨g1, g2, g3, _⟩ := sl_some h
  have e : (List.drop (off + i) C).take m = (cs.drop i).take m := by
    rw [g2, List.drop_take, List.drop_drop, List.take_take, Nat.min_eq_left (by omega)]
  have hl : cs.length = n := by rw [g2]; simp; omega
  unfold Go.Ev.sl
  simp only [e]
  have : ((cs.drop i).take m).length = m := by simp; omega
  rw [this]; simp
theorem index_slN {P : Program} {t et sz by_ : Nat} {z : Value} (T : SlT P t et sz by_ z) {fs : Array Field} (hu : P.underlying et = some (.struct fs)) {s : St} {κ : Option Nat} {v : Value} {n i : Nat} {cs : List Value} (h : Sl s κ v sz n cs) (k : IntKind) (hi : i < n) :
    ∃ a, evIndexAddr P t v (.int k (i : Int)) = some (.pointer (some a)) ∧ evLoad P et (.pointer (some a)) s = some (.agg ((cs.drop (i * sz)).take sz).toArray) := by
  obtain ⟨j, hi1, hi2, hi3, hi4⟩ := T.hi
  rcases h.ex with ⟨rfl, rfl, rfl, rfl⟩ | ⟨b, off, c, C, rfl, hc, hl, hs, hm⟩
  · omega
  · have hr : s.rd b = some C := by
      rcases hm with ⟨k, _, hm⟩ | ⟨_, hm⟩
      · exact hm.rd
      · exact hm.rd
    have hle : i * sz + sz ≤ n * sz := by
      have : (i + 1) * sz ≤ n * sz := Nat.mul_le_mul_right _ hi
      rw [Nat.add_mul, Nat.one_mul] at this; exact this
    refine ⟨⟨b, off + i * sz, none⟩, ?_, load_agg hu hi1 hr (by rw [hi2]; exact sl_sub hs hle)⟩
    show (match P.underlying t, Value.slice (some ⟨b, off, none⟩) n c, Value.int k (.ofNat i) with
        | some (.slice e), .slice (some a) n _, .int _ (.ofNat i) => match Nat.blt i n, P.info? e with
          | true, some j => some (Value.pointer (some ⟨a.block, a.off + i * j.size, none⟩))
          | _, _ => none
        | some (.array n e), .pointer (some a), .int _ (.ofNat i) => match Nat.blt i n, P.info? e with
          | true, some j => some (Value.pointer (some ⟨a.block, a.off + i * j.size, none⟩))
          | _, _ => none
        | _, _, _ => none) = _
    rw [T.hu]
    simp only [blt_of hi, hi1, hi2]
theorem rc_at {l : List Rc} {i : Nat} (h : i < l.length) : (((rcCells l).drop (i * 4)).take 4).toArray = (l[i].cells).toArray := by
  rw [rcCells_drop, List.drop_eq_getElem_cons h]
  rfl
theorem index_rc {s : St} {κ : Option Nat} {v : Value} {l : List Rc} (h : Sr s κ v l) (k : IntKind) {i : Nat} (hi : i < l.length) :
    ∃ a, evIndexAddr Try.prog 52 v (.int k (i : Int)) = some (.pointer (some a)) ∧ evLoad Try.prog 51 (.pointer (some a)) s = some l[i].val := by
  obtain ⟨a, e1, e2⟩ := index_slN R52 Try.underlying51 h k hi
  rw [rc_at hi] at e2
  exact ⟨a, e1, e2⟩

/-- A label. -/
structure Lb where
  set : Int
  level : Int
  deriving DecidableEq
def Lb.val (l : Lb) : Value := .agg #[.int .u64 l.set, .int .i64 l.level]
def Lb.cells (l : Lb) : List Value := [.int .u64 l.set, .int .i64 l.level]
/-- A chain. -/
structure Ch where
  count : Int
  head : BitVec 64
  last : List Rc
  base : BitVec 64
def Ch.zero : Ch := ⟨0, 0, [], 0⟩
def chCells (c : Ch) (v : Value) : List Value := [.int .i64 c.count, .int .u64 (c.head.toNat : Int), v, .int .u64 (c.base.toNat : Int)]
def chVal (c : Ch) (v : Value) : Value := .agg #[.int .i64 c.count, .int .u64 (c.head.toNat : Int), v, .int .u64 (c.base.toNat : Int)]
/-- An entry of a book: its slice lies in family k. -/
structure Ent where
  l : Lb
  c : Ch
  v : Value
  k : Nat
def Ent.val (e : Ent) : Value × Value := (e.l.val, chVal e.c e.v)
theorem eq_lab (a b : Lb) : evEq Try.prog 10000 48 a.val b.val = some (decide (a = b)) := by
  have e : ∀ p q : Bool, (a.set == b.set) = p → (a.level == b.level) = q → evEq Try.prog 10000 48 a.val b.val = some (p && q) := by
    intro p q h1 h2
    conv => lhs; whnf
    rw [show Try.prog.stoodInHeld 48 = false by decide +kernel]
    show (match (some (a.set == b.set) : Option Bool) with | some true => (match (some (a.level == b.level) : Option Bool) with | some true => some true | some false => some false | none => none) | some false => some false | none => none) = _
    rw [h1, h2]
    cases p <;> cases q <;> rfl
  rw [e _ _ rfl rfl]
  obtain ⟨a1, a2⟩ := a
  obtain ⟨b1, b2⟩ := b
  by_cases h1 : a1 = b1 <;> by_cases h2 : a2 = b2 <;> simp [h1, h2]
theorem eq_rc (a b : Rc) : evEq Try.prog 10000 51 a.val b.val = some ((a.who == b.who) && ((a.verb == b.verb) && ((a.what == b.what) && (bs a.text == bs b.text)))) := by
  have e : ∀ p q u w : Bool, (a.who == b.who) = p → (a.verb == b.verb) = q → (a.what == b.what) = u → (bs a.text == bs b.text) = w → evEq Try.prog 10000 51 a.val b.val = some (p && (q && (u && w))) := by
    intro p q u w h1 h2 h3 h4
    conv => lhs; whnf
    rw [show Try.prog.stoodInHeld 51 = false by decide +kernel]
    show (match (some (a.who == b.who) : Option Bool) with | some true => (match (some (a.verb == b.verb) : Option Bool) with | some true => (match (some (a.what == b.what) : Option Bool) with | some true => (match (some (bs a.text == bs b.text) : Option Bool) with | some true => some true | some false => some false | none => none) | some false => some false | none => none) | some false => some false | none => none) | some false => some false | none => none) = _
    rw [h1, h2, h3, h4]
    cases p <;> cases q <;> cases u <;> cases w <;> rfl
  rw [e _ _ _ _ rfl rfl rfl rfl]
theorem rc_ne (r : Rc) (c : Bool) : evBin Try.prog .neq 51 c r.val r.val = some (.bool false) := by
  have := eq_rc r r
  simp only [beq_self_eq_true, Bool.and_self] at this
  have hg : Try.prog.eqGuardType Try.prog.depth 51 = false := by decide +kernel
  show (match !(Try.prog.eqGuardType Try.prog.depth 51) with | false => none | true => (match evEq Try.prog 10000 51 r.val r.val with | some b => some (Value.bool (!b)) | none => none)) = _
  rw [hg, this]; rfl
end Go.Ev
