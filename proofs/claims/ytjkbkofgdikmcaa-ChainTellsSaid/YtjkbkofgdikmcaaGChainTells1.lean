/- Several texts in one: what the law's text leans on, one behind the other. No condition but those that each theorem names. -/
import Derived.Test.YtjkbkofgdikmcaaT1
import Derived.Test.YtjkbkofgdikmcaaM1
import Derived.Test.YtjkbkofgdikmcaaF3
import Derived.Test.YtjkbkofgdikmcaaS5
/- Records of chains; what chain.Link does. No condition. -/
noncomputable section
namespace Go.Ev
open Go.Proofs
set_option linter.unusedVariables false
set_option maxRecDepth 100000

/-- A record of a chain. -/
structure Rc where
  who : Int
  verb : Int
  what : Int
  text : ByteArray
def Rc.cells (r : Rc) : List Value := [.int .i64 r.who, .int .i64 r.verb, .int .i64 r.what, .string r.text]
def Rc.val (r : Rc) : Value := .agg #[.int .i64 r.who, .int .i64 r.verb, .int .i64 r.what, .string r.text]
structure Rc.ok (r : Rc) : Prop where
  who : Pk.inR r.who
  verb : Pk.inR r.verb
  what : Pk.inR r.what
  text : (bs r.text).length ≤ 140737488351232
def Rc.bytes (r : Rc) : List UInt8 := Pk.encI r.who ++ Pk.encI r.verb ++ Pk.encI r.what ++ Pk.encI (bs r.text).length ++ bs r.text
def linkF (h : BitVec 64) (r : Rc) : BitVec 64 := Mk.sum h r.bytes
theorem link_spec {s : St} (wf : WF s) (h : BitVec 64) {r : Rc} (ok : r.ok) :
    Cw Try.prog 33 [.int .u64 (h.toNat : Int), r.val] s fun v s' => K0 s s' ∧ v = .int .u64 ((linkF h r).toNat : Int) := by
  have l1 := Pk.encI_len ok.who
  have l2 := Pk.encI_len ok.verb
  have l3 := Pk.encI_len ok.what
  have hT := ok.text
  have l4 := Pk.encI_len (n := ((bs r.text).length : Int)) (by unfold Pk.inR; omega)
  refine Cw.enterS Try.func33 rfl rfl ?_
  refine Sm.seqW ?_
  conv => whnf
  obtain ⟨k1, b1⟩ := new_kp wf r.cells 4
  refine Om.of (.pointer (some ⟨s.next, 0, none⟩), s.new r.cells 4) rfl ?_
  generalize s.new r.cells 4 = s1 at k1 b1 ⊢
  conv => whnf
  refine Sm.seqW ?_
  conv => whnf
  refine Om.of _ (load_cell Try.underlying3 rfl rfl b1.rd rfl) ?_
  conv => whnf
  refine (int_spec k1.wf (l := []) (Sl.nil _ 1) (by simp) ok.who).mono ?_
  rintro v2 s2 ⟨k2, o2⟩
  obtain ⟨κ2, q2, _⟩ := o2.slb
  have b2 := k2.blk _ _ _ _ (fun h => h) b1
  conv => whnf
  refine Sm.weak [(0, .int .u64 (h.toNat : Int)), (3, .pointer (some ⟨s.next, 0, none⟩)), (5, v2)] (.cons rfl (.cons rfl (.cons rfl (Sub.nil _)))) ?_
  refine Sm.seqW ?_
  conv => whnf
  refine Om.of _ (load_cell Try.underlying3 rfl rfl b2.rd rfl) ?_
  conv => whnf
  refine (int_spec k2.wf q2 (by simp; omega) ok.verb).mono ?_
  rintro v3 s3 ⟨k3, o3⟩
  obtain ⟨κ3, q3, _⟩ := o3.slb
  have b3 := k3.blk _ _ _ _ (fun h => h) b2
  conv => whnf
  refine Sm.weak [(0, .int .u64 (h.toNat : Int)), (3, .pointer (some ⟨s.next, 0, none⟩)), (5, v3)] (.cons rfl (.cons rfl (.cons rfl (Sub.nil _)))) ?_
  refine Sm.seqW ?_
  conv => whnf
  refine Om.of _ (load_cell Try.underlying3 rfl rfl b3.rd rfl) ?_
  conv => whnf
  refine (int_spec k3.wf q3 (by simp; omega) ok.what).mono ?_
  rintro v4 s4 ⟨k4, o4⟩
  obtain ⟨κ4, q4, _⟩ := o4.slb
  have b4 := k4.blk _ _ _ _ (fun h => h) b3
  conv => whnf
  refine Sm.weak [(0, .int .u64 (h.toNat : Int)), (3, .pointer (some ⟨s.next, 0, none⟩)), (5, v4)] (.cons rfl (.cons rfl (.cons rfl (Sub.nil _)))) ?_
  refine Sm.seqW ?_
  conv => whnf
  refine Om.of _ (load_cell Try.underlying9 rfl rfl b4.rd rfl) ?_
  conv => whnf
  refine (text_spec k4.wf q4 (by simp; omega) r.text (by simp; omega)).mono ?_
  rintro v5 s5 ⟨k5, o5⟩
  obtain ⟨κ5, q5, _⟩ := o5.slb
  conv => whnf
  refine (sum_spec s5 q5 (by simp; omega) h).mono ?_
  rintro v6 s6 ⟨rfl, rfl⟩
  conv => whnf
  refine Sm.ofW ?_
  conv => whnf
  exact ⟨(((k1.then k2).then k3).then k4).then k5, rfl⟩
end Go.Ev
end

/- Books of chains: what they hold, looking up. No condition. -/
noncomputable section
namespace Go.Ev
open Go.Proofs
set_option linter.unusedVariables false
set_option maxRecDepth 100000

/-- A slice of records. -/
theorem R52 : SlT Try.prog 52 51 4 40 (.agg #[.int .i64 0, .int .i64 0, .int .i64 0, .string ⟨#[]⟩]) := ⟨Try.underlying52, ⟨_, rfl, rfl, rfl, rfl⟩, rfl, rfl, by decide, by decide⟩
def rcCells (l : List Rc) : List Value := l.flatMap Rc.cells
theorem rcCells_length (l : List Rc) : (rcCells l).length = l.length * 4 := by
  induction l with
  | nil => rfl
  | cons r l ih =>
    show (Rc.cells r ++ rcCells l).length = _
    rw [List.length_append, ih]; simp [Rc.cells]; omega
theorem rcCells_one (l : List Rc) : (rcCells l).all (·.oneCell') = true := by
  rw [List.all_eq_true]
  intro x hx
  obtain ⟨r, _, hr⟩ := List.mem_flatMap.1 hx
  simp only [Rc.cells, List.mem_cons, List.not_mem_nil, or_false] at hr
  rcases hr with rfl | rfl | rfl | rfl <;> rfl
theorem rcCells_append (a b : List Rc) : rcCells (a ++ b) = rcCells a ++ rcCells b := by simp [rcCells]
theorem rcCells_drop (l : List Rc) (i : Nat) : (rcCells l).drop (i * 4) = rcCells (l.drop i) := by
  induction i generalizing l with
  | zero => simp
  | succ i ih =>
    cases l with
    | nil => simp [rcCells]
    | cons r l =>
      show (Rc.cells r ++ rcCells l).drop _ = _
      rw [show (i + 1) * 4 = 4 + i * 4 by omega, ← List.drop_drop]
      show ((rcCells l).drop (i * 4)) = _
      rw [ih]; rfl
theorem rcCells_take (l : List Rc) (i : Nat) : (rcCells l).take (i * 4) = rcCells (l.take i) := by
  induction i generalizing l with
  | zero => simp [rcCells]
  | succ i ih =>
    cases l with
    | nil => simp [rcCells]
    | cons r l =>
      show (Rc.cells r ++ rcCells l).take _ = Rc.cells r ++ rcCells (l.take i)
      rw [← ih, List.take_append, List.take_of_length_le (l := Rc.cells r) (by simp [Rc.cells]; omega)]
      congr 2; simp [Rc.cells]; omega
abbrev Sr (s : St) (κ : Option Nat) (v : Value) (l : List Rc) : Prop := Sl s κ v 4 l.length (rcCells l)
abbrev Or (m : Nat) (s : St) (v : Value) (l : List Rc) : Prop := OwnN m s v 4 l.length (rcCells l)
/-- One element of a slice of structs. -/
theorem load_agg {P : Program} {t : TypeId} {fs : Array Field} {i : TypeInfo} (hu : P.underlying t = some (.struct fs)) (hi : P.info? t = some i) {s : St} {b off : Nat} {C cs : List Value} (hr : s.rd b = some C) (hs : sl C off i.size = some cs) :
    evLoad P t (.pointer (some ⟨b, off, none⟩)) s = some (.agg cs.toArray) := by
  unfold evLoad
  simp only [hr, hu, hi, hs]
theorem sl_sub {C cs : List Value} {off n i m : Nat} (h : Go.Ev.sl C off n = some cs) (hi : i + m ≤ n) : Go.Ev.sl C (off + i) m = some ((cs.drop i).take m) := by
  obtain ⟨g1, g2, g3, _⟩ := sl_some h
  have e : (List.drop (off + i) C).take m = (cs.drop i).take m := by
    rw [g2, List.drop_take, List.drop_drop, List.take_take, Nat.min_eq_left (by omega)]
  have hl : cs.length = n := by rw [g2]; simp; omega
  unfold Go.Ev.sl
  simp only [e]
  have : ((cs.drop i).take m).length = m := by simp; omega
  rw [this]; simp
theorem index_slN {P : Program} {t et sz by_ : Nat} {z : Value} (T : SlT P t et sz by_ z) {fs : Array Field} (hu : P.underlying et = some (.struct fs)) {s : St} {κ : Option Nat} {v : Value} {n i : Nat} {cs : List Value} (h : Sl s κ v sz n cs) (k : IntKind) (hi : i < n) :
    ∃ a, evIndexAddr P t v (.int k (i : Int)) = some (.pointer (some a)) ∧ evLoad P et (.pointer (some a)) s = some (.agg ((cs.drop (i * sz)).take sz).toArray) := by
  obtain ⟨j, hi1, hi2, hi3, hi4⟩ := T.hi
  rcases h.ex with ⟨rfl, rfl, rfl, rfl⟩ | ⟨b, off, c, C, rfl, hc, hl, hs, hm⟩
  · omega
  · have hr : s.rd b = some C := by
      rcases hm with ⟨k, _, hm⟩ | ⟨_, hm⟩
      · exact hm.rd
      · exact hm.rd
    have hle : i * sz + sz ≤ n * sz := by
      have : (i + 1) * sz ≤ n * sz := Nat.mul_le_mul_right _ hi
      rw [Nat.add_mul, Nat.one_mul] at this; exact this
    refine ⟨⟨b, off + i * sz, none⟩, ?_, load_agg hu hi1 hr (by rw [hi2]; exact sl_sub hs hle)⟩
    show (match P.underlying t, Value.slice (some ⟨b, off, none⟩) n c, Value.int k (.ofNat i) with
        | some (.slice e), .slice (some a) n _, .int _ (.ofNat i) => match Nat.blt i n, P.info? e with
          | true, some j => some (Value.pointer (some ⟨a.block, a.off + i * j.size, none⟩))
          | _, _ => none
        | some (.array n e), .pointer (some a), .int _ (.ofNat i) => match Nat.blt i n, P.info? e with
          | true, some j => some (Value.pointer (some ⟨a.block, a.off + i * j.size, none⟩))
          | _, _ => none
        | _, _, _ => none) = _
    rw [T.hu]
    simp only [blt_of hi, hi1, hi2]
theorem rc_at {l : List Rc} {i : Nat} (h : i < l.length) : (((rcCells l).drop (i * 4)).take 4).toArray = (l[i].cells).toArray := by
  rw [rcCells_drop, List.drop_eq_getElem_cons h]
  rfl
theorem index_rc {s : St} {κ : Option Nat} {v : Value} {l : List Rc} (h : Sr s κ v l) (k : IntKind) {i : Nat} (hi : i < l.length) :
    ∃ a, evIndexAddr Try.prog 52 v (.int k (i : Int)) = some (.pointer (some a)) ∧ evLoad Try.prog 51 (.pointer (some a)) s = some l[i].val := by
  obtain ⟨a, e1, e2⟩ := index_slN R52 Try.underlying51 h k hi
  rw [rc_at hi] at e2
  exact ⟨a, e1, e2⟩

/-- A label. -/
structure Lb where
  set : Int
  level : Int
  deriving DecidableEq
def Lb.val (l : Lb) : Value := .agg #[.int .u64 l.set, .int .i64 l.level]
def Lb.cells (l : Lb) : List Value := [.int .u64 l.set, .int .i64 l.level]
/-- A chain. -/
structure Ch where
  count : Int
  head : BitVec 64
  last : List Rc
  base : BitVec 64
def Ch.zero : Ch := ⟨0, 0, [], 0⟩
def chCells (c : Ch) (v : Value) : List Value := [.int .i64 c.count, .int .u64 (c.head.toNat : Int), v, .int .u64 (c.base.toNat : Int)]
def chVal (c : Ch) (v : Value) : Value := .agg #[.int .i64 c.count, .int .u64 (c.head.toNat : Int), v, .int .u64 (c.base.toNat : Int)]
/-- An entry of a book: its slice lies in family k. -/
structure Ent where
  l : Lb
  c : Ch
  v : Value
  k : Nat
def Ent.val (e : Ent) : Value × Value := (e.l.val, chVal e.c e.v)
theorem eq_lab (a b : Lb) : evEq Try.prog 10000 48 a.val b.val = some (decide (a = b)) := by
  have e : ∀ p q : Bool, (a.set == b.set) = p → (a.level == b.level) = q → evEq Try.prog 10000 48 a.val b.val = some (p && q) := by
    intro p q h1 h2
    conv => lhs; whnf
    rw [show Try.prog.stoodInHeld 48 = false by decide +kernel]
    show (match (some (a.set == b.set) : Option Bool) with | some true => (match (some (a.level == b.level) : Option Bool) with | some true => some true | some false => some false | none => none) | some false => some false | none => none) = _
    rw [h1, h2]
    cases p <;> cases q <;> rfl
  rw [e _ _ rfl rfl]
  obtain ⟨a1, a2⟩ := a
  obtain ⟨b1, b2⟩ := b
  by_cases h1 : a1 = b1 <;> by_cases h2 : a2 = b2 <;> simp [h1, h2]
theorem eq_rc (a b : Rc) : evEq Try.prog 10000 51 a.val b.val = some ((a.who == b.who) && ((a.verb == b.verb) && ((a.what == b.what) && (bs a.text == bs b.text)))) := by
  have e : ∀ p q u w : Bool, (a.who == b.who) = p → (a.verb == b.verb) = q → (a.what == b.what) = u → (bs a.text == bs b.text) = w → evEq Try.prog 10000 51 a.val b.val = some (p && (q && (u && w))) := by
    intro p q u w h1 h2 h3 h4
    conv => lhs; whnf
    rw [show Try.prog.stoodInHeld 51 = false by decide +kernel]
    show (match (some (a.who == b.who) : Option Bool) with | some true => (match (some (a.verb == b.verb) : Option Bool) with | some true => (match (some (a.what == b.what) : Option Bool) with | some true => (match (some (bs a.text == bs b.text) : Option Bool) with | some true => some true | some false => some false | none => none) | some false => some false | none => none) | some false => some false | none => none) | some false => some false | none => none) = _
    rw [h1, h2, h3, h4]
    cases p <;> cases q <;> cases u <;> cases w <;> rfl
  rw [e _ _ _ _ rfl rfl rfl rfl]
theorem rc_ne (r : Rc) (c : Bool) : evBin Try.prog .neq 51 c r.val r.val = some (.bool false) := by
  have := eq_rc r r
  simp only [beq_self_eq_true, Bool.and_self] at this
  have hg : Try.prog.eqGuardType Try.prog.depth 51 = false := by decide +kernel
  show (match !(Try.prog.eqGuardType Try.prog.depth 51) with | false => none | true => (match evEq Try.prog 10000 51 r.val r.val with | some b => some (Value.bool (!b)) | none => none)) = _
  rw [hg, this]; rfl
end Go.Ev
end

/- Books of chains: looking up, changing; what New does. No condition. -/
noncomputable section
namespace Go.Ev
open Go.Proofs
set_option linter.unusedVariables false
set_option maxRecDepth 100000

/-- The entry of a label. -/
def findE (l : Lb) : List Ent → Option Ent
  | [] => none
  | e :: E => if l = e.l then some e else findE l E
/-- The label's chain; what its slice is. -/
def chOf (E : List Ent) (l : Lb) : Ch := match findE l E with
  | some e => e.c
  | none => Ch.zero
def vOf (E : List Ent) (l : Lb) : Value := match findE l E with
  | some e => e.v
  | none => .slice none 0 0
/-- The label's entry is another one. -/
def putE (E : List Ent) (e : Ent) : List Ent := match E with
  | [] => [e]
  | d :: E => if e.l = d.l then e :: E else d :: putE E e
theorem find_book (l : Lb) : ∀ (E : List Ent) (i : Nat), ∃ r, evFind Try.prog 48 l.val (E.map Ent.val) i = some r ∧
    ((r = none ∧ findE l E = none ∧ ∀ e : Ent, e.l = l → putE E e = E ++ [e]) ∨ ∃ j e, r = some (i + j) ∧ E[j]? = some e ∧ findE l E = some e ∧ e.l = l ∧ ∀ d : Ent, d.l = l → putE E d = E.set j d)
  | [], i => ⟨none, rfl, .inl ⟨rfl, rfl, fun _ _ => rfl⟩⟩
  | e :: E, i => by
    have h := eq_lab l e.l
    by_cases hl : l = e.l
    · refine ⟨some i, ?_, .inr ⟨0, e, rfl, rfl, by simp [findE, hl], hl.symm, fun d hd => ?_⟩⟩
      · show (match evEq Try.prog 10000 48 l.val e.l.val with | some true => some (some i) | some false => evFind Try.prog 48 l.val (E.map Ent.val) (i + 1) | none => none) = _
        rw [h, decide_eq_true hl]
      · show (if d.l = e.l then d :: E else e :: putE E d) = _
        rw [if_pos (hd.trans hl)]; rfl
    · obtain ⟨r, h1, h2⟩ := find_book l E (i + 1)
      refine ⟨r, ?_, ?_⟩
      · show (match evEq Try.prog 10000 48 l.val e.l.val with | some true => some (some i) | some false => evFind Try.prog 48 l.val (E.map Ent.val) (i + 1) | none => none) = _
        rw [h, decide_eq_false hl]
        exact h1
      · rcases h2 with ⟨rfl, h3, h4⟩ | ⟨j, d, rfl, h3, h4, h5, h6⟩
        · refine .inl ⟨rfl, by simp [findE, hl, h3], fun d hd => ?_⟩
          show (if d.l = e.l then d :: E else e :: putE E d) = _
          rw [if_neg (fun x => hl (hd.symm.trans x)), h4 d hd]; rfl
        · refine .inr ⟨j + 1, d, by rw [show i + 1 + j = i + (j + 1) by omega], h3, by simp [findE, hl, h4], h5, fun d' hd => ?_⟩
          show (if d'.l = e.l then d' :: E else e :: putE E d') = _
          rw [if_neg (fun x => hl (hd.symm.trans x)), h6 d' hd]; rfl
theorem lookup_book {s : St} {mb : Nat} {E : List Ent} (h : Mp s mb (E.map Ent.val)) (l : Lb) :
    evLookup Try.prog 86 (.map (some mb)) l.val false s = some (chVal (chOf E l) (vOf E l)) := by
  obtain ⟨r, h1, h2⟩ := find_book l E 0
  have hk : evKey Try.prog 10000 48 l.val = true := rfl
  have hm : mapOf s (.map (some mb)) = some (E.map Ent.val) := by simp only [mapOf, h.ex]
  have hu : Try.prog.underlying 86 = some (.map 48 54) := Try.underlying86
  have hu2 : Try.prog.underlying 48 = _ := Try.underlying48
  unfold evLookup
  rcases h2 with ⟨rfl, h3, _⟩ | ⟨j, e, rfl, h3, h4, h5, _⟩
  · simp only [hu, hu2, hm, hk, h1]
    have : chVal (chOf E l) (vOf E l) = .agg #[.int .i64 0, .int .u64 0, .slice none 0 0, .int .u64 0] := by
      simp only [chOf, vOf, h3]; rfl
    rw [this]; rfl
  · rw [Nat.zero_add] at h1
    simp only [hu, hu2, hm, hk, h1, List.getElem?_map, h3, Option.map_some, chOf, vOf, h4]
    rfl
theorem same_lab (l : Lb) : evSame 100 l.val l.val = true := by
  show (match (decide (IntKind.u64 = IntKind.u64) && (l.set == l.set)) with | true => (match (decide (IntKind.i64 = IntKind.i64) && (l.level == l.level)) with | true => true | false => false) | false => false) = true
  simp
theorem update_book {s : St} (wf : WF s) {mb : Nat} {E : List Ent} (h : Mp s mb (E.map Ent.val)) (e : Ent) :
    ∃ s', evUpdate Try.prog 86 (.map (some mb)) e.l.val (chVal e.c e.v) s = some s' ∧ Kp (fun j => j = mb) s s' ∧ Mp s' mb ((putE E e).map Ent.val) ∧ s'.next = s.next := by
  obtain ⟨r, h1, h2⟩ := find_book e.l E 0
  have hk : evKey Try.prog 10000 48 e.l.val = true := rfl
  have hm : mapOf s (.map (some mb)) = some (E.map Ent.val) := by simp only [mapOf, h.ex]
  have hu : Try.prog.underlying 86 = some (.map 48 54) := Try.underlying86
  have hu2 : Try.prog.underlying 48 = _ := Try.underlying48
  unfold evUpdate
  rcases h2 with ⟨rfl, h3, h4⟩ | ⟨j, d, rfl, h3, h4, h5, h6⟩
  · obtain ⟨s', g1, g2, g3, g4⟩ := setMap_kp (es' := E.map Ent.val ++ [(e.l.val, chVal e.c e.v)]) wf h
    simp only [hu, hu2, hm, hk, h1]
    rw [h4 e rfl, List.map_append]
    exact ⟨s', g1, g2, g3, g4⟩
  · rw [Nat.zero_add] at h1
    obtain ⟨s', g1, g2, g3, g4⟩ := setMap_kp (es' := (E.map Ent.val).set j (e.l.val, chVal e.c e.v)) wf h
    simp only [hu, hu2, hm, hk, h1, List.getElem?_map, h3, Option.map_some]
    have : evSame 100 (d.val).1 e.l.val = true := by
      have e1 : (d.val).1 = e.l.val := by show d.l.val = e.l.val; rw [h5]
      rw [e1]; exact same_lab e.l
    simp only [this]
    rw [h6 e rfl, List.map_set]
    exact ⟨s', g1, g2, g3, g4⟩

/-- The book that a pointer leads to. -/
structure BookAt (s : St) (p : Value) (kb mb : Nat) (E : List Ent) : Prop where
  ex : ∃ bs, p = .pointer (some ⟨bs, 0, none⟩) ∧ Blk s kb bs [.map (some mb)] 1
  mp : Mp s mb (E.map Ent.val)
  own : ∀ e ∈ E, OwnT s e.k e.v 4 e.c.last.length (rcCells e.c.last)
  ok : ∀ e ∈ E, e.c.last.length ≤ 8 ∧ ∀ r ∈ e.c.last, r.ok
  ne : kb ≠ mb ∧ ∀ e ∈ E, e.k ≠ kb ∧ e.k ≠ mb
  fam : ∀ (i j : Nat) (d e : Ent), E[i]? = some d → E[j]? = some e → d.k = e.k → i = j
def famE (mb : Nat) (E : List Ent) (j : Nat) : Prop := j = mb ∨ ∃ e ∈ E, j = e.k
theorem BookAt.keep {X : Nat → Prop} {s s' : St} {p : Value} {kb mb : Nat} {E : List Ent} (h : BookAt s p kb mb E) (k : Kp X s s') (h1 : ¬ X kb) (h2 : ∀ j, famE mb E j → ¬ X j) : BookAt s' p kb mb E := by
  obtain ⟨bs, rfl, g⟩ := h.ex
  exact ⟨⟨bs, rfl, k.blk _ _ _ _ h1 g⟩, k.map _ _ (h2 mb (.inl rfl)) h.mp, fun e he => (h.own e he).keep k (h2 e.k (.inr ⟨e, he, rfl⟩)), h.ok, h.ne, h.fam⟩
theorem BookAt.keep0 {s s' : St} {p : Value} {kb mb : Nat} {E : List Ent} (h : BookAt s p kb mb E) (k : K0 s s') : BookAt s' p kb mb E := h.keep k (fun h => h) fun _ _ h => h
theorem BookAt.relow {s s1 : St} {p : Value} {kb mb : Nat} {E : List Ent} (h : BookAt s1 p kb mb E) : BookAt (Go.Ev.relow s s1) p kb mb E := by
  obtain ⟨bs, rfl, g⟩ := h.ex
  exact ⟨⟨bs, rfl, g.relow⟩, h.mp.relow, fun e he => (h.own e he).relow, h.ok, h.ne, h.fam⟩
theorem BookAt.reset {s : St} {p : Value} {kb mb : Nat} {E : List Ent} (h : BookAt s p kb mb E) : BookAt (Go.Ev.reset s) p kb mb E := by
  obtain ⟨bs, rfl, g⟩ := h.ex
  exact ⟨⟨bs, rfl, g.reset⟩, h.mp.reset, fun e he => (h.own e he).reset, h.ok, h.ne, h.fam⟩
theorem BookAt.lt {s : St} {p : Value} {kb mb : Nat} {E : List Ent} (wf : WF s) (h : BookAt s p kb mb E) : kb < s.next ∧ ∀ j, famE mb E j → j < s.next := by
  obtain ⟨bs, rfl, g⟩ := h.ex
  refine ⟨by have := g.lt wf; omega, ?_⟩
  rintro j (rfl | ⟨e, he, rfl⟩)
  · exact h.mp.lt wf
  · exact (h.own e he).lt wf
theorem BookAt.ptr {s : St} {p : Value} {kb mb : Nat} {E : List Ent} (h : BookAt s p kb mb E) : ∃ bs, p = .pointer (some ⟨bs, 0, none⟩) ∧ Blk s kb bs [.map (some mb)] 1 := h.ex
theorem cnew_spec {s : St} (wf : WF s) : Cw Try.prog 28 [] s fun r s' => K0 s s' ∧ ∃ kb mb, s.next ≤ kb ∧ s.next ≤ mb ∧ BookAt s' r kb mb [] := by
  refine Cw.enter Try.func28 rfl rfl ?_
  conv => whnf
  obtain ⟨k1, m1⟩ := newMap_kp wf []
  refine Om.of (.map (some s.next), s.newMap []) rfl ?_
  conv => whnf
  have n1 : (s.newMap []).next = s.next + 1 := rfl
  generalize s.newMap [] = s1 at k1 m1 n1 ⊢
  obtain ⟨k2, b2⟩ := new_kp k1.wf [.map (some s.next)] 1
  refine Om.of (.pointer (some ⟨s1.next, 0, none⟩), s1.new [.map (some s.next)] 1) rfl ?_
  conv => whnf
  exact ⟨⟨k1.then k2, s1.next, s.next, by omega, Nat.le_refl _, ⟨_, rfl, b2⟩, k2.map _ _ (fun h => h) m1, (fun _ h => by cases h), (fun _ h => by cases h), ⟨by omega, fun _ h => by cases h⟩, fun _ _ _ _ h => by cases h⟩⟩
end Go.Ev
end

/- Books of chains: what Of does. No condition. -/
noncomputable section
namespace Go.Ev
open Go.Proofs
set_option linter.unusedVariables false
set_option maxRecDepth 100000

theorem rclone_spec {s : St} (wf : WF s) {κ : Option Nat} {v : Value} {l : List Rc} (h : Sr s κ v l) (hl : l.length ≤ 5000000000000) :
    Cw Try.prog 47 [v] s fun r s' => K0 s s' ∧ Or s.next s' r l := by
  refine Cw.enter Try.func47 rfl rfl ?_
  rcases h.ex with ⟨rfl, h1, h2, rfl⟩ | ⟨b, off, c, C, rfl, hc, hlen, hs, hm⟩
  · conv => whnf
    refine Om.of (.bool true) rfl ?_
    conv => whnf
    refine Br.yes rfl ?_
    conv => whnf
    exact ⟨⟨Kp.refl wf, ⟨.inl ⟨rfl, h1, h2⟩⟩⟩⟩
  · conv => whnf
    refine Om.of (.bool false) rfl ?_
    conv => whnf
    refine Br.no rfl ?_
    conv => whnf
    obtain ⟨v1, s1, e1, o1, k1⟩ := buildSlice0 R52 wf
    refine Om.of (v1, s1) e1 ?_
    conv => whnf
    obtain ⟨v2, s2, e2, o2, k2⟩ := append_own R52 Try.underlying52 rfl k1.wf o1 (elems_sl (h.keep0 k1)) (rcCells_length l) (rcCells_one l) (by omega)
    refine Om.of (v2, s2) e2 ?_
    conv => whnf
    rw [Nat.zero_add, List.nil_append] at o2
    exact ⟨⟨k1.trans k2 fun j hj => .inr (by omega), o2.n k2.wf (Nat.le_refl _)⟩⟩
theorem rclip_spec {s : St} {m : Nat} {v : Value} {l : List Rc} (h : Or m s v l) :
    Cw Try.prog 46 [v] s fun r s' => s' = s ∧ r = v := by
  obtain ⟨a, c, rfl⟩ := h.shape
  refine Cw.enter Try.func46 rfl rfl ?_
  conv => whnf
  refine Om.of _ (clip_ownN R52 h .i64 .i64) ?_
  conv => whnf
  exact ⟨⟨rfl, rfl⟩⟩
theorem getE {E : List Ent} {l : Lb} : (findE l E = none ∧ chOf E l = Ch.zero ∧ vOf E l = .slice none 0 0) ∨ ∃ e ∈ E, e.l = l ∧ findE l E = some e ∧ chOf E l = e.c ∧ vOf E l = e.v := by
  have : ∀ E : List Ent, findE l E = none ∨ ∃ e ∈ E, e.l = l ∧ findE l E = some e := by
    intro E
    induction E with
    | nil => exact .inl rfl
    | cons d E ih =>
      by_cases h : l = d.l
      · exact .inr ⟨d, List.mem_cons_self, h.symm, by simp [findE, h]⟩
      · rcases ih with h1 | ⟨e, h1, h2, h3⟩
        · exact .inl (by simp [findE, h, h1])
        · exact .inr ⟨e, List.mem_cons_of_mem _ h1, h2, by simp [findE, h, h3]⟩
  rcases this E with h | ⟨e, h1, h2, h3⟩
  · exact .inl ⟨h, by simp [chOf, h], by simp [vOf, h]⟩
  · exact .inr ⟨e, h1, h2, h3, by simp [chOf, h3], by simp [vOf, h3]⟩
theorem BookAt.sl {s : St} {p : Value} {kb mb : Nat} {E : List Ent} (h : BookAt s p kb mb E) (l : Lb) : ∃ κ, Sr s κ (vOf E l) (chOf E l).last ∧ (∀ k, κ = some k → famE mb E k) ∧ (chOf E l).last.length ≤ 8 ∧ ∀ r ∈ (chOf E l).last, r.ok := by
  rcases getE (E := E) (l := l) with ⟨_, h2, h3⟩ | ⟨e, h1, _, _, h2, h3⟩
  · rw [h2, h3]
    exact ⟨none, Sl.nil _ _, (fun k h => by cases h), by simp [Ch.zero], by simp [Ch.zero]⟩
  · rw [h2, h3]
    exact ⟨some e.k, (h.own e h1).sl, (fun k hk => by injection hk with hk; exact .inr ⟨e, h1, hk.symm⟩), h.ok e h1⟩
theorem of_spec {s : St} (wf : WF s) {p : Value} {kb mb : Nat} {E : List Ent} (h : BookAt s p kb mb E) (l : Lb) :
    Cw Try.prog 31 [p, l.val] s fun r s' => K0 s s' ∧ ∃ w, r = chVal (chOf E l) w ∧ Or s.next s' w (chOf E l).last := by
  obtain ⟨κ, hsl, _, hl8, _⟩ := h.sl l
  obtain ⟨b0, rfl, g0⟩ := h.ex
  refine Cw.enterS Try.func31 rfl rfl ?_
  refine Sm.seqW ?_
  conv => whnf
  obtain ⟨k1, b1⟩ := new_kp wf l.cells 2
  refine Om.of (.pointer (some ⟨s.next, 0, none⟩), s.new l.cells 2) rfl ?_
  generalize s.new l.cells 2 = s1 at k1 b1 ⊢
  conv => whnf
  obtain ⟨k2, b2⟩ := new_kp k1.wf (chCells Ch.zero (.slice none 0 0)) 4
  refine Om.of (.pointer (some ⟨s1.next, 0, none⟩), s1.new (chCells Ch.zero (.slice none 0 0)) 4) rfl ?_
  generalize s1.new (chCells Ch.zero (.slice none 0 0)) 4 = s2 at k2 b2 ⊢
  conv => whnf
  have KK2 := k1.then k2
  have b1' := k2.blk _ _ _ _ (fun h => h) b1
  have g2 := KK2.blk _ _ _ _ (fun h => h) g0
  have m2 := KK2.map _ _ (fun h => h) h.mp
  refine Sm.seq ?_
  refine Sm.seqW ?_
  conv => whnf
  refine Om.of (.bool false) rfl ?_
  conv => whnf
  refine Sm.ofW ?_
  conv => whnf
  refine Br.no rfl ?_
  conv => whnf
  refine Sm.weak [(0, .pointer (some ⟨b0, 0, none⟩)), (3, .pointer (some ⟨s.next, 0, none⟩)), (4, .pointer (some ⟨s1.next, 0, none⟩))] (.cons rfl (.cons rfl (.cons rfl (Sub.nil _)))) ?_
  refine Sm.seqC (fun e L' s' => e = .normal ∧ K0 s2 s' ∧ Blk s' s2.next s2.next (chCells (chOf E l) (vOf E l)) 4 ∧ Sub [(4, .pointer (some ⟨s1.next, 0, none⟩)), (5, .pointer (some ⟨s2.next, 0, none⟩))] L') ?_ ?_
  · conv => whnf
    refine ⟨[0, 1, 3, 7, 0, 31, 0, 127], by decide +kernel, by decide +kernel, ?_⟩
    conv => whnf
    refine Om.of _ (load_cell Try.underlying86 rfl rfl g2.rd rfl) ?_
    conv => whnf
    refine Om.of _ (load_agg Try.underlying48 rfl b1'.rd (sl_all rfl)) ?_
    conv => whnf
    refine Om.of _ (lookup_book m2.reset l) ?_
    conv => whnf
    refine Dk.same KK2.wf ?_
    conv => whnf
    obtain ⟨k3, b3⟩ := new_kp KK2.wf.reset (chCells Ch.zero (.slice none 0 0)) 4
    refine Om.of (.pointer (some ⟨s2.next, 0, none⟩), (reset s2).new (chCells Ch.zero (.slice none 0 0)) 4) rfl ?_
    have n3 : (reset s2).next = s2.next := rfl
    rw [n3] at b3
    generalize (reset s2).new (chCells Ch.zero (.slice none 0 0)) 4 = s3 at k3 b3 ⊢
    conv => whnf
    refine Dk.nw (k3.low_reset fun _ h => h.elim) ?_
    have k3' := k3.of_reset KK2.wf
    have b3' := b3.relow (s := s2)
    generalize relow s2 s3 = t3 at k3' b3' ⊢
    conv => whnf
    obtain ⟨s4, e4, k4, b4, _⟩ := store_all (P := Try.prog) (t := 54) (i := _) rfl k3'.wf.reset b3'.reset (a := #[.int .i64 (chOf E l).count, .int .u64 ((chOf E l).head.toNat : Int), vOf E l, .int .u64 ((chOf E l).base.toNat : Int)]) (l := chCells (chOf E l) (vOf E l)) rfl rfl rfl (by
      obtain ⟨a, c, hv⟩ := hsl.shape
      rw [hv]; rfl)
    refine Om.of s4 e4 ?_
    conv => whnf
    have b4' := b4.relow (s := t3)
    have k4' := k3'.touch (k4.of_reset k3'.wf) (fun k hk => by subst hk; exact Nat.le_refl _)
    refine Dk.any ?_ ?_
    · conv => whnf
      exact ⟨rfl, k4', b4', .cons rfl (.cons rfl (Sub.nil _))⟩
    · conv => whnf
      exact ⟨rfl, k4', b4', .cons rfl (.cons rfl (Sub.nil _))⟩
  rintro e L' s3 ⟨rfl, k3, b3, hs⟩
  refine Sm.weak _ hs ?_
  clear hs
  have KK3 := KK2.then k3
  have hsl3 := hsl.keep0 KK3
  have b2' := k3.blk _ _ _ _ (fun h => h) b2
  refine Sm.seqW ?_
  conv => whnf
  refine Om.of _ (load_cell Try.underlying52 rfl rfl b3.rd rfl) ?_
  conv => whnf
  refine (rclone_spec KK3.wf hsl3 (by omega)).mono ?_
  rintro v4 s4 ⟨k4, o4⟩
  conv => whnf
  refine (rclip_spec o4).mono ?_
  rintro v5 s5 ⟨rfl, rfl⟩
  conv => whnf
  obtain ⟨a4, c4, rfl⟩ := o4.shape
  have b4 := k4.blk _ _ _ _ (fun h => h) b3
  obtain ⟨s6, e6, k6, b6⟩ := store_cell (P := Try.prog) (t := 52) rfl rfl k4.wf b4 (off := 0 + 2) (v := .slice a4 (chOf E l).last.length c4) (by simp [chCells]) rfl rfl
  refine Om.of s6 e6 ?_
  conv => whnf
  have lt3 := b3.lt KK3.wf
  have lt2 := b2'.lt KK3.wf
  have n2 := k2.next
  have n4 := KK2.next
  have b2'' := k6.blk _ _ _ _ (fun h => by have := b2.lt k2.wf; omega) (k4.blk _ _ _ _ (fun h => h) b2')
  have o6 := o4.keep k6 (fun k h1 h2 h => by omega)
  have KK6 := (KK3.then k4).touch k6 (fun k hk => by subst hk; omega)
  refine Sm.weak [(4, .pointer (some ⟨s1.next, 0, none⟩)), (5, .pointer (some ⟨s2.next, 0, none⟩))] (.cons rfl (.cons rfl (Sub.nil _))) ?_
  refine Sm.seqW ?_
  conv => whnf
  refine Om.of _ (load_agg Try.underlying54 rfl b6.rd (sl_all rfl)) ?_
  conv => whnf
  obtain ⟨s7, e7, k7, b7, _⟩ := store_all (P := Try.prog) (t := 54) (i := _) rfl KK6.wf b2'' (a := #[.int .i64 (chOf E l).count, .int .u64 ((chOf E l).head.toNat : Int), .slice a4 (chOf E l).last.length c4, .int .u64 ((chOf E l).base.toNat : Int)]) (l := chCells (chOf E l) (.slice a4 (chOf E l).last.length c4)) rfl rfl rfl rfl
  refine Om.of s7 e7 ?_
  conv => whnf
  refine Sm.ofW ?_
  conv => whnf
  refine Om.of _ (load_agg Try.underlying54 rfl b7.rd (sl_all rfl)) ?_
  conv => whnf
  have n1 := k1.next
  have n5 := k3.next
  have n6 := b2.lt k2.wf
  exact ⟨KK6.touch k7 (fun k hk => by subst hk; exact n1), .slice a4 (chOf E l).last.length c4, rfl, (o6.keep k7 fun k h1 h2 h => by omega).mono (by omega)⟩
end Go.Ev
end

/- Books of chains: what Add does. No condition. -/
noncomputable section
namespace Go.Ev
open Go.Proofs
set_option linter.unusedVariables false
set_option maxRecDepth 100000

/-- A chain that is added to. -/
def Ch.add (c : Ch) (r : Rc) : Ch :=
  if 8 < c.last.length + 1 then ⟨IntKind.i64.wrap (c.count + 1), linkF c.head r, (c.last ++ [r]).drop 1, linkF c.base ((c.last ++ [r]).head?.getD r)⟩
  else ⟨IntKind.i64.wrap (c.count + 1), linkF c.head r, c.last ++ [r], c.base⟩
theorem findE_put (e : Ent) (l : Lb) : ∀ E : List Ent, findE l (putE E e) = if l = e.l then some e else findE l E
  | [] => rfl
  | d :: E => by
    show findE l (if e.l = d.l then e :: E else d :: putE E e) = _
    by_cases h : e.l = d.l
    · rw [if_pos h]
      by_cases h2 : l = e.l
      · simp [findE, h2]
      · have : l ≠ d.l := fun x => h2 (x.trans h.symm)
        simp [findE, h2, this]
    · rw [if_neg h]
      have ih := findE_put e l E
      by_cases h2 : l = d.l
      · have : l ≠ e.l := fun x => h (x.symm.trans h2)
        have h3 : ¬ d.l = e.l := fun x => h x.symm
        simp [findE, h2, h3]
      · show (if l = d.l then some d else findE l (putE E e)) = if l = e.l then some e else (if l = d.l then some d else findE l E)
        rw [if_neg h2, if_neg h2]; exact ih
theorem chOf_put (e : Ent) (l : Lb) (E : List Ent) : chOf (putE E e) l = if l = e.l then e.c else chOf E l := by
  unfold chOf
  rw [findE_put]
  by_cases h : l = e.l
  · rw [if_pos h, if_pos h]
  · rw [if_neg h, if_neg h]
/-- The book with a changed entry. -/
theorem BookAt.put {s s' : St} {p : Value} {kb mb : Nat} {E : List Ent} (h : BookAt s p kb mb E) {e : Ent} {X : Nat → Prop} (k : Kp X s s') (hX : ∀ j, X j → s.next ≤ j ∨ j = mb ∨ ∃ f, findE e.l E = some f ∧ j = f.k) (hkb : ¬ X kb)
    (mp : Mp s' mb ((putE E e).map Ent.val)) (own : OwnT s' e.k e.v 4 e.c.last.length (rcCells e.c.last)) (ok : e.c.last.length ≤ 8 ∧ ∀ r ∈ e.c.last, r.ok) (wf : WF s) (hk : (findE e.l E = none ∧ s.next ≤ e.k) ∨ ∃ f, findE e.l E = some f ∧ e.k = f.k) :
    BookAt s' p kb mb (putE E e) ∧ ∀ j, famE mb (putE E e) j → famE mb E j ∨ s.next ≤ j := by
  obtain ⟨bs, rfl, g⟩ := h.ex
  have hlt := h.lt wf
  have hlt2 : ∀ d ∈ E, d.k < s.next := fun d hd => hlt.2 _ (.inr ⟨d, hd, rfl⟩)
  have hmb : mb < s.next := hlt.2 _ (.inl rfl)
  obtain ⟨r, h1, h2⟩ := find_book e.l E 0
  have hex : ∃ bs', Value.pointer (some ⟨bs, 0, none⟩) = .pointer (some ⟨bs', 0, none⟩) ∧ Blk s' kb bs' [.map (some mb)] 1 := ⟨bs, rfl, k.blk _ _ _ _ hkb g⟩
  rcases h2 with ⟨rfl, h3, h4⟩ | ⟨j, d, rfl, h3, h4, h5, h6⟩
  · rcases hk with ⟨_, hk⟩ | ⟨f, hf, _⟩
    rotate_left
    · rw [h3] at hf; cases hf
    have hp := h4 e rfl
    rw [hp] at mp ⊢
    have hXE : ∀ d ∈ E, ¬ X d.k := fun d hd hx => by
      rcases hX _ hx with g | g | ⟨f, hf, _⟩
      · have := hlt2 d hd; omega
      · exact (h.ne.2 d hd).2 g
      · rw [h3] at hf; cases hf
    refine ⟨⟨hex, mp, fun d hd => ?_, fun d hd => ?_, ⟨h.ne.1, fun d hd => ?_⟩, ?_⟩, ?_⟩
    · rcases List.mem_append.1 hd with g | g
      · exact (h.own d g).keep k (hXE d g)
      · rw [List.mem_singleton] at g; subst g; exact own
    · rcases List.mem_append.1 hd with g | g
      · exact h.ok d g
      · rw [List.mem_singleton] at g; subst g; exact ok
    · rcases List.mem_append.1 hd with g | g
      · exact h.ne.2 d g
      · rw [List.mem_singleton] at g; subst g; exact ⟨by omega, by omega⟩
    · intro i j a b ha hb hab
      have one : ∀ (i : Nat) (a : Ent), (E ++ [e])[i]? = some a → (E[i]? = some a ∧ a.k < s.next) ∨ (i = E.length ∧ a = e) := by
        intro i a ha
        rcases Nat.lt_or_ge i E.length with g | g
        · rw [List.getElem?_append_left g] at ha
          exact .inl ⟨ha, hlt2 a (List.mem_of_getElem? ha)⟩
        · rw [List.getElem?_append_right g] at ha
          have : i - E.length = 0 := by
            rcases Nat.eq_zero_or_pos (i - E.length) with g2 | g2
            · exact g2
            · rw [List.getElem?_eq_none (by simp; omega)] at ha; cases ha
          rw [this] at ha
          injection ha with ha
          exact .inr ⟨by omega, ha.symm⟩
      rcases one i a ha with ⟨a1, a2⟩ | ⟨a1, rfl⟩ <;> rcases one j b hb with ⟨b1, b2⟩ | ⟨b1, rfl⟩
      · exact h.fam i j a b a1 b1 hab
      · omega
      · omega
      · omega
    · rintro j (rfl | ⟨d, hd, rfl⟩)
      · exact .inl (.inl rfl)
      · rcases List.mem_append.1 hd with g | g
        · exact .inl (.inr ⟨d, g, rfl⟩)
        · rw [List.mem_singleton] at g; subst g; exact .inr hk
  · rcases hk with ⟨hf, _⟩ | ⟨f, hf, hk⟩
    · rw [h4] at hf; cases hf
    rw [h4] at hf; injection hf with hf; subst hf
    have hp := h6 e rfl
    rw [hp] at mp ⊢
    have hjl : j < E.length := (List.getElem?_eq_some_iff.1 h3).1
    have hmem : ∀ x, x ∈ E.set j e → x = e ∨ ∃ i, i ≠ j ∧ E[i]? = some x := by
      intro x hx
      obtain ⟨i, hi⟩ := List.mem_iff_getElem?.1 hx
      by_cases hij : i = j
      · subst hij
        rw [List.getElem?_set_self hjl] at hi
        injection hi with hi; exact .inl hi.symm
      · rw [List.getElem?_set_ne (fun x => hij x.symm)] at hi
        exact .inr ⟨i, hij, hi⟩
    have hnd : ∀ i x, i ≠ j → E[i]? = some x → x.k ≠ d.k := fun i x hij hi hk => hij (h.fam i j x d hi h3 hk)
    have hdm : d ∈ E := List.mem_of_getElem? h3
    have hXE : ∀ i x, i ≠ j → E[i]? = some x → ¬ X x.k := fun i x hij hi hx => by
      have hm := List.mem_of_getElem? hi
      rcases hX _ hx with g | g | ⟨f, hf, g⟩
      · have := hlt2 x hm; omega
      · exact (h.ne.2 x hm).2 g
      · rw [h4] at hf; injection hf with hf; subst hf; exact hnd i x hij hi g
    refine ⟨⟨hex, mp, fun x hx => ?_, fun x hx => ?_, ⟨h.ne.1, fun x hx => ?_⟩, ?_⟩, ?_⟩
    · rcases hmem x hx with rfl | ⟨i, hij, hi⟩
      · exact own
      · exact (h.own x (List.mem_of_getElem? hi)).keep k (hXE i x hij hi)
    · rcases hmem x hx with rfl | ⟨i, hij, hi⟩
      · exact ok
      · exact h.ok x (List.mem_of_getElem? hi)
    · rcases hmem x hx with rfl | ⟨i, hij, hi⟩
      · rw [hk]; exact h.ne.2 d hdm
      · exact h.ne.2 x (List.mem_of_getElem? hi)
    · have one : ∀ (i : Nat) (a : Ent), (E.set j e)[i]? = some a → ∃ a', E[i]? = some a' ∧ a.k = a'.k := by
        intro i a ha
        by_cases hij : i = j
        · subst hij
          rw [List.getElem?_set_self hjl] at ha
          injection ha with ha; subst ha
          exact ⟨d, h3, hk⟩
        · rw [List.getElem?_set_ne (fun x => hij x.symm)] at ha
          exact ⟨a, ha, rfl⟩
      intro i1 i2 a b ha hb hab
      obtain ⟨a', a1, a2⟩ := one i1 a ha
      obtain ⟨b', b1, b2⟩ := one i2 b hb
      exact h.fam i1 i2 a' b' a1 b1 (by omega)
    · rintro j' (rfl | ⟨x, hx, rfl⟩)
      · exact .inl (.inl rfl)
      · rcases hmem x hx with rfl | ⟨i, hij, hi⟩
        · exact .inl (.inr ⟨d, hdm, hk⟩)
        · exact .inl (.inr ⟨x, List.mem_of_getElem? hi, rfl⟩)
end Go.Ev
end

/- Books of chains: what Add does, walked. No condition. -/
noncomputable section
namespace Go.Ev
open Go.Proofs
set_option linter.unusedVariables false
set_option maxRecDepth 100000

theorem add_spec {s : St} (wf : WF s) {p : Value} {kb mb : Nat} {E : List Ent} (h : BookAt s p kb mb E) (l : Lb) {r : Rc} (ok : r.ok) :
    Cw Try.prog 30 [p, l.val, r.val] s fun _ s' => Kp (famE mb E) s s' ∧ ∃ E', BookAt s' p kb mb E' ∧ (∀ j, famE mb E' j → famE mb E j ∨ s.next ≤ j) ∧ ∀ l', chOf E' l' = if l' = l then (chOf E l).add r else chOf E l' := by
  obtain ⟨κ, hsl, _, hl8, hoks⟩ := h.sl l
  have hlt := h.lt wf
  have hg := getE (E := E) (l := l)
  obtain ⟨b0, rfl, g0⟩ := h.ex
  refine Cw.enterS Try.func30 rfl rfl ?_
  refine Sm.seqW ?_
  conv => whnf
  obtain ⟨k1, b1⟩ := new_kp wf l.cells 2
  refine Om.of (.pointer (some ⟨s.next, 0, none⟩), s.new l.cells 2) rfl ?_
  have n1 : (s.new l.cells 2).next = s.next + 1 := rfl
  generalize s.new l.cells 2 = s1 at k1 b1 n1 ⊢
  conv => whnf
  obtain ⟨k2, b2⟩ := new_kp k1.wf r.cells 4
  refine Om.of (.pointer (some ⟨s1.next, 0, none⟩), s1.new r.cells 4) rfl ?_
  have n2 : (s1.new r.cells 4).next = s1.next + 1 := rfl
  generalize s1.new r.cells 4 = s2 at k2 b2 n2 ⊢
  conv => whnf
  have KK2 := k1.then k2
  have b1' := k2.blk _ _ _ _ (fun h => h) b1
  have g2 := KK2.blk _ _ _ _ (fun h => h) g0
  have m2 := KK2.map _ _ (fun h => h) h.mp
  refine Sm.seq ?_
  refine Sm.seqW ?_
  conv => whnf
  refine Om.of (.bool false) rfl ?_
  conv => whnf
  refine Sm.ofW ?_
  conv => whnf
  refine Br.no rfl ?_
  conv => whnf
  refine Sm.weak [(0, .pointer (some ⟨b0, 0, none⟩)), (4, .pointer (some ⟨s.next, 0, none⟩)), (5, .pointer (some ⟨s1.next, 0, none⟩))] (.cons rfl (.cons rfl (.cons rfl (Sub.nil _)))) ?_
  refine Sm.seqC (fun e L' s' => e = .normal ∧ K0 s2 s' ∧ Blk s' s2.next s2.next (chCells (chOf E l) (vOf E l)) 4 ∧ Sub [(0, .pointer (some ⟨b0, 0, none⟩)), (4, .pointer (some ⟨s.next, 0, none⟩)), (5, .pointer (some ⟨s1.next, 0, none⟩)), (6, .pointer (some ⟨s2.next, 0, none⟩))] L') ?_ ?_
  · conv => whnf
    refine ⟨[0, 1, 3, 7, 0, 31, 0, 127], by decide +kernel, by decide +kernel, ?_⟩
    conv => whnf
    refine Om.of _ (load_cell Try.underlying86 rfl rfl g2.rd rfl) ?_
    conv => whnf
    refine Om.of _ (load_agg Try.underlying48 rfl b1'.rd (sl_all rfl)) ?_
    conv => whnf
    refine Om.of _ (lookup_book m2.reset l) ?_
    conv => whnf
    refine Dk.same KK2.wf ?_
    conv => whnf
    obtain ⟨k3, b3⟩ := new_kp KK2.wf.reset (chCells Ch.zero (.slice none 0 0)) 4
    refine Om.of (.pointer (some ⟨s2.next, 0, none⟩), (reset s2).new (chCells Ch.zero (.slice none 0 0)) 4) rfl ?_
    have n3 : (reset s2).next = s2.next := rfl
    rw [n3] at b3
    generalize (reset s2).new (chCells Ch.zero (.slice none 0 0)) 4 = s3 at k3 b3 ⊢
    conv => whnf
    refine Dk.nw (k3.low_reset fun _ h => h.elim) ?_
    have k3' := k3.of_reset KK2.wf
    have b3' := b3.relow (s := s2)
    generalize relow s2 s3 = t3 at k3' b3' ⊢
    conv => whnf
    obtain ⟨s4, e4, k4, b4, _⟩ := store_all (P := Try.prog) (t := 54) (i := _) rfl k3'.wf.reset b3'.reset (a := #[.int .i64 (chOf E l).count, .int .u64 ((chOf E l).head.toNat : Int), vOf E l, .int .u64 ((chOf E l).base.toNat : Int)]) (l := chCells (chOf E l) (vOf E l)) rfl rfl rfl (by
      obtain ⟨a, c, hv⟩ := hsl.shape
      rw [hv]; rfl)
    refine Om.of s4 e4 ?_
    conv => whnf
    have b4' := b4.relow (s := t3)
    have k4' := k3'.touch (k4.of_reset k3'.wf) (fun k hk => by subst hk; exact Nat.le_refl _)
    refine Dk.any ?_ ?_
    · conv => whnf
      exact ⟨rfl, k4', b4', .cons rfl (.cons rfl (.cons rfl (.cons rfl (Sub.nil _))))⟩
    · conv => whnf
      exact ⟨rfl, k4', b4', .cons rfl (.cons rfl (.cons rfl (.cons rfl (Sub.nil _))))⟩
  rintro e L' s3 ⟨rfl, k3, b3, hs⟩
  refine Sm.weak _ hs ?_
  clear hs
  have KK3 := KK2.then k3
  have b1'' := k3.blk _ _ _ _ (fun h => h) b1'
  have b2' := k3.blk _ _ _ _ (fun h => h) b2
  have lt3 := b3.lt KK3.wf
  clear b1 b1' b2 g2 m2
  generalize hc : chOf E l = c at hsl hl8 hoks b3 hg ⊢
  generalize hv : vOf E l = v at hsl b3 hg ⊢
  -- Count
  refine Sm.seqW ?_
  conv => whnf
  refine Om.of _ (load_cell Try.underlying3 rfl rfl b3.rd rfl) ?_
  conv => whnf
  obtain ⟨s4, e4, k4, b4⟩ := store_cell (P := Try.prog) (t := 3) rfl rfl KK3.wf b3 (off := 0 + 0) (v := .int .i64 (IntKind.i64.wrap (c.count + 1))) (by simp [chCells]) rfl rfl
  refine Om.of s4 e4 ?_
  conv => whnf
  have KK4 := KK3.touch k4 (fun k hk => by subst hk; omega)
  have b1 := k4.blk _ _ _ _ (fun h => by omega) b1''
  have b2 := k4.blk _ _ _ _ (fun h => by omega) b2'
  clear b1'' b2'
  refine Sm.weak [(0, .pointer (some ⟨b0, 0, none⟩)), (4, .pointer (some ⟨s.next, 0, none⟩)), (5, .pointer (some ⟨s1.next, 0, none⟩)), (6, .pointer (some ⟨s2.next, 0, none⟩))] (.cons rfl (.cons rfl (.cons rfl (.cons rfl (Sub.nil _))))) ?_
  -- Head
  refine Sm.seqW ?_
  conv => whnf
  refine Om.of _ (load_cell Try.underlying46 rfl rfl b4.rd rfl) ?_
  conv => whnf
  refine Om.of _ (load_agg Try.underlying51 rfl b2.rd (sl_all rfl)) ?_
  conv => whnf
  refine (link_spec KK4.wf c.head ok).mono ?_
  rintro _ s5 ⟨k5, rfl⟩
  conv => whnf
  obtain ⟨s6, e6, k6, b6⟩ := store_cell (P := Try.prog) (t := 46) rfl rfl k5.wf (k5.blk _ _ _ _ (fun h => h) b4) (off := 0 + 1) (v := .int .u64 ((linkF c.head r).toNat : Int)) (by simp [chCells]) rfl rfl
  refine Om.of s6 e6 ?_
  conv => whnf
  have KK6 := (KK4.then k5).touch k6 (fun k hk => by subst hk; omega)
  have b1' := k6.blk _ _ _ _ (fun h => by omega) (k5.blk _ _ _ _ (fun h => h) b1)
  have b2' := k6.blk _ _ _ _ (fun h => by omega) (k5.blk _ _ _ _ (fun h => h) b2)
  clear b1 b2 b4
  have lt6 := b6.lt KK6.wf
  refine Sm.weak [(0, .pointer (some ⟨b0, 0, none⟩)), (4, .pointer (some ⟨s.next, 0, none⟩)), (5, .pointer (some ⟨s1.next, 0, none⟩)), (6, .pointer (some ⟨s2.next, 0, none⟩))] (.cons rfl (.cons rfl (.cons rfl (.cons rfl (Sub.nil _))))) ?_
  -- Last
  refine Sm.seqW ?_
  conv => whnf
  refine Om.of _ (load_cell Try.underlying52 rfl rfl b6.rd rfl) ?_
  conv => whnf
  refine Om.of _ (load_agg Try.underlying51 rfl b2'.rd (sl_all rfl)) ?_
  conv => whnf
  obtain ⟨k7, b7⟩ := new_kp KK6.wf r.cells 4
  refine Om.of (.slice (some ⟨s6.next, 0, none⟩) 1 1, s6.new r.cells 4) rfl ?_
  have n7 : (s6.new r.cells 4).next = s6.next + 1 := rfl
  generalize s6.new r.cells 4 = s7 at k7 b7 n7 ⊢
  conv => whnf
  have KK7 := KK6.then k7
  have x7 : Sr s7 (some s6.next) (.slice (some ⟨s6.next, 0, none⟩) 1 1) [r] := Own.sl ⟨_, rfl, b7, rfl⟩
  have app : ∃ v8 s8 k8, evAp Try.prog 52 52 v (.slice (some ⟨s6.next, 0, none⟩) 1 1) s7 = some (v8, s8) ∧ Own s8 k8 v8 4 (c.last.length + 1) (rcCells (c.last ++ [r])) ∧ Kp (fun j => j = k8) s7 s8 ∧
      ((findE l E = none ∧ k8 = s7.next) ∨ ∃ f ∈ E, findE l E = some f ∧ k8 = f.k) := by
    rcases hg with ⟨hn, h2, h3⟩ | ⟨f, hf, _, hs, h2, h3⟩
    · subst h3
      have hcl : c.last = [] := by rw [h2]; rfl
      obtain ⟨v8, s8, e8, o8, k8⟩ := append_nil R52 Try.underlying52 rfl KK7.wf (elems_sl x7) rfl (rcCells_one [r]) (by simp) (by simp)
      rw [hcl]
      exact ⟨v8, s8, s7.next, e8, o8, k8.weak fun _ h => h.elim, .inl ⟨hn, rfl⟩⟩
    · have ho := (h.own f hf).keep0 KK7
      rw [← h2, ← h3] at ho
      obtain ⟨v8, s8, e8, o8, k8⟩ := append_tail R52 Try.underlying52 rfl KK7.wf ho (elems_sl x7) rfl (rcCells_one [r]) (by simp only [List.length_singleton]; omega) (by simp)
      rw [← rcCells_append] at o8
      exact ⟨v8, s8, f.k, e8, o8, k8, .inr ⟨f, hf, hs, rfl⟩⟩
  obtain ⟨v8, s8, f8, e8, o8, k8, hf8⟩ := app
  refine Om.of (v8, s8) e8 ?_
  conv => whnf
  obtain ⟨a8, c8, rfl⟩ := o8.sl.shape
  have g1 := KK7.next
  have hf8' : f8 = s7.next ∨ (f8 < s.next ∧ famE mb E f8 ∧ f8 ≠ kb ∧ f8 ≠ mb) := by
    rcases hf8 with ⟨_, h⟩ | ⟨f, hf, _, h⟩
    · exact .inl h
    · subst h
      exact .inr ⟨hlt.2 _ (.inr ⟨f, hf, rfl⟩), .inr ⟨f, hf, rfl⟩, (h.ne.2 f hf).1, (h.ne.2 f hf).2⟩
  have b1 := k8.blk _ _ _ _ (fun h => by omega) (k7.blk _ _ _ _ (fun h => h) b1')
  have b8 := k8.blk _ _ _ _ (fun h => by omega) (k7.blk _ _ _ _ (fun h => h) b6)
  have KK8 : Kp (fun j => j = f8) s s8 := K0.then KK7 k8
  clear b1' b2' b6 b7 x7
  obtain ⟨s9, e9, k9, b9⟩ := store_cell (P := Try.prog) (t := 52) rfl rfl k8.wf b8 (off := 0 + 2) (v := .slice a8 (c.last.length + 1) c8) (by simp [chCells]) rfl rfl
  refine Om.of s9 e9 ?_
  conv => whnf
  have KK9 : Kp (fun j => j = f8) s s9 := KK8.trans k9 fun j hj => .inr (by omega)
  have b1' := k9.blk _ _ _ _ (fun h => by omega) b1
  have o9 := o8.keep k9 (fun h => by omega)
  clear b1 b8
  refine Sm.weak [(0, .pointer (some ⟨b0, 0, none⟩)), (4, .pointer (some ⟨s.next, 0, none⟩)), (6, .pointer (some ⟨s2.next, 0, none⟩))] (.cons rfl (.cons rfl (.cons rfl (Sub.nil _)))) ?_
  -- Base
  refine Sm.seqC (fun e L' s' => e = .normal ∧ Kp (fun j => j = f8) s s' ∧ Blk s' s.next s.next l.cells 2 ∧ (∃ v9, Blk s' s2.next s2.next (chCells (c.add r) v9) 4 ∧ OwnT s' f8 v9 4 (c.add r).last.length (rcCells (c.add r).last)) ∧
    Sub [(0, .pointer (some ⟨b0, 0, none⟩)), (4, .pointer (some ⟨s.next, 0, none⟩)), (6, .pointer (some ⟨s2.next, 0, none⟩))] L') ?_ ?_
  · conv => whnf
    refine Om.of _ (load_cell Try.underlying52 rfl rfl b9.rd rfl) ?_
    conv => whnf
    refine Br.mk (fun hq => ?_) (fun hq => ?_)
    · have hq : 8 < c.last.length + 1 := by have := of_decide_eq_true hq; omega
      conv => whnf
      have hadd : c.add r = ⟨IntKind.i64.wrap (c.count + 1), linkF c.head r, (c.last ++ [r]).drop 1, linkF c.base ((c.last ++ [r]).head?.getD r)⟩ := by unfold Ch.add; rw [if_pos hq]
      refine ⟨[0, 1, 0, 4, 12, 28, 63, 127, 255], by decide +kernel, by decide +kernel, ?_⟩
      conv => whnf
      refine Om.of _ (load_cell Try.underlying46 rfl rfl b9.rd rfl) ?_
      conv => whnf
      refine Om.of _ (load_cell Try.underlying52 rfl rfl b9.rd rfl) ?_
      conv => whnf
      have o9s : Sr s9 (some f8) (.slice a8 (c.last.length + 1) c8) (c.last ++ [r]) := by
        have := o9.sl
        show Sl _ _ _ _ (c.last ++ [r]).length _
        rw [List.length_append]; exact this
      have h0 : 0 < (c.last ++ [r]).length := by simp
      obtain ⟨a0, i1, i2⟩ := index_rc o9s .i64 h0
      refine Om.of _ i1 ?_
      conv => whnf
      refine Om.of _ i2 ?_
      conv => whnf
      have h0r : (c.last ++ [r])[0].ok := by
        have hm := List.getElem_mem h0
        rcases List.mem_append.1 hm with g | g
        · exact hoks _ g
        · rw [List.mem_singleton] at g; rw [g]; exact ok
      refine (link_spec KK9.wf.reset c.base h0r).mono ?_
      rintro _ t1 ⟨q1, rfl⟩
      conv => whnf
      refine Dk.nw (q1.low_reset fun _ h => h.elim) ?_
      have q1' := q1.of_reset KK9.wf
      have KK10 := KK9.then0 q1'
      have b10 := q1'.blk _ _ _ _ (fun h => h) b9
      have b1'' := q1'.blk _ _ _ _ (fun h => h) b1'
      have o10 := o9.keep0 q1'
      generalize relow s9 t1 = t2 at q1' KK10 b10 b1'' o10 ⊢
      conv => whnf
      obtain ⟨s11, e11, k11, b11⟩ := store_cell (P := Try.prog) (t := 46) rfl rfl KK10.wf.reset b10.reset (off := 0 + 3) (v := .int .u64 ((linkF c.base (c.last ++ [r])[0]).toNat : Int)) (by simp [chCells]) rfl rfl
      refine Om.of s11 e11 ?_
      conv => whnf
      have k11' := k11.of_reset KK10.wf
      have KK11 : Kp (fun j => j = f8) s (relow t2 s11) := KK10.trans k11' fun j hj => .inr (by omega)
      have b11' := b11.relow (s := t2)
      have b1t := k11'.blk _ _ _ _ (fun h => by omega) b1''
      have o11 := o10.keep k11' (fun h => by omega)
      obtain ⟨v12, e12, o12⟩ := tail_from R52 o11.tail .i64 (i := 1) (by omega)
      obtain ⟨a12, c12, rfl⟩ := o12.sl.shape
      obtain ⟨s13, e13, k13, b13⟩ := store_cell (P := Try.prog) (t := 52) rfl rfl KK11.wf b11' (off := 0 + 2) (v := .slice a12 (c.last.length + 1 - 1) c12) (by simp [chCells]) rfl rfl
      have KK13 : Kp (fun j => j = f8) s s13 := KK11.trans k13 fun j hj => .inr (by omega)
      have hh : (c.last ++ [r]).head?.getD r = (c.last ++ [r])[0] := by rw [List.head?_eq_getElem?, List.getElem?_eq_getElem h0]; rfl
      have fin : Kp (fun j => j = f8) s s13 ∧ Blk s13 s.next s.next l.cells 2 ∧ ∃ v9, Blk s13 s2.next s2.next (chCells (c.add r) v9) 4 ∧ OwnT s13 f8 v9 4 (c.add r).last.length (rcCells (c.add r).last) := by
        refine ⟨KK13, k13.blk _ _ _ _ (fun h => by omega) b1t, .slice a12 (c.last.length + 1 - 1) c12, ?_, ?_⟩
        · rw [hadd, hh]; exact b13
        · rw [hadd]
          have := o12.keep k13 (fun h => by omega)
          rw [show (1 : Nat) * 4 = 1 * 4 from rfl, rcCells_drop] at this
          have e : ((c.last ++ [r]).drop 1).length = c.last.length + 1 - 1 := by simp
          show OwnT s13 f8 _ 4 ((c.last ++ [r]).drop 1).length _
          rw [e]; exact this
      refine Dk.any ?_ ?_
      · conv => whnf
        refine Om.of _ (load_cell Try.underlying52 rfl rfl b11'.rd rfl) ?_
        conv => whnf
        refine Om.of _ e12 ?_
        conv => whnf
        refine Om.of s13 e13 ?_
        conv => whnf
        exact ⟨rfl, fin.1, fin.2.1, fin.2.2, .cons rfl (.cons rfl (.cons rfl (Sub.nil _)))⟩
      · conv => whnf
        refine Om.of _ (load_cell Try.underlying52 rfl rfl b11'.rd rfl) ?_
        conv => whnf
        refine Om.of _ e12 ?_
        conv => whnf
        refine Om.of s13 e13 ?_
        conv => whnf
        exact ⟨rfl, fin.1, fin.2.1, fin.2.2, .cons rfl (.cons rfl (.cons rfl (Sub.nil _)))⟩
    · have hq : ¬ 8 < c.last.length + 1 := by have := of_decide_eq_false hq; omega
      conv => whnf
      have hadd : c.add r = ⟨IntKind.i64.wrap (c.count + 1), linkF c.head r, c.last ++ [r], c.base⟩ := by unfold Ch.add; rw [if_neg hq]
      refine ⟨rfl, KK9, b1', ⟨.slice a8 (c.last.length + 1) c8, ?_, ?_⟩, .cons rfl (.cons rfl (.cons rfl (Sub.nil _)))⟩
      · rw [hadd]; exact b9
      · rw [hadd]
        show OwnT s9 f8 _ 4 (c.last ++ [r]).length _
        rw [List.length_append]; exact o9.tail
  rintro e L' s14 ⟨rfl, KK14, b14, ⟨v9, bc, ow⟩, hs⟩
  refine Sm.weak _ hs ?_
  clear hs
  have g14 := KK14.blk _ _ _ _ (fun hh => by omega) g0
  have m14 := KK14.map _ _ (fun hh => by have := hlt.2 mb (.inl rfl); omega) h.mp
  refine Sm.ofW ?_
  conv => whnf
  refine ⟨[0, 1, 3, 7, 0, 0, 63], by decide +kernel, by decide +kernel, ?_⟩
  conv => whnf
  refine Om.of _ (load_cell Try.underlying86 rfl rfl g14.rd rfl) ?_
  conv => whnf
  refine Om.of _ (load_agg Try.underlying48 rfl b14.rd (sl_all rfl)) ?_
  conv => whnf
  refine Om.of _ (load_agg Try.underlying54 rfl bc.rd (sl_all rfl)) ?_
  conv => whnf
  obtain ⟨s15, e15, k15, m15, _⟩ := update_book KK14.wf.reset m14.reset ⟨l, c.add r, v9, f8⟩
  refine Om.of s15 e15 ?_
  conv => whnf
  have k15' := k15.of_reset KK14.wf
  have m15' := m15.relow (s := s14)
  have ow' := ow.keep k15' (fun hh => by have := hlt.2 mb (.inl rfl); omega)
  have KK15 : Kp (fun j => j = f8 ∨ j = mb) s (relow s14 s15) := (KK14.weak fun j hj => .inl (.inl hj)).trans k15' fun j hj => .inl (.inr hj)
  have len8 : (c.add r).last.length ≤ 8 ∧ ∀ q ∈ (c.add r).last, q.ok := by
    have hall : ∀ q ∈ c.last ++ [r], q.ok := fun q hq => by
      rcases List.mem_append.1 hq with g | g
      · exact hoks _ g
      · rw [List.mem_singleton] at g; rw [g]; exact ok
    unfold Ch.add
    by_cases hq : 8 < c.last.length + 1
    · rw [if_pos hq]
      exact ⟨by simp; omega, fun q hq => hall q (List.mem_of_mem_drop hq)⟩
    · rw [if_neg hq]
      exact ⟨by simp; omega, hall⟩
  have put := h.put (e := ⟨l, c.add r, v9, f8⟩) KK15 (fun j hj => by
    rcases hj with rfl | rfl
    · rcases hf8 with ⟨_, g⟩ | ⟨f, _, g2, g3⟩
      · exact .inl (by omega)
      · exact .inr (.inr ⟨f, g2, g3⟩)
    · exact .inr (.inl rfl)) (fun hh => by
    rcases hh with hh | hh
    · omega
    · exact h.ne.1 hh) m15' ow' len8 wf (by
    rcases hf8 with ⟨g2, g⟩ | ⟨f, _, g2, g3⟩
    · exact .inl ⟨g2, by show s.next ≤ f8; omega⟩
    · exact .inr ⟨f, g2, g3⟩)
  have KKf : Kp (famE mb E) s (relow s14 s15) := KK15.weak fun j hj => by
    rcases hj with rfl | rfl
    · rcases hf8' with g | ⟨_, g, _⟩
      · exact .inr (by omega)
      · exact .inl g
    · exact .inl (.inl rfl)
  have fin : Kp (famE mb E) s (relow s14 s15) ∧ ∃ E', BookAt (relow s14 s15) (.pointer (some ⟨b0, 0, none⟩)) kb mb E' ∧ (∀ j, famE mb E' j → famE mb E j ∨ s.next ≤ j) ∧ ∀ l', chOf E' l' = if l' = l then c.add r else chOf E l' :=
    ⟨KKf, _, put.1, put.2, fun l' => chOf_put _ _ _⟩
  refine Dk.any ?_ ?_
  · conv => whnf
    exact ⟨fin⟩
  · conv => whnf
    exact ⟨fin⟩
end Go.Ev
end

/- Books of chains: what Right does; a raw record, a label. No condition. -/
noncomputable section
namespace Go.Ev
open Go.Proofs
set_option linter.unusedVariables false
set_option maxRecDepth 100000

def rightF (c : Ch) : Bool := ((c.last.foldl linkF c.base).toNat : Int) == (c.head.toNat : Int) && ((c.last.length : Int) == (if 8 < c.count then 8 else c.count) && (decide (c.count > 8) || ((c.base.toNat : Int) == 0)))
theorem right_spec {s : St} (wf : WF s) {c : Ch} {κ : Option Nat} {v : Value} (hv : Sr s κ v c.last) (ok : ∀ r ∈ c.last, r.ok) (hl : c.last.length ≤ 5000000000000) :
    Cw Try.prog 32 [chVal c v] s fun r s' => K0 s s' ∧ r = .bool (rightF c) := by
  obtain ⟨a, cp, rfl⟩ := hv.shape
  refine Cw.enterS Try.func32 rfl rfl ?_
  refine Sm.seqW ?_
  conv => whnf
  obtain ⟨k1, b1⟩ := new_kp wf (chCells c (.slice a c.last.length cp)) 4
  refine Om.of (.pointer (some ⟨s.next, 0, none⟩), s.new (chCells c (.slice a c.last.length cp)) 4) rfl ?_
  have n1 : (s.new (chCells c (.slice a c.last.length cp)) 4).next = s.next + 1 := rfl
  generalize s.new (chCells c (.slice a c.last.length cp)) 4 = s1 at k1 b1 n1 ⊢
  conv => whnf
  have hv1 := hv.keep0 k1
  refine Sm.seqW ?_
  conv => whnf
  refine Om.of _ (load_cell Try.underlying46 rfl rfl b1.rd rfl) ?_
  conv => whnf
  refine Sm.seq ?_
  refine Sm.seqW ?_
  conv => whnf
  refine Om.of _ (load_cell Try.underlying52 rfl rfl b1.rd rfl) ?_
  conv => whnf
  refine Sm.block ?_
  refine Sm.loop ?_
  refine Lp.ofS (α := Nat) (fun i => [(1, .pointer (some ⟨s.next, 0, none⟩)), (3, .int .u64 ((((c.last.take i).foldl linkF c.base).toNat : Nat) : Int)), (9, .slice a c.last.length cp), (10, .int .i64 (c.last.length : Int)), (11, .int .i64 (i : Int))])
    (fun i s' => K0 s1 s' ∧ i ≤ c.last.length) (fun i => c.last.length - i) ?_ 0 (.cons rfl (.cons rfl (.cons rfl (.cons rfl (.cons rfl (Sub.nil _)))))) ⟨Kp.refl k1.wf, by omega⟩
  rintro i s2 ⟨k2, hi⟩
  have KK2 := k1.then k2
  have b2 := k2.blk _ _ _ _ (fun h => h) b1
  have hv2 := hv1.keep0 k2
  refine Sm.seqW ?_
  conv => whnf
  refine Sm.seqW ?_
  conv => whnf
  refine Br.mk (fun hc => ?_) (fun hc => ?_)
  rotate_left
  · have hc := of_decide_eq_false hc
    conv => whnf
    rw [List.take_of_length_le (by omega)]
    have key : ∀ x y z w : Bool, ((((c.last.foldl linkF c.base).toNat : Nat) : Int) == (c.head.toNat : Int)) = x → ((c.last.length : Int) == (if 8 < c.count then 8 else c.count)) = y → decide (c.count > 8) = z → ((c.base.toNat : Int) == 0) = w → rightF c = (x && (y && (z || w))) := by
      intro x y z w h1 h2 h3 h4
      unfold rightF
      rw [h1, h2, h3, h4]
    refine Sm.seqW ?_
    conv => whnf
    refine Om.of _ (load_cell Try.underlying46 rfl rfl b2.rd rfl) ?_
    conv => whnf
    cases hx : ((((c.last.foldl linkF c.base).toNat : Nat) : Int) == (c.head.toNat : Int)) <;> cases hy : ((c.last.length : Int) == (if 8 < c.count then 8 else c.count)) <;> cases hz : decide (c.count > 8) <;> cases hw : ((c.base.toNat : Int) == 0)
    all_goals
      have hkey := key _ _ _ _ hx hy hz hw
      clear key
      repeat (first
        | (refine Br.yes (by first | rfl | assumption) ?_; conv => whnf)
        | (refine Br.no (by first | rfl | assumption) ?_; conv => whnf)
        | (refine Om.of _ (load_cell Try.underlying46 rfl rfl b2.rd rfl) ?_; conv => whnf)
        | (refine Om.of _ (load_cell Try.underlying3 rfl rfl b2.rd rfl) ?_; conv => whnf)
        | (refine Om.of _ (load_cell Try.underlying52 rfl rfl b2.rd rfl) ?_; conv => whnf))
      refine Sm.ofW ?_
      conv => whnf
      refine ⟨KK2, congrArg Value.bool ?_⟩
      rw [hkey]
      first | rfl | assumption
  have hc : i < c.last.length := by have := of_decide_eq_true hc; omega
  conv => whnf
  refine Sm.seq (Sm.block ?_)
  refine Sm.seqW ?_
  conv => whnf
  obtain ⟨p, e1, e2⟩ := index_rc hv2 .i64 hc
  refine Om.of _ e1 ?_
  conv => whnf
  refine Om.of _ e2 ?_
  conv => whnf
  obtain ⟨k3, b3⟩ := new_kp KK2.wf [.int .i64 0, .int .i64 0, .int .i64 0, .string ⟨#[]⟩] 4
  refine Om.of (.pointer (some ⟨s2.next, 0, none⟩), s2.new [.int .i64 0, .int .i64 0, .int .i64 0, .string ⟨#[]⟩] 4) rfl ?_
  have n3 : (s2.new [.int .i64 0, .int .i64 0, .int .i64 0, .string ⟨#[]⟩] 4).next = s2.next + 1 := rfl
  generalize s2.new [.int .i64 0, .int .i64 0, .int .i64 0, .string ⟨#[]⟩] 4 = s3 at k3 b3 n3 ⊢
  conv => whnf
  obtain ⟨s4, e4, k4, b4, _⟩ := store_all (P := Try.prog) (t := 51) (i := _) rfl k3.wf b3 (a := #[.int .i64 c.last[i].who, .int .i64 c.last[i].verb, .int .i64 c.last[i].what, .string c.last[i].text]) (l := c.last[i].cells) rfl rfl rfl rfl
  refine Om.of s4 e4 ?_
  conv => whnf
  have K4 : K0 s1 s4 := (k2.then k3).touch k4 (fun k hk => by subst hk; exact k2.next)
  refine Sm.weak [(1, .pointer (some ⟨s.next, 0, none⟩)), (3, .int .u64 ((((c.last.take i).foldl linkF c.base).toNat : Nat) : Int)), (5, .pointer (some ⟨s2.next, 0, none⟩)), (9, .slice a c.last.length cp), (10, .int .i64 (c.last.length : Int)), (11, .int .i64 (i : Int))] (.cons rfl (.cons rfl (.cons rfl (.cons rfl (.cons rfl (.cons rfl (Sub.nil _))))))) ?_
  refine Sm.ofW ?_
  conv => whnf
  refine Om.of _ (load_agg Try.underlying51 rfl b4.rd (sl_all rfl)) ?_
  conv => whnf
  refine (link_spec K4.wf ((c.last.take i).foldl linkF c.base) (ok c.last[i] (List.getElem_mem hc))).mono ?_
  rintro r5 s5 ⟨k5, rfl⟩
  conv => whnf
  refine Sm.ofW ?_
  conv => whnf
  have e5 : linkF ((c.last.take i).foldl linkF c.base) c.last[i] = (c.last.take (i + 1)).foldl linkF c.base := by rw [List.take_succ_eq_append_getElem hc, List.foldl_append]; rfl
  have e6 : IntKind.i64.wrap ((i : Int) + 1) = ((i + 1 : Nat) : Int) := by rw [wrap_i64 (by omega) (by omega)]; omega
  rw [e5]
  exact ⟨i + 1, by (show c.last.length - (i + 1) < c.last.length - i); omega, .cons rfl (.cons rfl (.cons rfl (.cons rfl (.cons (congrArg (fun x => some (Value.int .i64 x)) e6) (Sub.nil _))))), K4.then k5, by omega⟩
end Go.Ev
end

/- Chains: a raw record, a label; what 'known' says. No condition. -/
noncomputable section
namespace Go.Ev
open Go.Proofs
set_option linter.unusedVariables false
set_option maxRecDepth 100000

/-- A record, raw: its label's number ahead. -/
structure Rw where
  l : Int
  r : Rc
def Rw.cells (x : Rw) : List Value := .int .i64 x.l :: x.r.cells
def Rw.val (x : Rw) : Value := .agg #[.int .i64 x.l, .int .i64 x.r.who, .int .i64 x.r.verb, .int .i64 x.r.what, .string x.r.text]
structure Rw.ok (x : Rw) : Prop where
  l : Pk.inR x.l
  r : x.r.ok
theorem rw_fits {r : List Value} (h : Fits [.int .i64, .int .i64, .int .i64, .int .i64, .str] r) : ∃ x : Rw, r = x.cells ∧ x.ok := by
  have hl := h.length
  match r, hl with
  | [a, b, c, d, e], _ =>
  obtain ⟨h1, h2, h3, h4, h5, _⟩ := h
  cases a <;> try exact h1.elim
  cases b <;> try exact h2.elim
  cases c <;> try exact h3.elim
  cases d <;> try exact h4.elim
  cases e <;> try exact h5.elim
  obtain ⟨rfl, h1⟩ := h1
  obtain ⟨rfl, h2⟩ := h2
  obtain ⟨rfl, h3⟩ := h3
  obtain ⟨rfl, h4⟩ := h4
  exact ⟨⟨_, ⟨_, _, _, _⟩⟩, rfl, i64_wf h1, ⟨i64_wf h2, i64_wf h3, i64_wf h4, h5⟩⟩
theorem record_spec {s : St} (wf : WF s) (x : Rw) : Cw Try.prog 35 [x.val] s fun r s' => K0 s s' ∧ r = x.r.val := by
  refine Cw.enterS Try.func35 rfl rfl ?_
  refine Sm.seqW ?_
  conv => whnf
  obtain ⟨k1, b1⟩ := new_kp wf x.cells 5
  refine Om.of (.pointer (some ⟨s.next, 0, none⟩), s.new x.cells 5) rfl ?_
  have n1 : (s.new x.cells 5).next = s.next + 1 := rfl
  generalize s.new x.cells 5 = s1 at k1 b1 n1 ⊢
  conv => whnf
  obtain ⟨k2, b2⟩ := new_kp k1.wf [.int .i64 0, .int .i64 0, .int .i64 0, .string ⟨#[]⟩] 4
  refine Om.of (.pointer (some ⟨s1.next, 0, none⟩), s1.new [.int .i64 0, .int .i64 0, .int .i64 0, .string ⟨#[]⟩] 4) rfl ?_
  generalize s1.new [.int .i64 0, .int .i64 0, .int .i64 0, .string ⟨#[]⟩] 4 = s2 at k2 b2 ⊢
  conv => whnf
  have b1' := k2.blk _ _ _ _ (fun h => h) b1
  have K2 := k1.then k2
  refine Sm.seqW ?_
  conv => whnf
  refine Om.of _ (load_cell Try.underlying3 rfl rfl b1'.rd rfl) ?_
  conv => whnf
  refine Om.of _ (load_cell Try.underlying3 rfl rfl b1'.rd rfl) ?_
  conv => whnf
  refine Om.of _ (load_cell Try.underlying3 rfl rfl b1'.rd rfl) ?_
  conv => whnf
  refine Om.of _ (load_cell Try.underlying9 rfl rfl b1'.rd rfl) ?_
  conv => whnf
  obtain ⟨s3, e3, k3, b3, _⟩ := store_all (P := Try.prog) (t := 51) (i := _) rfl K2.wf b2 (a := #[.int .i64 x.r.who, .int .i64 x.r.verb, .int .i64 x.r.what, .string x.r.text]) (l := x.r.cells) rfl rfl rfl rfl
  refine Om.of s3 e3 ?_
  conv => whnf
  refine Sm.ofW ?_
  conv => whnf
  refine Om.of _ (load_agg Try.underlying51 rfl b3.rd (sl_all rfl)) ?_
  conv => whnf
  exact ⟨K2.touch k3 (fun k hk => by subst hk; omega), rfl⟩
/-- One of a few labels. -/
def lab (n : Int) : Lb := ⟨n % 3, (n.tdiv 3) % 2⟩
theorem label_spec {s : St} (wf : WF s) {n : Int} (hn : inR n) : Cw Try.prog 34 [.int .i64 n] s fun r s' => K0 s s' ∧ r = (lab n).val := by
  obtain ⟨hn1, hn2⟩ := hn
  have t1 : inR (n.tdiv 3) := by
    have h1 := Int.tdiv_mul_add_tmod n 3
    have h2 := Int.tmod_lt_of_pos n (show (0 : Int) < 3 by omega)
    have h3 := Int.lt_tmod_of_pos n (show (0 : Int) < 3 by omega)
    unfold inR
    omega
  refine Cw.enterS Try.func34 rfl rfl ?_
  refine Sm.seqW ?_
  conv => whnf
  obtain ⟨k1, b1⟩ := new_kp wf [.int .u64 0, .int .i64 0] 2
  refine Om.of (.pointer (some ⟨s.next, 0, none⟩), s.new [.int .u64 0, .int .i64 0] 2) rfl ?_
  generalize s.new [.int .u64 0, .int .i64 0] 2 = s1 at k1 b1 ⊢
  conv => whnf
  refine Sm.seqW ?_
  conv => whnf
  refine (pick_spec s1 ⟨hn1, hn2⟩ (m := 3) (by omega) (by omega)).mono ?_
  rintro r s2 ⟨rfl, rfl⟩
  conv => whnf
  have e1 : IntKind.u64.wrap (n % 3) = n % 3 := by rw [wrap_u64i]; omega
  have e2 : IntKind.i64.wrap (n.tdiv 3) = n.tdiv 3 := wrap_i64 t1.1 t1.2
  refine Om.of (.int .i64 (n.tdiv 3)) (congrArg (fun x => some (Value.int .i64 x)) e2) ?_
  conv => whnf
  refine (pick_spec s2 t1 (m := 2) (by omega) (by omega)).mono ?_
  rintro r s3 ⟨rfl, rfl⟩
  conv => whnf
  obtain ⟨s4, e4, k4, b4, _⟩ := store_all (P := Try.prog) (t := 48) (i := _) rfl k1.wf b1 (a := #[.int .u64 (IntKind.u64.wrap (n % 3)), .int .i64 ((n.tdiv 3) % 2)]) (l := (lab n).cells) (by rw [e1]; rfl) rfl rfl rfl
  refine Om.of s4 e4 ?_
  conv => whnf
  refine Sm.ofW ?_
  conv => whnf
  refine Om.of _ (load_agg Try.underlying48 rfl b4.rd (sl_all rfl)) ?_
  conv => whnf
  exact ⟨k1.touch k4 (fun k hk => by subst hk; exact Nat.le_refl _), rfl⟩
end Go.Ev
end

/- Chains: what 'known' says. No condition. -/
noncomputable section
namespace Go.Ev
open Go.Proofs
set_option linter.unusedVariables false
set_option maxRecDepth 100000

def rc1 : Rc := ⟨1, 2, 0, ⟨#[97]⟩⟩
theorem rc1_ok : rc1.ok := ⟨by unfold Pk.inR rc1; decide, by unfold Pk.inR rc1; decide, by unfold Pk.inR rc1; decide, by decide⟩
theorem cknown_spec {s : St} (wf : WF s) : Cw Try.prog 29 [] s fun r s' => r = .bool true ∧ K0 s s' := by
  refine Cw.enterS Try.func29 rfl rfl ?_
  refine Sm.seqW ?_
  conv => whnf
  refine Sm.seqW ?_
  conv => whnf
  refine (cnew_spec wf).mono ?_
  rintro p s1 ⟨k1, kb, mb, n1, n2, h1⟩
  obtain ⟨b0, rfl, _⟩ := h1.ex
  conv => whnf
  refine Sm.seq ?_
  refine Sm.seqW ?_
  conv => whnf
  refine Om.of (.bool false) rfl ?_
  conv => whnf
  refine Sm.ofW ?_
  conv => whnf
  refine Br.no rfl ?_
  conv => whnf
  refine Sm.weak [(1, .pointer (some ⟨b0, 0, none⟩))] (.cons rfl (Sub.nil _)) ?_
  refine Sm.seqW ?_
  conv => whnf
  let l1 : Lb := ⟨1, 0⟩
  obtain ⟨k2, b2⟩ := new_kp k1.wf [.int .u64 0, .int .i64 0] 2
  refine Om.of (.pointer (some ⟨s1.next, 0, none⟩), s1.new [.int .u64 0, .int .i64 0] 2) rfl ?_
  generalize s1.new [.int .u64 0, .int .i64 0] 2 = s2 at k2 b2 ⊢
  conv => whnf
  obtain ⟨s3, e3, k3, b3, _⟩ := store_all (P := Try.prog) (t := 48) (i := _) rfl k2.wf b2 (a := #[.int .u64 1, .int .i64 0]) (l := l1.cells) rfl rfl rfl rfl
  refine Om.of s3 e3 ?_
  conv => whnf
  have K3 : K0 s1 s3 := k2.touch k3 (fun k hk => by subst hk; exact Nat.le_refl _)
  have h3 := h1.keep0 K3
  have K03 := k1.then K3
  have n3 := k1.next
  have lt3 := b3.lt K3.wf
  have lth := h1.lt k1.wf
  refine Sm.weak [(1, .pointer (some ⟨b0, 0, none⟩)), (2, .pointer (some ⟨s1.next, 0, none⟩))] (.cons rfl (.cons rfl (Sub.nil _))) ?_
  -- x
  refine Sm.seqW ?_
  conv => whnf
  refine Om.of _ (load_agg Try.underlying48 rfl b3.rd (sl_all rfl)) ?_
  conv => whnf
  refine (of_spec K3.wf h3 l1).mono ?_
  rintro _ s4 ⟨k4, w4, rfl, o4⟩
  obtain ⟨a4, c4, rfl⟩ := o4.shape
  conv => whnf
  obtain ⟨k5, b5⟩ := new_kp k4.wf (chCells Ch.zero (.slice none 0 0)) 4
  refine Om.of (.pointer (some ⟨s4.next, 0, none⟩), s4.new (chCells Ch.zero (.slice none 0 0)) 4) rfl ?_
  generalize s4.new (chCells Ch.zero (.slice none 0 0)) 4 = s5 at k5 b5 ⊢
  conv => whnf
  have z1 : chOf [] l1 = Ch.zero := rfl
  rw [z1] at o4 ⊢
  obtain ⟨s6, e6, k6, b6, _⟩ := store_all (P := Try.prog) (t := 54) (i := _) rfl k5.wf b5 (a := #[.int .i64 0, .int .u64 0, .slice a4 Ch.zero.last.length c4, .int .u64 0]) (l := chCells Ch.zero (.slice a4 Ch.zero.last.length c4)) rfl rfl rfl rfl
  refine Om.of s6 e6 ?_
  conv => whnf
  have b5lt := b5.lt k5.wf
  have K46 : K0 s4 s6 := k5.touch k6 (fun k hk => by subst hk; exact Nat.le_refl _)
  have K36 : K0 s3 s6 := k4.then K46
  have h6 := h3.keep0 K36
  have b36 := K36.blk _ _ _ _ (fun h => h) b3
  have o6 := o4.keep0 K46
  refine Sm.weak [(1, .pointer (some ⟨b0, 0, none⟩)), (2, .pointer (some ⟨s1.next, 0, none⟩)), (3, .pointer (some ⟨s4.next, 0, none⟩))] (.cons rfl (.cons rfl (.cons rfl (Sub.nil _)))) ?_
  -- added
  refine Sm.seqW ?_
  conv => whnf
  refine Om.of _ (load_agg Try.underlying48 rfl b36.rd (sl_all rfl)) ?_
  conv => whnf
  refine (add_spec K36.wf h6 l1 rc1_ok).mono ?_
  rintro _ s7 ⟨k7, E', h7, f7, g7⟩
  conv => whnf
  have nf : ∀ j, famE mb [] j → j < s1.next := fun j hj => lth.2 j hj
  have b7 := k7.blk _ _ _ _ (fun h => by have := nf _ h; omega) b36
  have b67 := k7.blk _ _ _ _ (fun h => by have := nf _ h; have := k4.next; have := K3.next; omega) b6
  have n4 := k4.next
  have n5 := K3.next
  have o7 := o6.keep k7 (fun k h1 h2 h => by have := nf _ h; omega)
  have K07 : K0 s s7 := (K03.then K36).touch k7 (fun j hj => by
    rcases hj with rfl | ⟨e, he, _⟩
    · exact n2
    · cases he)
  have z2 : chOf E' l1 = Ch.zero.add rc1 := by rw [g7]; rfl
  refine Sm.weak [(1, .pointer (some ⟨b0, 0, none⟩)), (2, .pointer (some ⟨s1.next, 0, none⟩)), (3, .pointer (some ⟨s4.next, 0, none⟩))] (.cons rfl (.cons rfl (.cons rfl (Sub.nil _)))) ?_
  -- y
  refine Sm.seqW ?_
  conv => whnf
  refine Om.of _ (load_agg Try.underlying48 rfl b7.rd (sl_all rfl)) ?_
  conv => whnf
  refine (of_spec k7.wf h7 l1).mono ?_
  rintro _ s8 ⟨k8, w8, rfl, o8⟩
  obtain ⟨a8, c8, rfl⟩ := o8.shape
  conv => whnf
  obtain ⟨k9, b9⟩ := new_kp k8.wf (chCells Ch.zero (.slice none 0 0)) 4
  refine Om.of (.pointer (some ⟨s8.next, 0, none⟩), s8.new (chCells Ch.zero (.slice none 0 0)) 4) rfl ?_
  generalize s8.new (chCells Ch.zero (.slice none 0 0)) 4 = s9 at k9 b9 ⊢
  conv => whnf
  rw [z2] at o8 ⊢
  have hl : (Ch.zero.add rc1).last.length = 1 := rfl
  obtain ⟨s10, e10, k10, b10, _⟩ := store_all (P := Try.prog) (t := 54) (i := _) rfl k9.wf b9 (a := #[.int .i64 (Ch.zero.add rc1).count, .int .u64 ((Ch.zero.add rc1).head.toNat : Int), .slice a8 (Ch.zero.add rc1).last.length c8, .int .u64 ((Ch.zero.add rc1).base.toNat : Int)]) (l := chCells (Ch.zero.add rc1) (.slice a8 (Ch.zero.add rc1).last.length c8)) rfl rfl rfl rfl
  refine Om.of s10 e10 ?_
  conv => whnf
  have K810 : K0 s8 s10 := k9.touch k10 (fun k hk => by subst hk; exact Nat.le_refl _)
  have K710 : K0 s7 s10 := k8.then K810
  have bx := K710.blk _ _ _ _ (fun h => h) b67
  have ox := o7.keep0 K710
  have oy := o8.keep0 K810
  have K10 := K07.then K710
  clear b2 b3 b36 b5 b6 b67 b7 b9 o4 o6 o7 o8 h1 h3 h6 h7
  refine Sm.weak [(3, .pointer (some ⟨s4.next, 0, none⟩)), (4, .pointer (some ⟨s8.next, 0, none⟩))] (.cons rfl (.cons rfl (Sub.nil _))) ?_
  obtain ⟨κx, qx, _⟩ := ox.slb
  obtain ⟨κy, qy, _⟩ := oy.slb
  refine Sm.seqW ?_
  conv => whnf
  refine ⟨[0, 1, 3, 7, 15, 31, 63, 127, 255, 511, 1023, 2047, 4095, 8191, 16383, 32767, 65535, 131071, 262143, 524287, 1048575, 524287, 2621439, 8388607, 16777215, 33554431, 67108863, 134217727, 268435455, 536870911, 1073741823, 2147483647, 4294967295, 8589934591, 17179869183], by decide +kernel, by decide +kernel, ?_⟩
  conv => whnf
  refine Om.of _ (load_cell Try.underlying3 rfl rfl bx.rd rfl) ?_
  conv => whnf
  repeat (refine Br.yes rfl ?_; conv => whnf)
  refine Om.of _ (load_agg Try.underlying54 rfl bx.rd (sl_all rfl)) ?_
  conv => whnf
  repeat (refine Br.yes rfl ?_; conv => whnf)
  refine (right_spec (c := Ch.zero) K10.wf.reset qx.reset (by simp [Ch.zero]) (by simp [Ch.zero])).mono ?_
  rintro _ s11 ⟨k11, rfl⟩
  conv => whnf
  refine Dk.nw (k11.low_reset fun _ h => h.elim) ?_
  have k11' := k11.of_reset K10.wf
  generalize relow s10 s11 = t11 at k11' ⊢
  have by11 := k11'.blk _ _ _ _ (fun h => h) b10
  have qy11 := qy.keep0 k11'
  have e11 : rightF Ch.zero = true := by decide +kernel
  rw [e11]
  conv => whnf
  have f1 : (Ch.zero.add rc1).count = 1 := by decide +kernel
  have f2 : (Ch.zero.add rc1).last = [rc1] := rfl
  have f3 : (Ch.zero.add rc1).head = linkF 0 rc1 := rfl
  have f4 : rightF (Ch.zero.add rc1) = true := by decide +kernel
  have f5 : (((linkF 0 rc1).toNat : Int) != 0) = true := by decide +kernel
  generalize Ch.zero.add rc1 = c at by11 qy11 f1 f2 f3 f4 hl
  have g1 : (c.count == 1) = true := by rw [f1]; rfl
  have g2 : ((c.last.length : Int) == 1) = true := by rw [hl]; rfl
  have g3 : ((c.head.toNat : Int) == ((linkF 0 rc1).toNat : Int)) = true := by rw [f3]; simp
  have g4 : ((c.head.toNat : Int) != 0) = true := by rw [f3]; exact f5
  have hok : ∀ r ∈ c.last, r.ok := by
    rw [f2]
    intro r hr
    rw [List.mem_singleton] at hr
    rw [hr]; exact rc1_ok
  have K11 := K10.then k11'
  repeat (refine Br.yes (by first | rfl | with_reducible assumption) ?_; conv => whnf)
  refine Om.of _ (load_cell Try.underlying3 rfl rfl by11.rd rfl) ?_
  conv => whnf
  repeat (refine Br.yes (by first | with_reducible assumption | rfl) ?_; conv => whnf)
  refine Om.of _ (load_cell Try.underlying52 rfl rfl by11.rd rfl) ?_
  conv => whnf
  repeat (refine Br.yes (by first | with_reducible assumption | rfl) ?_; conv => whnf)
  refine Om.of _ (load_cell Try.underlying46 rfl rfl by11.rd rfl) ?_
  conv => whnf
  repeat (refine Br.yes (by first | with_reducible assumption | rfl) ?_; conv => whnf)
  refine (link_spec K11.wf.reset 0 rc1_ok).mono ?_
  rintro _ s12 ⟨k12, rfl⟩
  conv => whnf
  refine Dk.nw (k12.low_reset fun _ h => h.elim) ?_
  have k12' := k12.of_reset K11.wf
  generalize relow t11 s12 = t12 at k12' ⊢
  have by12 := k12'.blk _ _ _ _ (fun h => h) by11
  have qy12 := qy11.keep0 k12'
  have K12 := K11.then k12'
  conv => whnf
  repeat (refine Br.yes (by first | with_reducible assumption | rfl) ?_; conv => whnf)
  refine Om.of _ (load_cell Try.underlying46 rfl rfl by12.rd rfl) ?_
  conv => whnf
  repeat (refine Br.yes (by first | with_reducible assumption | rfl) ?_; conv => whnf)
  refine Om.of _ (load_agg Try.underlying54 rfl by12.rd (sl_all rfl)) ?_
  conv => whnf
  repeat (refine Br.yes (by first | with_reducible assumption | rfl) ?_; conv => whnf)
  refine (right_spec (c := c) K12.wf.reset qy12.reset hok (by omega)).mono ?_
  rintro _ s13 ⟨k13, rfl⟩
  conv => whnf
  refine Dk.nw (k13.low_reset fun _ h => h.elim) ?_
  have k13' := k13.of_reset K12.wf
  rw [f4]
  conv => whnf
  repeat (refine Br.yes (by first | with_reducible assumption | rfl) ?_; conv => whnf)
  refine Sm.ofW ?_
  conv => whnf
  exact ⟨rfl, K12.then k13'⟩
end Go.Ev
end

/- Chains without a program: what is kept. No condition. -/
noncomputable section
namespace Go.Ev
open Go.Proofs
set_option linter.unusedVariables false
set_option maxRecDepth 100000

/-- The chain of some records. -/
def chN (l : List Rc) : Ch := l.foldl Ch.add Ch.zero
theorem chN_snoc (l : List Rc) (r : Rc) : chN (l ++ [r]) = (chN l).add r := by simp [chN, List.foldl_append]
structure ChIs (c : Ch) (l : List Rc) : Prop where
  count : c.count = (l.length : Int)
  head : c.head = l.foldl linkF 0
  last : c.last = l.drop (l.length - 8)
  base : c.base = (l.take (l.length - 8)).foldl linkF 0
theorem chIs_zero : ChIs Ch.zero [] := ⟨rfl, rfl, rfl, rfl⟩
theorem chIs_add {c : Ch} {l : List Rc} (h : ChIs c l) (r : Rc) (hl : l.length < 9223372036854775807) : ChIs (c.add r) (l ++ [r]) := by
  obtain ⟨h1, h2, h3, h4⟩ := h
  have e1 : IntKind.i64.wrap (c.count + 1) = ((l ++ [r]).length : Int) := by
    rw [h1, wrap_i64 (by omega) (by omega)]; simp
  have e2 : linkF c.head r = (l ++ [r]).foldl linkF 0 := by rw [h2, List.foldl_append]; rfl
  have e3 : c.last ++ [r] = (l ++ [r]).drop (l.length - 8) := by
    rw [h3, List.drop_append_of_le_length (by omega)]
  have hlen : c.last.length = l.length - (l.length - 8) := by rw [h3]; simp
  unfold Ch.add
  by_cases hq : 8 < c.last.length + 1
  · rw [if_pos hq]
    have hl8 : 8 ≤ l.length := by omega
    refine ⟨e1, e2, ?_, ?_⟩
    · show (c.last ++ [r]).drop 1 = _
      rw [e3, List.drop_drop]
      congr 1; simp; omega
    · show linkF c.base ((c.last ++ [r]).head?.getD r) = _
      have hlt : l.length - 8 < (l ++ [r]).length := by simp; omega
      have e4 : (c.last ++ [r]).head?.getD r = (l ++ [r])[l.length - 8] := by
        rw [e3, List.head?_drop, List.getElem?_eq_getElem hlt]; rfl
      have e5 : (l ++ [r]).length - 8 = (l.length - 8) + 1 := by simp; omega
      rw [e4, e5, h4, List.take_succ_eq_append_getElem hlt, List.foldl_append, List.take_append_of_le_length (by omega)]
      rfl
  · rw [if_neg hq]
    have hl8 : l.length < 8 := by omega
    refine ⟨e1, e2, ?_, ?_⟩
    · show c.last ++ [r] = _
      rw [e3]
      congr 1; simp; omega
    · show c.base = _
      rw [h4]
      have e6 : (l ++ [r]).length - 8 = 0 := by simp; omega
      have e7 : l.length - 8 = 0 := by omega
      rw [e6, e7]; rfl
theorem chN_is (l : List Rc) (hl : l.length < 9223372036854775807) : ChIs (chN l) l := by
  have : ∀ n, n ≤ l.length → ChIs (chN (l.take n)) (l.take n) := by
    intro n
    induction n with
    | zero => intro _; rw [List.take_zero]; exact chIs_zero
    | succ n ih =>
      intro hn
      have := ih (by omega)
      rw [List.take_succ_eq_append_getElem (show n < l.length by omega), chN_snoc]
      exact chIs_add this _ (by simp; omega)
  simpa using this l.length (Nat.le_refl _)
/-- A chain that was added to is right. -/
theorem chIs_right {c : Ch} {l : List Rc} (h : ChIs c l) (hl : l.length < 9223372036854775807) : rightF c = true := by
  obtain ⟨h1, h2, h3, h4⟩ := h
  have a1 : c.last.foldl linkF c.base = c.head := by
    rw [h2, h3, h4, ← List.foldl_append, List.take_append_drop]
  have a2 : (c.last.length : Int) = (if 8 < c.count then 8 else c.count) := by
    rw [h3, h1]; simp; split <;> omega
  unfold rightF
  rw [a1, a2]
  by_cases h8 : c.count > 8
  · simp [h8]
  · have : c.base = 0 := by
      rw [h4, show l.length - 8 = 0 by omega]; rfl
    simp [this]
end Go.Ev
end

/- What ChainOwn says. No condition. -/
noncomputable section
namespace Go.Ev
open Go.Proofs
set_option linter.unusedVariables false
set_option maxRecDepth 100000

theorem R58 : SlT Try.prog 58 65 5 48 (.agg #[.int .i64 0, .int .i64 0, .int .i64 0, .int .i64 0, .string ⟨#[]⟩]) := ⟨Try.underlying58, ⟨_, rfl, rfl, rfl, rfl⟩, rfl, rfl, by decide, by decide⟩
def rwCells (l : List Rw) : List Value := (l.map Rw.cells).flatten
theorem rw_at {l : List Rw} {i : Nat} (h : i < l.length) : ((rwCells l).drop (i * 5)).take 5 = l[i].cells := by
  induction i generalizing l with
  | zero =>
    cases l with
    | nil => simp at h
    | cons x l => rfl
  | succ i ih =>
    cases l with
    | nil => simp at h
    | cons x l =>
      show ((x.cells ++ rwCells l).drop ((i + 1) * 5)).take 5 = _
      rw [show (i + 1) * 5 = 5 + i * 5 by omega, ← List.drop_drop]
      show ((rwCells l).drop (i * 5)).take 5 = _
      rw [ih (by simpa using h)]
      rfl
theorem rw_cell {l : List Rw} {i j : Nat} (h : i < l.length) (hj : j < 5) : (rwCells l)[i * 5 + j]? = l[i].cells[j]? := by
  rw [← rw_at h, List.getElem?_take, if_pos hj, List.getElem?_drop]
theorem rc_cell {l : List Rc} {i j : Nat} (h : i < l.length) (hj : j < 4) : (rcCells l)[i * 4 + j]? = l[i].cells[j]? := by
  have h4 : j < l[i].cells.length := hj
  rw [← List.getElem?_drop, rcCells_drop, List.drop_eq_getElem_cons h]
  show (l[i].cells ++ rcCells (l.drop (i + 1)))[j]? = _
  rw [List.getElem?_append_left h4]
/-- A field of an element. -/
theorem index_fld {P : Program} {t et sz by_ : Nat} {z : Value} (T : SlT P t et sz by_ z) {s : St} {κ : Option Nat} {v : Value} {n i : Nat} {cs : List Value} (h : Sl s κ v sz n cs) (k : IntKind) (hi : i < n) :
    ∃ b off C, evIndexAddr P t v (.int k (i : Int)) = some (.pointer (some ⟨b, off, none⟩)) ∧ s.rd b = some C ∧ ∀ j, j < sz → C[off + j]? = cs[i * sz + j]? := by
  obtain ⟨j, hi1, hi2, hi3, hi4⟩ := T.hi
  rcases h.ex with ⟨rfl, rfl, rfl, rfl⟩ | ⟨b, off, c, C, rfl, hc, hl, hs, hm⟩
  · omega
  · have hr : s.rd b = some C := by
      rcases hm with ⟨k, _, hm⟩ | ⟨_, hm⟩
      · exact hm.rd
      · exact hm.rd
    have hle : i * sz + sz ≤ n * sz := by
      have : (i + 1) * sz ≤ n * sz := Nat.mul_le_mul_right _ hi
      rw [Nat.add_mul, Nat.one_mul] at this; exact this
    refine ⟨b, off + i * sz, C, ?_, hr, fun j hj => ?_⟩
    · show (match P.underlying t, Value.slice (some ⟨b, off, none⟩) n c, Value.int k (.ofNat i) with
        | some (.slice e), .slice (some a) n _, .int _ (.ofNat i) => match Nat.blt i n, P.info? e with
          | true, some j => some (Value.pointer (some ⟨a.block, a.off + i * j.size, none⟩))
          | _, _ => none
        | some (.array n e), .pointer (some a), .int _ (.ofNat i) => match Nat.blt i n, P.info? e with
          | true, some j => some (Value.pointer (some ⟨a.block, a.off + i * j.size, none⟩))
          | _, _ => none
        | _, _, _ => none) = _
      rw [T.hu]
      simp only [blt_of hi, hi1, hi2]
    · obtain ⟨g1, g2, g3, g4⟩ := sl_some hs
      have hlt : i * sz + j < cs.length := by omega
      have := g4 (i * sz + j) _ (List.getElem?_eq_getElem hlt)
      rw [List.getElem?_eq_getElem hlt, ← this]
      congr 1; omega
theorem index_rw {s : St} {κ : Option Nat} {v : Value} {l : List Rw} (h : Sl s κ v 5 l.length (rwCells l)) (k : IntKind) {i : Nat} (hi : i < l.length) :
    ∃ a, evIndexAddr Try.prog 58 v (.int k (i : Int)) = some (.pointer (some a)) ∧ evLoad Try.prog 65 (.pointer (some a)) s = some l[i].val := by
  obtain ⟨a, e1, e2⟩ := index_slN R58 Try.underlying65 h k hi
  rw [rw_at hi] at e2
  exact ⟨a, e1, e2⟩
def oLab : Lb := ⟨2, 3⟩
theorem own_walk24 {s : St} (wf : WF s) {v : Value} {l : List Rw} (hv : Sl s none v 5 l.length (rwCells l)) (ok : ∀ x ∈ l, x.ok) (hl : l.length ≤ 140737488351232) :
    Cw Try.prog 11 [v] s fun r _ => r = .bool true := by
  obtain ⟨a, c, rfl⟩ := hv.shape
  have okr : ∀ i (h : i < l.length), l[i].r.ok := fun i h => (ok _ (List.getElem_mem h)).r
  refine Cw.enterS Try.func11 rfl rfl ?_
  refine Sm.seqW ?_
  conv => whnf
  refine Sm.seqW ?_
  conv => whnf
  refine (cnew_spec wf).mono ?_
  rintro p s1 ⟨k1, kb, mb, n1, n2, h1⟩
  obtain ⟨b0, rfl, _⟩ := h1.ex
  conv => whnf
  refine Sm.seq ?_
  refine Sm.seqW ?_
  conv => whnf
  refine (cknown_spec k1.wf).mono ?_
  rintro _ s2 ⟨rfl, k2⟩
  conv => whnf
  repeat (refine Br.no rfl ?_; conv => whnf)
  refine Om.of (.bool false) rfl ?_
  conv => whnf
  repeat (refine Br.no rfl ?_; conv => whnf)
  refine Sm.ofW ?_
  conv => whnf
  refine Br.no rfl ?_
  conv => whnf
  have P0 : Value := .pointer (some ⟨b0, 0, none⟩)
  refine Sm.weak [(0, .slice a l.length c), (3, .pointer (some ⟨b0, 0, none⟩))] (.cons rfl (.cons rfl (Sub.nil _))) ?_
  have K2 := k1.then k2
  have h2 := h1.keep0 k2
  have lt1 := h1.lt k1.wf
  have n12 := k2.next
  refine Sm.seqW ?_
  conv => whnf
  obtain ⟨k3, b3⟩ := new_kp K2.wf [.int .u64 0, .int .i64 0] 2
  refine Om.of (.pointer (some ⟨s2.next, 0, none⟩), s2.new [.int .u64 0, .int .i64 0] 2) rfl ?_
  have n3 : (s2.new [.int .u64 0, .int .i64 0] 2).next = s2.next + 1 := rfl
  generalize s2.new [.int .u64 0, .int .i64 0] 2 = s3 at k3 b3 n3 ⊢
  conv => whnf
  obtain ⟨s4, e4, k4, b4, n4⟩ := store_all (P := Try.prog) (t := 48) (i := _) rfl k3.wf b3 (a := #[.int .u64 2, .int .i64 3]) (l := oLab.cells) rfl rfl rfl rfl
  refine Om.of s4 e4 ?_
  conv => whnf
  have K24 : K0 s2 s4 := k3.touch k4 (fun k hk => by subst hk; exact Nat.le_refl _)
  have K4 := K2.then K24
  have h4 := h2.keep0 K24
  have m02 := K2.next
  refine Sm.seqW ?_
  conv => whnf
  refine Sm.seq ?_
  refine Sm.seqW ?_
  conv => whnf
  refine Sm.block ?_
  refine Sm.loop ?_
  have fam0 : ∀ j, famE mb [] j → s.next ≤ j ∧ j ≠ s2.next := fun j hj => by
    have := lt1.2 j hj
    rcases hj with rfl | ⟨e, he, _⟩
    · exact ⟨n2, by omega⟩
    · cases he
  -- records so far
  let rs : Nat → List Rc := fun i => (l.take i).map Rw.r
  have rsl : ∀ i, i ≤ l.length → (rs i).length = i := fun i hi => by simp [rs]; omega
  have rss : ∀ i (h : i < l.length), rs (i + 1) = rs i ++ [l[i].r] := fun i h => by
    show (l.take (i + 1)).map Rw.r = _
    rw [List.take_succ_eq_append_getElem h, List.map_append]; rfl
  refine Lp.ofS (α := Nat) (fun i => [(0, .slice a l.length c), (3, .pointer (some ⟨b0, 0, none⟩)), (4, .pointer (some ⟨s2.next, 0, none⟩)), (5, .int .u64 ((((rs i).foldl linkF 0).toNat : Nat) : Int)), (19, .slice a l.length c), (20, .int .i64 (l.length : Int)), (21, .int .i64 (i : Int))])
    (fun i s' => i ≤ l.length ∧ K0 s s' ∧ s2.next < s'.next ∧ Blk s' s2.next s2.next oLab.cells 2 ∧ ∃ E, BookAt s' (.pointer (some ⟨b0, 0, none⟩)) kb mb E ∧ (∀ j, famE mb E j → s.next ≤ j ∧ j ≠ s2.next) ∧ chOf E oLab = chN (rs i) ∧ ∀ l', l' ≠ oLab → chOf E l' = Ch.zero)
    (fun i => l.length - i) ?_ 0 (.cons rfl (.cons rfl (.cons rfl (.cons rfl (.cons rfl (.cons rfl (.cons rfl (Sub.nil _))))))))
    ⟨by omega, K4, by omega, b4, [], h4, fam0, rfl, fun _ _ => rfl⟩
  rintro i s5 ⟨hi, K5, n5, b5, E, h5, fE, cE, zE⟩
  have hv5 := hv.keep0 K5
  refine Sm.seqW ?_
  conv => whnf
  refine Sm.seqW ?_
  conv => whnf
  refine Br.mk (fun hc => ?_) (fun hc => ?_)
  rotate_left
  · have hc := of_decide_eq_false hc
    conv => whnf
    refine Sm.seqW ?_
    conv => whnf
    refine (of_spec K5.wf h5 ⟨0, 0⟩).mono ?_
    rintro _ s6 ⟨k6, w, rfl, o6⟩
    rw [zE _ (by decide)]
    conv => whnf
    refine Sm.ofW ?_
    conv => whnf
    exact ⟨rfl⟩
  have hc : i < l.length := by have := of_decide_eq_true hc; omega
  conv => whnf
  refine Sm.seq (Sm.block ?_)
  refine Sm.weak [(0, .slice a l.length c), (3, .pointer (some ⟨b0, 0, none⟩)), (4, .pointer (some ⟨s2.next, 0, none⟩)), (5, .int .u64 ((((rs i).foldl linkF 0).toNat : Nat) : Int)), (19, .slice a l.length c), (20, .int .i64 (l.length : Int)), (21, .int .i64 (i : Int))] (.cons rfl (.cons rfl (.cons rfl (.cons rfl (.cons rfl (.cons rfl (.cons rfl (Sub.nil _)))))))) ?_
  refine Sm.seqW ?_
  conv => whnf
  obtain ⟨ax, i1, i2⟩ := index_rw hv5 .i64 hc
  refine Om.of _ i1 ?_
  conv => whnf
  refine Om.of _ i2 ?_
  conv => whnf
  obtain ⟨k6, b6⟩ := new_kp K5.wf [.int .i64 0, .int .i64 0, .int .i64 0, .int .i64 0, .string ⟨#[]⟩] 5
  refine Om.of (.pointer (some ⟨s5.next, 0, none⟩), s5.new [.int .i64 0, .int .i64 0, .int .i64 0, .int .i64 0, .string ⟨#[]⟩] 5) rfl ?_
  have n6 : (s5.new [.int .i64 0, .int .i64 0, .int .i64 0, .int .i64 0, .string ⟨#[]⟩] 5).next = s5.next + 1 := rfl
  generalize s5.new [.int .i64 0, .int .i64 0, .int .i64 0, .int .i64 0, .string ⟨#[]⟩] 5 = s6 at k6 b6 n6 ⊢
  conv => whnf
  obtain ⟨s7, e7, k7, b7, n7⟩ := store_all (P := Try.prog) (t := 65) (i := _) rfl k6.wf b6 (a := #[.int .i64 l[i].l, .int .i64 l[i].r.who, .int .i64 l[i].r.verb, .int .i64 l[i].r.what, .string l[i].r.text]) (l := l[i].cells) rfl rfl rfl rfl
  refine Om.of s7 e7 ?_
  conv => whnf
  have K57 : K0 s5 s7 := k6.touch k7 (fun k hk => by subst hk; exact Nat.le_refl _)
  have b5' := K57.blk _ _ _ _ (fun h => h) b5
  have h7 := h5.keep0 K57
  have K7 := K5.then K57
  have lt5 := h5.lt K5.wf
  have m05 := K5.next
  refine Sm.weak [(0, .slice a l.length c), (3, .pointer (some ⟨b0, 0, none⟩)), (4, .pointer (some ⟨s2.next, 0, none⟩)), (5, .int .u64 ((((rs i).foldl linkF 0).toNat : Nat) : Int)), (6, .int .i64 (i : Int)), (7, .pointer (some ⟨s5.next, 0, none⟩)), (19, .slice a l.length c), (20, .int .i64 (l.length : Int)), (21, .int .i64 (i : Int))] (.cons rfl (.cons rfl (.cons rfl (.cons rfl (.cons rfl (.cons rfl (.cons rfl (.cons rfl (.cons rfl (Sub.nil _)))))))))) ?_
  -- added
  refine Sm.seqC (fun e L' s' => e = .normal ∧ Kp (famE mb E) s7 s' ∧ (∃ E', BookAt s' (.pointer (some ⟨b0, 0, none⟩)) kb mb E' ∧ (∀ j, famE mb E' j → famE mb E j ∨ s7.next ≤ j) ∧ ∀ l', chOf E' l' = if l' = oLab then (chOf E oLab).add l[i].r else chOf E l') ∧
    Sub [(0, .slice a l.length c), (3, .pointer (some ⟨b0, 0, none⟩)), (4, .pointer (some ⟨s2.next, 0, none⟩)), (5, .int .u64 ((((rs i).foldl linkF 0).toNat : Nat) : Int)), (6, .int .i64 (i : Int)), (7, .pointer (some ⟨s5.next, 0, none⟩)), (19, .slice a l.length c), (20, .int .i64 (l.length : Int)), (21, .int .i64 (i : Int))] L') ?_ ?_
  · conv => whnf
    refine ⟨[0, 0, 0, 4, 15], by decide +kernel, by decide +kernel, ?_⟩
    conv => whnf
    refine Om.of _ (load_agg Try.underlying48 rfl b5'.rd (sl_all rfl)) ?_
    conv => whnf
    refine Om.of _ (load_agg Try.underlying65 rfl b7.rd (sl_all rfl)) ?_
    conv => whnf
    refine (record_spec K7.wf.reset l[i]).mono ?_
    rintro _ s8 ⟨k8, rfl⟩
    conv => whnf
    refine Dk.nw (k8.low_reset fun _ h => h.elim) ?_
    have k8' := k8.of_reset K7.wf
    have h8 := h7.keep0 k8'
    generalize relow s7 s8 = t8 at k8' h8 ⊢
    conv => whnf
    refine (add_spec k8'.wf.reset h8.reset oLab (okr i hc)).mono ?_
    rintro _ s9 ⟨k9, E', h9, f9, g9⟩
    conv => whnf
    have k9' := k9.of_reset k8'.wf
    have q9 := h9.relow (s := t8)
    have fin : Kp (famE mb E) s7 (relow t8 s9) ∧ ∃ E', BookAt (relow t8 s9) (.pointer (some ⟨b0, 0, none⟩)) kb mb E' ∧ (∀ j, famE mb E' j → famE mb E j ∨ s7.next ≤ j) ∧ ∀ l', chOf E' l' = if l' = oLab then (chOf E oLab).add l[i].r else chOf E l' :=
      ⟨K0.then k8' k9', E', q9, (fun j hj => (f9 j hj).imp (fun h => h) fun h => Nat.le_trans k8'.next h), g9⟩
    refine Dk.any ?_ ?_
    · conv => whnf
      exact ⟨rfl, fin.1, fin.2, .cons rfl (.cons rfl (.cons rfl (.cons rfl (.cons rfl (.cons rfl (.cons rfl (.cons rfl (.cons rfl (Sub.nil _)))))))))⟩
    · conv => whnf
      exact ⟨rfl, fin.1, fin.2, .cons rfl (.cons rfl (.cons rfl (.cons rfl (.cons rfl (.cons rfl (.cons rfl (.cons rfl (.cons rfl (Sub.nil _)))))))))⟩
  rintro e L' s8 ⟨rfl, k8, ⟨E2, h8, f8, g8⟩, hs⟩
  refine Sm.weak _ hs ?_
  clear hs
  have c8 : chOf E2 oLab = chN (rs (i + 1)) := by rw [g8, if_pos rfl, cE, rss i hc, chN_snoc]
  have z8 : ∀ l', l' ≠ oLab → chOf E2 l' = Ch.zero := fun l' hl' => by rw [g8, if_neg hl']; exact zE l' hl'
  have lt7 := h7.lt K7.wf
  have fE2 : ∀ j, famE mb E2 j → s.next ≤ j ∧ j ≠ s2.next ∧ j ≠ s5.next := fun j hj => by
    rcases f8 j hj with g | g
    · have := fE j g; have := lt5.2 j g; exact ⟨by omega, by omega, by omega⟩
    · exact ⟨by omega, by omega, by omega⟩
  have b58 := k8.blk _ _ _ _ (fun h => (fE _ h).2 rfl) b5'
  have b78 := k8.blk _ _ _ _ (fun h => by have := lt5.2 _ h; omega) b7
  have K8 : K0 s s8 := K7.touch k8 (fun j hj => (fE j hj).1)
  have hlen : (rs (i + 1)).length = i + 1 := rsl (i + 1) hc
  have isC := chN_is (rs (i + 1)) (by omega)
  clear b5' b7 b6 h5 h7 b5
  -- the head
  refine Sm.seqW ?_
  conv => whnf
  refine Om.of _ (load_agg Try.underlying65 rfl b78.rd (sl_all rfl)) ?_
  conv => whnf
  refine (record_spec K8.wf l[i]).mono ?_
  rintro _ s9 ⟨k9, rfl⟩
  conv => whnf
  refine (link_spec k9.wf ((rs i).foldl linkF 0) (okr i hc)).mono ?_
  rintro _ s10 ⟨k10, rfl⟩
  conv => whnf
  have eh : linkF ((rs i).foldl linkF 0) l[i].r = (rs (i + 1)).foldl linkF 0 := by rw [rss i hc, List.foldl_append]; rfl
  rw [eh]
  have k810 := k9.then k10
  have K10 := K8.then k810
  have h10 := h8.keep0 k810
  have b510 := k810.blk _ _ _ _ (fun h => h) b58
  have b710 := k810.blk _ _ _ _ (fun h => h) b78
  have n810 := k810.next
  have n78 := k8.next
  refine Sm.weak [(0, .slice a l.length c), (3, .pointer (some ⟨b0, 0, none⟩)), (4, .pointer (some ⟨s2.next, 0, none⟩)), (5, .int .u64 ((((rs (i + 1)).foldl linkF 0).toNat : Nat) : Int)), (6, .int .i64 (i : Int)), (7, .pointer (some ⟨s5.next, 0, none⟩)), (19, .slice a l.length c), (20, .int .i64 (l.length : Int)), (21, .int .i64 (i : Int))] (.cons rfl (.cons rfl (.cons rfl (.cons rfl (.cons rfl (.cons rfl (.cons rfl (.cons rfl (.cons rfl (Sub.nil _)))))))))) ?_
  -- the chain
  refine Sm.seqW ?_
  conv => whnf
  refine Om.of _ (load_agg Try.underlying48 rfl b510.rd (sl_all rfl)) ?_
  conv => whnf
  refine (of_spec K10.wf h10 oLab).mono ?_
  rintro _ s11 ⟨k11, w, rfl, o11⟩
  rw [c8] at o11 ⊢
  obtain ⟨N, hN⟩ : ∃ N, N = chN (rs (i + 1)) := ⟨_, rfl⟩
  rw [← hN] at o11 isC c8 ⊢
  have hn0 : N.last.length = i + 1 - (i + 1 - 8) := by rw [isC.last]; simp [hlen]
  obtain ⟨kw, w1, w2, ow11⟩ := o11.own (by omega)
  obtain ⟨q1, q2, q3, q4⟩ := isC
  have isC : ChIs N (rs (i + 1)) := ⟨q1, q2, q3, q4⟩
  have hn : N.last.length = i + 1 - (i + 1 - 8) := by rw [q3]; simp [hlen]
  obtain ⟨aw, cw, rfl⟩ := o11.shape
  conv => whnf
  obtain ⟨k12, b12⟩ := new_kp k11.wf (chCells Ch.zero (.slice none 0 0)) 4
  refine Om.of (.pointer (some ⟨s11.next, 0, none⟩), s11.new (chCells Ch.zero (.slice none 0 0)) 4) rfl ?_
  have n12' : (s11.new (chCells Ch.zero (.slice none 0 0)) 4).next = s11.next + 1 := rfl
  generalize s11.new (chCells Ch.zero (.slice none 0 0)) 4 = s12 at k12 b12 n12' ⊢
  conv => whnf
  obtain ⟨s13, e13, k13, b13, _⟩ := store_all (P := Try.prog) (t := 54) (i := _) rfl k12.wf b12 (a := #[.int .i64 N.count, .int .u64 (N.head.toNat : Int), .slice aw N.last.length cw, .int .u64 (N.base.toNat : Int)]) (l := chCells N (.slice aw N.last.length cw)) rfl rfl rfl rfl
  refine Om.of s13 e13 ?_
  conv => whnf
  have k1113 : K0 s11 s13 := k12.touch k13 (fun k hk => by subst hk; exact Nat.le_refl _)
  have k1013 : K0 s10 s13 := k11.then k1113
  have n1011 := k11.next
  have K13 := K10.then k1013
  have h13 := h10.keep0 k1013
  have b513 := k1013.blk _ _ _ _ (fun h => h) b510
  have b713 := k1013.blk _ _ _ _ (fun h => h) b710
  have o13 := o11.keep0 k1113
  have ow13 := ow11.keep0 k1113
  have b1313 := b13
  clear b12 b510 b710 b58 b78 h10
  refine Sm.weak [(0, .slice a l.length c), (3, .pointer (some ⟨b0, 0, none⟩)), (4, .pointer (some ⟨s2.next, 0, none⟩)), (5, .int .u64 ((((rs (i + 1)).foldl linkF 0).toNat : Nat) : Int)), (6, .int .i64 (i : Int)), (7, .pointer (some ⟨s5.next, 0, none⟩)), (8, .pointer (some ⟨s11.next, 0, none⟩)), (19, .slice a l.length c), (20, .int .i64 (l.length : Int)), (21, .int .i64 (i : Int))] (.cons rfl (.cons rfl (.cons rfl (.cons rfl (.cons rfl (.cons rfl (.cons rfl (.cons rfl (.cons rfl (.cons rfl (Sub.nil _))))))))))) ?_
  refine Sm.seqC (fun e L' s' => e = .normal ∧ K0 s13 s' ∧ Sub [(0, .slice a l.length c), (3, .pointer (some ⟨b0, 0, none⟩)), (4, .pointer (some ⟨s2.next, 0, none⟩)), (5, .int .u64 ((((rs (i + 1)).foldl linkF 0).toNat : Nat) : Int)), (6, .int .i64 (i : Int)), (8, .pointer (some ⟨s11.next, 0, none⟩)), (19, .slice a l.length c), (20, .int .i64 (l.length : Int)), (21, .int .i64 (i : Int))] L') ?_ ?_
  · conv => whnf
    refine ⟨[0, 1, 0, 7, 15, 31, 63, 31, 159, 511, 1023, 2047, 4095, 8191, 16383, 32767, 65535, 131071, 262143, 524287, 262143, 1310719, 3407871, 7602175, 16777215, 33554431, 262143, 67371007, 268435455, 536870911], by decide +kernel, by decide +kernel, ?_⟩
    conv => whnf
    have f1 : ((N.head.toNat : Int) != ((((rs (i + 1)).foldl linkF 0).toNat : Nat) : Int)) = false := by rw [q2]; simp
    have f2 : (N.count != IntKind.i64.wrap ((i : Int) + 1)) = false := by rw [q1, hlen, wrap_i64 (by omega) (by omega)]; simp
    have f3 : ((N.last.length : Int) == 0) = false := by rw [beq_eq_false_iff_ne]; omega
    refine Om.of _ (load_cell Try.underlying46 rfl rfl b13.rd rfl) ?_
    conv => whnf
    repeat (refine Br.no (by first | with_reducible assumption | rfl) ?_; conv => whnf)
    refine Om.of _ (load_cell Try.underlying3 rfl rfl b13.rd rfl) ?_
    conv => whnf
    repeat (refine Br.no (by first | with_reducible assumption | rfl) ?_; conv => whnf)
    refine Om.of _ (load_cell Try.underlying52 rfl rfl b13.rd rfl) ?_
    conv => whnf
    repeat (refine Br.no (by first | with_reducible assumption | rfl) ?_; conv => whnf)
    refine Om.of _ (load_cell Try.underlying52 rfl rfl b13.rd rfl) ?_
    conv => whnf
    repeat (refine Br.no (by first | with_reducible assumption | rfl) ?_; conv => whnf)
    refine Om.of _ (load_cell Try.underlying52 rfl rfl b13.rd rfl) ?_
    conv => whnf
    repeat (refine Br.no (by first | with_reducible assumption | rfl) ?_; conv => whnf)
    have ew : IntKind.i64.wrap ((N.last.length : Int) - 1) = ((N.last.length - 1 : Nat) : Int) := by rw [wrap_i64 (by omega) (by omega)]; omega
    rw [ew]
    obtain ⟨κ13, s13', _⟩ := o13.slb
    obtain ⟨al, j1, j2⟩ := index_rc s13' .i64 (i := N.last.length - 1) (by omega)
    refine Om.of _ j1 ?_
    conv => whnf
    repeat (refine Br.no (by first | with_reducible assumption | rfl) ?_; conv => whnf)
    refine Om.of _ j2 ?_
    conv => whnf
    repeat (refine Br.no (by first | with_reducible assumption | rfl) ?_; conv => whnf)
    refine Om.of _ (load_agg Try.underlying65 rfl b713.rd (sl_all rfl)) ?_
    conv => whnf
    repeat (refine Br.no (by first | with_reducible assumption | rfl) ?_; conv => whnf)
    refine (record_spec K13.wf.reset l[i]).mono ?_
    rintro _ s14 ⟨k14, rfl⟩
    conv => whnf
    refine Dk.nw (k14.low_reset fun _ h => h.elim) ?_
    have k14' := k14.of_reset K13.wf
    conv => whnf
    have el : N.last[N.last.length - 1]'(by omega) = l[i].r := by
      have : N.last[N.last.length - 1]? = some l[i].r := by
        rw [hn, q3, hlen, List.getElem?_drop, show i + 1 - 8 + (i + 1 - (i + 1 - 8) - 1) = i by omega, rss i hc, List.getElem?_append_right (by rw [rsl i hi]; exact Nat.le_refl _), rsl i hi]
        simp
      rw [List.getElem?_eq_getElem (by omega)] at this
      injection this
    rw [el]
    repeat (refine Br.no (by first | with_reducible assumption | rfl) ?_; conv => whnf)
    refine Om.of _ (rc_ne _ _) ?_
    conv => whnf
    repeat (refine Br.no (by first | with_reducible assumption | rfl) ?_; conv => whnf)
    exact ⟨rfl, k14', .cons rfl (.cons rfl (.cons rfl (.cons rfl (.cons rfl (.cons rfl (.cons rfl (.cons rfl (.cons rfl (Sub.nil _)))))))))⟩
  rintro e L' s14 ⟨rfl, k14, hs⟩
  refine Sm.weak _ hs ?_
  clear hs
  have K14 := K13.then k14
  have h14 := h13.keep0 k14
  have b514 := k14.blk _ _ _ _ (fun h => h) b513
  have b14 := k14.blk _ _ _ _ (fun h => h) b13
  have o14 := o13.keep0 k14
  clear b513 b713 h13 o13 o11
  -- its records are written over
  refine Sm.seq ?_
  refine Sm.seqW ?_
  conv => whnf
  refine Om.of _ (load_cell Try.underlying52 rfl rfl b14.rd rfl) ?_
  conv => whnf
  have ow := ow13.keep0 k14
  have lt13 := h14.lt K14.wf
  have n13 := k1113.next
  have n14 := k14.next
  refine Sm.block ?_
  refine Sm.loop ?_
  refine Lp.ofS (α := Nat) (fun k => [(0, .slice a l.length c), (3, .pointer (some ⟨b0, 0, none⟩)), (4, .pointer (some ⟨s2.next, 0, none⟩)), (5, .int .u64 ((((rs (i + 1)).foldl linkF 0).toNat : Nat) : Int)), (6, .int .i64 (i : Int)), (8, .pointer (some ⟨s11.next, 0, none⟩)), (19, .slice a l.length c), (20, .int .i64 (l.length : Int)), (21, .int .i64 (i : Int)), (70, .int .i64 (N.last.length : Int)), (71, .int .i64 (k : Int))])
    (fun k s' => k ≤ N.last.length ∧ Kp (fun j => j = kw) s14 s' ∧ ∃ cs, Own s' kw (.slice aw N.last.length cw) 4 N.last.length cs) (fun k => N.last.length - k) ?_ 0
    (.cons rfl (.cons rfl (.cons rfl (.cons rfl (.cons rfl (.cons rfl (.cons rfl (.cons rfl (.cons rfl (.cons rfl (.cons rfl (Sub.nil _)))))))))))) ⟨by omega, Kp.refl K14.wf, _, ow⟩
  rintro k s15 ⟨hk, k15, cs, ow15⟩
  have b15 := k15.blk _ _ _ _ (fun h => by omega) b14
  have b515 := k15.blk _ _ _ _ (fun h => by omega) b514
  refine Sm.seqW ?_
  conv => whnf
  refine Sm.seqW ?_
  conv => whnf
  refine Br.mk (fun hck => ?_) (fun hck => ?_)
  · have hck : k < N.last.length := by have := of_decide_eq_true hck; omega
    conv => whnf
    refine Sm.seq (Sm.block ?_)
    refine Sm.seqW ?_
    conv => whnf
    refine Sm.ofW ?_
    conv => whnf
    refine Om.of _ (load_cell Try.underlying52 rfl rfl b15.rd rfl) ?_
    conv => whnf
    obtain ⟨bw, j1, _, j3⟩ := ow15.at R52 k15.wf .i64 (i := k) (j := 0) hck (by decide)
    refine Om.of _ j1 ?_
    conv => whnf
    obtain ⟨s16, e16, k16, ow16⟩ := j3 (t' := 3) (.int .i64 (-7)) rfl rfl rfl rfl
    refine Om.of s16 e16 ?_
    conv => whnf
    refine Sm.ofW ?_
    conv => whnf
    have e6 : IntKind.i64.wrap ((k : Int) + 1) = ((k + 1 : Nat) : Int) := by rw [wrap_i64 (by omega) (by omega)]; omega
    exact ⟨k + 1, by (show N.last.length - (k + 1) < N.last.length - k); omega, .cons rfl (.cons rfl (.cons rfl (.cons rfl (.cons rfl (.cons rfl (.cons rfl (.cons rfl (.cons rfl (.cons rfl (.cons (congrArg (fun x => some (Value.int .i64 x)) e6) (Sub.nil _))))))))))), by omega, k15.then k16, _, ow16⟩
  have hck := of_decide_eq_false hck
  conv => whnf
  have K15 : K0 s s15 := K14.touch k15 (fun j hj => by omega)
  have h15 := h14.keep k15 (fun hh => by omega) (fun j hj hh => by have := (h8.lt K8.wf).2 j hj; omega)
  clear h14 b14 b514 ow15 ow
  refine Sm.weak [(0, .slice a l.length c), (3, .pointer (some ⟨b0, 0, none⟩)), (4, .pointer (some ⟨s2.next, 0, none⟩)), (5, .int .u64 ((((rs (i + 1)).foldl linkF 0).toNat : Nat) : Int)), (6, .int .i64 (i : Int)), (19, .slice a l.length c), (20, .int .i64 (l.length : Int)), (21, .int .i64 (i : Int))] (.cons rfl (.cons rfl (.cons rfl (.cons rfl (.cons rfl (.cons rfl (.cons rfl (.cons rfl (Sub.nil _))))))))) ?_
  refine Sm.seqW ?_
  conv => whnf
  refine Om.of _ (load_agg Try.underlying48 rfl b515.rd (sl_all rfl)) ?_
  conv => whnf
  refine (of_spec K15.wf h15 oLab).mono ?_
  rintro _ s16 ⟨k16, w', rfl, o16⟩
  rw [c8] at o16 ⊢
  obtain ⟨aw', cw', rfl⟩ := o16.shape
  conv => whnf
  obtain ⟨k17, b17⟩ := new_kp k16.wf (chCells Ch.zero (.slice none 0 0)) 4
  refine Om.of (.pointer (some ⟨s16.next, 0, none⟩), s16.new (chCells Ch.zero (.slice none 0 0)) 4) rfl ?_
  generalize s16.new (chCells Ch.zero (.slice none 0 0)) 4 = s17 at k17 b17 ⊢
  conv => whnf
  obtain ⟨s18, e18, k18, b18, _⟩ := store_all (P := Try.prog) (t := 54) (i := _) rfl k17.wf b17 (a := #[.int .i64 N.count, .int .u64 (N.head.toNat : Int), .slice aw' N.last.length cw', .int .u64 (N.base.toNat : Int)]) (l := chCells N (.slice aw' N.last.length cw')) rfl rfl rfl rfl
  refine Om.of s18 e18 ?_
  conv => whnf
  have k1618 : K0 s16 s18 := k17.touch k18 (fun k hk => by subst hk; exact Nat.le_refl _)
  have k1518 := k16.then k1618
  have K18 := K15.then k1518
  have h18 := h15.keep0 k1518
  have b518 := k1518.blk _ _ _ _ (fun h => h) b515
  have o18 := o16.keep0 k1618
  obtain ⟨κ18, q18, _⟩ := o18.slb
  clear h15 b515 b17 o16
  have hNok : ∀ r ∈ N.last, r.ok := by
    rw [isC.last]
    intro r hr
    obtain ⟨x, hx, rfl⟩ := List.mem_map.1 (List.mem_of_mem_drop hr)
    exact (ok x (List.mem_of_mem_take hx)).r
  refine Sm.weak [(0, .slice a l.length c), (3, .pointer (some ⟨b0, 0, none⟩)), (4, .pointer (some ⟨s2.next, 0, none⟩)), (5, .int .u64 ((((rs (i + 1)).foldl linkF 0).toNat : Nat) : Int)), (6, .int .i64 (i : Int)), (10, .pointer (some ⟨s16.next, 0, none⟩)), (19, .slice a l.length c), (20, .int .i64 (l.length : Int)), (21, .int .i64 (i : Int))] (.cons rfl (.cons rfl (.cons rfl (.cons rfl (.cons rfl (.cons rfl (.cons rfl (.cons rfl (.cons rfl (Sub.nil _)))))))))) ?_
  refine Sm.ofW ?_
  conv => whnf
  refine Om.of _ (load_agg Try.underlying54 rfl b18.rd (sl_all rfl)) ?_
  conv => whnf
  refine (right_spec (c := N) K18.wf q18 hNok (by omega)).mono ?_
  rintro _ s19 ⟨k19, rfl⟩
  have hright : rightF N = true := chIs_right isC (by omega)
  rw [hright]
  conv => whnf
  have K19 := K18.then k19
  have h19 := h18.keep0 k19
  have b519 := k19.blk _ _ _ _ (fun h => h) b518
  have b19 := k19.blk _ _ _ _ (fun h => h) b18
  have q19 := q18.keep0 k19
  have hv19 := hv.keep0 K19
  repeat (refine Br.no rfl ?_; conv => whnf)
  refine Om.of _ (load_cell Try.underlying52 rfl rfl b19.rd rfl) ?_
  conv => whnf
  repeat (refine Br.no rfl ?_; conv => whnf)
  obtain ⟨bd, od, Cd, d1, d2, d3⟩ := index_fld R52 q19 .i64 (i := 0) (by omega)
  refine Om.of _ d1 ?_
  conv => whnf
  repeat (refine Br.no rfl ?_; conv => whnf)
  have h0 : 0 < N.last.length := by omega
  have d4 : Cd[od + 0]? = some (.int .i64 N.last[0].who) := by
    rw [d3 0 (by decide), rc_cell h0 (by decide)]; rfl
  refine Om.of _ (load_cell Try.underlying3 rfl rfl d2 d4) ?_
  conv => whnf
  repeat (refine Br.no rfl ?_; conv => whnf)
  have i8 : i + 1 - 8 < l.length := by omega
  have e0 : N.last[0] = l[i + 1 - 8].r := by
    have : N.last[0]? = some l[i + 1 - 8].r := by
      rw [q3, hlen, List.getElem?_drop]
      show ((l.take (i + 1)).map Rw.r)[i + 1 - 8 + 0]? = _
      rw [List.getElem?_map, List.getElem?_take, if_pos (by omega)]
      rw [show i + 1 - 8 + 0 = i + 1 - 8 by omega, List.getElem?_eq_getElem i8]
      rfl
    rw [List.getElem?_eq_getElem h0] at this
    injection this
  refine Br.mk (fun hw => ?_) (fun hw => ?_)
  · have hw7 : l[i + 1 - 8].r.who = -7 := by rw [← e0]; exact of_decide_eq_true hw
    conv => whnf
    repeat (first | (refine Br.yes hw ?_; conv => whnf) | (refine Br.no rfl ?_; conv => whnf))
    obtain ⟨be, oe, Ce, p1, p2, p3⟩ := index_fld R58 hv19 .i64 i8
    have w1' : IntKind.i64.wrap (IntKind.i64.wrap ((i : Int) + 1) - 8) = (i : Int) + 1 - 8 := by rw [wrap_i64 (n := (i : Int) + 1) (by omega) (by omega), wrap_i64 (by omega) (by omega)]
    have hM : (if IntKind.i64.wrap (IntKind.i64.wrap ((i : Int) + 1) - 8) > 0 then IntKind.i64.wrap (IntKind.i64.wrap ((i : Int) + 1) - 8) else 0) = ((i + 1 - 8 : Nat) : Int) := by
      rw [w1']; split <;> omega
    refine Om.of _ ((congrArg (fun x => evIndexAddr Try.prog 58 (.slice a l.length c) (.int .i64 x)) hM).trans p1) ?_
    conv => whnf
    repeat (first | (refine Br.yes hw ?_; conv => whnf) | (refine Br.no rfl ?_; conv => whnf))
    have p4 : Ce[oe + 1]? = some (.int .i64 l[i + 1 - 8].r.who) := by
      rw [p3 1 (by decide), rw_cell i8 (by decide)]; rfl
    refine Om.of _ (load_cell Try.underlying3 rfl rfl p2 p4) ?_
    conv => whnf
    have hw8 : (l[i + 1 - 8].r.who != -7) = false := by rw [hw7]; rfl
    repeat (first | (refine Br.yes hw ?_; conv => whnf) | (refine Br.no rfl ?_; conv => whnf) | (refine Br.no hw8 ?_; conv => whnf))
    refine Sm.ofW ?_
    conv => whnf
    have e6 : IntKind.i64.wrap ((i : Int) + 1) = ((i + 1 : Nat) : Int) := by rw [wrap_i64 (by omega) (by omega)]; omega
    exact ⟨i + 1, by (show l.length - (i + 1) < l.length - i); omega, .cons rfl (.cons rfl (.cons rfl (.cons rfl (.cons rfl (.cons rfl (.cons (congrArg (fun x => some (Value.int .i64 x)) e6) (Sub.nil _))))))), by omega, K19, by have := K19.next; have := k19.next; have := k1518.next; have := k15.next; omega, b519, E2, h19, (fun j hj => ⟨(fE2 j hj).1, (fE2 j hj).2.1⟩), c8.trans hN, z8⟩
  · conv => whnf
    repeat (first | (refine Br.no hw ?_; conv => whnf) | (refine Br.no rfl ?_; conv => whnf))
    refine Sm.ofW ?_
    conv => whnf
    have e6 : IntKind.i64.wrap ((i : Int) + 1) = ((i + 1 : Nat) : Int) := by rw [wrap_i64 (by omega) (by omega)]; omega
    exact ⟨i + 1, by (show l.length - (i + 1) < l.length - i); omega, .cons rfl (.cons rfl (.cons rfl (.cons rfl (.cons rfl (.cons rfl (.cons (congrArg (fun x => some (Value.int .i64 x)) e6) (Sub.nil _))))))), by omega, K19, by have := K19.next; have := k19.next; have := k1518.next; have := k15.next; omega, b519, E2, h19, (fun j hj => ⟨(fE2 j hj).1, (fE2 j hj).2.1⟩), c8.trans hN, z8⟩
end Go.Ev
end

/- Chains without a program: a text with one byte turned leads to another head. No condition. -/
noncomputable section
namespace Go.Ev
open Go.Proofs
set_option linter.unusedVariables false
set_option maxRecDepth 100000

theorem rot_back (h : BitVec 64) : (((h <<< 9) ||| (h >>> 55)) >>> 9) ||| (((h <<< 9) ||| (h >>> 55)) <<< 55) = h := by
  ext i hi
  simp only [BitVec.getElem_or, BitVec.getElem_ushiftRight, BitVec.getElem_shiftLeft, BitVec.getLsbD_or, BitVec.getLsbD_shiftLeft, BitVec.getLsbD_ushiftRight]
  by_cases h1 : i < 55
  · have e1 : (9 + i < 64) := by omega
    have e2 : ¬ (9 + i < 9) := by omega
    have e3 : 9 + i - 9 = i := by omega
    have e4 : h.getLsbD (55 + (9 + i)) = false := BitVec.getLsbD_of_ge _ _ (by omega)
    simp [h1, e1, e2, e3, e4, BitVec.getLsbD_eq_getElem hi]
  · have e1 : ¬ (9 + i < 64) := by omega
    have e2 : (i - 55 < 9) := by omega
    have e4 : 55 + (i - 55) = i := by omega
    have e5 : h.getLsbD (55 + (9 + i)) = false := BitVec.getLsbD_of_ge _ _ (by omega)
    simp [h1, e1, e2, e4, e5, BitVec.getLsbD_eq_getElem hi]
theorem rot_inj {a b : BitVec 64} (h : (a <<< 9) ||| (a >>> 55) = (b <<< 9) ||| (b >>> 55)) : a = b := by
  rw [← rot_back a, h, rot_back b]
theorem mul_k_inj {a b : BitVec 64} (h : a * 11400714819323198485#64 = b * 11400714819323198485#64) : a = b := by
  have h2 := congrArg (fun x => x * 17428512612931826493#64) h
  simp only [BitVec.mul_assoc] at h2
  rw [show 11400714819323198485#64 * 17428512612931826493#64 = 1#64 by decide] at h2
  simpa using h2
theorem xor_r_inj {a b c : BitVec 64} (h : a ^^^ c = b ^^^ c) : a = b := by
  have h2 := congrArg (fun x => x ^^^ c) h
  simpa [BitVec.xor_assoc] using h2
theorem step_inj {h g : BitVec 64} {c : UInt8} (e : Mk.step h c = Mk.step g c) : h = g := rot_inj (xor_r_inj (mul_k_inj e))
theorem step_ne {h : BitVec 64} {c d : UInt8} (e : Mk.step h c = Mk.step h d) : c = d := by
  have h1 := mul_k_inj e
  have h2 : BitVec.ofNat 64 c.toNat = BitVec.ofNat 64 d.toNat := by
    have := congrArg (fun x => ((h <<< 9) ||| (h >>> 55)) ^^^ x) h1
    simpa [← BitVec.xor_assoc] using this
  have h3 := congrArg BitVec.toNat h2
  have hc := c.toNat_lt
  have hd := d.toNat_lt
  simp only [BitVec.toNat_ofNat] at h3
  apply UInt8.toNat_inj.1
  omega
theorem steps_inj (l : List UInt8) : ∀ {h g : BitVec 64}, l.foldl Mk.step h = l.foldl Mk.step g → h = g := by
  induction l with
  | nil => intro h g e; exact e
  | cons c l ih => intro h g e; exact step_inj (ih e)
theorem sum_inj {h g : BitVec 64} {l : List UInt8} (e : Mk.sum h l = Mk.sum g l) : h = g := steps_inj l (step_inj e)
theorem sum_turn {h : BitVec 64} {a b : List UInt8} {c d : UInt8} (e : Mk.sum h (a ++ c :: b) = Mk.sum h (a ++ d :: b)) : c = d := by
  unfold Mk.sum at e
  have e2 := step_inj e
  rw [List.foldl_append, List.foldl_append] at e2
  exact step_ne (steps_inj b e2)
theorem links_inj (l : List Rc) : ∀ {h g : BitVec 64}, l.foldl linkF h = l.foldl linkF g → h = g := by
  induction l with
  | nil => intro h g e; exact e
  | cons c l ih => intro h g e; exact sum_inj (ih e)
/-- One byte of a text is another one. -/
def turnT (t : ByteArray) (j : Nat) (c : UInt8) : ByteArray := ⟨((bs t).set j c).toArray⟩
theorem bs_turn (t : ByteArray) (j : Nat) (c : UInt8) : bs (turnT t j c) = (bs t).set j c := bs_mk _
theorem link_turn {h : BitVec 64} {r : Rc} {j : Nat} {c : UInt8} (hj : j < (bs r.text).length) (e : linkF h { r with text := turnT r.text j c } = linkF h r) : c = (bs r.text)[j] := by
  unfold linkF Rc.bytes at e
  simp only [bs_turn, List.length_set] at e
  have h1 : (bs r.text).set j c = (bs r.text).take j ++ c :: (bs r.text).drop (j + 1) := by rw [List.set_eq_take_append_cons_drop, if_pos hj]
  have h2 : bs r.text = (bs r.text).take j ++ (bs r.text)[j] :: (bs r.text).drop (j + 1) := by
    rw [← List.drop_eq_getElem_cons hj, List.take_append_drop]
  generalize hX : Pk.encI r.who ++ Pk.encI r.verb ++ Pk.encI r.what ++ Pk.encI ((bs r.text).length : Int) = X at e
  rw [h1] at e
  have e3 : Mk.sum h ((X ++ (bs r.text).take j) ++ c :: (bs r.text).drop (j + 1)) = Mk.sum h ((X ++ (bs r.text).take j) ++ (bs r.text)[j] :: (bs r.text).drop (j + 1)) := by
    rw [List.append_assoc, List.append_assoc, ← h2]; exact e
  exact sum_turn e3
/-- A chain one of whose kept texts has one byte turned is not right. -/
theorem right_turn {c : Ch} (hr : rightF c = true) {k : Nat} (hk : k < c.last.length) {j : Nat} {b : UInt8} (hj : j < (bs c.last[k].text).length) (hb : b ≠ (bs c.last[k].text)[j]) :
    rightF { c with last := c.last.set k { c.last[k] with text := turnT c.last[k].text j b } } = false := by
  have key : ((c.last.set k { c.last[k] with text := turnT c.last[k].text j b }).foldl linkF c.base) ≠ c.head := by
    intro e
    have h0 : (c.last.foldl linkF c.base) = c.head := by
      unfold rightF at hr
      simp only [Bool.and_eq_true, beq_iff_eq] at hr
      exact BitVec.eq_of_toNat_eq (by exact_mod_cast hr.1)
    rw [← h0, List.set_eq_take_append_cons_drop, if_pos hk, List.foldl_append, List.foldl_cons] at e
    have h2 : c.last.foldl linkF c.base = (c.last.drop (k + 1)).foldl linkF (linkF ((c.last.take k).foldl linkF c.base) c.last[k]) := by
      conv => lhs; rw [← List.take_append_drop k c.last, List.drop_eq_getElem_cons hk, List.foldl_append, List.foldl_cons]
    rw [h2] at e
    exact hb (link_turn hj (links_inj _ e))
  unfold rightF
  have : (((c.last.set k { c.last[k] with text := turnT c.last[k].text j b }).foldl linkF c.base).toNat : Int) ≠ (c.head.toNat : Int) := by
    intro e
    exact key (BitVec.eq_of_toNat_eq (by exact_mod_cast e))
  simp only [beq_eq_false_iff_ne.2 this, Bool.false_and]
end Go.Ev
end

/- Chains: what 'convert' and 'same' do; numbers by labels. No condition. -/
noncomputable section
namespace Go.Ev
open Go.Proofs
set_option linter.unusedVariables false
set_option maxRecDepth 100000

def bookA (p : Value) (kb mb : Nat) (E : List Ent) : At where
  foot := fun j => j = kb ∨ famE mb E j
  ok := fun s => BookAt s p kb mb E
  keep := fun _ _ _ hk hX h => h.keep hk (hX kb (.inl rfl)) fun j hj => hX j (.inr hj)
  lt := fun s wf h j hj => by
    have := h.lt wf
    rcases hj with rfl | hj
    · exact this.1
    · exact this.2 j hj
  lo := fun s m h => by
    obtain ⟨bs, rfl, g⟩ := h.ex
    exact ⟨⟨bs, rfl, g.lo m⟩, ⟨h.mp.ex⟩, fun e he => (h.own e he).lo m, h.ok, h.ne, h.fam⟩
theorem R71 : SlT Try.prog 71 69 4 40 (.agg #[.int .i64 0, .int .i64 0, .int .i64 0, .string ⟨#[]⟩]) := ⟨Try.underlying71, ⟨_, rfl, rfl, rfl, rfl⟩, rfl, rfl, by decide, by decide⟩
/-- One element of records, whatever they are called. -/
theorem index_rcT {t et by_ : Nat} {z : Value} (T : SlT Try.prog t et 4 by_ z) {fs : Array Field} (hu : Try.prog.underlying et = some (.struct fs)) {s : St} {κ : Option Nat} {v : Value} {l : List Rc} (h : Sr s κ v l) (k : IntKind) {i : Nat} (hi : i < l.length) :
    ∃ a, evIndexAddr Try.prog t v (.int k (i : Int)) = some (.pointer (some a)) ∧ evLoad Try.prog et (.pointer (some a)) s = some l[i].val := by
  obtain ⟨a, e1, e2⟩ := index_slN T hu h k hi
  rw [rc_at hi] at e2
  exact ⟨a, e1, e2⟩
theorem Hp.rec1 {X : Nat → Prop} {s0 s : St} {R F : List At} {K : Value × St → Prop} (h : Hp X s0 R F s) (r : Rc) (hk : ∀ v b s', Hp X s0 R (ownA b v 4 1 (rcCells [r]) :: F) s' → K0 s s' → K (v, s')) : Om (evBuildSlice Try.prog 71 1 [(0, r.val)] s) K := by
  obtain ⟨k7, b7⟩ := new_kp h.wf r.cells 4
  refine .of (.slice (some ⟨s.next, 0, none⟩) 1 1, s.new r.cells 4) rfl (hk _ _ _ (h.push k7 ⟨_, rfl, b7, rfl⟩ fun j hj => by subst hj; exact Nat.le_refl _) k7)
theorem convert_spec {s : St} (wf : WF s) {c : Ch} {κ : Option Nat} {v : Value} (hv : Sr s κ v c.last) (hl : c.last.length ≤ 1000) :
    Cw Try.prog 38 [chVal c v] s fun r s' => K0 s s' ∧ ∃ w, r = chVal c w ∧ Or s.next s' w c.last := by
  have hp : Hp (fun _ => False) s [slA κ v 4 c.last.length (rcCells c.last)] [] s := Hp.start _ wf _ (by simp; exact hv)
  obtain ⟨a, cp, rfl⟩ := hv.shape
  refine Cw.enterS Try.func38 rfl rfl ?_
  refine Sm.seqW ?_
  conv => whnf
  refine hp.var (cs := chCells c (.slice a c.last.length cp)) (e := 4) rfl rfl ?_
  clear hp
  intro b1 s1 hp k1
  conv => whnf
  refine hp.alloc (cs := chCells Ch.zero (.slice none 0 0)) (e := 4) rfl rfl rfl rfl rfl ?_
  clear hp k1
  intro b2 s2 hp k2
  conv => whnf
  refine Sm.seqW ?_
  conv => whnf
  (refine hp.load (by repeat (first | exact Has.here | apply Has.there | (apply Has.swap; repeat (first | exact HasR.here | apply HasR.there)))) (by rfl) rfl rfl rfl ?_; conv => whnf)
  (refine hp.load (by repeat (first | exact Has.here | apply Has.there | (apply Has.swap; repeat (first | exact HasR.here | apply HasR.there)))) (by rfl) rfl rfl rfl ?_; conv => whnf)
  (refine hp.load (by repeat (first | exact Has.here | apply Has.there | (apply Has.swap; repeat (first | exact HasR.here | apply HasR.there)))) (by rfl) rfl rfl rfl ?_; conv => whnf)
  refine hp.alloc (cs := chCells Ch.zero (.slice none 0 0)) (e := 4) rfl rfl rfl rfl rfl ?_
  clear hp k2
  intro b3 s3 hp k3
  conv => whnf
  refine hp.storeW (vs := chCells { c with last := [] } (.slice none 0 0)) rfl (by repeat (first | exact Rm.here | apply Rm.there)) (by rfl) rfl rfl rfl ?_
  clear hp k3
  intro s4 hp _
  conv => whnf
  refine Sm.live [1, 2, 3] ?_
  conv => whnf
  refine Sm.seq ?_
  refine Sm.seqW ?_
  conv => whnf
  (refine hp.load (by repeat (first | exact Has.here | apply Has.there | (apply Has.swap; repeat (first | exact HasR.here | apply HasR.there)))) (by rfl) rfl rfl rfl ?_; conv => whnf)
  refine Sm.block ?_
  refine Sm.loop ?_
  have hp0 : Hp (fun _ => False) s [slA κ (.slice a c.last.length cp) 4 c.last.length (rcCells c.last)] [blkA b3 b3 (chCells { c with last := [] } (.slice none 0 0)) 4, onA none (.slice none 0 0) 4 0 (rcCells []), blkA b1 b1 (chCells c (.slice a c.last.length cp)) 4, blkA b2 b2 (chCells Ch.zero (.slice none 0 0)) 4] s4 :=
    (hp.push (a := onA none (.slice none 0 0) 4 0 (rcCells [])) (.refl hp.wf) ⟨.inl ⟨rfl, rfl, rfl, rfl⟩⟩ fun j hj => by cases hj).pik (by repeat (first | exact Pik.nil | exact Pik.refl _ | exact Rm.here | apply Rm.there | apply Pik.cons | apply Pik.skip))
  clear hp
  refine Lp.ofS (α := Nat × Option Nat × Value) (fun x => [(1, .pointer (some ⟨b1, 0, none⟩)), (2, .pointer (some ⟨b2, 0, none⟩)), (3, .pointer (some ⟨b3, 0, none⟩)), (14, .slice a c.last.length cp), (15, .int .i64 (c.last.length : Int)), (16, .int .i64 (x.1 : Int))])
    (fun x s' => x.1 ≤ c.last.length ∧ Hp (fun _ => False) s [slA κ (.slice a c.last.length cp) 4 c.last.length (rcCells c.last)] [blkA b3 b3 (chCells { c with last := [] } x.2.2) 4, onA x.2.1 x.2.2 4 x.1 (rcCells (c.last.take x.1)), blkA b1 b1 (chCells c (.slice a c.last.length cp)) 4, blkA b2 b2 (chCells Ch.zero (.slice none 0 0)) 4] s')
    (fun x => c.last.length - x.1) ?_ (0, none, .slice none 0 0) (subK_ok (by refine ⟨rfl, rfl, rfl, rfl, rfl, rfl, trivial⟩)) ⟨Nat.zero_le _, hp0⟩
  clear hp0
  rintro ⟨i, κ3, w3⟩ s5 ⟨hi, hp⟩
  simp only at hi hp
  obtain ⟨a3, c3, rfl⟩ := (hp.slF (by repeat (first | exact Rm.here | apply Rm.there))).shape
  refine Sm.seqW ?_
  conv => whnf
  refine Sm.seqW ?_
  conv => whnf
  refine Br.mk (fun hc => ?_) (fun hc => ?_)
  · have hc : i < c.last.length := by have := of_decide_eq_true hc; omega
    conv => whnf
    refine Sm.seq (Sm.block ?_)
    refine Sm.seqW ?_
    conv => whnf
    obtain ⟨p, e1, e2⟩ := index_rc (hp.slR (by exact .here)) .i64 hc
    refine Om.of _ e1 ?_
    conv => whnf
    refine Om.of _ e2 ?_
    conv => whnf
    refine hp.alloc (cs := [.int .i64 0, .int .i64 0, .int .i64 0, .string ⟨#[]⟩]) (e := 4) rfl rfl rfl rfl rfl ?_
    clear hp e1 e2
    intro b5 s6 hp k6
    conv => whnf
    refine hp.storeW (vs := c.last[i].cells) rfl (by repeat (first | exact Rm.here | apply Rm.there)) (by rfl) rfl rfl rfl ?_
    clear hp k6
    intro s7 hp _
    conv => whnf
    refine Sm.ofW ?_
    conv => whnf
    (refine hp.load (by repeat (first | exact Has.here | apply Has.there | (apply Has.swap; repeat (first | exact HasR.here | apply HasR.there)))) (by rfl) rfl rfl rfl ?_; conv => whnf)
    refine hp.loadA (l := c.last[i].cells) (by repeat (first | exact Has.here | apply Has.there | (apply Has.swap; repeat (first | exact HasR.here | apply HasR.there)))) rfl (by rfl) rfl rfl ?_
    conv => whnf
    refine hp.rec1 c.last[i] ?_
    clear hp
    intro v8 b8 s8 hp k8
    conv => whnf
    have x8 : Sr s8 (some b8) v8 [c.last[i]] := Own.sl (hp.okF _ List.mem_cons_self)
    refine hp.app R71 Try.underlying71 rfl (by repeat (first | exact Rm.here | apply Rm.there)) (elems_sl x8) rfl (rcCells_one [c.last[i]]) (by simp only [List.length_singleton]; omega) ?_
    clear hp x8
    intro v9 κ9 s9 hp
    conv => whnf
    obtain ⟨a9, c9, rfl⟩ := (hp.slF (by repeat (first | exact Rm.here | apply Rm.there))).shape
    (refine hp.store (by repeat (first | exact Rm.here | apply Rm.there)) (by first | exact of_decide_eq_true rfl | (simp; done) | (simp; omega) | omega) rfl rfl rfl rfl ?_; intro s hp _; conv => whnf)
    refine Sm.ofW ?_
    conv => whnf
    have e6 : IntKind.i64.wrap ((i : Int) + 1) = ((i + 1 : Nat) : Int) := by rw [wi64 (by omega) (by omega)]; omega
    refine ⟨(i + 1, κ9, .slice a9 (i + 1) c9), by (show c.last.length - (i + 1) < c.last.length - i); omega, subK_ok (by refine ⟨rfl, rfl, rfl, rfl, rfl, congrArg (fun x => some (Value.int .i64 x)) e6, trivial⟩), hc, ?_⟩
    rw [← rcCells_append, ← List.take_succ_eq_append_getElem hc] at hp
    exact hp.pik (by repeat (first | exact Pik.nil | exact Pik.refl _ | exact Rm.here | apply Rm.there | apply Pik.cons | apply Pik.skip))
  · have hc : i = c.last.length := by have := of_decide_eq_false hc; omega
    subst hc
    conv => whnf
    rw [List.take_of_length_le (Nat.le_refl _)] at hp
    refine Sm.seqW ?_
    conv => whnf
    refine hp.loadA (l := chCells c (.slice a3 c.last.length c3)) (by repeat (first | exact Has.here | apply Has.there | (apply Has.swap; repeat (first | exact HasR.here | apply HasR.there)))) rfl (by rfl) rfl rfl ?_
    conv => whnf
    refine hp.storeW (vs := chCells c (.slice a3 c.last.length c3)) rfl (by repeat (first | exact Rm.here | apply Rm.there)) (by rfl) rfl rfl rfl ?_
    clear hp
    intro s6 hp _
    conv => whnf
    refine Sm.ofW ?_
    conv => whnf
    refine hp.loadA (l := chCells c (.slice a3 c.last.length c3)) (by repeat (first | exact Has.here | apply Has.there | (apply Has.swap; repeat (first | exact HasR.here | apply HasR.there)))) rfl (by rfl) rfl rfl ?_
    conv => whnf
    exact ⟨hp.fr, _, rfl, hp.out (by repeat (first | exact Rm.here | apply Rm.there))⟩
theorem eq_rc21 (a b : Rc) : evEq Try.prog 10000 69 a.val b.val = some ((a.who == b.who) && ((a.verb == b.verb) && ((a.what == b.what) && (bs a.text == bs b.text)))) := by
  have e : ∀ p q u w : Bool, (a.who == b.who) = p → (a.verb == b.verb) = q → (a.what == b.what) = u → (bs a.text == bs b.text) = w → evEq Try.prog 10000 69 a.val b.val = some (p && (q && (u && w))) := by
    intro p q u w h1 h2 h3 h4
    conv => lhs; whnf
    rw [show Try.prog.stoodInHeld 69 = false by decide +kernel]
    show (match (some (a.who == b.who) : Option Bool) with | some true => (match (some (a.verb == b.verb) : Option Bool) with | some true => (match (some (a.what == b.what) : Option Bool) with | some true => (match (some (bs a.text == bs b.text) : Option Bool) with | some true => some true | some false => some false | none => none) | some false => some false | none => none) | some false => some false | none => none) | some false => some false | none => none) = _
    rw [h1, h2, h3, h4]
    cases p <;> cases q <;> cases u <;> cases w <;> rfl
  rw [e _ _ _ _ rfl rfl rfl rfl]
theorem bs_inj {a b : ByteArray} (h : bs a = bs b) : a = b := by rw [← mk_bs a, h, mk_bs b]
open Classical in
theorem rc_dec (a b : Rc) : ((a.who == b.who) && ((a.verb == b.verb) && ((a.what == b.what) && (bs a.text == bs b.text)))) = decide (a = b) := by
  obtain ⟨a1, a2, a3, a4⟩ := a
  obtain ⟨b1, b2, b3, b4⟩ := b
  rw [Bool.eq_iff_iff]
  simp only [Bool.and_eq_true, beq_iff_eq, decide_eq_true_eq, Rc.mk.injEq]
  constructor
  · rintro ⟨h1, h2, h3, h4⟩; exact ⟨h1, h2, h3, bs_inj h4⟩
  · rintro ⟨h1, h2, h3, h4⟩; subst h4; exact ⟨h1, h2, h3, rfl⟩
open Classical in
theorem rc_ne21 (a b : Rc) (c : Bool) : evBin Try.prog .neq 69 c a.val b.val = some (.bool (!decide (a = b))) := by
  have := eq_rc21 a b
  rw [rc_dec] at this
  have hg : Try.prog.eqGuardType Try.prog.depth 69 = false := by decide +kernel
  show (match !(Try.prog.eqGuardType Try.prog.depth 69) with | false => none | true => (match evEq Try.prog 10000 69 a.val b.val with | some b => some (Value.bool (!b)) | none => none)) = _
  rw [hg, this]; rfl
theorem same_spec {s : St} (wf : WF s) {c d : Ch} {κ κ' : Option Nat} {v w : Value} (hv : Sr s κ v c.last) (hw : Sr s κ' w d.last) (hl : c.last.length ≤ 1000) :
    Cw Try.prog 37 [chVal c v, chVal d w] s fun r s' => K0 s s' ∧ ∃ b, r = .bool b ∧ (b = true ↔ c = d) := by
  have hp : Hp (fun _ => False) s [slA κ v 4 c.last.length (rcCells c.last), slA κ' w 4 d.last.length (rcCells d.last)] [] s := Hp.start _ wf _ (by simp; exact ⟨hv, hw⟩)
  obtain ⟨a, cp, rfl⟩ := hv.shape
  obtain ⟨a', cp', rfl⟩ := hw.shape
  clear hv hw
  refine Cw.enterS Try.func37 rfl rfl ?_
  refine Sm.seqW ?_
  conv => whnf
  refine hp.var (cs := chCells c (.slice a c.last.length cp)) (e := 4) rfl rfl ?_
  clear hp
  intro b1 s1 hp _
  conv => whnf
  refine hp.var (cs := chCells d (.slice a' d.last.length cp')) (e := 4) rfl rfl ?_
  clear hp
  intro b2 s2 hp _
  conv => whnf
  refine Sm.seq ?_
  refine Sm.seqC (fun e L' s' => e = .normal ∧ s' = s2 ∧ ∃ q, Sub [(2, .pointer (some ⟨b1, 0, none⟩)), (3, .pointer (some ⟨b2, 0, none⟩)), (33, .bool q)] L' ∧ (q = false ↔ c.count = d.count ∧ c.head = d.head ∧ c.base = d.base ∧ c.last.length = d.last.length)) ?_ ?_
  · conv => whnf
    (refine hp.load (by repeat (first | exact Has.here | apply Has.there | (apply Has.swap; repeat (first | exact HasR.here | apply HasR.there)))) (by rfl) rfl rfl rfl ?_; conv => whnf)
    (refine hp.load (by repeat (first | exact Has.here | apply Has.there | (apply Has.swap; repeat (first | exact HasR.here | apply HasR.there)))) (by rfl) rfl rfl rfl ?_; conv => whnf)
    cases hx : (c.count != d.count) <;> cases hy : ((c.head.toNat : Int) != (d.head.toNat : Int)) <;> cases hz : ((c.base.toNat : Int) != (d.base.toNat : Int)) <;> cases hu : ((c.last.length : Int) != (d.last.length : Int))
    all_goals
      repeat (first
        | (refine Br.yes (by first | with_reducible rfl | with_reducible assumption) ?_; conv => whnf)
        | (refine Br.no (by first | with_reducible rfl | with_reducible assumption) ?_; conv => whnf)
        | (refine hp.load (by repeat (first | exact Has.here | apply Has.there | (apply Has.swap; repeat (first | exact HasR.here | apply HasR.there)))) (by rfl) rfl rfl rfl ?_; conv => whnf))
      refine ⟨rfl, rfl, _, subK_ok (by first | exact ⟨rfl, rfl, congrArg (fun b => some (Value.bool b)) hu, trivial⟩ | exact ⟨rfl, rfl, rfl, trivial⟩), ?_⟩
      simp only [bne_eq_false_iff_eq, bne_iff_ne, ne_eq] at hx hy hz hu
      have hy' : c.head = d.head ↔ (c.head.toNat : Int) = (d.head.toNat : Int) := by rw [← BitVec.toNat_inj]; omega
      have hz' : c.base = d.base ↔ (c.base.toNat : Int) = (d.base.toNat : Int) := by rw [← BitVec.toNat_inj]; omega
      rw [hy', hz']
      constructor
      · intro h
        first | omega | cases h
      · intro h
        first | rfl | omega
  rintro e L' s' ⟨rfl, rfl, q, hs, hq⟩
  refine Sm.weak _ hs ?_
  clear hs
  have hh : Hp (fun _ => False) s [slA κ (.slice a c.last.length cp) 4 c.last.length (rcCells c.last), slA κ' (.slice a' d.last.length cp') 4 d.last.length (rcCells d.last)] [blkA b2 b2 (chCells d (.slice a' d.last.length cp')) 4, blkA b1 b1 (chCells c (.slice a c.last.length cp)) 4] s' := hp
  refine Sm.ofW ?_
  conv => whnf
  cases q with
  | true =>
    refine Br.yes rfl ?_
    conv => whnf
    exact ⟨⟨hp.fr, false, rfl, fun h => (by cases h), fun h => by
      have := hq.2 ⟨by rw [h], by rw [h], by rw [h], by rw [h]⟩
      cases this⟩⟩
  | false =>
    obtain ⟨q1, q2, q3, q4⟩ := hq.1 rfl
    refine Br.no rfl ?_
    conv => whnf
    refine Sm.seq ?_
    refine Sm.seqW ?_
    conv => whnf
    (refine hp.load (by repeat (first | exact Has.here | apply Has.there | (apply Has.swap; repeat (first | exact HasR.here | apply HasR.there)))) (by rfl) rfl rfl rfl ?_; conv => whnf)
    refine Sm.block ?_
    refine Sm.loop ?_
    refine Lp.ofS (α := Nat) (fun i => [(2, .pointer (some ⟨b1, 0, none⟩)), (3, .pointer (some ⟨b2, 0, none⟩)), (36, .int .i64 (c.last.length : Int)), (37, .int .i64 (i : Int))])
      (fun i s1' => s1' = s' ∧ i ≤ c.last.length ∧ c.last.take i = d.last.take i) (fun i => c.last.length - i) ?_ 0 (subK_ok (by refine ⟨rfl, rfl, rfl, rfl, trivial⟩)) ⟨rfl, Nat.zero_le _, rfl⟩
    rintro i s5 ⟨rfl, hi, heq⟩
    refine Sm.seqW ?_
    conv => whnf
    refine Sm.seqW ?_
    conv => whnf
    refine Br.mk (fun hc => ?_) (fun hc => ?_)
    · have hc : i < c.last.length := by have := of_decide_eq_true hc; omega
      have hd : i < d.last.length := by omega
      conv => whnf
      refine Sm.seq (Sm.block ?_)
      refine Sm.seqW ?_
      conv => whnf
      refine Sm.ofW ?_
      conv => whnf
      refine ⟨[0, 1, 0, 7, 15, 0, 32, 0, 224, 480, 1023], by decide +kernel, by decide +kernel, ?_⟩
      conv => whnf
      (refine hp.load (by repeat (first | exact Has.here | apply Has.there | (apply Has.swap; repeat (first | exact HasR.here | apply HasR.there)))) (by rfl) rfl rfl rfl ?_; conv => whnf)
      obtain ⟨p1, e1, e2⟩ := index_rcT R71 Try.underlying69 (hp.slR .here) .i64 hc
      refine Om.of _ e1 ?_
      conv => whnf
      refine Om.of _ e2 ?_
      conv => whnf
      (refine hp.load (by repeat (first | exact Has.here | apply Has.there | (apply Has.swap; repeat (first | exact HasR.here | apply HasR.there)))) (by rfl) rfl rfl rfl ?_; conv => whnf)
      obtain ⟨p2, e3, e4⟩ := index_rcT R71 Try.underlying69 (hp.slR (.there .here)) .i64 hd
      refine Om.of _ e3 ?_
      conv => whnf
      refine Om.of _ e4 ?_
      conv => whnf
      refine Om.of _ (rc_ne21 _ _ _) ?_
      conv => whnf
      refine Br.mk (fun hr => ?_) (fun hr => ?_)
      · have hr : c.last[i] ≠ d.last[i] := by simpa using hr
        conv => whnf
        exact ⟨hp.fr, false, rfl, fun h => (by cases h), fun h => absurd (by subst h; rfl) hr⟩
      · have hr : c.last[i] = d.last[i] := by simpa using hr
        conv => whnf
        refine Sm.ofW ?_
        conv => whnf
        have e6 : IntKind.i64.wrap ((i : Int) + 1) = ((i + 1 : Nat) : Int) := by rw [wi64 (by omega) (by omega)]; omega
        refine ⟨i + 1, by (show c.last.length - (i + 1) < c.last.length - i); omega, subK_ok (by refine ⟨rfl, rfl, rfl, congrArg (fun x => some (Value.int .i64 x)) e6, trivial⟩), rfl, hc, ?_⟩
        rw [List.take_succ_eq_append_getElem hc, List.take_succ_eq_append_getElem hd, heq, hr]
    · have hc : i = c.last.length := by have := of_decide_eq_false hc; omega
      subst hc
      conv => whnf
      refine Sm.ofW ?_
      conv => whnf
      refine ⟨hp.fr, true, rfl, fun _ => ?_, fun _ => rfl⟩
      rw [List.take_of_length_le (Nat.le_refl _), List.take_of_length_le (by omega)] at heq
      obtain ⟨c1, c2, c3, c4⟩ := c
      obtain ⟨d1, d2, d3, d4⟩ := d
      simp only at q1 q2 q3 heq
      subst q1 q2 q3 heq
      rfl
end Go.Ev
end

/- Chains: numbers by labels; books in parts. No condition. -/
noncomputable section
namespace Go.Ev
open Go.Proofs
set_option linter.unusedVariables false
set_option maxRecDepth 100000

def cntOf : List (Lb × Int) → Lb → Int
  | [], _ => 0
  | e :: M, l => if l = e.1 then e.2 else cntOf M l
def putC : List (Lb × Int) → Lb → Int → List (Lb × Int)
  | [], l, n => [(l, n)]
  | e :: M, l, n => if l = e.1 then (l, n) :: M else e :: putC M l n
def cv (e : Lb × Int) : Value × Value := (e.1.val, .int .i64 e.2)
theorem cntOf_put (M : List (Lb × Int)) (l : Lb) (n : Int) (l' : Lb) : cntOf (putC M l n) l' = if l' = l then n else cntOf M l' := by
  induction M with
  | nil => rfl
  | cons e M ih =>
    show cntOf (if l = e.1 then (l, n) :: M else e :: putC M l n) l' = _
    by_cases h : l = e.1
    · rw [if_pos h]
      by_cases h2 : l' = l
      · simp [cntOf, h2]
      · have : l' ≠ e.1 := fun x => h2 (x.trans h.symm)
        simp [cntOf, h2, this]
    · rw [if_neg h]
      show (if l' = e.1 then e.2 else cntOf (putC M l n) l') = _
      rw [ih]
      by_cases h2 : l' = l
      · have : l' ≠ e.1 := fun x => h (h2.symm.trans x)
        simp [h2]
        intro x; exact absurd x h
      · simp [cntOf, h2]
theorem find_cnt (l : Lb) : ∀ (M : List (Lb × Int)) (i : Nat), ∃ r, evFind Try.prog 48 l.val (M.map cv) i = some r ∧
    ((r = none ∧ cntOf M l = 0 ∧ ∀ n, putC M l n = M ++ [(l, n)]) ∨ ∃ j n0, r = some (i + j) ∧ M[j]? = some (l, n0) ∧ cntOf M l = n0 ∧ ∀ n, putC M l n = M.set j (l, n))
  | [], i => ⟨none, rfl, .inl ⟨rfl, rfl, fun _ => rfl⟩⟩
  | e :: M, i => by
    have h := eq_lab l e.1
    by_cases hl : l = e.1
    · refine ⟨some i, ?_, .inr ⟨0, e.2, rfl, by rw [hl]; rfl, by simp [cntOf, hl], fun n => ?_⟩⟩
      · show (match evEq Try.prog 10000 48 l.val e.1.val with | some true => some (some i) | some false => evFind Try.prog 48 l.val (M.map cv) (i + 1) | none => none) = _
        rw [h, decide_eq_true hl]
      · show (if l = e.1 then (l, n) :: M else e :: putC M l n) = _
        rw [if_pos hl]; rfl
    · obtain ⟨r, h1, h2⟩ := find_cnt l M (i + 1)
      refine ⟨r, ?_, ?_⟩
      · show (match evEq Try.prog 10000 48 l.val e.1.val with | some true => some (some i) | some false => evFind Try.prog 48 l.val (M.map cv) (i + 1) | none => none) = _
        rw [h, decide_eq_false hl]
        exact h1
      · rcases h2 with ⟨rfl, h3, h4⟩ | ⟨j, n0, rfl, h3, h4, h6⟩
        · refine .inl ⟨rfl, by simp [cntOf, hl, h3], fun n => ?_⟩
          show (if l = e.1 then (l, n) :: M else e :: putC M l n) = _
          rw [if_neg hl, h4]; rfl
        · refine .inr ⟨j + 1, n0, by rw [show i + 1 + j = i + (j + 1) by omega], h3, by simp [cntOf, hl, h4], fun n => ?_⟩
          show (if l = e.1 then (l, n) :: M else e :: putC M l n) = _
          rw [if_neg hl, h6]; rfl
section
variable {X : Nat → Prop} {s0 s : St} {R F G : List At}
theorem Hp.getC (hp : Hp X s0 R F s) {mb : Nat} {M : List (Lb × Int)} (m : Has (mapA mb (M.map cv)) F R) (l : Lb) {K : Value → Prop} (k : K (.int .i64 (cntOf M l))) :
    Om (evLookup Try.prog 78 (.map (some mb)) l.val false s) K := by
  refine .of _ ?_ k
  have h : Mp s mb (M.map cv) := hp.at m
  obtain ⟨r, h1, h2⟩ := find_cnt l M 0
  have hk : evKey Try.prog 10000 48 l.val = true := rfl
  have hm : mapOf s (.map (some mb)) = some (M.map cv) := by simp only [mapOf, h.ex]
  have hu : Try.prog.underlying 78 = some (.map 48 3) := Try.underlying78
  have hu2 : Try.prog.underlying 48 = _ := Try.underlying48
  unfold evLookup
  rcases h2 with ⟨rfl, h3, _⟩ | ⟨j, n0, rfl, h3, h4, _⟩
  · simp only [hu, hu2, hm, hk, h1]
    rw [h3]; rfl
  · rw [Nat.zero_add] at h1
    simp only [hu, hu2, hm, hk, h1, List.getElem?_map, h3, Option.map_some, h4]
    rfl
theorem Hp.setC (hp : Hp X s0 R F s) {mb : Nat} {M : List (Lb × Int)} (m : Rm (mapA mb (M.map cv)) F G) (l : Lb) (n : Int) {K : St → Prop} (k : ∀ s', Hp X s0 R (mapA mb ((putC M l n).map cv) :: G) s' → K s') :
    Om (evUpdate Try.prog 78 (.map (some mb)) l.val (.int .i64 n) s) K := by
  have h : Mp s mb (M.map cv) := hp.okF _ m.sub.1
  obtain ⟨r, h1, h2⟩ := find_cnt l M 0
  have hk : evKey Try.prog 10000 48 l.val = true := rfl
  have hm : mapOf s (.map (some mb)) = some (M.map cv) := by simp only [mapOf, h.ex]
  have hu : Try.prog.underlying 78 = some (.map 48 3) := Try.underlying78
  have hu2 : Try.prog.underlying 48 = _ := Try.underlying48
  rcases h2 with ⟨rfl, h3, h4⟩ | ⟨j, n0, rfl, h3, h4, h6⟩
  · obtain ⟨s', g1, g2, g3, g4⟩ := setMap_kp (es' := M.map cv ++ [(l.val, .int .i64 n)]) hp.wf h
    refine .of s' ?_ (k s' (hp.upd m g2 (fun j hj => .inl hj) ?_ fun j hj => .inl hj))
    · unfold evUpdate
      simp only [hu, hu2, hm, hk, h1]
      exact g1
    · show Mp s' mb ((putC M l n).map cv)
      rw [h4, List.map_append]; exact g3
  · rw [Nat.zero_add] at h1
    obtain ⟨s', g1, g2, g3, g4⟩ := setMap_kp (es' := (M.map cv).set j (l.val, .int .i64 n)) hp.wf h
    refine .of s' ?_ (k s' (hp.upd m g2 (fun j hj => .inl hj) ?_ fun j hj => .inl hj))
    · unfold evUpdate
      simp only [hu, hu2, hm, hk, h1, List.getElem?_map, h3, Option.map_some]
      have : evSame 100 (cv (l, n0)).1 l.val = true := same_lab l
      simp only [this]
      exact g1
    · show Mp s' mb ((putC M l n).map cv)
      rw [h6, List.map_set]; exact g3
theorem Hp.mkMap (hp : Hp X s0 R F s) {t : TypeId} {K : Value × St → Prop} (hev : evMakeMap Try.prog t none s = some (.map (some s.next), s.newMap [])) (k : ∀ b s', Hp X s0 R (mapA b [] :: F) s' → K0 s s' → K (.map (some b), s')) : Om (evMakeMap Try.prog t none s) K := by
  obtain ⟨k1, m1⟩ := newMap_kp hp.wf []
  exact .of _ hev (k _ _ (hp.push k1 m1 fun j hj => by subst hj; exact Nat.le_refl _) k1)
theorem lab_ne (a b : Lb) (c : Bool) : evBin Try.prog .neq 48 c a.val b.val = some (.bool (!decide (a = b))) := by
  have := eq_lab a b
  have hg : Try.prog.eqGuardType Try.prog.depth 48 = false := by decide +kernel
  show (match !(Try.prog.eqGuardType Try.prog.depth 48) with | false => none | true => (match evEq Try.prog 10000 48 a.val b.val with | some b => some (Value.bool (!b)) | none => none)) = _
  rw [hg, this]; rfl
/-! ### books in parts -/
theorem Hp.newB (hp : Hp X s0 R F s) {K : Value → St → Prop} (k : ∀ b0 kb mb s', Hp X s0 R (bookA (.pointer (some ⟨b0, 0, none⟩)) kb mb [] :: F) s' → K0 s s' → K (.pointer (some ⟨b0, 0, none⟩)) s') : Cw Try.prog 28 [] s K :=
  (cnew_spec hp.wf).mono fun r s' ⟨k1, kb, mb, n1, n2, h1⟩ => by
    obtain ⟨b0, rfl, _⟩ := h1.ex
    refine k b0 kb mb s' (hp.push k1 h1 ?_) k1
    rintro j (rfl | rfl | ⟨e, he, _⟩)
    · exact n1
    · exact n2
    · cases he
theorem Hp.ofB (hp : Hp X s0 R F s) {p : Value} {kb mb : Nat} {E : List Ent} (m : Has (bookA p kb mb E) F R) (l : Lb) {K : Value → St → Prop} (k : ∀ κ w s', Hp X s0 R (onA κ w 4 (chOf E l).last.length (rcCells (chOf E l).last) :: F) s' → K0 s s' → K (chVal (chOf E l) w) s') : Cw Try.prog 31 [p, l.val] s K :=
  (of_spec hp.wf (hp.at m : BookAt s p kb mb E) l).mono fun r s' ⟨k1, w, hr, o⟩ => by
    subst hr
    obtain ⟨κ, h⟩ := hp.on k1 o
    exact k κ w s' h k1
theorem Hp.addB (hp : Hp X s0 R F s) {p : Value} {kb mb : Nat} {E : List Ent} (m : Rm (bookA p kb mb E) F G) (l : Lb) {r : Rc} (ok : r.ok) {K : Value → St → Prop}
    (k : ∀ v E' s', Hp X s0 R (bookA p kb mb E' :: G) s' → (∀ l', chOf E' l' = if l' = l then (chOf E l).add r else chOf E l') → K v s') : Cw Try.prog 30 [p, l.val, r.val] s K :=
  (add_spec hp.wf (hp.okF _ m.sub.1 : BookAt s p kb mb E) l ok).mono fun v s' ⟨k1, E', h1, h2, h3⟩ => by
    refine k v E' s' (hp.upd m k1 (fun j hj => .inl (.inr hj)) h1 ?_) h3
    rintro j (rfl | hj)
    · exact .inl (.inl rfl)
    · rcases h2 j hj with g | g
      · exact .inl (.inr g)
      · exact .inr g
theorem Hp.book (hp : Hp X s0 R F s) {p : Value} {kb mb : Nat} {E : List Ent} (m : Has (bookA p kb mb E) F R) : BookAt s p kb mb E := hp.at m
end
end Go.Ev
end

/- What ChainTurns says. No condition. -/
noncomputable section
namespace Go.Ev
open Go.Proofs
set_option linter.unusedVariables false
set_option maxRecDepth 100000

theorem wrapR (n : Int) : inR (IntKind.i64.wrap n) := by rw [wrap_i64i]; unfold inR; split <;> omega
/-- The records that were added to a label's chain. -/
def recsOf (l : List Rw) (b : Lb) : List Rc := (l.filter fun x => decide (lab x.l = b)).map Rw.r
theorem recsOf_snoc (l : List Rw) (x : Rw) (b : Lb) : recsOf (l ++ [x]) b = if b = lab x.l then recsOf l b ++ [x.r] else recsOf l b := by
  unfold recsOf
  by_cases h : b = lab x.l
  · rw [if_pos h]; simp [List.filter_append, h]
  · rw [if_neg h]
    have : ¬ (lab x.l = b) := fun e => h e.symm
    simp [List.filter_append, this]
theorem recsOf_len (l : List Rw) (b : Lb) : (recsOf l b).length ≤ l.length := by
  unfold recsOf; simp; exact List.length_filter_le _ _
theorem recsOf_ok {l : List Rw} (ok : ∀ x ∈ l, x.ok) (b : Lb) : ∀ r ∈ recsOf l b, r.ok := by
  intro r hr
  unfold recsOf at hr
  obtain ⟨x, hx, rfl⟩ := List.mem_map.1 hr
  exact (ok x (List.mem_filter.1 hx).1).r
theorem rcCells_set (l : List Rc) (k : Nat) (hk : k < l.length) (t : ByteArray) : (rcCells l).set (0 + k * 4 + 3) (.string t) = rcCells (l.set k { l[k] with text := t }) := by
  rw [Nat.zero_add]
  induction k generalizing l with
  | zero =>
    cases l with
    | nil => simp at hk
    | cons r l => rfl
  | succ k ih =>
    cases l with
    | nil => simp at hk
    | cons r l =>
      have hk' : k < l.length := by simpa using hk
      show (r.cells ++ rcCells l).set _ _ = r.cells ++ rcCells (l.set k _)
      have e1 : r.cells.length = 4 := rfl
      rw [List.set_append_right _ _ (by omega), e1]
      have := ih l hk'
      rw [show (k + 1) * 4 + 3 - 4 = k * 4 + 3 by omega, this]
      rfl
theorem byte_set (l : List UInt8) (j n : Nat) (hn : n < 256) : (byteVals l).set (0 + j * 1) (.int .u8 (n : Int)) = byteVals (l.set j (UInt8.ofNat n)) := by
  rw [Nat.zero_add, Nat.mul_one, byteVals, byteVals, List.map_set]
  congr 2
  rw [toNat_ofNat hn]
theorem turns_walk {s0 : St} (wf : WF s0) {v : Value} {l : List Rw} (hv : Sl s0 none v 5 l.length (rwCells l)) (ok : ∀ x ∈ l, x.ok) (hl : l.length ≤ 140737488351232) {at_ wh by_ : Int} (hat : inR at_) (hwh : inR wh) (hby : 0 ≤ by_ ∧ by_ < 256) :
    Cw Try.prog 10 [v, .int .i64 at_, .int .i64 wh, .int .u8 by_] s0 fun r _ => r = .bool true := by
  obtain ⟨a, cp, rfl⟩ := hv.shape
  have hp : Hp (fun _ => False) s0 [slA none (.slice a l.length cp) 5 l.length (rwCells l)] [] s0 := Hp.start _ wf _ (by simp; exact hv)
  refine Cw.enterS Try.func10 rfl rfl ?_
  refine Sm.seqW ?_
  conv => whnf
  refine Sm.seqW ?_
  conv => whnf
  refine hp.newB ?_
  clear hp
  intro b0 kb mb s hp _
  conv => whnf
  refine Sm.live [0, 1, 2, 3, 9] ?_
  conv => whnf
  refine Sm.seq ?_
  refine Sm.seqW ?_
  conv => whnf
  refine (cknown_spec hp.wf).mono ?_
  rintro _ s' ⟨rfl, k1⟩
  replace hp := hp.k0 k1
  clear k1
  conv => whnf
  repeat (first | (refine Br.yes (by first | with_reducible rfl | with_reducible exact beq_self_eq_true _ | rfl) ?_; conv => whnf) | (refine Br.no (by first | with_reducible rfl | with_reducible exact bne_self_eq_false _ | rfl) ?_; conv => whnf))
  refine Om.of (.bool false) rfl ?_
  conv => whnf
  repeat (first | (refine Br.yes (by first | with_reducible rfl | with_reducible exact beq_self_eq_true _ | rfl) ?_; conv => whnf) | (refine Br.no (by first | with_reducible rfl | with_reducible exact bne_self_eq_false _ | rfl) ?_; conv => whnf))
  refine Sm.ofW ?_
  conv => whnf
  repeat (first | (refine Br.yes (by first | with_reducible rfl | with_reducible exact beq_self_eq_true _ | rfl) ?_; conv => whnf) | (refine Br.no (by first | with_reducible rfl | with_reducible exact bne_self_eq_false _ | rfl) ?_; conv => whnf))
  refine Sm.live [0, 1, 2, 3, 9] ?_
  conv => whnf
  refine Sm.seqW ?_
  conv => whnf
  refine hp.mkMap rfl ?_
  clear hp
  intro cm s hp _
  conv => whnf
  refine Sm.live [0, 1, 2, 3, 9, 10] ?_
  conv => whnf
  refine Sm.seq ?_
  refine Sm.seqW ?_
  conv => whnf
  refine Sm.block ?_
  refine Sm.loop ?_
  refine Lp.ofS (α := Nat × List Ent × List (Lb × Int)) (fun x => [(0, .slice a l.length cp), (1, .int .i64 at_), (2, .int .i64 wh), (3, .int .u8 by_), (9, .pointer (some ⟨b0, 0, none⟩)), (10, .map (some cm)), (27, .slice a l.length cp), (28, .int .i64 (l.length : Int)), (29, .int .i64 (x.1 : Int))])
    (fun x s' => x.1 ≤ l.length ∧ Hp (fun _ => False) s0 [slA none (.slice a l.length cp) 5 l.length (rwCells l)] [bookA (.pointer (some ⟨b0, 0, none⟩)) kb mb x.2.1, mapA cm (x.2.2.map cv)] s' ∧
      (∀ b, chOf x.2.1 b = chN (recsOf (l.take x.1) b)) ∧ (∀ b, cntOf x.2.2 b = ((recsOf (l.take x.1) b).length : Int))) (fun x => l.length - x.1) ?_ (0, [], [])
    (subK_ok (by refine ⟨rfl, rfl, rfl, rfl, rfl, rfl, rfl, rfl, rfl, trivial⟩)) ⟨Nat.zero_le _, hp.pik (by repeat (first | exact Pik.nil | exact Pik.refl _ | exact Rm.here | apply Rm.there | apply Pik.cons | apply Pik.skip)), fun _ => rfl, fun _ => rfl⟩
  · clear hp
    rintro ⟨i, E, M⟩ s ⟨hi, hp, hE, hM⟩
    simp only at hi hp hE hM
    refine Sm.seqW ?_
    conv => whnf
    refine Sm.seqW ?_
    conv => whnf
    refine Br.mk (fun hc => ?_) (fun hc => ?_)
    · have hc : i < l.length := by have := of_decide_eq_true hc; omega
      have hok := ok l[i] (List.getElem_mem hc)
      conv => whnf
      refine Sm.seq (Sm.block ?_)
      refine Sm.seqW ?_
      conv => whnf
      obtain ⟨p, e1, e2⟩ := index_rw (hp.slR .here) .i64 hc
      refine Om.of _ e1 ?_
      conv => whnf
      refine Om.of _ e2 ?_
      conv => whnf
      refine hp.alloc (cs := [.int .i64 0, .int .i64 0, .int .i64 0, .int .i64 0, .string ⟨#[]⟩]) (e := 5) rfl rfl rfl rfl rfl ?_
      clear hp e1 e2
      intro b5 s hp _
      conv => whnf
      refine hp.storeW (vs := l[i].cells) rfl (by repeat (first | exact Rm.here | apply Rm.there)) (by rfl) rfl rfl rfl ?_
      clear hp
      intro s hp _
      conv => whnf
      refine Sm.live [0, 1, 2, 3, 9, 10, 12, 27, 28, 29] ?_
      conv => whnf
      -- y
      refine Sm.seqW ?_
      conv => whnf
      (refine hp.load (by repeat (first | exact Has.here | apply Has.there | (apply Has.swap; repeat (first | exact HasR.here | apply HasR.there)))) (by rfl) rfl rfl rfl ?_; conv => whnf)
      refine hp.call (label_spec hp.wf (wrapR _)) ?_
      clear hp
      rintro _ s rfl hp _
      conv => whnf
      generalize hN : lab (IntKind.i64.wrap (l[i].l + 1)) = N
      refine hp.ofB (by repeat (first | exact Has.here | apply Has.there | (apply Has.swap; repeat (first | exact HasR.here | apply HasR.there)))) _ ?_
      clear hp
      intro κy wy s hp _
      obtain ⟨ay, cy, rfl⟩ := (hp.slF (by repeat (first | exact Rm.here | apply Rm.there))).shape
      conv => whnf
      refine hp.alloc (cs := chCells Ch.zero (.slice none 0 0)) (e := 4) rfl rfl rfl rfl rfl ?_
      clear hp
      intro b6 s hp _
      conv => whnf
      refine hp.storeW (vs := chCells (chOf E N) (.slice ay (chOf E N).last.length cy)) rfl (by repeat (first | exact Rm.here | apply Rm.there)) (by rfl) rfl rfl rfl ?_
      clear hp
      intro s hp _
      conv => whnf
      have book := hp.book (E := E) (kb := kb) (mb := mb) (p := .pointer (some ⟨b0, 0, none⟩)) (by repeat (first | exact Has.here | apply Has.there | (apply Has.swap; repeat (first | exact HasR.here | apply HasR.there))))
      obtain ⟨κY, -, -, hY8, -⟩ := book.sl N
      clear book
      refine Sm.live [0, 1, 2, 3, 9, 10, 12, 13, 27, 28, 29] ?_
      conv => whnf
      -- added
      refine Sm.seqC (fun e L' s' => e = .normal ∧ (∃ E', Hp (fun _ => False) s0 [slA none (.slice a l.length cp) 5 l.length (rwCells l)]
          [bookA (.pointer (some ⟨b0, 0, none⟩)) kb mb E', blkA b6 b6 (chCells (chOf E N) (.slice ay (chOf E N).last.length cy)) 4, onA κy (.slice ay (chOf E N).last.length cy) 4 (chOf E N).last.length (rcCells (chOf E N).last), blkA b5 b5 l[i].cells 5, mapA cm (M.map cv)] s' ∧
          ∀ l', chOf E' l' = if l' = lab l[i].l then (chOf E (lab l[i].l)).add l[i].r else chOf E l') ∧
        Sub [(0, .slice a l.length cp), (1, .int .i64 at_), (2, .int .i64 wh), (3, .int .u8 by_), (9, .pointer (some ⟨b0, 0, none⟩)), (10, .map (some cm)), (12, .pointer (some ⟨b5, 0, none⟩)), (13, .pointer (some ⟨b6, 0, none⟩)), (27, .slice a l.length cp), (28, .int .i64 (l.length : Int)), (29, .int .i64 (i : Int))] L') ?_ ?_
      · conv => whnf
        refine ⟨[0, 0, 2, 6, 0, 30, 63], by decide +kernel, by decide +kernel, ?_⟩
        conv => whnf
        (refine hp.load (by repeat (first | exact Has.here | apply Has.there | (apply Has.swap; repeat (first | exact HasR.here | apply HasR.there)))) (by rfl) rfl rfl rfl ?_; conv => whnf)
        refine hp.rst.call (label_spec hp.rst.wf hok.l) ?_
        rintro _ s1 rfl h1 k1
        conv => whnf
        refine hp.dkN h1 k1 ?_
        clear hp h1 k1
        intro s hp
        conv => whnf
        refine hp.loadA (l := l[i].cells) (by repeat (first | exact Has.here | apply Has.there | (apply Has.swap; repeat (first | exact HasR.here | apply HasR.there)))) rfl (by rfl) rfl rfl ?_
        conv => whnf
        refine hp.rst.call (record_spec hp.rst.wf l[i]) ?_
        rintro _ s1 rfl h1 k1
        conv => whnf
        refine hp.dkN h1 k1 ?_
        clear hp h1 k1
        intro s hp
        conv => whnf
        refine hp.rst.addB (by repeat (first | exact Rm.here | apply Rm.there)) _ hok.r ?_
        intro v1 E' s1 h1 hE'
        conv => whnf
        refine hp.dkA h1 ?_ ?_
        all_goals
          clear hp h1
          intro s hp
          conv => whnf
          exact ⟨rfl, ⟨E', hp.pik (by repeat (first | exact Pik.nil | exact Pik.refl _ | exact Rm.here | apply Rm.there | apply Pik.cons | apply Pik.skip)), hE'⟩, subK_ok (by refine ⟨rfl, rfl, rfl, rfl, rfl, rfl, rfl, rfl, rfl, rfl, rfl, trivial⟩)⟩
      clear hp
      rintro e L' s ⟨rfl, ⟨E', hp, hE'⟩, hs⟩
      refine Sm.weak _ hs ?_
      clear hs
      -- z
      refine Sm.seqW ?_
      conv => whnf
      (refine hp.load (by repeat (first | exact Has.here | apply Has.there | (apply Has.swap; repeat (first | exact HasR.here | apply HasR.there)))) (by rfl) rfl rfl rfl ?_; conv => whnf)
      refine hp.call (label_spec hp.wf (wrapR _)) ?_
      clear hp
      rintro _ s rfl hp _
      conv => whnf
      rw [hN]
      refine hp.ofB (by repeat (first | exact Has.here | apply Has.there | (apply Has.swap; repeat (first | exact HasR.here | apply HasR.there)))) _ ?_
      clear hp
      intro κz wz s hp _
      obtain ⟨az, cz, rfl⟩ := (hp.slF (by repeat (first | exact Rm.here | apply Rm.there))).shape
      conv => whnf
      refine hp.alloc (cs := chCells Ch.zero (.slice none 0 0)) (e := 4) rfl rfl rfl rfl rfl ?_
      clear hp
      intro b7 s hp _
      conv => whnf
      refine hp.storeW (vs := chCells (chOf E' N) (.slice az (chOf E' N).last.length cz)) rfl (by repeat (first | exact Rm.here | apply Rm.there)) (by rfl) rfl rfl rfl ?_
      clear hp
      intro s hp _
      conv => whnf
      have book := hp.book (E := E') (kb := kb) (mb := mb) (p := .pointer (some ⟨b0, 0, none⟩)) (by repeat (first | exact Has.here | apply Has.there | (apply Has.swap; repeat (first | exact HasR.here | apply HasR.there))))
      obtain ⟨κZ, -, -, hZ8, -⟩ := book.sl N
      clear book
      refine Sm.live [0, 1, 2, 3, 9, 10, 12, 13, 14, 27, 28, 29] ?_
      conv => whnf
      refine Sm.seq ?_
      refine Sm.seqC (fun e L' s' => e = .normal ∧ Hp (fun _ => False) s0 [slA none (.slice a l.length cp) 5 l.length (rwCells l)]
          [bookA (.pointer (some ⟨b0, 0, none⟩)) kb mb E', blkA b5 b5 l[i].cells 5, mapA cm (M.map cv)] s' ∧
        Sub [(0, .slice a l.length cp), (1, .int .i64 at_), (2, .int .i64 wh), (3, .int .u8 by_), (9, .pointer (some ⟨b0, 0, none⟩)), (10, .map (some cm)), (12, .pointer (some ⟨b5, 0, none⟩)), (27, .slice a l.length cp), (28, .int .i64 (l.length : Int)), (29, .int .i64 (i : Int)), (67, .bool false)] L') ?_ ?_
      · conv => whnf
        refine ⟨[0, 1, 3, 7, 0, 16, 63, 127, 255, 511, 1023, 511, 4095, 8191, 16383, 32767], by decide +kernel, by decide +kernel, ?_⟩
        conv => whnf
        (refine hp.load (by repeat (first | exact Has.here | apply Has.there | (apply Has.swap; repeat (first | exact HasR.here | apply HasR.there)))) (by rfl) rfl rfl rfl ?_; conv => whnf)
        refine hp.rst.call (label_spec hp.rst.wf (wrapR _)) ?_
        rintro _ s1 rfl h1 k1
        conv => whnf
        refine hp.dkN h1 k1 ?_
        clear hp h1 k1
        intro s hp
        conv => whnf
        (refine hp.load (by repeat (first | exact Has.here | apply Has.there | (apply Has.swap; repeat (first | exact HasR.here | apply HasR.there)))) (by rfl) rfl rfl rfl ?_; conv => whnf)
        refine hp.rst.call (label_spec hp.rst.wf hok.l) ?_
        rintro _ s1 rfl h1 k1
        conv => whnf
        refine hp.dkN h1 k1 ?_
        clear hp h1 k1
        intro s hp
        conv => whnf
        rw [hN]
        refine Om.of _ (lab_ne _ _ _) ?_
        conv => whnf
        by_cases hlab : N = lab l[i].l
        · have hd : (!decide (N = lab l[i].l)) = false := by simp [hlab]
          rw [hd]
          repeat (first | (refine Br.yes (by first | with_reducible rfl | with_reducible exact beq_self_eq_true _ | rfl) ?_; conv => whnf) | (refine Br.no (by first | with_reducible rfl | with_reducible exact bne_self_eq_false _ | rfl) ?_; conv => whnf))
          exact ⟨rfl, hp.pik (by repeat (first | exact Pik.nil | exact Pik.refl _ | exact Rm.here | apply Rm.there | apply Pik.cons | apply Pik.skip)), subK_ok (by refine ⟨rfl, rfl, rfl, rfl, rfl, rfl, rfl, rfl, rfl, rfl, rfl, trivial⟩)⟩
        · have hd : (!decide (N = lab l[i].l)) = true := by simp [hlab]
          rw [hd]
          have hsame : chOf E' N = chOf E N := by rw [hE', if_neg hlab]
          repeat (first | (refine Br.yes (by first | with_reducible rfl | with_reducible exact beq_self_eq_true _ | rfl) ?_; conv => whnf) | (refine Br.no (by first | with_reducible rfl | with_reducible exact bne_self_eq_false _ | rfl) ?_; conv => whnf))
          refine hp.loadA (l := chCells (chOf E N) (.slice ay (chOf E N).last.length cy)) (by repeat (first | exact Has.here | apply Has.there | (apply Has.swap; repeat (first | exact HasR.here | apply HasR.there)))) rfl (by rfl) rfl rfl ?_
          conv => whnf
          repeat (first | (refine Br.yes (by first | with_reducible rfl | with_reducible exact beq_self_eq_true _ | rfl) ?_; conv => whnf) | (refine Br.no (by first | with_reducible rfl | with_reducible exact bne_self_eq_false _ | rfl) ?_; conv => whnf))
          refine (convert_spec hp.rst.wf (hp.rst.slF (by repeat (first | exact Rm.here | apply Rm.there))) (by omega)).mono ?_
          rintro _ s1 ⟨k1, w1, rfl, o1⟩
          obtain ⟨κ1, h1⟩ := hp.rst.on k1 o1
          conv => whnf
          refine hp.dkN h1 k1 ?_
          clear hp h1 k1 o1
          intro s hp
          conv => whnf
          repeat (first | (refine Br.yes (by first | with_reducible rfl | with_reducible exact beq_self_eq_true _ | rfl) ?_; conv => whnf) | (refine Br.no (by first | with_reducible rfl | with_reducible exact bne_self_eq_false _ | rfl) ?_; conv => whnf))
          refine hp.loadA (l := chCells (chOf E' N) (.slice az (chOf E' N).last.length cz)) (by repeat (first | exact Has.here | apply Has.there | (apply Has.swap; repeat (first | exact HasR.here | apply HasR.there)))) rfl (by rfl) rfl rfl ?_
          conv => whnf
          repeat (first | (refine Br.yes (by first | with_reducible rfl | with_reducible exact beq_self_eq_true _ | rfl) ?_; conv => whnf) | (refine Br.no (by first | with_reducible rfl | with_reducible exact bne_self_eq_false _ | rfl) ?_; conv => whnf))
          refine (convert_spec hp.rst.wf (hp.rst.slF (by repeat (first | exact Rm.here | apply Rm.there))) (by omega)).mono ?_
          rintro _ s1 ⟨k1, w2, rfl, o1⟩
          obtain ⟨κ2, h1⟩ := hp.rst.on k1 o1
          conv => whnf
          refine hp.dkN h1 k1 ?_
          clear hp h1 k1 o1
          intro s hp
          conv => whnf
          repeat (first | (refine Br.yes (by first | with_reducible rfl | with_reducible exact beq_self_eq_true _ | rfl) ?_; conv => whnf) | (refine Br.no (by first | with_reducible rfl | with_reducible exact bne_self_eq_false _ | rfl) ?_; conv => whnf))
          refine hp.rst.call (same_spec hp.rst.wf (c := chOf E N) (d := chOf E' N) (v := w1) (w := w2) (hp.rst.slF (by repeat (first | exact Rm.here | apply Rm.there))) (hp.rst.slF (by repeat (first | exact Rm.here | apply Rm.there))) (by omega)) ?_
          rintro _ s1 ⟨bq, rfl, hbq⟩ h1 k1
          have hbq : bq = true := hbq.2 hsame.symm
          subst hbq
          conv => whnf
          refine hp.dkN h1 k1 ?_
          clear hp h1 k1
          intro s hp
          conv => whnf
          repeat (first | (refine Br.yes (by first | with_reducible rfl | with_reducible exact beq_self_eq_true _ | rfl) ?_; conv => whnf) | (refine Br.no (by first | with_reducible rfl | with_reducible exact bne_self_eq_false _ | rfl) ?_; conv => whnf))
          exact ⟨rfl, hp.pik (by repeat (first | exact Pik.nil | exact Pik.refl _ | exact Rm.here | apply Rm.there | apply Pik.cons | apply Pik.skip)), subK_ok (by refine ⟨rfl, rfl, rfl, rfl, rfl, rfl, rfl, rfl, rfl, rfl, rfl, trivial⟩)⟩
      clear hp
      rintro e L' s ⟨rfl, hp, hs⟩
      refine Sm.weak _ hs ?_
      clear hs
      refine Sm.ofW ?_
      conv => whnf
      repeat (first | (refine Br.yes (by first | with_reducible rfl | with_reducible exact beq_self_eq_true _ | rfl) ?_; conv => whnf) | (refine Br.no (by first | with_reducible rfl | with_reducible exact bne_self_eq_false _ | rfl) ?_; conv => whnf))
      refine Sm.live [0, 1, 2, 3, 9, 10, 12, 27, 28, 29] ?_
      conv => whnf
      -- counted
      refine Sm.ofW ?_
      conv => whnf
      refine ⟨[0, 0, 2, 6, 0, 0, 32, 110, 254, 510, 1023], by decide +kernel, by decide +kernel, ?_⟩
      conv => whnf
      (refine hp.load (by repeat (first | exact Has.here | apply Has.there | (apply Has.swap; repeat (first | exact HasR.here | apply HasR.there)))) (by rfl) rfl rfl rfl ?_; conv => whnf)
      refine hp.rst.call (label_spec hp.rst.wf hok.l) ?_
      rintro _ s1 rfl h1 k1
      conv => whnf
      refine hp.dkN h1 k1 ?_
      clear hp h1 k1
      intro s hp
      conv => whnf
      (refine hp.load (by repeat (first | exact Has.here | apply Has.there | (apply Has.swap; repeat (first | exact HasR.here | apply HasR.there)))) (by rfl) rfl rfl rfl ?_; conv => whnf)
      refine hp.rst.call (label_spec hp.rst.wf hok.l) ?_
      rintro _ s1 rfl h1 k1
      conv => whnf
      refine hp.dkN h1 k1 ?_
      clear hp h1 k1
      intro s hp
      conv => whnf
      refine hp.rst.getC (by repeat (first | exact Has.here | apply Has.there | (apply Has.swap; repeat (first | exact HasR.here | apply HasR.there)))) _ ?_
      conv => whnf
      refine hp.dkS ?_
      conv => whnf
      have hcnt : IntKind.i64.wrap (cntOf M (lab l[i].l) + 1) = ((recsOf (l.take i) (lab l[i].l)).length : Int) + 1 := by
        have := recsOf_len (l.take i) (lab l[i].l)
        have h2 : (l.take i).length ≤ i := by simp; omega
        rw [hM, wi64 (by omega) (by omega)]
      refine hp.rst.setC (by repeat (first | exact Rm.here | apply Rm.there)) _ _ ?_
      intro s1 h1
      conv => whnf
      have fin : ∀ s2, Hp (fun _ => False) s0 [slA none (.slice a l.length cp) 5 l.length (rwCells l)] (mapA cm ((putC M (lab l[i].l) (IntKind.i64.wrap (cntOf M (lab l[i].l) + 1))).map cv) :: [bookA (.pointer (some ⟨b0, 0, none⟩)) kb mb E', blkA b5 b5 l[i].cells 5]) s2 → ∃ y : Nat × List Ent × List (Lb × Int), l.length - y.1 < l.length - i ∧ y.1 = i + 1 ∧ (y.1 ≤ l.length ∧ Hp (fun _ => False) s0 [slA none (.slice a l.length cp) 5 l.length (rwCells l)] [bookA (.pointer (some ⟨b0, 0, none⟩)) kb mb y.2.1, mapA cm (y.2.2.map cv)] s2 ∧
          (∀ b, chOf y.2.1 b = chN (recsOf (l.take y.1) b)) ∧ (∀ b, cntOf y.2.2 b = ((recsOf (l.take y.1) b).length : Int))) := by
        intro s2 h2
        refine ⟨(i + 1, E', putC M (lab l[i].l) (IntKind.i64.wrap (cntOf M (lab l[i].l) + 1))), by simp only; omega, rfl, hc, h2.pik (by repeat (first | exact Pik.nil | exact Pik.refl _ | exact Rm.here | apply Rm.there | apply Pik.cons | apply Pik.skip)), fun b => ?_, fun b => ?_⟩
        · show chOf E' b = _
          rw [hE', List.take_succ_eq_append_getElem hc, recsOf_snoc]
          by_cases hb : b = lab l[i].l
          · rw [if_pos hb, if_pos hb, chN_snoc, ← hE, hb]
          · rw [if_neg hb, if_neg hb, hE]
        · show cntOf (putC M (lab l[i].l) (IntKind.i64.wrap (cntOf M (lab l[i].l) + 1))) b = _
          rw [cntOf_put, List.take_succ_eq_append_getElem hc, recsOf_snoc]
          by_cases hb : b = lab l[i].l
          · rw [if_pos hb, if_pos hb, hcnt, hb]; simp
          · rw [if_neg hb, if_neg hb, hM]
      have e6 : IntKind.i64.wrap ((i : Int) + 1) = ((i + 1 : Nat) : Int) := by rw [wi64 (by omega) (by omega)]; omega
      refine hp.dkA h1 ?_ ?_
      all_goals
        clear hp h1
        intro s hp
        conv => whnf
        refine Sm.ofW ?_
        conv => whnf
        obtain ⟨y, y1, y2, y3⟩ := fin s hp
        refine ⟨y, y1, subK_ok (by refine ⟨rfl, rfl, rfl, rfl, rfl, rfl, rfl, rfl, ?_, trivial⟩; rw [y2]; exact congrArg (fun x => some (Value.int .i64 x)) e6), y3⟩
    · have hc : i = l.length := by have := of_decide_eq_false hc; omega
      subst hc
      rw [List.take_of_length_le (Nat.le_refl _)] at hE hM
      conv => whnf
      refine Sm.live [0, 1, 2, 3, 9, 10] ?_
      conv => whnf
      refine Sm.seq ?_
      refine Sm.seqW ?_
      conv => whnf
      refine Sm.block ?_
      refine Sm.loop ?_
      refine Lp.ofS (α := Nat) (fun i => [(1, .int .i64 at_), (2, .int .i64 wh), (3, .int .u8 by_), (9, .pointer (some ⟨b0, 0, none⟩)), (10, .map (some cm)), (15, .int .i64 (i : Int))])
        (fun i s' => i ≤ 6 ∧ Hp (fun _ => False) s0 [slA none (.slice a l.length cp) 5 l.length (rwCells l)] [bookA (.pointer (some ⟨b0, 0, none⟩)) kb mb E, mapA cm (M.map cv)] s') (fun i => 6 - i) ?_ 0
        (subK_ok (by refine ⟨rfl, rfl, rfl, rfl, rfl, rfl, trivial⟩)) ⟨by omega, hp⟩
      clear hp
      rintro i s ⟨hi, hp⟩
      refine Sm.seq ?_
      refine Sm.seqW ?_
      conv => whnf
      refine Sm.ofW ?_
      conv => whnf
      refine Br.mk (fun hc => ?_) (fun hc => ?_)
      · have hc : i < 6 := by have := of_decide_eq_true hc; omega
        conv => whnf
        refine Sm.seq (Sm.block ?_)
        refine Sm.seqW ?_
        conv => whnf
        refine hp.call (label_spec hp.wf (n := (i : Int)) (by unfold inR; omega)) ?_
        clear hp
        rintro _ s rfl hp _
        conv => whnf
        generalize hB : lab (i : Int) = B
        have isC := chN_is (recsOf l B) (by have := recsOf_len l B; omega)
        rw [← hE] at isC
        have hright := chIs_right isC (by have := recsOf_len l B; omega)
        have hokB : ∀ r ∈ (chOf E B).last, r.ok := by
          rw [isC.last]
          intro r hr
          exact recsOf_ok ok B r (List.mem_of_mem_drop hr)
        have hlenB : (chOf E B).last.length = (recsOf l B).length - ((recsOf l B).length - 8) := by rw [isC.last]; simp
        refine hp.ofB (by repeat (first | exact Has.here | apply Has.there | (apply Has.swap; repeat (first | exact HasR.here | apply HasR.there)))) _ ?_
        clear hp
        intro κx wx s hp _
        obtain ⟨ax, cx, rfl⟩ := (hp.slF (by repeat (first | exact Rm.here | apply Rm.there))).shape
        conv => whnf
        refine hp.alloc (cs := chCells Ch.zero (.slice none 0 0)) (e := 4) rfl rfl rfl rfl rfl ?_
        clear hp
        intro b6 s hp _
        conv => whnf
        refine hp.storeW (vs := chCells (chOf E B) (.slice ax (chOf E B).last.length cx)) rfl (by repeat (first | exact Rm.here | apply Rm.there)) (by rfl) rfl rfl rfl ?_
        clear hp
        intro s hp _
        conv => whnf
        refine Sm.live [1, 2, 3, 9, 10, 15, 16] ?_
        conv => whnf
        refine Sm.seq ?_
        refine Sm.seqC (fun e L' s' => e = .normal ∧ Hp (fun _ => False) s0 [slA none (.slice a l.length cp) 5 l.length (rwCells l)]
          [blkA b6 b6 (chCells (chOf E B) (.slice ax (chOf E B).last.length cx)) 4, onA κx (.slice ax (chOf E B).last.length cx) 4 (chOf E B).last.length (rcCells (chOf E B).last), bookA (.pointer (some ⟨b0, 0, none⟩)) kb mb E, mapA cm (M.map cv)] s' ∧
          Sub [(1, .int .i64 at_), (2, .int .i64 wh), (3, .int .u8 by_), (9, .pointer (some ⟨b0, 0, none⟩)), (10, .map (some cm)), (15, .int .i64 (i : Int)), (16, .pointer (some ⟨b6, 0, none⟩)), (107, .bool false)] L') ?_ ?_
        · conv => whnf
          refine ⟨[0, 1, 3, 7, 15, 31, 15, 15, 143, 463, 1023, 2047, 4095, 8191, 16383, 32767, 8191, 73727, 204799, 524287, 1048575], by decide +kernel, by decide +kernel, ?_⟩
          conv => whnf
          refine hp.loadA (l := chCells (chOf E B) (.slice ax (chOf E B).last.length cx)) (by repeat (first | exact Has.here | apply Has.there | (apply Has.swap; repeat (first | exact HasR.here | apply HasR.there)))) rfl (by rfl) rfl rfl ?_
          conv => whnf
          refine hp.rst.call (right_spec (c := chOf E B) hp.rst.wf (hp.rst.slF (by repeat (first | exact Rm.here | apply Rm.there))) hokB (by omega)) ?_
          rintro _ s1 rfl h1 k1
          rw [hright]
          conv => whnf
          refine hp.dkN h1 k1 ?_
          clear hp h1 k1
          intro s hp
          conv => whnf
          repeat (first | (first | (refine Br.yes (by first | with_reducible rfl | with_reducible exact beq_self_eq_true _ | rfl) ?_; conv => whnf) | (refine Br.no (by first | with_reducible rfl | with_reducible exact bne_self_eq_false _ | rfl) ?_; conv => whnf)) | (refine hp.load (by repeat (first | exact Has.here | apply Has.there | (apply Has.swap; repeat (first | exact HasR.here | apply HasR.there)))) (by rfl) rfl rfl rfl ?_; conv => whnf))
          refine hp.rst.call (label_spec hp.rst.wf (n := (i : Int)) (by unfold inR; omega)) ?_
          rintro _ s1 rfl h1 k1
          conv => whnf
          refine hp.dkN h1 k1 ?_
          clear hp h1 k1
          intro s hp
          conv => whnf
          repeat (first | (first | (refine Br.yes (by first | with_reducible rfl | with_reducible exact beq_self_eq_true _ | rfl) ?_; conv => whnf) | (refine Br.no (by first | with_reducible rfl | with_reducible exact bne_self_eq_false _ | rfl) ?_; conv => whnf)) | (refine hp.load (by repeat (first | exact Has.here | apply Has.there | (apply Has.swap; repeat (first | exact HasR.here | apply HasR.there)))) (by rfl) rfl rfl rfl ?_; conv => whnf))
          refine hp.rst.getC (by repeat (first | exact Has.here | apply Has.there | (apply Has.swap; repeat (first | exact HasR.here | apply HasR.there)))) _ ?_
          conv => whnf
          refine hp.dkS ?_
          conv => whnf
          have f1 : ((chOf E B).count != cntOf M (lab (i : Int))) = false := by rw [hB, hM, isC.count]; simp
          repeat (first | (refine Br.no f1 ?_; conv => whnf) | (refine Br.yes rfl ?_; conv => whnf) | (refine Br.no rfl ?_; conv => whnf))
          (refine hp.load (by repeat (first | exact Has.here | apply Has.there | (apply Has.swap; repeat (first | exact HasR.here | apply HasR.there)))) (by rfl) rfl rfl rfl ?_; conv => whnf)
          repeat (first | (refine Br.no f1 ?_; conv => whnf) | (refine Br.yes rfl ?_; conv => whnf) | (refine Br.no rfl ?_; conv => whnf))
          (refine hp.load (by repeat (first | exact Has.here | apply Has.there | (apply Has.swap; repeat (first | exact HasR.here | apply HasR.there)))) (by rfl) rfl rfl rfl ?_; conv => whnf)
          have f2 : (((chOf E B).last.length : Int) != (if 8 < (chOf E B).count then 8 else (chOf E B).count)) = false := by
            rw [isC.count, hlenB]; simp; split <;> omega
          repeat (first | (refine Br.no f1 ?_; conv => whnf) | (refine Br.yes rfl ?_; conv => whnf) | (refine Br.no rfl ?_; conv => whnf))
          exact ⟨rfl, hp.pik (by repeat (first | exact Pik.nil | exact Pik.refl _ | exact Rm.here | apply Rm.there | apply Pik.cons | apply Pik.skip)), subK_ok (by refine ⟨rfl, rfl, rfl, rfl, rfl, rfl, rfl, congrArg (fun b => some (Value.bool b)) f2, trivial⟩)⟩
        clear hp
        rintro e L' s ⟨rfl, hp, hs⟩
        refine Sm.weak _ hs ?_
        clear hs
        refine Sm.ofW ?_
        conv => whnf
        repeat (first | (refine Br.yes (by first | with_reducible rfl | with_reducible exact beq_self_eq_true _ | rfl) ?_; conv => whnf) | (refine Br.no (by first | with_reducible rfl | with_reducible exact bne_self_eq_false _ | rfl) ?_; conv => whnf))
        have e6 : IntKind.i64.wrap ((i : Int) + 1) = ((i + 1 : Nat) : Int) := by rw [wi64 (by omega) (by omega)]; omega
        refine Sm.live [1, 2, 3, 9, 10, 15, 16] ?_
        conv => whnf
        -- any, and a byte to turn?
        refine Sm.seq ?_
        refine Sm.seqW ?_
        conv => whnf
        (refine hp.load (by repeat (first | exact Has.here | apply Has.there | (apply Has.swap; repeat (first | exact HasR.here | apply HasR.there)))) (by rfl) rfl rfl rfl ?_; conv => whnf)
        refine Br.mk (fun hq => ?_) (fun hq => ?_)
        · conv => whnf
          repeat (first | (refine Br.yes hq ?_; conv => whnf))
          refine Sm.ofW ?_
          conv => whnf
          repeat (first | (refine Br.yes hq ?_; conv => whnf) | (refine Br.yes rfl ?_; conv => whnf))
          refine Sm.ofW ?_
          conv => whnf
          exact ⟨i + 1, by (show 6 - (i + 1) < 6 - i); omega, subK_ok (by refine ⟨rfl, rfl, rfl, rfl, rfl, congrArg (fun x => some (Value.int .i64 x)) e6, trivial⟩), hc, hp.pik (by repeat (first | exact Pik.nil | exact Pik.refl _ | exact Rm.here | apply Rm.there | apply Pik.cons | apply Pik.skip))⟩
        have hn0 : (chOf E B).last.length ≠ 0 := by have := beq_eq_false_iff_ne.1 hq; omega
        conv => whnf
        repeat (first | (refine Br.no hq ?_; conv => whnf))
        refine Sm.ofW ?_
        conv => whnf
        refine Br.mk (fun hq2 => ?_) (fun hq2 => ?_)
        · conv => whnf
          refine Sm.ofW ?_
          conv => whnf
          exact ⟨i + 1, by (show 6 - (i + 1) < 6 - i); omega, subK_ok (by refine ⟨rfl, rfl, rfl, rfl, rfl, congrArg (fun x => some (Value.int .i64 x)) e6, trivial⟩), hc, hp.pik (by repeat (first | exact Pik.nil | exact Pik.refl _ | exact Rm.here | apply Rm.there | apply Pik.cons | apply Pik.skip))⟩
        have hby0 : by_ ≠ 0 := by have := beq_eq_false_iff_ne.1 hq2; exact this
        conv => whnf
        clear hq hq2
        refine Sm.live [1, 2, 3, 9, 10, 15, 16] ?_
        conv => whnf
        obtain ⟨kx, bx, hsx, hlx, hp⟩ := hp.onBlk (G := _) (by repeat (first | exact Rm.here | apply Rm.there)) hn0
        injection hsx with hs1 hs2 hs3
        subst hs1 hs3
        refine Sm.seqW ?_
        conv => whnf
        (refine hp.load (by repeat (first | exact Has.here | apply Has.there | (apply Has.swap; repeat (first | exact HasR.here | apply HasR.there)))) (by rfl) rfl rfl rfl ?_; conv => whnf)
        refine (pick_spec s hat (by omega) (by omega)).mono ?_
        rintro _ _ ⟨rfl, rfl⟩
        obtain ⟨k, hk0, hk1⟩ : ∃ k : Nat, at_ % ((chOf E B).last.length : Int) = (k : Int) ∧ k < (chOf E B).last.length := by
          have h1 := Int.emod_nonneg at_ (show ((chOf E B).last.length : Int) ≠ 0 by omega)
          have h2 := Int.emod_lt_of_pos at_ (show 0 < ((chOf E B).last.length : Int) by omega)
          exact ⟨(at_ % ((chOf E B).last.length : Int)).toNat, by omega, by omega⟩
        rw [hk0]
        conv => whnf
        refine Sm.live [1, 2, 3, 9, 10, 15, 16, 17] ?_
        conv => whnf
        -- its text
        refine Sm.seqW ?_
        conv => whnf
        (refine hp.load (by repeat (first | exact Has.here | apply Has.there | (apply Has.swap; repeat (first | exact HasR.here | apply HasR.there)))) (by rfl) rfl rfl rfl ?_; conv => whnf)
        refine Om.of _ (idx_at R52 .i64 hk1) ?_
        conv => whnf
        refine hp.load (by repeat (first | exact Has.here | apply Has.there | (apply Has.swap; repeat (first | exact HasR.here | apply HasR.there)))) (v := .string (chOf E B).last[k].text) (by
          show (rcCells (chOf E B).last)[0 + k * 4 + 3]? = _
          rw [Nat.zero_add, rc_cell hk1 (by decide)]; rfl) rfl rfl rfl ?_
        conv => whnf
        generalize hT : (chOf E B).last[k].text = T
        refine hp.bytesOf Try.underlying9 Try.underlying22 Try.underlying5 T ?_
        clear hp
        intro bt s hp _
        conv => whnf
        refine Sm.live [1, 2, 3, 9, 10, 15, 16, 17, 18] ?_
        conv => whnf
        refine Sm.seq ?_
        refine Sm.seqW ?_
        conv => whnf
        refine Sm.ofW ?_
        conv => whnf
        refine Br.mk (fun hq => ?_) (fun hq => ?_)
        · conv => whnf
          have hp : Hp (fun _ => False) s0 [slA none (.slice a l.length cp) 5 l.length (rwCells l)] [bookA (.pointer (some ⟨b0, 0, none⟩)) kb mb E, mapA cm (M.map cv)] s := hp.pik (by repeat (first | exact Pik.nil | exact Pik.refl _ | exact Rm.here | apply Rm.there | apply Pik.cons | apply Pik.skip))
          refine Sm.ofW ?_
          conv => whnf
          exact ⟨i + 1, by (show 6 - (i + 1) < 6 - i); omega, subK_ok (by refine ⟨rfl, rfl, rfl, rfl, rfl, congrArg (fun x => some (Value.int .i64 x)) e6, trivial⟩), hc, hp.pik (by repeat (first | exact Pik.nil | exact Pik.refl _ | exact Rm.here | apply Rm.there | apply Pik.cons | apply Pik.skip))⟩
        have hT0 : (bs T).length ≠ 0 := by have := beq_eq_false_iff_ne.1 hq; omega
        clear hq
        conv => whnf
        -- turned
        refine Sm.seqW ?_
        conv => whnf
        have hTl : (bs T).length ≤ 140737488351232 := by
          have := (hokB _ (List.getElem_mem hk1)).text
          rw [hT] at this; exact this
        refine (pick_spec s hwh (by omega) (by omega)).mono ?_
        rintro _ _ ⟨rfl, rfl⟩
        obtain ⟨j, hj0, hj1⟩ : ∃ j : Nat, wh % ((bs T).length : Int) = (j : Int) ∧ j < (bs T).length := by
          have h1 := Int.emod_nonneg wh (show ((bs T).length : Int) ≠ 0 by omega)
          have h2 := Int.emod_lt_of_pos wh (show 0 < ((bs T).length : Int) by omega)
          exact ⟨(wh % ((bs T).length : Int)).toNat, by omega, by omega⟩
        rw [hj0]
        conv => whnf
        refine Om.of _ (idx_at B26 .i64 hj1) ?_
        conv => whnf
        refine hp.load (by repeat (first | exact Has.here | apply Has.there | (apply Has.swap; repeat (first | exact HasR.here | apply HasR.there)))) (v := .int .u8 ((bs T)[j].toNat : Int)) (by
          show (byteVals (bs T))[0 + j * 1]? = _
          rw [Nat.zero_add, Nat.mul_one]; simp [byteVals, hj1]) rfl rfl rfl ?_
        conv => whnf
        refine Om.of _ (idx_at B26 .i64 hj1) ?_
        conv => whnf
        obtain ⟨y, rfl⟩ : ∃ y : Nat, by_ = (y : Int) := ⟨by_.toNat, by omega⟩
        have hx1 : (bs T)[j].toNat < 256 := (bs T)[j].toNat_lt
        have hx2 : (bs T)[j].toNat ^^^ y < 256 := Nat.xor_lt_two_pow (n := 8) hx1 (by omega)
        rw [xor_u8 hx1 (by omega)]
        refine hp.store (by repeat (first | exact Rm.here | apply Rm.there)) (by rw [byteVals_length]; omega) rfl rfl rfl rfl ?_
        clear hp
        intro s hp _
        rw [byte_set _ _ _ hx2] at hp
        conv => whnf
        generalize hC : UInt8.ofNat ((bs T)[j].toNat ^^^ y) = C at hp ⊢
        have hCne : C ≠ (bs T)[j] := by
          intro h
          have h2 := congrArg UInt8.toNat h
          rw [← hC, toNat_ofNat hx2] at h2
          have h3 := congrArg (fun z => (bs T)[j].toNat ^^^ z) h2
          simp only [← Nat.xor_assoc, Nat.xor_self, Nat.zero_xor] at h3
          omega
        refine Sm.live [1, 2, 3, 9, 10, 15, 16, 17, 18] ?_
        conv => whnf
        -- laid back
        refine Sm.seqW ?_
        conv => whnf
        (refine hp.load (by repeat (first | exact Has.here | apply Has.there | (apply Has.swap; repeat (first | exact HasR.here | apply HasR.there)))) (by rfl) rfl rfl rfl ?_; conv => whnf)
        have q1 := hp.blkSl (n := ((bs T).set j C).length) (m := (by repeat (first | exact Has.here | apply Has.there | (apply Has.swap; repeat (first | exact HasR.here | apply HasR.there))) : Has (blkA bt bt (byteVals ((bs T).set j C)) 1) _ _)) (by rw [byteVals_length]; omega)
        have q2 := string_sl (src := 22) (dst := 9) Try.underlying22 Try.underlying9 Try.underlying5 q1
        rw [List.length_set] at q2
        refine Om.of _ q2 ?_
        conv => whnf
        refine Om.of _ (idx_at R52 .i64 hk1) ?_
        conv => whnf
        refine hp.store (off := 0 + k * 4 + 3) (by repeat (first | exact Rm.here | apply Rm.there)) (by rw [rcCells_length]; omega) rfl rfl rfl rfl ?_
        clear hp q1 q2
        intro s hp _
        rw [rcCells_set _ _ hk1] at hp
        conv => whnf
        refine Sm.live [1, 2, 3, 9, 10, 15, 16] ?_
        conv => whnf
        have hturn := right_turn hright hk1 (j := j) (b := C) (by rw [hT]; exact hj1) (by
          intro h
          apply hCne
          rw [h]
          congr 1
          rw [hT])
        have htt : turnT (chOf E B).last[k].text j C = ⟨((bs T).set j C).toArray⟩ := by rw [hT]; rfl
        have hokT : ∀ r ∈ (chOf E B).last.set k { (chOf E B).last[k] with text := ⟨((bs T).set j C).toArray⟩ }, r.ok := by
          intro r hr
          rcases List.mem_or_eq_of_mem_set hr with g | rfl
          · exact hokB r g
          · have o := hokB _ (List.getElem_mem hk1)
            exact ⟨o.who, o.verb, o.what, by show (bs ⟨((bs T).set j C).toArray⟩).length ≤ _; rw [bs_mk, List.length_set]; exact hTl⟩
        rw [htt] at hturn
        have hlen2 : ((chOf E B).last.set k { (chOf E B).last[k] with text := ⟨((bs T).set j C).toArray⟩ }).length = (chOf E B).last.length := List.length_set
        refine Sm.ofW ?_
        conv => whnf
        refine hp.loadA (l := chCells (chOf E B) (.slice (some ⟨bx, 0, none⟩) (chOf E B).last.length (chOf E B).last.length)) (by repeat (first | exact Has.here | apply Has.there | (apply Has.swap; repeat (first | exact HasR.here | apply HasR.there)))) rfl (by rfl) rfl rfl ?_
        conv => whnf
        have q3 := hp.blkSl (n := (chOf E B).last.length) (m := (by repeat (first | exact Has.here | apply Has.there | (apply Has.swap; repeat (first | exact HasR.here | apply HasR.there))) : Has (blkA kx bx (rcCells ((chOf E B).last.set k { (chOf E B).last[k] with text := ⟨((bs T).set j C).toArray⟩ })) 4) _ _)) (by rw [rcCells_length, hlen2])
        rw [← hlen2] at q3
        have hR := right_spec (c := { chOf E B with last := (chOf E B).last.set k { (chOf E B).last[k] with text := ⟨((bs T).set j C).toArray⟩ } }) hp.wf q3 hokT (by show List.length _ ≤ _; rw [hlen2]; omega)
        rw [hturn, hlen2] at hR
        refine hp.call hR ?_
        clear hp hR q3
        rintro _ s rfl hp _
        conv => whnf
        repeat (first | (refine Br.yes (by first | with_reducible rfl | with_reducible exact beq_self_eq_true _ | rfl) ?_; conv => whnf) | (refine Br.no (by first | with_reducible rfl | with_reducible exact bne_self_eq_false _ | rfl) ?_; conv => whnf))
        refine hp.call (label_spec hp.wf (n := (i : Int)) (by unfold inR; omega)) ?_
        clear hp
        rintro _ s rfl hp _
        conv => whnf
        rw [hB]
        repeat (first | (refine Br.yes (by first | with_reducible rfl | with_reducible exact beq_self_eq_true _ | rfl) ?_; conv => whnf) | (refine Br.no (by first | with_reducible rfl | with_reducible exact bne_self_eq_false _ | rfl) ?_; conv => whnf))
        refine hp.ofB (by repeat (first | exact Has.here | apply Has.there | (apply Has.swap; repeat (first | exact HasR.here | apply HasR.there)))) _ ?_
        clear hp
        intro κz wz s hp _
        conv => whnf
        repeat (first | (refine Br.yes (by first | with_reducible rfl | with_reducible exact beq_self_eq_true _ | rfl) ?_; conv => whnf) | (refine Br.no (by first | with_reducible rfl | with_reducible exact bne_self_eq_false _ | rfl) ?_; conv => whnf))
        refine hp.call (right_spec (c := chOf E B) hp.wf (hp.slF (by repeat (first | exact Rm.here | apply Rm.there))) hokB (by omega)) ?_
        clear hp
        rintro _ s rfl hp _
        rw [hright]
        conv => whnf
        repeat (first | (refine Br.yes (by first | with_reducible rfl | with_reducible exact beq_self_eq_true _ | rfl) ?_; conv => whnf) | (refine Br.no (by first | with_reducible rfl | with_reducible exact bne_self_eq_false _ | rfl) ?_; conv => whnf))
        have hp : Hp (fun _ => False) s0 [slA none (.slice a l.length cp) 5 l.length (rwCells l)] [bookA (.pointer (some ⟨b0, 0, none⟩)) kb mb E, mapA cm (M.map cv)] s := hp.pik (by repeat (first | exact Pik.nil | exact Pik.refl _ | exact Rm.here | apply Rm.there | apply Pik.cons | apply Pik.skip))
        refine Sm.ofW ?_
        conv => whnf
        exact ⟨i + 1, by (show 6 - (i + 1) < 6 - i); omega, subK_ok (by refine ⟨rfl, rfl, rfl, rfl, rfl, congrArg (fun x => some (Value.int .i64 x)) e6, trivial⟩), hc, hp⟩
      · conv => whnf
        refine Sm.ofW ?_
        conv => whnf
        exact ⟨rfl⟩
end Go.Ev
end

/- The document's chains: its steps, links, what is added, what is right. No condition. -/
noncomputable section
namespace Go.Ev
open Go.Proofs
set_option linter.unusedVariables false
set_option maxRecDepth 100000

theorem rstep_eq (h : BitVec 64) (c : Nat) :
    IntKind.u64.wrap (((BitVec.ofInt IntKind.u64.bits (IntKind.u64.wrap (IntKind.u64.wrap ((h.toNat : Int) * 512) + IntKind.u64.wrap ((h.toNat : Int).tdiv 36028797018963968))) ^^^ BitVec.ofInt IntKind.u64.bits (IntKind.u64.wrap (c : Int))).toNat : Int)) = (((((h <<< 9) ||| (h >>> 55)) ^^^ BitVec.ofNat 64 c)).toNat : Int) := by
  have e : IntKind.u64.bits = 64 := rfl
  have h1 : BitVec.ofInt 64 ((h.toNat : Int) * 512) = h <<< 9 := by
    apply BitVec.eq_of_toNat_eq
    rw [BitVec.toNat_ofInt, BitVec.toNat_shiftLeft, Nat.shiftLeft_eq]
    omega
  have h2 : BitVec.ofInt 64 ((h.toNat : Int).tdiv 36028797018963968) = h >>> 55 := by
    apply BitVec.eq_of_toNat_eq
    have h1 := h.isLt
    have h2 : (h.toNat : Int).tdiv 36028797018963968 = ((h.toNat / 2 ^ 55 : Nat) : Int) := by rw [Int.tdiv_eq_ediv_of_nonneg (by omega)]; omega
    rw [h2, BitVec.toNat_ofInt, BitVec.toNat_ushiftRight, Nat.shiftRight_eq_div_pow]
    omega
  have h3 : BitVec.ofInt 64 (c : Int) = BitVec.ofNat 64 c := by simp
  have h4 : (h <<< 9) + (h >>> 55) = (h <<< 9) ||| (h >>> 55) := by
    apply BitVec.add_eq_or_of_and_eq_zero
    ext i hi
    simp only [BitVec.getElem_and, BitVec.getElem_ushiftRight, BitVec.getElem_shiftLeft, BitVec.getElem_zero]
    by_cases q : i < 9
    · simp [q]
    · have : h.getLsbD (55 + i) = false := BitVec.getLsbD_of_ge _ _ (by omega)
      simp [this]
  rw [e, bv_wrap, BitVec.ofInt_add, bv_wrap, bv_wrap, bv_wrap, h1, h2, h3, h4, wrap_bv, bv_toNat]
theorem rstep_spec (s : St) (h : BitVec 64) (c : UInt8) :
    Cw Try.prog 57 [.int .u64 (h.toNat : Int), .int .u8 (c.toNat : Int)] s fun r s' => s' = s ∧ r = .int .u64 ((Mk.step h c).toNat : Int) := by
  refine Cw.enter Try.func57 rfl rfl ?_
  conv => whnf
  refine Om.of _ rfl ?_
  conv => whnf
  refine ⟨⟨rfl, congrArg (Value.int .u64) ?_⟩⟩
  have := rstep_eq h c.toNat
  show IntKind.u64.wrap (IntKind.u64.wrap (((BitVec.ofInt IntKind.u64.bits (IntKind.u64.wrap (IntKind.u64.wrap ((h.toNat : Int) * 512) + IntKind.u64.wrap ((h.toNat : Int).tdiv 36028797018963968))) ^^^ BitVec.ofInt IntKind.u64.bits (IntKind.u64.wrap (c.toNat : Int))).toNat : Int)) * 11400714819323198485) = _
  rw [this, wrap_bv, BitVec.ofInt_mul, bv_toNat]
  rfl
theorem rsum_spec (s : St) {κ : Option Nat} {v : Value} {l : List UInt8} (hv : Sb s κ v l) (hl : l.length ≤ 281474976710656) (h : BitVec 64) :
    Cw Try.prog 52 [.int .u64 (h.toNat : Int), v] s fun r s' => s' = s ∧ r = .int .u64 ((Mk.sum h l).toNat : Int) := by
  obtain ⟨a, c, rfl⟩ := hv.shape
  refine Cw.enterS Try.func52 rfl rfl ?_
  refine Sm.seqW ?_
  conv => whnf
  refine Sm.seqW ?_
  conv => whnf
  refine Sm.seq ?_
  refine Sm.seqW ?_
  conv => whnf
  refine Sm.block ?_
  refine Sm.loop ?_
  refine Lp.ofS (α := Nat) (fun i => [(1, .slice a l.length c), (5, .int .u64 ((((l.take i).foldl Mk.step h).toNat : Nat) : Int)), (6, .int .i64 (i : Int))])
    (fun i s' => s' = s ∧ i ≤ l.length) (fun i => l.length - i) ?_ 0 (subK_ok (by refine ⟨rfl, rfl, rfl, trivial⟩)) ⟨rfl, by omega⟩
  rintro i s1 ⟨rfl, hi⟩
  refine Sm.seq ?_
  refine Sm.ofW ?_
  conv => whnf
  refine Br.mk (fun hc => ?_) (fun hc => ?_)
  rotate_left
  · have hc := of_decide_eq_false hc
    conv => whnf
    refine Sm.seqW ?_
    conv => whnf
    rw [List.take_of_length_le (by omega)]
    refine (rstep_spec s1 (l.foldl Mk.step h) 255).mono ?_
    rintro r s2 ⟨rfl, rfl⟩
    conv => whnf
    refine Sm.ofW ?_
    conv => whnf
    exact ⟨rfl, rfl⟩
  have hc : i < l.length := by have := of_decide_eq_true hc; omega
  conv => whnf
  refine Sm.seq (Sm.block ?_)
  refine Sm.ofW ?_
  conv => whnf
  obtain ⟨p, x, e1, e2, e3, _, rfl⟩ := index_sl B26 Try.underlying5 rfl hv .i64 hc
  obtain rfl : x = .int .u8 (l[i].toNat : Int) := by simp [byteVals, hc] at e2; exact e2.symm
  refine Om.of _ e1 ?_
  conv => whnf
  refine Om.of _ e3 ?_
  conv => whnf
  refine (rstep_spec s1 ((l.take i).foldl Mk.step h) l[i]).mono ?_
  rintro r s2 ⟨rfl, rfl⟩
  conv => whnf
  refine Sm.ofW ?_
  conv => whnf
  have e5 : Mk.step ((l.take i).foldl Mk.step h) l[i] = (l.take (i + 1)).foldl Mk.step h := by rw [List.take_succ_eq_append_getElem hc, List.foldl_append]; rfl
  have e6 : IntKind.i64.wrap ((i : Int) + 1) = ((i + 1 : Nat) : Int) := by rw [wrap_i64 (by omega) (by omega)]; omega
  rw [e5]
  exact ⟨i + 1, by (show l.length - (i + 1) < l.length - i); omega, subK_ok (by refine ⟨rfl, rfl, congrArg (fun x => some (Value.int .i64 x)) e6, trivial⟩), rfl, by omega⟩
theorem rlink_spec {s : St} (wf : WF s) (h : BitVec 64) {r : Rc} (ok : r.ok) :
    Cw Try.prog 40 [.int .u64 (h.toNat : Int), r.val] s fun v s' => K0 s s' ∧ v = .int .u64 ((linkF h r).toNat : Int) := by
  have l1 := Pk.encI_len ok.who
  have l2 := Pk.encI_len ok.verb
  have l3 := Pk.encI_len ok.what
  have hT := ok.text
  have l4 := Pk.encI_len (n := ((bs r.text).length : Int)) (by unfold Pk.inR; omega)
  have hp : Hp (fun _ => False) s [] [] s := Hp.start _ wf _ (by simp)
  refine Cw.enterS Try.func40 rfl rfl ?_
  refine Sm.seqW ?_
  conv => whnf
  refine hp.var (cs := r.cells) (e := 4) rfl rfl ?_
  clear hp
  intro b1 s1 hp k1
  conv => whnf
  refine Sm.seqW ?_
  conv => whnf
  refine ⟨[0, 0, 2, 6, 0, 16, 62, 0, 128, 510, 0, 1024, 4094, 8191, 16383], by decide +kernel, by decide +kernel, ?_⟩
  conv => whnf
  (refine hp.load (by repeat (first | exact Has.here | apply Has.there | (apply Has.swap; repeat (first | exact HasR.here | apply HasR.there)))) (by rfl) rfl rfl rfl ?_; conv => whnf)
  refine hp.rst.callO (refInt_spec hp.rst.wf (l := []) (Sl.nil _ 1) (by simp) ok.who) ?_
  intro v2 κ2 s2 h2 k2
  conv => whnf
  refine hp.dkN h2 k2 ?_
  clear hp h2 k2
  intro s hp
  conv => whnf
  (refine hp.load (by repeat (first | exact Has.here | apply Has.there | (apply Has.swap; repeat (first | exact HasR.here | apply HasR.there)))) (by rfl) rfl rfl rfl ?_; conv => whnf)
  refine hp.rst.callO (refInt_spec hp.rst.wf (hp.rst.slF .here) (by simp; omega) ok.verb) ?_
  intro v3 κ3 s2 h2 k2
  conv => whnf
  refine hp.dkN h2 k2 ?_
  clear hp h2 k2
  intro s hp
  conv => whnf
  (refine hp.load (by repeat (first | exact Has.here | apply Has.there | (apply Has.swap; repeat (first | exact HasR.here | apply HasR.there)))) (by rfl) rfl rfl rfl ?_; conv => whnf)
  refine hp.rst.callO (refInt_spec hp.rst.wf (hp.rst.slF .here) (by simp; omega) ok.what) ?_
  intro v4 κ4 s2 h2 k2
  conv => whnf
  refine hp.dkN h2 k2 ?_
  clear hp h2 k2
  intro s hp
  conv => whnf
  (refine hp.load (by repeat (first | exact Has.here | apply Has.there | (apply Has.swap; repeat (first | exact HasR.here | apply HasR.there)))) (by rfl) rfl rfl rfl ?_; conv => whnf)
  refine hp.rst.callO (refText_spec hp.rst.wf (hp.rst.slF .here) (by simp; omega) r.text (by simp; omega)) ?_
  intro v5 κ5 s2 h2 k2
  conv => whnf
  refine hp.dkN h2 k2 ?_
  clear hp h2 k2
  intro s hp
  conv => whnf
  refine (rsum_spec _ (hp.rst.slF .here) (by simp; omega) h).mono ?_
  rintro _ _ ⟨rfl, rfl⟩
  conv => whnf
  refine hp.dkS ?_
  conv => whnf
  refine Sm.ofW ?_
  conv => whnf
  exact ⟨hp.fr, rfl⟩
end Go.Ev
end

/- The document's chains: what is right, what is added. No condition. -/
noncomputable section
namespace Go.Ev
open Go.Proofs
set_option linter.unusedVariables false
set_option maxRecDepth 100000

theorem rright_spec {s : St} (wf : WF s) {c : Ch} {κ : Option Nat} {v : Value} (hv : Sr s κ v c.last) (ok : ∀ r ∈ c.last, r.ok) (hl : c.last.length ≤ 1000) :
    Cw Try.prog 41 [chVal c v] s fun r s' => K0 s s' ∧ r = .bool (rightF c) := by
  have hp : Hp (fun _ => False) s [slA κ v 4 c.last.length (rcCells c.last)] [] s := Hp.start _ wf _ (by simp; exact hv)
  obtain ⟨a, cp, rfl⟩ := hv.shape
  refine Cw.enterS Try.func41 rfl rfl ?_
  refine Sm.seqW ?_
  conv => whnf
  refine hp.var (cs := chCells c (.slice a c.last.length cp)) (e := 4) rfl rfl ?_
  clear hp
  intro b1 s1 hp k1
  conv => whnf
  refine Sm.seqW ?_
  conv => whnf
  (refine hp.load (by repeat (first | exact Has.here | apply Has.there | (apply Has.swap; repeat (first | exact HasR.here | apply HasR.there)))) (by rfl) rfl rfl rfl ?_; conv => whnf)
  refine Sm.live [1, 3] ?_
  conv => whnf
  refine Sm.seq ?_
  refine Sm.seqW ?_
  conv => whnf
  refine Sm.block ?_
  refine Sm.loop ?_
  refine Lp.ofS (α := Nat) (fun i => [(1, .pointer (some ⟨b1, 0, none⟩)), (3, .int .u64 ((((c.last.take i).foldl linkF c.base).toNat : Nat) : Int)), (4, .int .i64 (i : Int))])
    (fun i s' => i ≤ c.last.length ∧ Hp (fun _ => False) s [slA κ (.slice a c.last.length cp) 4 c.last.length (rcCells c.last)] [blkA b1 b1 (chCells c (.slice a c.last.length cp)) 4] s') (fun i => c.last.length - i) ?_ 0
    (subK_ok (by refine ⟨rfl, rfl, rfl, trivial⟩)) ⟨Nat.zero_le _, hp⟩
  clear hp k1
  rintro i s2 ⟨hi, hp⟩
  refine Sm.seq ?_
  refine Sm.ofW ?_
  conv => whnf
  (refine hp.load (by repeat (first | exact Has.here | apply Has.there | (apply Has.swap; repeat (first | exact HasR.here | apply HasR.there)))) (by rfl) rfl rfl rfl ?_; conv => whnf)
  refine Br.mk (fun hc => ?_) (fun hc => ?_)
  · have hc : i < c.last.length := by have := of_decide_eq_true hc; omega
    conv => whnf
    refine Sm.seq (Sm.block ?_)
    refine Sm.ofW ?_
    conv => whnf
    (refine hp.load (by repeat (first | exact Has.here | apply Has.there | (apply Has.swap; repeat (first | exact HasR.here | apply HasR.there)))) (by rfl) rfl rfl rfl ?_; conv => whnf)
    obtain ⟨p, e1, e2⟩ := index_rcT R71 Try.underlying69 (hp.slR .here) .i64 hc
    refine Om.of _ e1 ?_
    conv => whnf
    refine Om.of _ e2 ?_
    conv => whnf
    refine hp.call (rlink_spec hp.wf ((c.last.take i).foldl linkF c.base) (ok c.last[i] (List.getElem_mem hc))) ?_
    clear hp e1 e2
    rintro _ s rfl hp _
    conv => whnf
    refine Sm.ofW ?_
    conv => whnf
    have e5 : linkF ((c.last.take i).foldl linkF c.base) c.last[i] = (c.last.take (i + 1)).foldl linkF c.base := by rw [List.take_succ_eq_append_getElem hc, List.foldl_append]; rfl
    have e6 : IntKind.i64.wrap ((i : Int) + 1) = ((i + 1 : Nat) : Int) := by rw [wi64 (by omega) (by omega)]; omega
    rw [e5]
    exact ⟨i + 1, by (show c.last.length - (i + 1) < c.last.length - i); omega, subK_ok (by refine ⟨rfl, rfl, congrArg (fun x => some (Value.int .i64 x)) e6, trivial⟩), hc, hp⟩
  · have hc : i = c.last.length := by have := of_decide_eq_false hc; omega
    subst hc
    rw [List.take_of_length_le (Nat.le_refl _)]
    conv => whnf
    have key : ∀ x y z w u : Bool, ((((c.last.foldl linkF c.base).toNat : Nat) : Int) == (c.head.toNat : Int)) = x → ((c.last.length : Int) == c.count) = y → decide (c.count ≤ 8) = z → ((c.base.toNat : Int) == 0) = w → ((c.last.length : Int) == 8) = u → rightF c = (x && ((z && (y && w)) || (!z && u))) := by
      intro x y z w u h1 h2 h3 h4 h5
      unfold rightF
      rw [h1, h4]
      by_cases h8 : 8 < c.count
      · have hz : z = false := by rw [← h3]; simp; omega
        subst hz
        simp [h8, h5]
      · have hz : z = true := by rw [← h3]; simp; omega
        subst hz
        simp [h8, h2]
    have hn8 : decide (c.count > 8) = !decide (c.count ≤ 8) := by by_cases h : c.count ≤ 8 <;> simp [h] <;> omega
    refine Sm.seqW ?_
    conv => whnf
    (refine hp.load (by repeat (first | exact Has.here | apply Has.there | (apply Has.swap; repeat (first | exact HasR.here | apply HasR.there)))) (by rfl) rfl rfl rfl ?_; conv => whnf)
    cases hx : ((((c.last.foldl linkF c.base).toNat : Nat) : Int) == (c.head.toNat : Int)) <;> cases hy : ((c.last.length : Int) == c.count) <;> cases hz : decide (c.count ≤ 8) <;> cases hw : ((c.base.toNat : Int) == 0) <;> cases hu : ((c.last.length : Int) == 8)
    all_goals
      have hkey := key _ _ _ _ _ hx hy hz hw hu
      clear key
      rw [hz] at hn8
      repeat (first
        | (refine Br.yes (by first | with_reducible rfl | with_reducible assumption) ?_; conv => whnf)
        | (refine Br.no (by first | with_reducible rfl | with_reducible assumption) ?_; conv => whnf)
        | (refine hp.load (by repeat (first | exact Has.here | apply Has.there | (apply Has.swap; repeat (first | exact HasR.here | apply HasR.there)))) (by rfl) rfl rfl rfl ?_; conv => whnf)
        | (refine Br.yes (by first | rfl | assumption) ?_; conv => whnf)
        | (refine Br.no (by first | rfl | assumption) ?_; conv => whnf))
      refine Sm.ofW ?_
      conv => whnf
      refine ⟨hp.fr, congrArg Value.bool ?_⟩
      rw [hkey]
      first | rfl | assumption
end Go.Ev
end

/- The document's chains: a record is added. No condition. -/
noncomputable section
namespace Go.Ev
open Go.Proofs
set_option linter.unusedVariables false
set_option maxRecDepth 100000

theorem radd_spec {X : Nat → Prop} {z0 z : St} {R F : List At} (hp0 : Hp X z0 R F z) {c : Ch} {κ : Option Nat} {v : Value} (hv : Sr z κ v c.last) (ok : ∀ q ∈ c.last, q.ok) (hl : c.last.length ≤ 1000) {r : Rc} (okr : r.ok)
    {K : Value → St → Prop} (hK : ∀ w κ' s', Hp X z0 R (slA κ' w 4 (c.add r).last.length (rcCells (c.add r).last) :: F) s' → K0 z s' → K (chVal (c.add r) w) s') :
    Cw Try.prog 51 [chVal c v, r.val] z K := by
  have hp : Hp (fun _ => False) z [slA κ v 4 c.last.length (rcCells c.last)] [] z := Hp.start _ hp0.wf _ (by simp; exact hv)
  suffices h : Cw Try.prog 51 [chVal c v, r.val] z fun v' s' => K0 z s' ∧ ∃ w κ', v' = chVal (c.add r) w ∧ Sr s' κ' w (c.add r).last ∧ ∀ k, κ' = some k → z.next ≤ k by
    refine h.mono ?_
    rintro _ s' ⟨k1, w, κ', rfl, h1, h2⟩
    exact hK w κ' s' (hp0.push k1 h1 fun j hj => h2 j hj) k1
  clear hK hp0
  obtain ⟨a, cp, rfl⟩ := hv.shape
  refine Cw.enterS Try.func51 rfl rfl ?_
  refine Sm.seqW ?_
  conv => whnf
  refine hp.var (cs := chCells c (.slice a c.last.length cp)) (e := 4) rfl rfl ?_
  clear hp
  intro b1 s1 hp _
  conv => whnf
  refine hp.var (cs := r.cells) (e := 4) rfl rfl ?_
  clear hp
  intro b2 s1 hp _
  conv => whnf
  refine hp.alloc (cs := chCells Ch.zero (.slice none 0 0)) (e := 4) rfl rfl rfl rfl rfl ?_
  clear hp
  intro b3 s1 hp _
  conv => whnf
  refine Sm.live [2, 3, 4] ?_
  conv => whnf
  refine Sm.seqW ?_
  conv => whnf
  (refine hp.load (by repeat (first | exact Has.here | apply Has.there | (apply Has.swap; repeat (first | exact HasR.here | apply HasR.there)))) (by rfl) rfl rfl rfl ?_; conv => whnf)
  (refine hp.store (by repeat (first | exact Rm.here | apply Rm.there)) (by first | exact of_decide_eq_true rfl | (simp; done) | (simp; omega) | omega) rfl rfl rfl rfl ?_; intro s hp _; conv => whnf)
  refine Sm.live [2, 3, 4] ?_
  conv => whnf
  refine Sm.seqW ?_
  conv => whnf
  (refine hp.load (by repeat (first | exact Has.here | apply Has.there | (apply Has.swap; repeat (first | exact HasR.here | apply HasR.there)))) (by rfl) rfl rfl rfl ?_; conv => whnf)
  refine hp.loadA (l := r.cells) (by repeat (first | exact Has.here | apply Has.there | (apply Has.swap; repeat (first | exact HasR.here | apply HasR.there)))) rfl (by rfl) rfl rfl ?_
  conv => whnf
  refine hp.call (rlink_spec hp.wf c.head okr) ?_
  clear hp
  rintro _ s1 rfl hp _
  conv => whnf
  (refine hp.store (by repeat (first | exact Rm.here | apply Rm.there)) (by first | exact of_decide_eq_true rfl | (simp; done) | (simp; omega) | omega) rfl rfl rfl rfl ?_; intro s hp _; conv => whnf)
  refine Sm.live [2, 3, 4] ?_
  conv => whnf
  refine Sm.seqC (fun e L' s' => e = .normal ∧ (∃ κ' w, Hp (fun _ => False) z [slA κ (.slice a c.last.length cp) 4 c.last.length (rcCells c.last)] [blkA b1 b1 [.int .i64 (IntKind.i64.wrap (c.count + 1)), .int .u64 ((linkF c.head r).toNat : Int), w, .int .u64 (c.base.toNat : Int)] 4, onA κ' w 4 (c.last.length + 1) (rcCells (c.last ++ [r])), blkA b3 b3 (chCells Ch.zero (.slice none 0 0)) 4] s') ∧
    Sub [(2, .pointer (some ⟨b1, 0, none⟩)), (4, .pointer (some ⟨b3, 0, none⟩))] L') ?_ ?_
  · conv => whnf
    refine ⟨[0, 0, 2, 7, 0, 16, 63, 127, 255], by decide +kernel, by decide +kernel, ?_⟩
    conv => whnf
    refine hp.rst.boxO R71 ?_
    intro v5 b5 s5 h5 k5
    conv => whnf
    refine hp.dkN h5 k5 ?_
    clear hp h5 k5
    intro s5 hp
    conv => whnf
    (refine hp.load (by repeat (first | exact Has.here | apply Has.there | (apply Has.swap; repeat (first | exact HasR.here | apply HasR.there)))) (by rfl) rfl rfl rfl ?_; conv => whnf)
    refine hp.rst.app R71 Try.underlying71 rfl .here (elems_sl (hp.rst.slR .here)) (rcCells_length _) (rcCells_one _) (by omega) ?_
    intro v6 κ6 s6 h6
    conv => whnf
    rw [Nat.zero_add, List.nil_append] at h6
    have hpo := hp
    refine hp.dkA h6 ?_ ?_
    all_goals
      clear hp h6
      intro s6 hp
      conv => whnf
      refine hp.loadA (l := r.cells) (by repeat (first | exact Has.here | apply Has.there | (apply Has.swap; repeat (first | exact HasR.here | apply HasR.there)))) rfl (by rfl) rfl rfl ?_
      conv => whnf
      try (refine ⟨hpo.sa hp (by repeat (first | exact Has.here | apply Has.there | (apply Has.swap; repeat (first | exact HasR.here | apply HasR.there)))) (by repeat (first | exact Has.here | apply Has.there | (apply Has.swap; repeat (first | exact HasR.here | apply HasR.there)))), ?_⟩; conv => whnf)
      clear hpo
      refine hp.rst.rec1 r ?_
      intro v7 b7 s7 h7 k7
      conv => whnf
      refine hp.dkN h7 k7 ?_
      clear hp h7 k7
      intro s7 hp
      conv => whnf
      have x7 : Sr (reset s7) (some b7) v7 [r] := Own.sl (hp.rst.okF _ List.mem_cons_self)
      refine hp.rst.app R71 Try.underlying71 rfl (by repeat (first | exact Rm.here | apply Rm.there)) (elems_sl x7) rfl (rcCells_one [r]) (by simp only [List.length_singleton]; omega) ?_
      intro v8 κ8 s8 h8
      conv => whnf
      rw [← rcCells_append] at h8
      obtain ⟨a8, c8, rfl⟩ := (h8.slF (by repeat (first | exact Rm.here | apply Rm.there))).shape
      refine hp.dkA h8 ?_ ?_
      all_goals
        clear hp h8 x7
        intro s8 hp
        conv => whnf
        refine hp.rst.store (by repeat (first | exact Rm.here | apply Rm.there)) (by first | exact of_decide_eq_true rfl | (simp; done) | (simp; omega) | omega) rfl rfl rfl rfl ?_
        intro s9 h9 l9
        conv => whnf
        refine hp.dkW h9 l9 ?_
        clear hp h9 l9
        intro s9 hp
        conv => whnf
        exact ⟨rfl, ⟨κ8, .slice a8 (c.last.length + 1) c8, hp.pik (by repeat (first | exact Pik.nil | exact Pik.refl _ | exact Rm.here | apply Rm.there | apply Pik.cons | apply Pik.skip))⟩, subK_ok (by refine ⟨rfl, rfl, trivial⟩)⟩
  clear hp
  rintro e L' s2 ⟨rfl, ⟨κ', w, hp⟩, hs⟩
  refine Sm.weak _ hs ?_
  clear hs
  obtain ⟨aw, cw, rfl⟩ := (hp.slF (by repeat (first | exact Rm.here | apply Rm.there))).shape
  replace hp := hp.as (a := onA κ' (.slice aw (c.last.length + 1) cw) 4 (c.last.length + 1) (rcCells (c.last ++ [r]))) (a' := slA κ' (.slice aw (c.last.length + 1) cw) 4 (c.last.length + 1) (rcCells (c.last ++ [r]))) (by repeat (first | exact Rm.here | apply Rm.there)) (fun h => OwnO.sl h) fun j hj => hj
  refine Sm.seq (Sm.mono (Q := fun e L' s' => e = .normal ∧ (∃ w, Hp (fun _ => False) z [slA κ (.slice a c.last.length cp) 4 c.last.length (rcCells c.last)] [blkA b1 b1 (chCells (c.add r) w) 4, slA κ' w 4 (c.add r).last.length (rcCells (c.add r).last), blkA b3 b3 (chCells Ch.zero (.slice none 0 0)) 4] s') ∧
    Sub [(2, .pointer (some ⟨b1, 0, none⟩)), (4, .pointer (some ⟨b3, 0, none⟩))] L') ?_ ?_)
  · refine Sm.seqW ?_
    conv => whnf
    (refine hp.load (by repeat (first | exact Has.here | apply Has.there | (apply Has.swap; repeat (first | exact HasR.here | apply HasR.there)))) (by rfl) rfl rfl rfl ?_; conv => whnf)
    refine Sm.ofW ?_
    conv => whnf
    refine Br.mk (fun hq => ?_) (fun hq => ?_)
    · have hq : 8 < c.last.length + 1 := by have := of_decide_eq_true hq; omega
      conv => whnf
      have hadd : c.add r = ⟨IntKind.i64.wrap (c.count + 1), linkF c.head r, (c.last ++ [r]).drop 1, linkF c.base ((c.last ++ [r]).head?.getD r)⟩ := by unfold Ch.add; rw [if_pos hq]
      refine ⟨[0, 1, 0, 4, 12, 28, 63, 127, 255], by decide +kernel, by decide +kernel, ?_⟩
      conv => whnf
      (refine hp.load (by repeat (first | exact Has.here | apply Has.there | (apply Has.swap; repeat (first | exact HasR.here | apply HasR.there)))) (by rfl) rfl rfl rfl ?_; conv => whnf)
      have sw : Sr s2 κ' (.slice aw (c.last.length + 1) cw) (c.last ++ [r]) := by
        have : Sl s2 κ' (.slice aw (c.last.length + 1) cw) 4 (c.last.length + 1) (rcCells (c.last ++ [r])) := hp.okF (slA κ' _ 4 _ _) (by simp)
        show Sl _ _ _ _ (c.last ++ [r]).length _
        rw [List.length_append]; exact this
      have h0 : 0 < (c.last ++ [r]).length := by simp
      obtain ⟨p, e1, e2⟩ := index_rcT R71 Try.underlying69 sw .i64 h0
      (refine hp.load (by repeat (first | exact Has.here | apply Has.there | (apply Has.swap; repeat (first | exact HasR.here | apply HasR.there)))) (by rfl) rfl rfl rfl ?_; conv => whnf)
      refine Om.of _ e1 ?_
      conv => whnf
      refine Om.of _ e2 ?_
      conv => whnf
      have h0r : (c.last ++ [r])[0].ok := by
        have hm := List.getElem_mem h0
        rcases List.mem_append.1 hm with g | g
        · exact ok _ g
        · rw [List.mem_singleton] at g; rw [g]; exact okr
      have hh : (c.last ++ [r]).head?.getD r = (c.last ++ [r])[0] := by rw [List.head?_eq_getElem?, List.getElem?_eq_getElem h0]; rfl
      refine hp.rst.call (rlink_spec hp.rst.wf c.base h0r) ?_
      rintro _ s3 rfl h3 k3
      conv => whnf
      refine hp.dkN h3 k3 ?_
      clear hp h3 k3 e1 e2 sw
      intro s3 hp
      conv => whnf
      refine hp.rst.store (by repeat (first | exact Rm.here | apply Rm.there)) (by first | exact of_decide_eq_true rfl | (simp; done) | (simp; omega) | omega) rfl rfl rfl rfl ?_
      intro s4 h4 l4
      conv => whnf
      refine hp.dkW h4 l4 ?_
      clear hp h4 l4
      intro s4 hp
      conv => whnf
      (refine hp.load (by repeat (first | exact Has.here | apply Has.there | (apply Has.swap; repeat (first | exact HasR.here | apply HasR.there)))) (by rfl) rfl rfl rfl ?_; conv => whnf)
      have sw : Sl s4 κ' (.slice aw (c.last.length + 1) cw) 4 (c.last.length + 1) (rcCells (c.last ++ [r])) := hp.okF (slA κ' _ 4 _ _) (by simp)
      obtain ⟨w5, e5, o5⟩ := slice_sl R71 sw .i64 .i64 (some 1) none (by simp) (by simp)
      refine Om.of w5 e5 ?_
      conv => whnf
      obtain ⟨a5, c5, rfl⟩ := o5.shape
      have o6 : Sl s4 κ' (.slice a5 (c.last.length + 1 - 1) c5) 4 (c.add r).last.length (rcCells (c.add r).last) := by
        rw [hadd]
        have e7 : ((c.last ++ [r]).drop 1).length = c.last.length + 1 - 1 := by simp
        show Sl _ _ _ _ ((c.last ++ [r]).drop 1).length (rcCells ((c.last ++ [r]).drop 1))
        rw [e7]
        have o7 : Sl s4 κ' (.slice a5 (c.last.length + 1 - 1) c5) 4 (c.last.length + 1 - 1) (((rcCells (c.last ++ [r])).drop (1 * 4)).take ((c.last.length + 1 - 1) * 4)) := o5
        rw [rcCells_drop, List.take_of_length_le (by rw [rcCells_length, e7]; exact Nat.le_refl _)] at o7
        exact o7
      replace hp := hp.as (a' := slA κ' (.slice a5 (c.last.length + 1 - 1) c5) 4 (c.add r).last.length (rcCells (c.add r).last)) (a := slA κ' (.slice aw (c.last.length + 1) cw) 4 (c.last.length + 1) (rcCells (c.last ++ [r]))) (by repeat (first | exact Rm.here | apply Rm.there)) (fun _ => o6) fun j hj => hj
      (refine hp.store (by repeat (first | exact Rm.here | apply Rm.there)) (by first | exact of_decide_eq_true rfl | (simp; done) | (simp; omega) | omega) rfl rfl rfl rfl ?_; intro s hp _; conv => whnf)
      rw [hadd, hh]
      rw [hadd] at hp
      exact ⟨rfl, ⟨.slice a5 (c.last.length + 1 - 1) c5, hp.pik (by repeat (first | exact Pik.nil | exact Pik.refl _ | exact Rm.here | apply Rm.there | apply Pik.cons | apply Pik.skip))⟩, subK_ok (by refine ⟨rfl, rfl, trivial⟩)⟩
    · have hq : ¬ 8 < c.last.length + 1 := by have := of_decide_eq_false hq; omega
      conv => whnf
      have hadd : c.add r = ⟨IntKind.i64.wrap (c.count + 1), linkF c.head r, c.last ++ [r], c.base⟩ := by unfold Ch.add; rw [if_neg hq]
      have e7 : (c.last ++ [r]).length = c.last.length + 1 := by simp
      rw [hadd]
      refine ⟨rfl, ⟨.slice aw (c.last.length + 1) cw, ?_⟩, subK_ok (by refine ⟨rfl, rfl, trivial⟩)⟩
      show Hp _ _ _ [_, slA κ' _ 4 (c.last ++ [r]).length (rcCells (c.last ++ [r])), _] _
      rw [e7]
      exact hp.pik (by repeat (first | exact Pik.nil | exact Pik.refl _ | exact Rm.here | apply Rm.there | apply Pik.cons | apply Pik.skip))
  clear hp
  rintro e L' s3 ⟨rfl, ⟨w2, hp⟩, hs⟩
  refine Sm.weak _ hs ?_
  clear hs
  have sw : Sl s3 κ' w2 4 (c.add r).last.length (rcCells (c.add r).last) := hp.okF (slA κ' _ 4 _ _) (by simp)
  obtain ⟨a2, c2, rfl⟩ := sw.shape
  refine Sm.seqW ?_
  conv => whnf
  refine hp.loadA (l := chCells (c.add r) (.slice a2 (c.add r).last.length c2)) (by repeat (first | exact Has.here | apply Has.there | (apply Has.swap; repeat (first | exact HasR.here | apply HasR.there)))) rfl (by rfl) rfl rfl ?_
  conv => whnf
  refine hp.storeW (vs := chCells (c.add r) (.slice a2 (c.add r).last.length c2)) rfl (by repeat (first | exact Rm.here | apply Rm.there)) (by rfl) rfl rfl rfl ?_
  clear hp sw
  intro s4 hp _
  conv => whnf
  refine Sm.ofW ?_
  conv => whnf
  refine hp.loadA (l := chCells (c.add r) (.slice a2 (c.add r).last.length c2)) (by repeat (first | exact Has.here | apply Has.there | (apply Has.swap; repeat (first | exact HasR.here | apply HasR.there)))) rfl (by rfl) rfl rfl ?_
  conv => whnf
  refine ⟨hp.fr, _, κ', rfl, hp.okF (slA κ' _ 4 _ _) (by simp), fun k hk => ?_⟩
  rcases hp.own (slA κ' (.slice a2 (c.add r).last.length c2) 4 (c.add r).last.length (rcCells (c.add r).last)) (by simp) k hk with g | g
  · exact g.elim
  · exact g
end Go.Ev
end

/- The document's chains by labels: where they lie. No condition. -/
noncomputable section
namespace Go.Ev
open Go.Proofs
set_option linter.unusedVariables false
set_option maxRecDepth 100000

/-! ### lists of cells of one width -/
theorem fm_len {α : Type} (f : α → List Value) {w : Nat} (hw : ∀ a, (f a).length = w) : ∀ l : List α, (l.flatMap f).length = l.length * w
  | [] => by simp
  | a :: l => by
    rw [List.flatMap_cons, List.length_append, hw, fm_len f hw l, List.length_cons, Nat.add_mul, Nat.one_mul, Nat.add_comm]
theorem fm_drop {α : Type} (f : α → List Value) {w : Nat} (hw : ∀ a, (f a).length = w) : ∀ (l : List α) (i : Nat), (l.flatMap f).drop (i * w) = (l.drop i).flatMap f
  | l, 0 => by simp
  | [], i + 1 => by simp
  | a :: l, i + 1 => by
    rw [List.flatMap_cons, Nat.add_mul, Nat.one_mul, Nat.add_comm (i * w) w, ← List.drop_drop, List.drop_left' (hw a), fm_drop f hw l i]
    rfl
theorem fm_at {α : Type} (f : α → List Value) {w : Nat} (hw : ∀ a, (f a).length = w) {l : List α} {i : Nat} (h : i < l.length) : ((l.flatMap f).drop (i * w)).take w = f l[i] := by
  rw [fm_drop f hw, List.drop_eq_getElem_cons h, List.flatMap_cons, List.take_left' (hw _)]
theorem fm_set {α : Type} (f : α → List Value) {w : Nat} (hw : ∀ a, (f a).length = w) {l : List α} {i : Nat} (h : i < l.length) (b : α) : putAt (l.flatMap f) (i * w) (f b) = (l.set i b).flatMap f := by
  unfold putAt
  rw [hw, show i * w + w = (i + 1) * w by rw [Nat.add_mul, Nat.one_mul], fm_drop f hw]
  have e1 : (l.flatMap f).take (i * w) = (l.take i).flatMap f := by
    have h1 : l.flatMap f = (l.take i).flatMap f ++ (l.drop i).flatMap f := by rw [← List.flatMap_append, List.take_append_drop]
    rw [h1, List.take_left' (by rw [fm_len f hw, List.length_take, Nat.min_eq_left (Nat.le_of_lt h)])]
  rw [e1, List.set_eq_take_append_cons_drop, if_pos h, List.flatMap_append, List.flatMap_cons, List.append_assoc]
/-! ### the two lists -/
def lbCells (l : List Lb) : List Value := l.flatMap Lb.cells
def chC (es : List (Ch × Value)) : List Value := es.flatMap fun e => chCells e.1 e.2
theorem lb_w (a : Lb) : (Lb.cells a).length = 2 := rfl
theorem ch_w (e : Ch × Value) : ((fun e : Ch × Value => chCells e.1 e.2) e).length = 4 := rfl
theorem LLs : SlT Try.prog 60 48 2 16 (.agg #[.int .u64 0, .int .i64 0]) := ⟨Try.underlying60, ⟨_, rfl, rfl, rfl, rfl⟩, rfl, rfl, by decide, by decide⟩
theorem LCs : SlT Try.prog 61 73 4 48 (.agg #[.int .i64 0, .int .u64 0, .slice none 0 0, .int .u64 0]) := ⟨Try.underlying61, ⟨_, rfl, rfl, rfl, rfl⟩, rfl, rfl, by decide, by decide⟩
theorem index_lb {s : St} {κ : Option Nat} {v : Value} {l : List Lb} (h : Sl s κ v 2 l.length (lbCells l)) (k : IntKind) {i : Nat} (hi : i < l.length) :
    ∃ a, evIndexAddr Try.prog 60 v (.int k (i : Int)) = some (.pointer (some a)) ∧ evLoad Try.prog 48 (.pointer (some a)) s = some l[i].val := by
  obtain ⟨a, e1, e2⟩ := index_slN LLs Try.underlying48 h k hi
  unfold lbCells at e2
  rw [fm_at Lb.cells lb_w hi] at e2
  exact ⟨a, e1, e2⟩
theorem index_ch {s : St} {κ : Option Nat} {v : Value} {l : List (Ch × Value)} (h : Sl s κ v 4 l.length (chC l)) (k : IntKind) {i : Nat} (hi : i < l.length) :
    ∃ a, evIndexAddr Try.prog 61 v (.int k (i : Int)) = some (.pointer (some a)) ∧ evLoad Try.prog 73 (.pointer (some a)) s = some (chVal l[i].1 l[i].2) := by
  obtain ⟨a, e1, e2⟩ := index_slN LCs Try.underlying73 h k hi
  unfold chC at e2
  rw [fm_at (fun e : Ch × Value => chCells e.1 e.2) ch_w hi] at e2
  exact ⟨a, e1, e2⟩
/-- What the chains of a list keep lies in families of K. -/
structure Chs (s : St) (K : List Nat) (es : List (Ch × Value)) : Prop where
  lt : ∀ j ∈ K, j < s.next
  sr : ∀ e ∈ es, ∃ κ, Sr s κ e.2 e.1.last ∧ ∀ j, κ = some j → j ∈ K
  ok : ∀ e ∈ es, e.1.last.length ≤ 8 ∧ ∀ q ∈ e.1.last, q.ok
def chsA (K : List Nat) (es : List (Ch × Value)) : At where
  foot := fun j => j ∈ K
  ok := fun s => Chs s K es
  keep := fun _ _ _ hk hX h => ⟨fun j hj => Nat.lt_of_lt_of_le (h.lt j hj) hk.next, fun e he => by
    obtain ⟨κ, g1, g2⟩ := h.sr e he
    exact ⟨κ, (slA κ e.2 4 e.1.last.length (rcCells e.1.last)).keep _ _ _ hk (fun j hj => hX j (g2 j hj)) g1, g2⟩, h.ok⟩
  lt := fun s wf h j hj => h.lt j hj
  lo := fun s m h => ⟨h.lt, fun e he => by
    obtain ⟨κ, g1, g2⟩ := h.sr e he
    exact ⟨κ, g1.lo m, g2⟩, h.ok⟩
/-- The document's chains. -/
structure Doc (s : St) (p : Nat) (κL κC : Option Nat) (K : List Nat) (ls : List Lb) (es : List (Ch × Value)) : Prop where
  ex : ∃ vL vC, Blk s p p [vL, vC] 2 ∧ OwnO s κL vL 2 ls.length (lbCells ls) ∧ OwnO s κC vC 4 es.length (chC es)
  ch : Chs s K es
  len : ls.length = es.length
  pL : κL ≠ some p
  pC : κC ≠ some p
  pK : p ∉ K
  LC : ∀ j, κL = some j → κC ≠ some j ∧ j ∉ K
  CK : ∀ j, κC = some j → j ∉ K
def docFoot (p : Nat) (κL κC : Option Nat) (K : List Nat) (j : Nat) : Prop := j = p ∨ κL = some j ∨ κC = some j ∨ j ∈ K
def docA (p : Nat) (κL κC : Option Nat) (K : List Nat) (ls : List Lb) (es : List (Ch × Value)) : At where
  foot := docFoot p κL κC K
  ok := fun s => Doc s p κL κC K ls es
  keep := fun s s' X hk hX h => by
    obtain ⟨vL, vC, h1, h2, h3⟩ := h.ex
    exact ⟨⟨vL, vC, hk.blk _ _ _ _ (hX p (.inl rfl)) h1, (onA κL vL 2 ls.length (lbCells ls)).keep _ _ _ hk (fun j hj => hX j (.inr (.inl hj))) h2, (onA κC vC 4 es.length (chC es)).keep _ _ _ hk (fun j hj => hX j (.inr (.inr (.inl hj)))) h3⟩,
      (chsA K es).keep _ _ _ hk (fun j hj => hX j (.inr (.inr (.inr hj)))) h.ch, h.len, h.pL, h.pC, h.pK, h.LC, h.CK⟩
  lt := fun s wf h j hj => by
    obtain ⟨vL, vC, h1, h2, h3⟩ := h.ex
    rcases hj with rfl | hj | hj | hj
    · have := h1.lt wf; omega
    · exact (onA κL vL 2 ls.length (lbCells ls)).lt s wf h2 j hj
    · exact (onA κC vC 4 es.length (chC es)).lt s wf h3 j hj
    · exact h.ch.lt j hj
  lo := fun s m h => by
    obtain ⟨vL, vC, h1, h2, h3⟩ := h.ex
    exact ⟨⟨vL, vC, h1.lo m, (onA κL vL 2 ls.length (lbCells ls)).lo s m h2, (onA κC vC 4 es.length (chC es)).lo s m h3⟩, (chsA K es).lo s m h.ch, h.len, h.pL, h.pC, h.pK, h.LC, h.CK⟩
/-- Opened. -/
theorem Doc.open {s : St} (wf : WF s) {p : Nat} {κL κC : Option Nat} {K : List Nat} {ls : List Lb} {es : List (Ch × Value)} (h : Doc s p κL κC K ls es) :
    ∃ vL vC, Hp (docFoot p κL κC K) s [] [blkA p p [vL, vC] 2, onA κL vL 2 ls.length (lbCells ls), onA κC vC 4 es.length (chC es), chsA K es] s := by
  obtain ⟨vL, vC, h1, h2, h3⟩ := h.ex
  refine ⟨vL, vC, .refl wf, ?_, fun x hx => (by cases hx), ?_, ?_, fun x _ r hr => (by cases hr)⟩
  · intro x hx
    simp only [List.mem_cons, List.not_mem_nil, or_false] at hx
    rcases hx with rfl | rfl | rfl | rfl
    · exact h1
    · exact h2
    · exact h3
    · exact h.ch
  · intro x hx k hk
    simp only [List.mem_cons, List.not_mem_nil, or_false] at hx
    rcases hx with rfl | rfl | rfl | rfl
    · exact .inl (.inl hk)
    · exact .inl (.inr (.inl hk))
    · exact .inl (.inr (.inr (.inl hk)))
    · exact .inl (.inr (.inr (.inr hk)))
  · simp only [List.pairwise_cons, List.mem_cons, List.not_mem_nil, or_false, false_implies, implies_true, List.Pairwise.nil, and_true]
    refine ⟨?_, ?_, ?_⟩
    · rintro b (rfl | rfl | rfl) k hk
      · intro g; exact h.pL (by rw [← show k = p from hk]; exact g)
      · intro g; exact h.pC (by rw [← show k = p from hk]; exact g)
      · intro g; exact h.pK (by rw [← show k = p from hk]; exact g)
    · rintro b (rfl | rfl) k hk
      · exact (h.LC k hk).1
      · exact (h.LC k hk).2
    · rintro b rfl k hk
      exact h.CK k hk
/-- Shut again. -/
theorem Doc.shut {X : Nat → Prop} {s0 s : St} {R : List At} {p : Nat} {κL κC : Option Nat} {K : List Nat} {ls : List Lb} {es : List (Ch × Value)} {vL vC : Value} (hp : Hp X s0 R [blkA p p [vL, vC] 2, onA κL vL 2 ls.length (lbCells ls), onA κC vC 4 es.length (chC es), chsA K es] s) (hl : ls.length = es.length) :
    Doc s p κL κC K ls es := by
  obtain ⟨d1, d2⟩ := List.pairwise_cons.1 hp.dj
  obtain ⟨d3, d4⟩ := List.pairwise_cons.1 d2
  obtain ⟨d5, d6⟩ := List.pairwise_cons.1 d4
  exact ⟨⟨vL, vC, hp.okF (blkA p p [vL, vC] 2) (by simp), hp.okF (onA κL vL 2 ls.length (lbCells ls)) (by simp), hp.okF (onA κC vC 4 es.length (chC es)) (by simp)⟩, hp.okF (chsA K es) (by simp), hl,
    d1 (onA κL vL 2 ls.length (lbCells ls)) (by simp) p rfl, d1 (onA κC vC 4 es.length (chC es)) (by simp) p rfl, d1 (chsA K es) (by simp) p rfl,
    fun j hj => ⟨d3 (onA κC vC 4 es.length (chC es)) (by simp) j hj, d3 (chsA K es) (by simp) j hj⟩, fun j hj => d5 (chsA K es) (by simp) j hj⟩
end Go.Ev
end

/- The document's chains by labels: Of. No condition. -/
noncomputable section
namespace Go.Ev
open Go.Proofs
set_option linter.unusedVariables false
set_option maxRecDepth 100000

def docOf : List Lb → List (Ch × Value) → Lb → Ch × Value
  | a :: ls, e :: es, l => if a = l then e else docOf ls es l
  | _, _, _ => (Ch.zero, .slice none 0 0)
theorem dlab_eq (a b : Lb) (c : Bool) : evBin Try.prog .eql 48 c a.val b.val = some (.bool (decide (a = b))) := by
  have := eq_lab a b
  have hg : Try.prog.eqGuardType Try.prog.depth 48 = false := by decide +kernel
  show (match !(Try.prog.eqGuardType Try.prog.depth 48) with | false => none | true => (match evEq Try.prog 10000 48 a.val b.val with | some b => some (Value.bool b) | none => none)) = _
  rw [hg, this]; rfl
theorem docOf_step {ls : List Lb} {es : List (Ch × Value)} {l : Lb} (hl : ls.length = es.length) {i : Nat} (hi : i < ls.length) : docOf (ls.drop i) (es.drop i) l = if ls[i] = l then es[i]'(by omega) else docOf (ls.drop (i + 1)) (es.drop (i + 1)) l := by
  rw [List.drop_eq_getElem_cons hi, List.drop_eq_getElem_cons (show i < es.length by omega)]
  rfl
theorem docOf_nil (es : List (Ch × Value)) (l : Lb) : docOf [] es l = (Ch.zero, .slice none 0 0) := by cases es <;> rfl
theorem dof_spec {z : St} (wf : WF z) {p : Nat} {κL κC : Option Nat} {K : List Nat} {ls : List Lb} {es : List (Ch × Value)} (h : Doc z p κL κC K ls es) (hsm : ls.length ≤ 1000) (l : Lb) :
    Cw Try.prog 39 [.pointer (some ⟨p, 0, none⟩), l.val] z fun r s' => K0 z s' ∧ r = chVal (docOf ls es l).1 (docOf ls es l).2 := by
  obtain ⟨vL, vC, h1, h2, h3⟩ := h.ex
  have hp : Hp (fun _ => False) z [blkA p p [vL, vC] 2, onA κL vL 2 ls.length (lbCells ls), onA κC vC 4 es.length (chC es)] [] z := Hp.start _ wf _ (by simp; exact ⟨h1, h2, h3⟩)
  obtain ⟨aL, cL, rfl⟩ := (OwnO.sl h2).shape
  obtain ⟨aC, cC, rfl⟩ := (OwnO.sl h3).shape
  have hlen := h.len
  have hsh : ∀ e ∈ es, ∃ a n c, e.2 = .slice a n c := fun e he => by
    obtain ⟨κ, g, _⟩ := h.ch.sr e he
    obtain ⟨a, c, g⟩ := g.shape
    exact ⟨a, _, c, g⟩
  generalize hR : [blkA p p [Value.slice aL ls.length cL, Value.slice aC es.length cC] 2, onA κL (Value.slice aL ls.length cL) 2 ls.length (lbCells ls), onA κC (Value.slice aC es.length cC) 4 es.length (chC es)] = R at hp
  have m1 : HasR (blkA p p [Value.slice aL ls.length cL, Value.slice aC es.length cC] 2) R := by rw [← hR]; exact .here
  have m2 : onA κL (Value.slice aL ls.length cL) 2 ls.length (lbCells ls) ∈ R := by rw [← hR]; simp
  have m3 : onA κC (Value.slice aC es.length cC) 4 es.length (chC es) ∈ R := by rw [← hR]; simp
  clear h1 h2 h3
  refine Cw.enterS Try.func39 rfl rfl ?_
  refine Sm.seqW ?_
  conv => whnf
  refine hp.var (cs := l.cells) (e := 2) rfl rfl ?_
  clear hp
  intro p3 s hp _
  conv => whnf
  refine hp.alloc (cs := (chCells Ch.zero (.slice none 0 0))) (e := 4) rfl rfl rfl rfl rfl ?_
  clear hp
  intro p4 s hp _
  conv => whnf
  refine Sm.live [0, 3, 4] ?_
  conv => whnf
  refine Sm.seq ?_
  refine Sm.seqW ?_
  conv => whnf
  refine Sm.live [0, 3, 4, 5] ?_
  conv => whnf
  refine Sm.block ?_
  refine Sm.loop ?_
  refine Lp.ofS (α := Nat) (fun i => [(0, .pointer (some ⟨p, 0, none⟩)), (3, .pointer (some ⟨p3, 0, none⟩)), (4, .pointer (some ⟨p4, 0, none⟩)), (5, .int .i64 (i : Int))])
    (fun i s' => i ≤ ls.length ∧ docOf (ls.drop i) (es.drop i) l = docOf ls es l ∧ Hp (fun _ => False) z R [blkA p4 p4 (chCells Ch.zero (.slice none 0 0)) 4, blkA p3 p3 l.cells 2] s') (fun i => ls.length - i) ?_ 0 (subK_ok (by refine ⟨rfl, rfl, rfl, rfl, trivial⟩)) ⟨Nat.zero_le _, rfl, hp.pik (by repeat (first | exact Pik.nil | exact Pik.refl _ | exact Rm.here | apply Rm.there | apply Pik.cons | apply Pik.skip))⟩
  clear hp
  rintro i s ⟨hi, hd, hp⟩
  have ld0 : ∀ {K : Value → Prop}, K (Value.slice aL ls.length cL) → Om (evLoad Try.prog 60 (.pointer (some ⟨p, 0, none⟩)) s) K := fun k => hp.load (k := p) (b := p) (e := 2) (C := [Value.slice aL ls.length cL, Value.slice aC es.length cC]) (.there (.there (.swap m1))) rfl rfl rfl rfl k
  have ld1 : ∀ {K : Value → Prop}, K (Value.slice aC es.length cC) → Om (evLoad Try.prog 61 (.pointer (some ⟨p, 1, none⟩)) s) K := fun k => hp.load (k := p) (b := p) (e := 2) (C := [Value.slice aL ls.length cL, Value.slice aC es.length cC]) (.there (.there (.swap m1))) rfl rfl rfl rfl k
  refine Sm.seq ?_
  refine Sm.seqW ?_
  conv => whnf
  refine ld0 ?_
  conv => whnf
  refine Sm.live [0, 3, 4, 5, 12] ?_
  conv => whnf
  refine Sm.ofW ?_
  conv => whnf
  refine Br.mk (fun hq => ?_) (fun hq => ?_)
  · have hq : i < ls.length := by have : (i : Int) < (ls.length : Int) := of_decide_eq_true hq; omega
    have hstep := docOf_step (l := l) hlen hq
    obtain ⟨q1, e1, e2⟩ := index_lb (OwnO.sl (hp.okR _ m2)) .i64 hq
    obtain ⟨q2, e3, e4⟩ := index_ch (OwnO.sl (hp.okR _ m3)) .i64 (show i < es.length by omega)
    obtain ⟨a5, n5, c5, h5⟩ := hsh (es[i]'(by omega)) (List.getElem_mem _)
    obtain ⟨e0, he0⟩ : ∃ e0, e0 = es[i]'(by omega) := ⟨_, rfl⟩
    rw [← he0] at e4 h5 hstep
    obtain ⟨c0, v0⟩ := e0
    obtain rfl : v0 = .slice a5 n5 c5 := h5
    conv => whnf
    refine Sm.seq ?_
    refine Sm.block ?_
    refine Sm.seqW ?_
    conv => whnf
    refine ⟨[0, 1, 3, 7, 0, 31, 63, 0, 255], by decide +kernel, by decide +kernel, ?_⟩
    conv => whnf
    refine ld0 ?_
    conv => whnf
    refine Om.of _ (e1) ?_
    conv => whnf
    refine Om.of _ (e2) ?_
    conv => whnf
    refine hp.loadA (l := l.cells) (by repeat (first | exact Has.here | apply Has.there | (apply Has.swap; repeat (first | exact HasR.here | apply HasR.there)))) rfl (by rfl) rfl rfl ?_
    conv => whnf
    refine Om.of _ (dlab_eq ls[i] l _) ?_
    conv => whnf
    refine Sm.live [0, 3, 4, 5, 23] ?_
    conv => whnf
    refine Sm.ofW ?_
    conv => whnf
    by_cases hl : ls[i] = l
    · rw [if_pos hl] at hstep
      refine Br.yes (decide_eq_true hl) ?_
      conv => whnf
      refine ld1 ?_
      conv => whnf
      refine Om.of _ (e3) ?_
      conv => whnf
      refine Om.of _ (e4) ?_
      conv => whnf
      refine hp.storeW (vs := (chCells c0 (.slice a5 n5 c5))) rfl (by repeat (first | exact Rm.here | apply Rm.there)) (by first | exact C2_same _ _ _ _ | exact C4_same _ _ _ _ _ _ _ _ | exact Dc_same _ _ | rfl) rfl rfl rfl ?_
      clear hp
      intro s hp _
      conv => whnf
      refine hp.loadA (l := (chCells c0 (.slice a5 n5 c5))) (by repeat (first | exact Has.here | apply Has.there | (apply Has.swap; repeat (first | exact HasR.here | apply HasR.there)))) rfl (by rfl) rfl rfl ?_
      conv => whnf
      refine ⟨hp.fr, ?_⟩
      rw [← hd, hstep]; rfl
    · rw [if_neg hl] at hstep
      refine Br.no (decide_eq_false hl) ?_
      conv => whnf
      refine Sm.ofW ?_
      conv => whnf
      exact ⟨i + 1, by (show ls.length - (i + 1) < ls.length - i); omega, subK_ok (by refine ⟨rfl, rfl, rfl, congrArg (fun x => some (Value.int .i64 x)) (show IntKind.i64.wrap ((i : Int) + 1) = ((i + 1 : Nat) : Int) by rw [wi64 (by omega) (by omega)]; omega), trivial⟩), by omega, by rw [← hstep]; exact hd, hp.pik (by repeat (first | exact Pik.nil | exact Pik.refl _ | exact Rm.here | apply Rm.there | apply Pik.cons | apply Pik.skip))⟩
  · have hq : i = ls.length := by have := of_decide_eq_false hq; omega
    subst hq
    rw [List.drop_length, docOf_nil] at hd
    conv => whnf
    refine Sm.seqW ?_
    conv => whnf
    refine hp.storeW (vs := (chCells Ch.zero (.slice none 0 0))) rfl (by repeat (first | exact Rm.here | apply Rm.there)) (by first | exact C2_same _ _ _ _ | exact C4_same _ _ _ _ _ _ _ _ | exact Dc_same _ _ | rfl) rfl rfl rfl ?_
    clear hp
    intro s hp _
    conv => whnf
    refine Sm.ofW ?_
    conv => whnf
    refine hp.loadA (l := (chCells Ch.zero (.slice none 0 0))) (by repeat (first | exact Has.here | apply Has.there | (apply Has.swap; repeat (first | exact HasR.here | apply HasR.there)))) rfl (by rfl) rfl rfl ?_
    conv => whnf
    refine ⟨hp.fr, ?_⟩
    rw [← hd]; rfl
end Go.Ev
end

/- The document's chains by labels: parts that are joined; a chain that is changed. No condition. -/
noncomputable section
namespace Go.Ev
open Go.Proofs
set_option linter.unusedVariables false
set_option maxRecDepth 100000

/-- Two parts become one. -/
theorem Hp.join2 {X : Nat → Prop} {s0 s : St} {R F G H : List At} {a b c : At} (h : Hp X s0 R F s) (r1 : Rm a F G) (r2 : Rm b G H) (ok : c.ok s) (hf : ∀ j, c.foot j → a.foot j ∨ b.foot j) : Hp X s0 R (c :: H) s := by
  obtain ⟨m1, k1⟩ := r1.sub
  obtain ⟨m2, k2⟩ := r2.sub
  obtain ⟨d1, d2⟩ := r1.dj h.dj
  obtain ⟨d3, d4⟩ := r2.dj d2
  have mb : b ∈ F := k1 b m2
  have mH : ∀ x ∈ H, x ∈ F := fun x hx => k1 x (k2 x hx)
  refine ⟨h.fr, fun x hx => ?_, h.okR, fun x hx k hk => ?_, ?_, fun x hx r hr k hk => ?_⟩
  · rcases List.mem_cons.1 hx with rfl | g
    · exact ok
    · exact h.okF x (mH x g)
  · rcases List.mem_cons.1 hx with rfl | g
    · rcases hf k hk with g | g
      · exact h.own a m1 k g
      · exact h.own b mb k g
    · exact h.own x (mH x g) k hk
  · rw [List.pairwise_cons]
    refine ⟨fun x hx k hk => ?_, d4⟩
    rcases hf k hk with g | g
    · exact d1 x (k2 x hx) k g
    · exact d3 x hx k g
  · rcases List.mem_cons.1 hx with rfl | g
    · rcases hf k hk with g | g
      · exact h.dr a m1 r hr k g
      · exact h.dr b mb r hr k g
    · exact h.dr x (mH x g) r hr k hk
theorem index_chB {b n c i : Nat} (hi : i < n) : evIndexAddr Try.prog 61 (.slice (some ⟨b, 0, none⟩) n c) (.int .i64 (i : Int)) = some (.pointer (some ⟨b, i * 4, none⟩)) := by
  obtain ⟨j, hi1, hi2, hi3, hi4⟩ := LCs.hi
  show (match Try.prog.underlying 61, Value.slice (some ⟨b, 0, none⟩) n c, Value.int .i64 (.ofNat i) with
      | some (.slice e), .slice (some a) n _, .int _ (.ofNat i) => match Nat.blt i n, Try.prog.info? e with
        | true, some j => some (Value.pointer (some ⟨a.block, a.off + i * j.size, none⟩))
        | _, _ => none
      | some (.array n e), .pointer (some a), .int _ (.ofNat i) => match Nat.blt i n, Try.prog.info? e with
        | true, some j => some (Value.pointer (some ⟨a.block, a.off + i * j.size, none⟩))
        | _, _ => none
      | _, _, _ => none) = _
  rw [LCs.hu]
  simp only [blt_of hi, hi1, hi2, Nat.zero_add]
/-- A chain more, or another one, among what is kept. -/
theorem Chs.set {s : St} {K : List Nat} {es : List (Ch × Value)} (h : Chs s K es) (wf : WF s) {c : Ch} {w : Value} {κ : Option Nat} (hw : Sr s κ w c.last) (ok : c.last.length ≤ 8 ∧ ∀ q ∈ c.last, q.ok) {es' : List (Ch × Value)} (he : ∀ e ∈ es', e ∈ es ∨ e = (c, w)) : Chs s (K ++ κ.toList) es' := by
  refine ⟨fun j hj => ?_, fun e hm => ?_, fun e hm => ?_⟩
  · rcases List.mem_append.1 hj with g | g
    · exact h.lt j g
    · cases κ with
      | none => cases g
      | some k =>
        obtain rfl : j = k := by simpa using g
        exact (slA (some j) w 4 c.last.length (rcCells c.last)).lt s wf hw j rfl
  · rcases he e hm with g | rfl
    · obtain ⟨κ1, g1, g2⟩ := h.sr e g
      exact ⟨κ1, g1, fun j hj => List.mem_append.2 (.inl (g2 j hj))⟩
    · exact ⟨κ, hw, fun j hj => List.mem_append.2 (.inr (by rw [hj]; simp))⟩
  · rcases he e hm with g | rfl
    · exact h.ok e g
    · exact ok
theorem docOf_set : ∀ {ls : List Lb} {es : List (Ch × Value)} {l : Lb} {i : Nat} (h1 : i < ls.length) (hl : ls.length = es.length), ls[i] = l → (∀ j, (hj : j < i) → ls[j]'(by omega) ≠ l) → ∀ (e : Ch × Value) (l' : Lb),
    docOf ls (es.set i e) l' = if l' = l then e else docOf ls es l'
  | a :: ls, d :: es, l, 0, _, _, h, _, e, l' => by
    have h : a = l := h
    show (if a = l' then e else docOf ls es l') = _
    by_cases g : l' = l
    · rw [if_pos (h.trans g.symm), if_pos g]
    · rw [if_neg (fun x => g (x.symm.trans h)), if_neg g]
      show _ = if a = l' then d else docOf ls es l'
      rw [if_neg (fun x => g (x.symm.trans h))]
  | a :: ls, d :: es, l, i + 1, h1, hl, h, hb, e, l' => by
    have ih := docOf_set (ls := ls) (es := es) (l := l) (i := i) (by simpa using h1) (by simpa using hl) h (fun j hj => hb (j + 1) (by omega)) e l'
    have ha : a ≠ l := hb 0 (by omega)
    show (if a = l' then d else docOf ls (es.set i e) l') = if l' = l then e else (if a = l' then d else docOf ls es l')
    rw [ih]
    by_cases g : l' = l
    · rw [if_pos g, if_neg (fun x => ha (x.trans g)), if_pos g]
    · rw [if_neg g, if_neg g]
theorem docOf_found : ∀ {ls : List Lb} {es : List (Ch × Value)} {l : Lb} {i : Nat} (h1 : i < ls.length) (hl : ls.length = es.length), ls[i] = l → (∀ j, (hj : j < i) → ls[j]'(by omega) ≠ l) → docOf ls es l = es[i]'(by omega)
  | a :: ls, d :: es, l, 0, _, _, h, _ => if_pos h
  | a :: ls, d :: es, l, i + 1, h1, hl, h, hb => by
    show (if a = l then d else docOf ls es l) = _
    have ha : a ≠ l := hb 0 (by omega)
    rw [if_neg ha]
    exact docOf_found (ls := ls) (es := es) (by simpa using h1) (by simpa using hl) h (fun j hj => hb (j + 1) (by omega))
theorem docOf_app : ∀ {ls : List Lb} {es : List (Ch × Value)} {l : Lb} (hl : ls.length = es.length), l ∉ ls → ∀ (e : Ch × Value) (l' : Lb), docOf (ls ++ [l]) (es ++ [e]) l' = if l' = l then e else docOf ls es l'
  | [], [], l, _, _, e, l' => by
    show (if l = l' then e else (Ch.zero, Value.slice none 0 0)) = if l' = l then e else (Ch.zero, Value.slice none 0 0)
    by_cases g : l' = l
    · rw [if_pos g, if_pos g.symm]
    · rw [if_neg g, if_neg (fun x => g x.symm)]
  | a :: ls, d :: es, l, hl, hn, e, l' => by
    have ih := docOf_app (ls := ls) (es := es) (l := l) (by simpa using hl) (fun x => hn (List.mem_cons_of_mem _ x)) e l'
    have ha : a ≠ l := fun x => hn (by rw [x]; exact List.mem_cons_self)
    show (if a = l' then d else docOf (ls ++ [l]) (es ++ [e]) l') = if l' = l then e else (if a = l' then d else docOf ls es l')
    rw [ih]
    by_cases g : l' = l
    · rw [if_pos g, if_neg (fun x => ha (x.trans g)), if_pos g]
    · rw [if_neg g, if_neg g]
theorem docOf_none : ∀ {ls : List Lb} {es : List (Ch × Value)} {l : Lb}, l ∉ ls → docOf ls es l = (Ch.zero, .slice none 0 0)
  | [], es, l, _ => docOf_nil es l
  | a :: ls, [], l, _ => rfl
  | a :: ls, d :: es, l, hn => by
    show (if a = l then d else docOf ls es l) = _
    rw [if_neg (fun x => hn (by rw [x]; exact List.mem_cons_self))]
    exact docOf_none (fun x => hn (List.mem_cons_of_mem _ x))
end Go.Ev
end
