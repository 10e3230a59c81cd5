/- A proved evaluator, part 2: canonical values and memory against the machine's, and what a new block, a write and an append keep. No condition. -/
import Derived.Test.YtmhfkejbahacoaaGreatDoorKViewHoldsE1
import Derived.Laws.IdiomCopy
import Derived.Laws.Cells
noncomputable section
namespace Go.Ev
open Go.RowKit
set_option linter.unusedVariables false

/-- Where a canonical block lies: the machine's block, how far its cells are shifted, cells of an element, cells of the machine's block. -/
structure BI where
  blk : Nat
  sh : Nat
  esz : Nat
  lim : Nat
abbrev B := Nat → Option BI
/-- The package's variables that may be looked at: where each lies, canonically. -/
class Lk where
  gl : Nat → Option Nat
variable [Lk]
set_option linter.unusedSectionVars false

def AR (β : B) (a a' : Addr) : Prop := ∃ bi, β a.block = some bi ∧ a.spot = none ∧ a' = ⟨bi.blk, a.off + bi.sh, none⟩
def SR (β : B) (a : Addr) (c : Nat) (a' : Addr) (c' : Nat) : Prop :=
  ∃ bi, β a.block = some bi ∧ a.spot = none ∧ a'.spot = none ∧ a'.block = bi.blk ∧ (c' = 0 ∨ a'.off = a.off + bi.sh) ∧ c ≤ c' ∧ a'.off + c' * bi.esz ≤ bi.lim

inductive VR (β : B) : Value → Value → Prop
  | bool (b : Bool) : VR β (.bool b) (.bool b)
  | int (k : IntKind) (n : Int) : VR β (.int k n) (.int k n)
  | string (s : ByteArray) : VR β (.string s) (.string s)
  | nilp : VR β (.pointer none) (.pointer none)
  | ptr {a a' : Addr} (h : AR β a a') : VR β (.pointer (some a)) (.pointer (some a'))
  | nils : VR β (.slice none 0 0) (.slice none 0 0)
  | slice {a a' : Addr} {n c c' : Nat} (hn : n ≤ c) (h : SR β a c a' c') : VR β (.slice (some a) n c) (.slice (some a') n c')
  | nilm : VR β (.map none) (.map none)
  | map {r : Nat} {bi : BI} (h : β r = some bi) : VR β (.map (some r)) (.map (some bi.blk))
  | nilf : VR β .nilFunc .nilFunc
  | func (fn : Fn) {xs ys us vs : Array Value} (h1 : xs.size = ys.size) (h2 : ∀ (i : Nat) (x y : Value), xs[i]? = some x → ys[i]? = some y → VR β x y)
      (h3 : us.size = vs.size) (h4 : ∀ (i : Nat) (x y : Value), us[i]? = some x → vs[i]? = some y → VR β x y) : VR β (.func fn xs us) (.func fn ys vs)
  | nili : VR β .nilIface .nilIface
  | iface (t : TypeId) {v v' : Value} (h : VR β v v') : VR β (.iface t v) (.iface t v')
  | agg {xs ys : Array Value} (h1 : xs.size = ys.size) (h2 : ∀ (i : Nat) (x y : Value), xs[i]? = some x → ys[i]? = some y → VR β x y) : VR β (.agg xs) (.agg ys)
  | junkN : VR β (.chan none) .nilIface
  | junkI (t : TypeId) (v : Value) : VR β (.chan none) (.iface t v)
  | junkZ (k : IntKind) (n : Int) : VR β (.chan none) (.int k n)
  | tuple {xs ys : Array Value} (h1 : xs.size = ys.size) (h2 : ∀ (i : Nat) (x y : Value), xs[i]? = some x → ys[i]? = some y → VR β x y) : VR β (.tuple xs) (.tuple ys)

theorem VR.mono {β β' : B} (h : ∀ b bi, β b = some bi → β' b = some bi) {v v' : Value} (hv : VR β v v') : VR β' v v' := by
  induction hv with
  | bool b => exact .bool b
  | int k n => exact .int k n
  | string s => exact .string s
  | nilp => exact .nilp
  | ptr ha => obtain ⟨bi, h1, h2, h3⟩ := ha; exact .ptr ⟨bi, h _ _ h1, h2, h3⟩
  | nils => exact .nils
  | slice hn hs => obtain ⟨bi, h1, h2⟩ := hs; exact .slice hn ⟨bi, h _ _ h1, h2⟩
  | nilm => exact .nilm
  | map hb => exact .map (h _ _ hb)
  | nilf => exact .nilf
  | func fn h1 _ h3 _ ih1 ih2 => exact .func fn h1 ih1 h3 ih2
  | nili => exact .nili
  | iface t _ ih => exact .iface t ih
  | agg h1 _ ih => exact .agg h1 ih
  | junkN => exact .junkN
  | junkI t v => exact .junkI t v
  | junkZ k n => exact .junkZ k n
  | tuple h1 _ ih => exact .tuple h1 ih

/-- Lists of values, one by one. -/
inductive LR (β : B) : List Value → List Value → Prop
  | nil : LR β [] []
  | cons {v v' : Value} {l l' : List Value} (h : VR β v v') (t : LR β l l') : LR β (v :: l) (v' :: l')
theorem LR.mono {β β' : B} (h : ∀ b bi, β b = some bi → β' b = some bi) {l l' : List Value} (hl : LR β l l') : LR β' l l' := by
  induction hl with
  | nil => exact .nil
  | cons hv _ ih => exact .cons (hv.mono h) ih
theorem LR.length {β : B} {l l' : List Value} (h : LR β l l') : l.length = l'.length := by
  induction h with
  | nil => rfl
  | cons _ _ ih => simp [ih]
theorem LR.get {β : B} {l l' : List Value} (h : LR β l l') : ∀ {i : Nat} {v : Value}, l[i]? = some v → ∃ v', l'[i]? = some v' ∧ VR β v v' := by
  induction h with
  | nil => intro i v hv; simp at hv
  | cons hv _ ih =>
    intro i v hi
    cases i with
    | zero => simp at hi; subst hi; exact ⟨_, by simp, hv⟩
    | succ i => simp at hi; simpa using ih hi
theorem LR.of_get {β : B} : ∀ {l l' : List Value}, l.length = l'.length → (∀ (i : Nat) (x y : Value), l[i]? = some x → l'[i]? = some y → VR β x y) → LR β l l'
  | [], [], _, _ => .nil
  | v :: l, v' :: l', hl, h => .cons (h 0 v v' (by simp) (by simp)) (LR.of_get (by simpa using hl) (fun i x y hx hy => h (i + 1) x y (by simpa using hx) (by simpa using hy)))
  | [], _ :: _, hl, _ => by simp at hl
  | _ :: _, [], hl, _ => by simp at hl
theorem LR.append {β : B} {l l' m m' : List Value} (h : LR β l l') (k : LR β m m') : LR β (l ++ m) (l' ++ m') := by
  induction h with
  | nil => exact k
  | cons hv _ ih => exact .cons hv ih
theorem LR.of_arr {β : B} {xs ys : Array Value} (h1 : xs.size = ys.size) (h2 : ∀ (i : Nat) (x y : Value), xs[i]? = some x → ys[i]? = some y → VR β x y) : LR β xs.toList ys.toList :=
  LR.of_get (by simpa using h1) (fun i x y hx hy => h2 i x y (by simpa using hx) (by simpa using hy))
theorem LR.arr {β : B} {l l' : List Value} (h : LR β l l') : l.toArray.size = l'.toArray.size ∧ ∀ (i : Nat) (x y : Value), l.toArray[i]? = some x → l'.toArray[i]? = some y → VR β x y :=
  ⟨by simpa using h.length, fun i x y hx hy => by
    obtain ⟨v', hv', hr⟩ := h.get (i := i) (v := x) (by simpa using hx)
    have : l'[i]? = some y := by simpa using hy
    rw [hv'] at this; injection this with this; subst this; exact hr⟩
theorem VR.agg_of {β : B} {l l' : List Value} (h : LR β l l') : VR β (.agg l.toArray) (.agg l'.toArray) := .agg h.arr.1 h.arr.2
theorem VR.cells {β : B} {v v' : Value} (h : VR β v v') : LR β v.cells.toList v'.cells.toList := by
  cases h with
  | agg h1 h2 => exact LR.of_arr h1 h2
  | _ => exact .cons (by constructor <;> assumption) .nil
theorem LR.oneCell {β : B} {l l' : List Value} (h : LR β l l') (h1 : ∀ v ∈ l, v.oneCell' = true) : ∀ v ∈ l', v.oneCell' = true := by
  induction h with
  | nil => simp
  | cons hv _ ih =>
    intro v hm
    rcases List.mem_cons.1 hm with rfl | hm
    · have := h1 _ (List.mem_cons_self ..)
      cases hv <;> simp_all [Value.oneCell']
    · exact ih (fun v hv => h1 v (List.mem_cons_of_mem _ hv)) v hm
theorem LR.take {β : B} {l l' : List Value} (h : LR β l l') : ∀ n, LR β (l.take n) (l'.take n) := by
  induction h with
  | nil => intro n; simpa using LR.nil
  | cons hv _ ih => intro n; cases n with | zero => simpa using LR.nil | succ n => simpa using LR.cons hv (ih n)
theorem LR.drop {β : B} {l l' : List Value} (h : LR β l l') : ∀ n, LR β (l.drop n) (l'.drop n) := by
  induction h with
  | nil => intro n; simpa using LR.nil
  | cons hv hl ih => intro n; cases n with | zero => simpa using LR.cons hv hl | succ n => simpa using ih n

/-- A map's entries, in order. -/
structure MR (β : B) (es : List (Value × Value)) (ms : List MapEntry) : Prop where
  keys : LR β (es.map (·.1)) (ms.map (·.key))
  vals : LR β (es.map (·.2)) (ms.map (·.val))

structure Rel (J B0 : Nat) (w0 : World) (β : B) (s : St) (w : World) : Prop where
  nx : s.next ≤ J
  dom : ∀ b bi, β b = some bi → bi.blk < w.heap.size ∧ ((∃ cb, s.heap.get b = some cb) ∨ J ≤ b)
  rd : ∀ b bi cs, β b = some bi → s.rd b = some cs → ∃ C e fr, w.heap[bi.blk]? = some (.cells C e fr) ∧ ∀ (i : Nat) (v : Value), cs[i]? = some v → ∃ v', C[i + bi.sh]? = some v' ∧ VR β v v'
  own : ∀ b bi cs k base esz, β b = some bi → s.heap.get b = some (.cells cs k base esz true) →
    B0 ≤ bi.blk ∧ bi.esz = esz ∧ (∃ bk, β k = some bk) ∧ ∃ C e fr, w.heap[bi.blk]? = some (.cells C e fr) ∧ C.size = bi.lim ∧ (base = 0 → bi.sh = 0) ∧ (∀ t, s.tys.get b = some (t + 1) → e = t) ∧
      ((∃ h fl, s.fams.get k = some (h, fl) ∧ fl ≤ h) → ∀ j, j < bi.lim → ¬ (fr.1 ≤ j ∧ j < fr.2))
  ro : ∀ b bi cs k base esz, β b = some bi → s.heap.get b = some (.cells cs k base esz false) → bi.esz = esz ∧ bi.blk < B0
  map : ∀ b bi es, β b = some bi → s.heap.get b = some (.map es) → B0 ≤ bi.blk ∧ ∃ ms clock, w.heap[bi.blk]? = some (.map ms clock) ∧ MR β es ms.toList
  fam : ∀ b1 b2 bi1 bi2 cs1 cs2 k1 k2 base1 base2 e1 e2, β b1 = some bi1 → β b2 = some bi2 → bi1.blk = bi2.blk →
    s.heap.get b1 = some (.cells cs1 k1 base1 e1 true) → s.heap.get b2 = some (.cells cs2 k2 base2 e2 true) → k1 = k2 ∧ base1 + bi2.sh = base2 + bi1.sh
  inj : ∀ b1 b2 bi1 bi2 es, β b1 = some bi1 → β b2 = some bi2 → bi1.blk = bi2.blk → s.heap.get b1 = some (.map es) → b1 = b2
  iter : ∀ b bi t pos, β b = some bi → s.heap.get b = some (.iter t pos) → B0 ≤ bi.blk ∧ bi.sh = 0 ∧ w.heap[bi.blk]? = some (.stringIter t pos) ∧ ∀ b2 bi2, β b2 = some bi2 → bi2.blk = bi.blk → b2 = b
  gl : ∀ g i, Lk.gl g = some i → ∃ e l, β i = some ⟨g, 0, e, l⟩
  below : Below B0 w0 w
  base : B0 ≤ w.heap.size

structure Step (J B0 : Nat) (w0 : World) (β : B) (s : St) (w : World) (β' : B) (s' : St) (w' : World) : Prop where
  rel : Rel J B0 w0 β' s' w'
  ext : ∀ b bi, β b = some bi → β' b = some bi
  new : ∀ b bi, β' b = some bi → β b = some bi ∨ (s.next ≤ b ∧ b < s'.next ∧ (w.heap.size ≤ bi.blk ∨ ∃ b0 bi0, β b0 = some bi0 ∧ b0 < J ∧ bi0.blk = bi.blk ∧ s'.low ≤ b0))
  frame : ∀ i, i < w.heap.size → (∀ b bi, β b = some bi → b < J → bi.blk ≠ i) → w'.heap[i]? = w.heap[i]?
  old : ∀ b, β b = none → b < s.next → s'.heap.get b = s.heap.get b ∧ s'.fams.get b = s.fams.get b
  size : w.heap.size ≤ w'.heap.size
  next : s.next ≤ s'.next
  low : s'.low ≤ s.low

theorem Step.refl {J B0 : Nat} {w0 : World} {β : B} {s : St} {w : World} (h : Rel J B0 w0 β s w) : Step J B0 w0 β s w β s w :=
  ⟨h, fun _ _ h => h, fun _ _ h => .inl h, fun _ _ _ => rfl, fun _ _ _ => ⟨rfl, rfl⟩, Nat.le_refl _, Nat.le_refl _, Nat.le_refl _⟩
theorem Step.trans {J B0 : Nat} {w0 : World} {β β1 β2 : B} {s s1 s2 : St} {w w1 w2 : World} (h : Step J B0 w0 β s w β1 s1 w1) (k : Step J B0 w0 β1 s1 w1 β2 s2 w2) : Step J B0 w0 β s w β2 s2 w2 where
  rel := k.rel
  ext := fun b bi hb => k.ext b bi (h.ext b bi hb)
  new := fun b bi hb => by
    rcases k.new b bi hb with h1 | ⟨h1, h1', h2⟩
    · rcases h.new b bi h1 with h3 | ⟨h3, h3', h4⟩
      · exact .inl h3
      · refine .inr ⟨h3, Nat.lt_of_lt_of_le h3' k.next, ?_⟩
        rcases h4 with h4 | ⟨b0, bi0, g1, g2, g3, g4⟩
        · exact .inl h4
        · exact .inr ⟨b0, bi0, g1, g2, g3, Nat.le_trans k.low g4⟩
    · refine .inr ⟨Nat.le_trans h.next h1, h1', ?_⟩
      rcases h2 with h2 | ⟨b0, bi0, g1, g2, g3, g4⟩
      · exact .inl (Nat.le_trans h.size h2)
      · rcases h.new b0 bi0 g1 with h3 | ⟨h3, h3', h4⟩
        · exact .inr ⟨b0, bi0, h3, g2, g3, g4⟩
        · rcases h4 with h4 | ⟨b1, bi1, i1, i2, i3, i4⟩
          · exact .inl (g3 ▸ h4)
          · exact .inr ⟨b1, bi1, i1, i2, i3.trans g3, Nat.le_trans k.low i4⟩
  frame := fun i hi hn => by
    rw [k.frame i (Nat.lt_of_lt_of_le hi h.size) ?_, h.frame i hi hn]
    intro b bi hb hbJ
    rcases h.new b bi hb with h1 | ⟨_, _, h2⟩
    · exact hn b bi h1 hbJ
    · rcases h2 with h2 | ⟨b0, bi0, g1, g2, g3, _⟩
      · omega
      · exact g3 ▸ hn b0 bi0 g1 g2
  old := fun b hb hn => by
    have h1 : β1 b = none := by
      cases hc : β1 b with
      | none => rfl
      | some bi =>
        rcases h.new b bi hc with g | ⟨g, _⟩
        · rw [hb] at g; cases g
        · omega
    have := k.old b h1 (Nat.lt_of_lt_of_le hn h.next)
    have h2 := h.old b hb hn
    exact ⟨this.1.trans h2.1, this.2.trans h2.2⟩
  size := Nat.le_trans h.size k.size
  next := Nat.le_trans h.next k.next
  low := Nat.le_trans k.low h.low

def upd (β : B) (b : Nat) (bi : BI) : B := fun i => if i = b then some bi else β i
@[simp] theorem upd_same (β : B) (b : Nat) (bi : BI) : upd β b bi b = some bi := by simp [upd]
theorem upd_ne (β : B) {b i : Nat} (bi : BI) (h : i ≠ b) : upd β b bi i = β i := by simp [upd, h]
theorem upd_ext {J B0 : Nat} {w0 : World} {β : B} {s : St} {w : World} (h : Rel J B0 w0 β s w) (wf : WF s) (hJ : s.next < J) (bi : BI) : ∀ b x, β b = some x → upd β s.next bi b = some x := by
  intro b x hb
  rw [upd_ne _ _ ?_]; exact hb
  rintro rfl
  rcases (h.dom _ x hb).2 with ⟨cb, hcb⟩ | g
  · have := wf.lt _ cb hcb; omega
  · omega

end Go.Ev
