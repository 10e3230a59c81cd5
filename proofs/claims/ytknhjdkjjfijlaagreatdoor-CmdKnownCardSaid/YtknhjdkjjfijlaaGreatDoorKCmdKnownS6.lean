/- Memory in parts, further: blocks of which it is known what their elements are, package variables, iterators, texts out of buffers. No condition. -/
import Derived.Test.YtknhjdkjjfijlaaGreatDoorKCmdKnownS5
noncomputable section
namespace Go.Ev
open Go.RowKit
variable [Lk]
set_option linter.unusedSectionVars false
set_option linter.unusedVariables false
theorem Blt.head {s : St} {k b e t : Nat} {cs : List Value} (h : Blt s k cs e t) (hb : Blk s k b cs e) : ∃ fl, s.heap.get b = some (.cells cs k 0 e true) ∧ s.fams.get k = some (b, fl) ∧ fl ≤ b ∧ s.tys.get b = some (t + 1) := by
 obtain ⟨b1, fl, h1, h2, h3, h4⟩ := h.ex
 obtain ⟨base, fl2, g1, g2, g3⟩ := hb.ex
 rw [h2] at g2; injection g2 with g2; injection g2 with g4 g5; subst g4 g5
 exact ⟨fl, h1, h2, h3, h4⟩
theorem write_blt {s s' : St} {k b e t off : Nat} {cs vs : List Value} (h : Blt s k cs e t) (hb : Blk s k b cs e) (hw : s.write b off vs = some s') : Blt s' k (putAt cs off vs) e t := by
 obtain ⟨fl, h1, h2, h3, h4⟩ := h.head hb
 unfold St.write at hw
 simp only [h1, h2, Nat.beq_refl, Nat.ble_eq_true_of_le h3] at hw
 split at hw <;> first | contradiction | skip
 injection hw with hw
 subst hw
 exact ⟨b, b, T.get_set_same _ _ _, T.get_set_same _ _ _, Nat.le_refl _, h4⟩
theorem Blt.lo {s : St} {k e t : Nat} {cs : List Value} (h : Blt s k cs e t) (m : Nat) : Blt ⟨s.heap, s.fams, s.tys, s.next, m⟩ k cs e t := ⟨h.ex⟩
/-- A block of its own family, of which it is known what its elements are. -/
structure Bty (s : St) (b : Nat) (cs : List Value) (e t : Nat) : Prop where
 blk : Blk s b b cs e
 blt : Blt s b cs e t
def tyA (b : Nat) (cs : List Value) (e t : Nat) : At where
 foot := fun j => j = b
 ok := fun s => Bty s b cs e t
 keep := fun _ _ _ hk hX h => ⟨hk.blk _ _ _ _ (hX b rfl) h.blk, hk.blt _ _ _ _ (hX b rfl) h.blt⟩
 lt := fun s wf h j hj => by subst hj; have := h.blk.lt wf; omega
 lo := fun s m h => ⟨h.blk.lo m, h.blt.lo m⟩
/-- A block of the caller's. -/
def roA (b : Nat) (cs : List Value) (e : Nat) : At where
 foot := fun _ => False
 ok := fun s => Ro s b cs e
 keep := fun _ _ _ hk hX h => hk.ro _ _ _ h
 lt := fun s wf h j hj => hj.elim
 lo := fun s m h => ⟨h.ex⟩
def itA (b : Nat) (t : ByteArray) (p : Nat) : At where
 foot := fun j => j = b
 ok := fun s => It s b t p
 keep := fun _ _ _ hk hX h => hk.it _ _ _ (hX b rfl) h
 lt := fun s wf h j hj => by subst hj; exact h.lt wf
 lo := fun s m h => ⟨h.ex⟩
section
variable {X : Nat → Prop} {s0 s s' s1 : St} {R F F' G : List At} {a a' : At} {P : Program} {t : TypeId} {K : Value → Prop} {b off k e : Nat} {C C' : List Value} {v : Value} {i : TypeInfo} {d : TypeDesc}
theorem Hp.loadR (h : Hp X s0 R F s) (m : HasR (roA b C e) R) (hv : C[off]? = some v) (hu : P.underlying t = some d) (hi : P.info? t = some i) (hd : scalarD d = true) (hk : K v) :
  Om (evLoad P t (.pointer (some ⟨b, off, none⟩)) s) K := .of v (load_cell hu hi hd (Ro.rd (h.okR _ m.mem)) hv) hk
theorem Hp.loadT (h : Hp X s0 R F s) {ty : Nat} (m : Has (tyA b C e ty) F R) (hv : C[off]? = some v) (hu : P.underlying t = some d) (hi : P.info? t = some i) (hd : scalarD d = true) (hk : K v) :
  Om (evLoad P t (.pointer (some ⟨b, off, none⟩)) s) K := .of v (load_cell hu hi hd (Blk.rd (Bty.blk (h.at m))) hv) hk
theorem Hp.allocT {K : Value × St → Prop} (h : Hp X s0 R F s) (hi : P.info? t = some i) {z : Value} (hz : i.zero = some z) (hc : closedV 6 z = true) {cs : List Value} (hv : z.cells.toList = cs) (he : eszOf P t = some e)
  (hk : ∀ b s', Hp X s0 R (tyA b cs e t :: F) s' → K0 s s' → K (.pointer (some ⟨b, 0, none⟩), s')) : Om (evAlloc P t s) K := by
 obtain ⟨g1, g2⟩ := new_kp h.wf cs e (ty := t + 1)
 refine .of (.pointer (some ⟨s.next, 0, none⟩), s.new cs e (t + 1)) ?_ (hk _ _ (h.push g1 ⟨g2, new_blt _ _ _ _⟩ fun j hj => by subst hj; exact Nat.le_refl _) g1)
 unfold evAlloc
 simp only [hi, hz, hc]
 unfold evVar
 rw [he, hv]
/-- A slice of zeros. -/
theorem Hp.mksT {K : Value × St → Prop} (h : Hp X s0 R F s) {et by_ : Nat} {z : Value} (T : SlT P t et 1 by_ z) (hz : z.cells = #[z]) {k1 k2 : IntKind} {l c : Int} (n : Nat) (hl : l = (n : Int)) (hc : c = (n : Int)) (hn : by_ * n ≤ 281474976710656)
  (hk : ∀ b s', Hp X s0 R (tyA b (List.replicate n z) 1 et :: F) s' → K0 s s' → K (.slice (some ⟨b, 0, none⟩) n n, s')) : Om (evMakeSlice P t (.int k1 l) (.int k2 c) s) K := by
 subst hl hc
 obtain ⟨j, hi1, hi2, hi3, hi4⟩ := T.hi
 have hn2 : n ≤ 281474976710656 := by
  have : 1 * n ≤ by_ * n := Nat.mul_le_mul_right _ T.by0
  omega
 obtain ⟨g1, g2⟩ := new_kp h.wf (List.replicate n z) 1 (ty := et + 1)
 refine .of (.slice (some ⟨s.next, 0, none⟩) n n, s.new (List.replicate n z) 1 (et + 1)) ?_ (hk _ _ (h.push g1 ⟨g2, new_blt _ _ _ _⟩ fun j hj => by subst hj; exact Nat.le_refl _) g1)
 have e1 : zeros z.cells.toList (n * 1) = List.replicate n z := by rw [hz, Nat.mul_one]; exact zeros_one z n
 show (match P.underlying t, Value.int k1 (.ofNat n), Value.int k2 (.ofNat n) with
  | some (.slice e), .int _ (.ofNat l), .int _ (.ofNat c) => match P.info? e with
    | some i => match i.zero with
      | some z => match closedV 6 z, Nat.beq z.cells.size i.size, Nat.blt 0 i.size, Nat.ble l c, Nat.ble c 281474976710656, Nat.ble (i.bytes * c) 281474976710656 with
        | true, true, true, true, true, true => some (Value.slice (some ⟨s.next, 0, none⟩) l c, s.new (zeros z.cells.toList (c * i.size)) i.size (e + 1))
        | _, _, _, _, _, _ => none
      | none => none
    | none => none
  | _, _, _ => none) = _
 rw [T.hu]
 simp only [hi1, hi4, T.hz, T.hzs, hi2, hi3, Nat.beq_refl, Nat.ble_eq_true_of_le hn2, Nat.ble_eq_true_of_le hn, Nat.ble_eq_true_of_le (Nat.le_refl n), e1, blt_of (show 0 < 1 by omega)]
end
/-! ### pointers that are the same -/
theorem ptr_eq {P : Program} {t te : TypeId} {i : TypeInfo} {c : Bool} (hu : P.underlying t = some (.pointer te)) (hi : P.info? te = some i) (a : Addr) : evBin P .neq t c (.pointer (some a)) (.pointer (some a)) = some (.bool false) := by
 have h : evEq P (9999 + 1) t (.pointer (some a)) (.pointer (some a)) = some true := by
  unfold evEq
  rw [hu]
  simp only [hi, Nat.beq_refl]
 show (match evEq P 10000 t (.pointer (some a)) (.pointer (some a)) with
  | some r => some (Value.bool (!r))
  | none => none) = _
 rw [h]
 rfl
theorem ptr_some {P : Program} {t te : TypeId} {c : Bool} (hu : P.underlying t = some (.pointer te)) (a : Addr) : evBin P .eql t c (.pointer (some a)) (.pointer none) = some (.bool false) := by
 have h : evEq P (9999 + 1) t (.pointer (some a)) (.pointer none) = some false := by
  unfold evEq
  rw [hu]
 show (match evEq P 10000 t (.pointer (some a)) (.pointer none) with
  | some r => some (Value.bool r)
  | none => none) = _
 rw [h]
theorem ptr_none {P : Program} {t te : TypeId} {c : Bool} (hu : P.underlying t = some (.pointer te)) : evBin P .eql t c (.pointer none) (.pointer none) = some (.bool true) := by
 have h : evEq P (9999 + 1) t (.pointer none) (.pointer none) = some true := by
  unfold evEq
  rw [hu]
  rfl
 show (match evEq P 10000 t (.pointer none) (.pointer none) with
  | some r => some (Value.bool r)
  | none => none) = _
 rw [h]
theorem to_unsafe {P : Program} {src dst te : TypeId} {i : TypeInfo} (hs : P.underlying src = some (.pointer te)) (hd : P.underlying dst = some .unsafePointer) (hi : P.info? te = some i) (h0 : 0 < i.size) {s : St} {b : Nat} {cs : List Value} (hr : s.rd b = some cs) (hl : 0 < cs.length) :
  evConvMem P src dst (.pointer (some ⟨b, 0, none⟩)) s = some (.pointer (some ⟨b, 0, none⟩), s) := by
 unfold evConvMem
 rw [hs, hd]
 simp only [hr, hi, blt_of hl, blt_of h0]
theorem of_unsafe {P : Program} {src dst u : TypeId} {i : TypeInfo} (hs : P.underlying src = some .unsafePointer) (hd : P.underlying dst = some (.pointer u)) (hi : P.info? u = some i) (h0 : 0 < i.size) {s : St} {b e : Nat} {cs : List Value} (h : Bty s b cs e u) (hl : i.size ≤ cs.length) :
  evConvMem P src dst (.pointer (some ⟨b, 0, none⟩)) s = some (.pointer (some ⟨b, 0, none⟩), s) := by
 obtain ⟨fl, h1, h2, h3, h4⟩ := h.blt.head h.blk
 unfold evConvMem
 rw [hs, hd]
 simp only [h.blk.rd, hi, h1, h4, Nat.beq_refl, blt_of h0, Nat.ble_eq_true_of_le hl]
theorem bytesOk_vals : ∀ l : List UInt8, bytesOk (byteVals l) = true
 | [] => rfl
 | b :: l => by
   show (match Nat.blt b.toNat 256 with
    | true => bytesOk (byteVals l)
    | false => false) = true
   rw [blt_of b.toNat_lt]
   exact bytesOk_vals l
/-- A buffer's bytes become a text. -/
theorem unsafe_str {P : Program} {pt it e8 : TypeId} {i : TypeInfo} (hp : P.underlying pt = some (.pointer e8)) (hi : P.info? e8 = some i) (h1 : i.size = 1) {s : St} (wf : WF s) {k g : Nat} {l : List UInt8} (hb : Blk s k g (byteVals l) 1) (ht : Blt s k (byteVals l) 1 e8) (h0 : l ≠ []) (hl : l.length ≤ 9223372036854775807) :
  ∃ s', evUStr P [pt, it] (.pointer (some ⟨g, 0, none⟩)) (.int .i64 (l.length : Int)) s = some (.string ⟨l.toArray⟩, s') ∧ Kp (fun j => j = k) s s' := by
 obtain ⟨fl, g1, g2, g3, g4⟩ := ht.head hb
 obtain ⟨s', hs, hk, _⟩ := seal_kp wf hb
 refine ⟨s', ?_, hk⟩
 obtain ⟨m, hm⟩ : ∃ m, l.length = m + 1 := ⟨l.length - 1, by have : l.length ≠ 0 := by simpa using h0
                                                             omega⟩
 have hsl : sl (byteVals l) 0 (m + 1) = some (byteVals l) := sl_all (by rw [byteVals_length, hm])
 show (match P.underlying pt, Value.pointer (some ⟨g, 0, none⟩), Value.int .i64 (.ofNat l.length) with
  | some (.pointer _), .pointer none, .int .i64 (.ofNat 0) => some (Value.string ⟨#[]⟩, s)
  | some (.pointer _), .pointer (some _), .int .i64 (.ofNat 0) => some (Value.string ⟨#[]⟩, s)
  | some (.pointer e), .pointer (some a), .int .i64 (.ofNat (m + 1)) => match P.info? e, s.heap.get a.block, s.tys.get a.block, s.rd a.block, s.sealB a.block with
    | some i, some (.cells _ _ 0 _ true), some (t + 1), some cs, some s' => match Nat.beq i.size 1, Nat.beq t e, Nat.beq a.off 0, Nat.ble (m + 1) 9223372036854775807, sl cs 0 (m + 1) with
      | true, true, true, true, some l => match bytesOk l, valBytes l with
        | true, some b => some (Value.string ⟨b.toArray⟩, s')
        | _, _ => none
      | _, _, _, _, _ => none
    | _, _, _, _, _ => none
  | _, _, _ => none) = _
 rw [hp, hm]
 simp only [hi, g1, g4, hb.rd, hs, h1, Nat.beq_refl, Nat.ble_eq_true_of_le (show m + 1 ≤ 9223372036854775807 by omega), hsl, bytesOk_vals, valBytes_byteVals]
end Go.Ev
