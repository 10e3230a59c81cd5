/- A proved evaluator, part 11: pieces of slices, bytes and texts, append, copy. No condition. -/
import Derived.Test.YtmhfkejbahacoaaGreatDoorKViewHoldsE10
import Derived.Lib.ConvBytes
import Derived.Laws.BytesString
import Derived.Lib.Builder
import Derived.Lib.UnsafeStr
noncomputable section
namespace Go.Ev
open Go.RowKit
set_option linter.unusedVariables false
variable [Lk]
set_option linter.unusedSectionVars false

def blkEsz (s : St) (b : Nat) : Option Nat :=
  match s.heap.get b with
  | some (.cells _ _ _ e _) => some e
  | _ => none
theorem Rel.esz {J B0 : Nat} {w0 : World} {β : B} {s : St} {w : World} (h : Rel J B0 w0 β s w) {b e : Nat} {bi : BI} (hb : β b = some bi) (he : blkEsz s b = some e) : bi.esz = e := by
  unfold blkEsz at he
  split at he <;> first | contradiction | skip
  rename_i cs k base e' own hg
  injection he with he; subst he
  cases own with
  | true => exact (h.own b bi _ _ _ _ hb hg).2.1
  | false => exact (h.ro b bi _ _ _ _ hb hg).1

def evSliceMem (P : Program) (t : TypeId) (x : Value) (lo hi mx : Option Value) (s : St) : Option Value :=
  match P.underlying t, x with
  | some (.slice e), .slice (some a) n c => match P.info? e, blkEsz s a.block with
    | some i, some z => match Nat.beq i.size z, bnds n c lo hi mx with
      | true, some (l, h, m) => some (.slice (some ⟨a.block, a.off + l * i.size, none⟩) (h - l) (m - l))
      | _, _ => none
    | _, _ => none
  | some (.slice e), .slice none 0 0 => match bnds 0 0 lo hi mx, P.info? e with
    | some _, some _ => some (.slice none 0 0)
    | _, _ => none
  | some (.array n e), .pointer (some a) => match P.info? e, blkEsz s a.block, s.rd a.block with
    | some i, some z, some cs => match Nat.beq i.size z, Nat.blt 0 (n * i.size), Nat.ble (a.off + n * i.size) cs.length, s.heap.get a.block with
      | true, true, true, some (.cells _ _ _ _ true) => match bnds n n lo hi mx with
        | some (l, h, m) => some (.slice (some ⟨a.block, a.off + l * i.size, none⟩) (h - l) (m - l))
        | none => none
      | _, _, _, _ => none
    | _, _, _ => none
  | _, _ => none

theorem sliceMem_sim {P : Program} {J B0 : Nat} {w0 : World} {β : B} {s : St} {w : World} {t : TypeId} {x x' r : Value} {lo hi mx lo' hi' mx' : Option Value} (hR : Rel J B0 w0 β s w) (h : evSliceMem P t x lo hi mx s = some r) (hx : VR β x x')
    (h1 : OV β lo lo') (h2 : OV β hi hi') (h3 : OV β mx mx') : ∃ r', VR β r r' ∧ (Instr.sliceAt t x' lo' hi' mx').run P w = .ok r' w := by
  unfold evSliceMem at h
  split at h
  · rename_i e a n c hu
    cases hx with | slice hn hs =>
    rename_i a' c'
    split at h <;> first | contradiction | skip
    rename_i i z hi' hz
    split at h <;> first | contradiction | skip
    rename_i l h0 m hsz hb
    injection h with h; subst h
    have hsz := Nat.eq_of_beq_eq_true hsz
    obtain ⟨bi, s1, s2, s3, s4, s5, s6, s7⟩ := hs
    have hez := hR.esz s1 hz
    obtain ⟨m', q1, q2, q3, q4, q5⟩ := bnds_sim (P := P) (isS := true) hb h1 h2 h3 hn s6
    refine ⟨.slice (some (if m' = l then a' else a'.add (l * i.size))) (h0 - l) (m' - l), .slice (by omega) ⟨bi, s1, rfl, ?_, ?_, ?_, by omega, ?_⟩, ?_⟩
    · split
      · exact s3
      · cases a'; simp only at s3; subst s3; rw [addr_add]
    · split
      · exact s4
      · cases a'; simp only at s3; subst s3; rw [addr_add]; exact s4
    · by_cases hml : m' = l
      · exact .inl (by omega)
      · refine .inr ?_
        rw [if_neg hml]
        cases a'
        simp only at s3; subst s3
        rw [addr_add]
        simp only at s5 ⊢
        rcases s5 with g | g <;> omega
    · by_cases hml : m' = l
      · rw [if_pos hml, hml, Nat.sub_self, Nat.zero_mul]; omega
      · rw [if_neg hml]
        cases a'
        simp only at s3; subst s3
        rw [addr_add]
        simp only at s7 ⊢
        rw [hez, ← hsz] at *
        have e1 : l * i.size + (m' - l) * i.size = m' * i.size := by rw [← Nat.add_mul]; congr 1; omega
        have e2 : m' * i.size ≤ c' * i.size := Nat.mul_le_mul_right _ q4
        omega
    · have := q5 w
      simp only [Instr.sliceAt, Instr.slice, Sem.run_bind, Sem.run_pure, Result.andThen_ok, run_underlying' hu, this, run_sizeOf' hi']
      split <;> rfl
  · rename_i e hu
    cases hx
    split at h <;> first | contradiction | skip
    rename_i b i hb hi0
    obtain ⟨l, h0, m⟩ := b
    injection h with h; subst h
    obtain ⟨m', q1, q2, q3, q4, q5⟩ := bnds_sim (P := P) (isS := true) hb h1 h2 h3 (Nat.le_refl _) (Nat.le_refl _)
    have hm : m' = 0 := by omega
    have hl : l = 0 := by omega
    have hh : h0 = 0 := by omega
    subst hm hl hh
    refine ⟨_, .nils, ?_⟩
    have := q5 w
    simp only [Instr.sliceAt, Instr.slice, Sem.run_bind, Sem.run_pure, Result.andThen_ok, run_underlying' hu, this, run_sizeOf' hi0]
    rfl
  · rename_i n e a hu
    cases hx with | ptr ha =>
    obtain ⟨bi, hb, hs, rfl⟩ := ha
    split at h <;> first | contradiction | skip
    rename_i i z cs hi' hz hr
    split at h <;> first | contradiction | skip
    rename_i cs2 k base ez hsz hpos hle hg
    split at h <;> first | contradiction | skip
    rename_i l h0 m hbn
    injection h with h; subst h
    have hsz := Nat.eq_of_beq_eq_true hsz
    have hpos : 0 < n * i.size := by simpa [Nat.blt_eq] using hpos
    have hle := Nat.le_of_ble_eq_true hle
    have hez := hR.esz hb hz
    obtain ⟨m', q1, q2, q3, q4, q5⟩ := bnds_sim (P := P) (isS := false) hbn h1 h2 h3 (Nat.le_refl _) (Nat.le_refl _)
    obtain ⟨C, e0, fr, hC, hcell⟩ := hR.rd _ _ _ hb hr
    obtain ⟨_, _, _, C1, e1, fr1, hC1, hlim, _⟩ := hR.own _ _ _ _ _ _ hb hg
    rw [hC] at hC1; injection hC1 with hC1; injection hC1 with c1; subst c1
    have hin : a.off + n * i.size + bi.sh ≤ bi.lim := by
      obtain ⟨y, hy⟩ : ∃ y, cs[a.off + n * i.size - 1]? = some y := ⟨_, List.getElem?_eq_getElem (by omega)⟩
      obtain ⟨y', hy', _⟩ := hcell _ _ hy
      rcases Nat.lt_or_ge (a.off + n * i.size - 1 + bi.sh) C.size with g | g
      · omega
      · rw [Array.getElem?_eq_none g] at hy'; cases hy'
    refine ⟨.slice (some (if m' = l then ⟨bi.blk, a.off + bi.sh, none⟩ else (⟨bi.blk, a.off + bi.sh, none⟩ : Addr).add (l * i.size))) (h0 - l) (m' - l), .slice (by omega) ⟨bi, hb, rfl, ?_, ?_, ?_, by omega, ?_⟩, ?_⟩
    · split
      · rfl
      · rw [addr_add]
    · split
      · rfl
      · rw [addr_add]
    · by_cases hml : m' = l
      · exact .inl (by omega)
      · refine .inr ?_
        rw [if_neg hml, addr_add]
        simp only; omega
    · by_cases hml : m' = l
      · rw [if_pos hml, hml, Nat.sub_self, Nat.zero_mul]; simp only; omega
      · rw [if_neg hml, addr_add]
        simp only
        rw [hez, ← hsz]
        have e1 : l * i.size + (m' - l) * i.size = m' * i.size := by rw [← Nat.add_mul]; congr 1; omega
        have e2 : m' * i.size ≤ n * i.size := Nat.mul_le_mul_right _ q4
        omega
    · have := q5 w
      simp only [Instr.sliceAt, Instr.sureAddr, Sem.run_bind, Sem.run_pure, Result.andThen_ok, run_underlying' hu, this, run_sizeOf' hi']
  · cases h

/-! ### texts and bytes -/
def byteVals (l : List UInt8) : List Value := l.map fun b => .int .u8 b.toNat
def valBytes : List Value → Option (List UInt8)
  | [] => some []
  | .int .u8 n :: r => match valBytes r with
    | some l => some (UInt8.ofNat n.toNat :: l)
    | none => none
  | _ => none
theorem valBytes_LR {β : B} : ∀ {l l' : List Value} {bsx : List UInt8}, valBytes l = some bsx → LR β l l' → ∃ ns : List Int, l' = ns.map (Value.int .u8) ∧ bsx = ns.map fun n => UInt8.ofNat n.toNat
  | [], _, _, h, hl => by cases hl; simp only [valBytes] at h; injection h with h; subst h; exact ⟨[], rfl, rfl⟩
  | v :: r, _, _, h, hl => by
    cases hl with | cons hv ht =>
    cases v with
    | int k n =>
      cases k with
      | u8 =>
        cases hv
        simp only [valBytes] at h
        split at h <;> first | contradiction | skip
        rename_i l0 hl0
        injection h with h; subst h
        obtain ⟨ns, h1, h2⟩ := valBytes_LR hl0 ht
        exact ⟨n :: ns, by rw [h1]; rfl, by rw [h2]; rfl⟩
      | _ => simp [valBytes] at h
    | _ => simp [valBytes] at h
theorem foldl_push (f : Int → UInt8) : ∀ (ns : List Int) (b : ByteArray), ns.foldl (fun r n => r.push (f n)) b = ⟨(bs b ++ ns.map f).toArray⟩
  | [], b => by apply ByteArray.ext; apply Array.ext'; simp [bs]
  | n :: ns, b => by
    rw [List.foldl_cons, foldl_push f ns]
    apply ByteArray.ext
    apply Array.ext'
    simp [bs]

def evConvMem (P : Program) (src dst : TypeId) (x : Value) (s : St) : Option (Value × St) :=
  match P.underlying src, P.underlying dst with
  | some .string, some (.slice e) => match P.underlying e, x with
    | some (.int .u8), .string t => some (.slice (some ⟨s.next, 0, none⟩) (bs t).length (bs t).length, s.new (byteVals (bs t)) 1 (e + 1))
    | _, _ => none
  | some (.slice e), some .string => match P.underlying e, x with
    | some (.int .u8), .slice none _ _ => some (.string ⟨#[]⟩, s)
    | some (.int .u8), .slice (some a) n _ => match s.rd a.block with
      | some cs => match sl cs a.off n with
        | some l => match valBytes l with
          | some b => some (.string ⟨b.toArray⟩, s)
          | none => none
        | none => none
      | none => none
    | _, _ => none
  | some (.pointer t), some .unsafePointer => match x with
    | .pointer (some a) => match s.rd a.block, P.info? t with
      | some cs, some i => match Nat.blt a.off cs.length, Nat.blt 0 i.size with
        | true, true => some (.pointer (some ⟨a.block, a.off, none⟩), s)
        | _, _ => none
      | _, _ => none
    | _ => none
  | some .unsafePointer, some (.pointer u) => match x with
    | .pointer (some a) => match s.rd a.block, P.info? u, s.heap.get a.block, s.tys.get a.block with
      | some cs, some i, some (.cells _ _ 0 _ true), some (t + 1) => match Nat.beq t u, Nat.blt 0 i.size, Nat.ble i.size cs.length, Nat.beq a.off 0 with
        | true, true, true, true => some (.pointer (some ⟨a.block, 0, none⟩), s)
        | _, _, _, _ => none
      | _, _, _, _ => none
    | _ => none
  | _, _ => none
theorem convMem_U {P : Program} {src dst : TypeId} {x r : Value} {s s' : St} (wf : WF s) (h : evConvMem P src dst x s = some (r, s')) : U s s' := by
  unfold evConvMem at h
  split at h <;> first | contradiction | skip
  · split at h <;> first | contradiction | skip
    injection h with h; injection h with h1 h2; subst h2
    exact new_U wf _ _ _
  · split at h <;> first | contradiction | skip
    · injection h with h; injection h with h1 h2; subst h2; exact U.refl wf
    · split at h <;> first | contradiction | skip
      split at h <;> first | contradiction | skip
      split at h <;> first | contradiction | skip
      injection h with h; injection h with h1 h2; subst h2; exact U.refl wf
  · repeat' (split at h <;> first | contradiction | skip)
    injection h with h; injection h with h1 h2; subst h2; exact U.refl wf
  · repeat' (split at h <;> first | contradiction | skip)
    injection h with h; injection h with h1 h2; subst h2; exact U.refl wf
theorem slice_addr {β : B} {a a' : Addr} {n c c' : Nat} (hn : n ≤ c) (h : SR β a c a' c') (hpos : 0 < n) : ∃ bi, β a.block = some bi ∧ a' = ⟨bi.blk, a.off + bi.sh, none⟩ := by
  obtain ⟨bi, s1, s2, s3, s4, s5, s6, s7⟩ := h
  refine ⟨bi, s1, ?_⟩
  have : a'.off = a.off + bi.sh := by rcases s5 with g | g <;> omega
  cases a'; simp_all
/-- The cells of a slice. -/
theorem slice_cells {P : Program} {J B0 : Nat} {w0 : World} {β : B} {s : St} {w : World} (hR : Rel J B0 w0 β s w) {a a' : Addr} {n c c' size : Nat} (hn : n ≤ c) (hs : SR β a c a' c') {cs l : List Value} (hr : s.rd a.block = some cs) (hl : sl cs a.off (n * size) = some l) :
    ∃ l', LR β l l' ∧ (loadCells a' (n * size)).run P w = .ok l'.toArray w := by
  rcases Nat.eq_zero_or_pos n with h0 | h0
  · subst h0
    obtain ⟨h1, _⟩ := sl_some hl
    rw [Nat.zero_mul] at h1 ⊢
    obtain rfl := List.length_eq_zero_iff.1 h1
    exact ⟨[], .nil, rfl⟩
  · obtain ⟨bi, hb, rfl⟩ := slice_addr hn hs h0
    exact hR.reads P hb hr hl
theorem convMem_sim {P : Program} {J B0 : Nat} {w0 : World} {β : B} {s s' : St} {w : World} {src dst : TypeId} {x x' r : Value} (hR : Rel J B0 w0 β s w) (wf : WF s) (h : evConvMem P src dst x s = some (r, s')) (hJ : s'.next ≤ J) (hx : VR β x x') :
    MemSim P J B0 w0 β s w (convert src dst x') r s' := by
  unfold evConvMem at h
  split at h <;> first | contradiction | skip
  · rename_i e hs hd
    split at h <;> first | contradiction | skip
    rename_i t he
    cases hx
    injection h with h; injection h with h1 h2; subst h1 h2
    have hsz := Lib.bytesWorld_size w e t
    have hge : t.size ≤ grownCap w t.size 0 e := by unfold grownCap; simp [Question.cut]
    have hC : (Lib.bytesCells w e t).size = grownCap w t.size 0 e := by
      unfold Lib.bytesCells
      have : t.data.size = t.size := rfl
      simp only [Array.size_append, Array.size_map, Array.size_replicate, this]; omega
    refine ⟨_, .slice (some ⟨w.heap.size, 0, none⟩) t.size (grownCap w t.size 0 e), _, sim_newW (w' := Lib.bytesWorld w e t) hR wf hJ (C := Lib.bytesCells w e t) ?_ 1 rfl rfl rfl hsz (fun j hj => Lib.bytesWorld_at_old w e t j hj) (Lib.bytesWorld_at_new w e t) (fun j hj => by simp only; omega) (fun t h => by simp at h; exact h), ?_, Lib.run_convert_string_bytes w src dst e t hs hd he⟩
    · intro i v hv
      refine ⟨v, ?_, ?_⟩
      · have hi : i < t.data.size := by
          simp only [byteVals, bs, List.getElem?_map, Option.map_eq_some_iff] at hv
          obtain ⟨b, hb, _⟩ := hv
          rcases Nat.lt_or_ge i t.data.toList.length with g | g
          · simpa using g
          · rw [List.getElem?_eq_none g] at hb; cases hb
        unfold Lib.bytesCells
        rw [Array.getElem?_append, if_pos (by simpa using hi)]
        simpa [byteVals, bs] using hv
      · simp only [byteVals, bs, List.getElem?_map, Option.map_eq_some_iff] at hv
        obtain ⟨b, hb, rfl⟩ := hv
        exact .int _ _
    · exact .slice (Nat.le_refl _) ⟨_, upd_same _ _ _, rfl, rfl, rfl, .inr rfl, hge, by simp only; omega⟩
  · rename_i e hs hd
    split at h <;> first | contradiction | skip
    · rename_i n c he
      injection h with h; injection h with h1 h2; subst h1 h2
      cases hx
      refine ⟨β, .string .empty, w, .refl hR, ?_, ?_⟩
      · exact .string _
      · simp [convert, run_underlying' hs, run_underlying' hd, run_underlying' he, Conv.bytesToString]
    · rename_i a n c he
      cases hx with | slice hn hsr =>
      rename_i a' c'
      split at h <;> first | contradiction | skip
      rename_i cs hr
      split at h <;> first | contradiction | skip
      rename_i l hl
      split at h <;> first | contradiction | skip
      rename_i b hb
      injection h with h; injection h with h1 h2; subst h1 h2
      obtain ⟨l', hl', hrun⟩ := slice_cells (P := P) (size := 1) hR hn hsr hr (by simpa using hl)
      obtain ⟨ns, e1, e2⟩ := valBytes_LR hb hl'
      rw [Nat.mul_one, e1] at hrun
      refine ⟨β, _, w, .refl hR, .string _, ?_⟩
      have := run_bytesToString (P := P) w a' n c' ns hrun
      rw [foldl_push] at this
      simp only [convert, Sem.run_bind, run_underlying' hs, run_underlying' hd, run_underlying' he, Result.andThen_ok]
      rw [this, e2]
      rfl
  · rename_i t hs hd
    split at h <;> first | contradiction | skip
    rename_i a
    split at h <;> first | contradiction | skip
    rename_i cs i hr hi
    split at h <;> first | contradiction | skip
    rename_i hlt hpos
    injection h with h; injection h with h1 h2; subst h1 h2
    have hlt : a.off < cs.length := by simpa [Nat.blt_eq] using hlt
    have hpos : 0 < i.size := by simpa [Nat.blt_eq] using hpos
    cases hx with | ptr ha =>
    obtain ⟨bi, hb, hsp, rfl⟩ := ha
    obtain ⟨C, e, fr, hC, hcell⟩ := hR.rd _ _ _ hb hr
    obtain ⟨v', hv', _⟩ := hcell a.off cs[a.off] (by simp [hlt])
    have hin : a.off + bi.sh < C.size := (Array.getElem?_eq_some_iff.1 hv').1
    refine ⟨β, _, w, .refl hR, .ptr ⟨bi, hb, rfl, rfl⟩, ?_⟩
    exact Lib.run_to_unsafe w ⟨bi.blk, a.off + bi.sh, none⟩ hs hd hi (e := e) (cells := C.size) (by omega) (by simp [World.shape?, hC]) hin
  · rename_i u hs hd
    split at h <;> first | contradiction | skip
    rename_i a
    split at h <;> first | contradiction | skip
    rename_i cs i cs2 k ez t hr hi hg hty
    split at h <;> first | contradiction | skip
    rename_i htu hpos hle hoff
    injection h with h; injection h with h1 h2; subst h1 h2
    have htu := Nat.eq_of_beq_eq_true htu
    subst htu
    have hpos : 0 < i.size := by simpa [Nat.blt_eq] using hpos
    have hle := Nat.le_of_ble_eq_true hle
    have hoff := Nat.eq_of_beq_eq_true hoff
    cases hx with | ptr ha =>
    obtain ⟨bi, hb, hsp, rfl⟩ := ha
    obtain ⟨_, _, _, C, e, fr, hC, hlim, hsh, htt, _⟩ := hR.own _ _ _ _ _ _ hb hg
    have hsh := hsh rfl
    have htt := htt _ hty
    subst htt
    obtain ⟨C1, e1, fr1, hC1, hcell⟩ := hR.rd _ _ _ hb hr
    rw [hC] at hC1; injection hC1 with hC1; injection hC1 with c1; subst c1
    obtain ⟨v', hv', _⟩ := hcell (i.size - 1) (cs[i.size - 1]'(by omega)) (List.getElem?_eq_getElem (by omega))
    have hin : i.size - 1 + bi.sh < C.size := (Array.getElem?_eq_some_iff.1 hv').1
    have hce : P.cellsOf e = i.size := by simp [Program.cellsOf, hi]
    have hlies : liesAt P P.depth e (C.size / P.cellsOf e) 0 e 1 = true := by
      have hd : P.depth = (2 * (P.types.size + Made.depth) + 1) + 1 := rfl
      have h1 : 1 ≤ C.size / i.size := by rw [Nat.le_div_iff_mul_le hpos]; omega
      rw [hd]
      simp only [liesAt, Bool.or_eq_true]
      left
      rw [hd]
      simp [rowAt, hce, sameLayout]
      exact ⟨by omega, .inl h1⟩
    refine ⟨β, _, w, .refl hR, .ptr ⟨bi, hb, rfl, rfl⟩, ?_⟩
    have e0 : (⟨bi.blk, a.off + bi.sh, none⟩ : Addr) = ⟨bi.blk, 0, none⟩ := by rw [hoff, hsh]
    have e1 : (⟨bi.blk, 0 + bi.sh, none⟩ : Addr) = ⟨bi.blk, 0, none⟩ := by rw [hsh]
    simp only at e0 e1 ⊢
    rw [e0, e1]
    exact Lib.run_from_unsafe w ⟨bi.blk, 0, none⟩ hs hd hi (e := e) (cells := C.size) (by simp [World.shape?, hC]) hlies

end Go.Ev
