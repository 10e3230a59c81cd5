/- What SlabOwn says. No condition. -/
import Derived.Test.YtjkbkofgdikmcaaB6
noncomputable section
namespace Go.Ev
open Go.Proofs
set_option linter.unusedVariables false
set_option maxRecDepth 100000

theorem own_walk {s : St} (wf : WF s) {κb : Option Nat} {vb : Value} {lb : List UInt8} (hb : Sb s κb vb lb) (hlb : lb.length ≤ 140737488351232) {c : Int} (hc : 0 ≤ c ∧ c < 256) :
    Cw Try.prog 5 [vb, .int .u8 c] s fun r _ => r = .bool true := by
  refine Cw.enterS Try.func5 rfl rfl ?_
  refine Sm.seqW ?_
  conv => whnf
  refine Sm.seqW ?_
  conv => whnf
  refine (few_spec wf hb (by omega) 30).mono ?_
  rintro d0 s1 ⟨k1, od⟩
  have ld : (lb.take 30).length ≤ 30 := by simp; omega
  generalize lb.take 30 = D0 at od ld
  conv => whnf
  obtain ⟨v2, s2, e2, o2, k2⟩ := buildSlice1 (x := .int .u8 c) B26 k1.wf rfl
  refine Om.of (v2, s2) e2 ?_
  conv => whnf
  obtain ⟨d, s3, e3, o3, k3⟩ := append_ownN B26 Try.underlying22 rfl k2.wf (Nat.le_trans k1.next k2.next) (od.keep0 k2) (elems_sl o2.sl) rfl rfl (by omega)
  refine Om.of (d, s3) e3 ?_
  conv => whnf
  rw [byte_one hc.1 hc.2, ← byteVals_append] at o3
  have o3 := Ob.of o3
  obtain ⟨w0, D1, hD⟩ : ∃ w0 D1, D0 ++ [UInt8.ofNat c.toNat] = w0 :: D1 := by
    cases D0 with
    | nil => exact ⟨_, _, rfl⟩
    | cons a l => exact ⟨_, _, rfl⟩
  have hDl : (w0 :: D1).length ≤ 31 := by rw [← hD]; simp; omega
  rw [hD] at o3
  obtain ⟨kd, hd1, hd2, od3⟩ := o3.own (by simp)
  obtain ⟨bd, rfl, _⟩ := od3.ex
  have wf3 := k3.wf
  clear od o2 e2 e3 o3 hD
  generalize hLD : (w0 :: D1).length = LD at hDl od3 ⊢
  have hLD0 : 0 < LD := by rw [← hLD]; simp
  refine Sm.weak [(5, .slice (some ⟨bd, 0, none⟩) LD LD)] (.cons rfl (Sub.nil _)) ?_
  refine Sm.seqW ?_
  conv => whnf
  refine (new_spec wf3 40).mono ?_
  rintro p s4 ⟨k4, ks, kb, n1, n2, h4⟩
  conv => whnf
  refine Sm.seqW ?_
  conv => whnf
  refine (new_spec k4.wf 40).mono ?_
  rintro q s5 ⟨k5, js, jb, m1, m2, h5⟩
  have h4' := h4.keep0 k5
  obtain ⟨bp, rfl⟩ := h4.ptr
  obtain ⟨bq, rfl⟩ := h5.ptr
  have g4 := h4.lt k4.wf
  conv => whnf
  refine Sm.weak [(5, .slice (some ⟨bd, 0, none⟩) LD LD), (6, .pointer (some ⟨bp, 0, none⟩)), (7, .pointer (some ⟨bq, 0, none⟩))] (.cons rfl (.cons rfl (.cons rfl (Sub.nil _)))) ?_
  refine Sm.seqW ?_
  conv => whnf
  refine (sknown_spec k5.wf).mono ?_
  rintro r6 s6 ⟨rfl, k6⟩
  conv => whnf
  repeat (first | (refine Br.yes rfl ?_; conv => whnf) | (refine Br.no rfl ?_; conv => whnf))
  refine Om.of (.bool false) rfl ?_
  conv => whnf
  repeat (first | (refine Br.yes rfl ?_; conv => whnf) | (refine Br.no rfl ?_; conv => whnf))
  refine Om.of (.bool false) rfl ?_
  conv => whnf
  repeat (first | (refine Br.yes rfl ?_; conv => whnf) | (refine Br.no rfl ?_; conv => whnf))
  have hp := h4'.keep0 k6
  have hq := h5.keep0 k6
  have od6 := ((od3.keep0 k4).keep0 k5).keep0 k6
  have wf6 := k6.wf
  have hm : (max 1 (min (40 : Int) 65536)).toNat = 40 := by decide
  rw [hm] at hp hq
  refine (write_spec wf6 hp 1 (l := w0 :: D1) (Sb.of od6.sl) (fun j hj => by injection hj with hj; omega)).mono ?_
  rintro r7 s7 ⟨k7, rfl, h7⟩
  rw [SL.write_plain rfl rfl (by omega) (by simp only [List.length_replicate]; omega)] at h7 ⊢
  have hq7 := hq.keep k7 (by omega) (by omega)
  have od7 := od6.keep k7 (by omega)
  have wf7 := k7.wf
  conv => whnf
  repeat (first | (refine Br.yes rfl ?_; conv => whnf) | (refine Br.no rfl ?_; conv => whnf))
  have hback := putB_back (b := List.replicate 40 (0 : UInt8)) (l := w0 :: D1) (i := 1) (by simp; simp at hLD; omega)
  have lW := putB_length (List.replicate 40 (0 : UInt8)) 1 (w0 :: D1) (by simp; simp at hLD; omega)
  obtain ⟨lf, ww, f7⟩ : ∃ a b, SlabAt s7 (.pointer (some ⟨bp, 0, none⟩)) ks kb ⟨putB (List.replicate 40 0) 1 (w0 :: D1), a, 0, b, false, false⟩ := ⟨_, _, h7⟩
  generalize putB (List.replicate 40 (0 : UInt8)) 1 (w0 :: D1) = W at f7 hback lW
  have lW : W.length = 40 := by rw [lW]; simp
  rw [hLD] at hback
  clear h7 hp hq h4 h4' h5
  refine Sm.weak [(5, .slice (some ⟨bd, 0, none⟩) LD LD), (6, .pointer (some ⟨bp, 0, none⟩)), (7, .pointer (some ⟨bq, 0, none⟩))] (.cons rfl (.cons rfl (.cons rfl (Sub.nil _)))) ?_
  -- d[0]
  refine Sm.seqW ?_
  conv => whnf
  obtain ⟨bd', hbd', fbd, eix⟩ := index_own od7 .i64 (i := 0) hLD0
  obtain rfl : bd = bd' := by injection hbd' with h; injection h with h; injection h
  refine Om.of _ eix ?_
  conv => whnf
  refine Om.of _ (load_cell Try.underlying5 rfl rfl fbd.rd (v := .int .u8 (w0.toNat : Int)) rfl) ?_
  conv => whnf
  refine Om.of _ eix ?_
  conv => whnf
  obtain ⟨s8, e8, k8, f8⟩ := store_cell (P := Try.prog) (t := 5) rfl rfl wf7 fbd (off := 0 + 0 * 1) (v := .int .u8 (IntKind.u8.wrap ((w0.toNat : Int) + 1))) (by simp [byteVals]) rfl rfl
  refine Om.of s8 e8 ?_
  conv => whnf
  have f8' := f7.keep k8 (by omega) (by omega)
  have hq8 := hq7.keep k8 (by omega) (by omega)
  have wf8 := k8.wf
  have hDs : (byteVals (w0 :: D1)).set (0 + 0 * 1) (.int .u8 (IntKind.u8.wrap ((w0.toNat : Int) + 1))) = .int .u8 (IntKind.u8.wrap ((w0.toNat : Int) + 1)) :: byteVals D1 := rfl
  rw [hDs] at f8
  refine Sm.weak [(5, .slice (some ⟨bd, 0, none⟩) LD LD), (6, .pointer (some ⟨bp, 0, none⟩)), (7, .pointer (some ⟨bq, 0, none⟩))] (.cons rfl (.cons rfl (.cons rfl (Sub.nil _)))) ?_
  -- x
  refine Sm.seqW ?_
  conv => whnf
  refine (read_spec wf8 f8' 1 (LD : Int)).mono ?_
  rintro r9 s9 ⟨k9, ⟨hr, _⟩ | ⟨l, x, hr, rfl, ox⟩⟩
  · rw [SL.read_plain rfl (by omega) (by omega) (by simp only; omega)] at hr; cases hr
  rw [SL.read_plain rfl (by omega) (by omega) (by simp only; omega)] at hr
  obtain rfl : l = w0 :: D1 := (Option.some.inj hr).symm.trans hback
  have f9 := f8'.keep0 k9
  have hq9 := hq8.keep0 k9
  have bd9 := k9.blk _ _ _ _ (fun h => h) f8
  have wf9 := k9.wf
  obtain ⟨kx, hx1, hx2, ox9⟩ := ox.own (by simp)
  rw [hLD] at ox9
  obtain ⟨bx, rfl, _⟩ := ox9.ex
  conv => whnf
  refine Sm.weak [(5, .slice (some ⟨bd, 0, none⟩) LD LD), (6, .pointer (some ⟨bp, 0, none⟩)), (7, .pointer (some ⟨bq, 0, none⟩)), (8, .slice (some ⟨bx, 0, none⟩) LD LD)] (.cons rfl (.cons rfl (.cons rfl (.cons rfl (Sub.nil _))))) ?_
  have od9 : Own s9 kd (.slice (some ⟨bd, 0, none⟩) LD LD) 1 LD (.int .u8 (IntKind.u8.wrap ((w0.toNat : Int) + 1)) :: byteVals D1) := ⟨bd, rfl, bd9, by simp [byteVals]; simp at hLD; omega⟩
  obtain ⟨bx', hbx', fbx, eixx⟩ := index_own ox9 .i64 (i := 0) hLD0
  obtain rfl : bx = bx' := by injection hbx' with h; injection h with h; injection h
  obtain ⟨bd', hbd2, _, eixd⟩ := index_own od9 .i64 (i := 0) hLD0
  obtain rfl : bd = bd' := by injection hbd2 with h; injection h with h; injection h
  have hne0 : ((LD : Int) != (LD : Int)) = false := by simp
  have hne1 : (IntKind.u8.wrap ((w0.toNat : Int) + 1) != IntKind.u8.wrap ((w0.toNat : Int) + 1)) = false := by simp
  have heq1 : (IntKind.u8.wrap ((w0.toNat : Int) + 1) == IntKind.u8.wrap ((w0.toNat : Int) + 1)) = true := by simp
  have heq0 : ((LD : Int) == (LD : Int)) = true := by simp
  refine Sm.seqW ?_
  conv => whnf
  refine ⟨[0, 1, 0, 4, 15, 31, 63, 127, 255, 511, 63, 1087, 3135, 8191, 16383], by decide +kernel, by decide +kernel, ?_⟩
  conv => whnf
  repeat (refine Br.no hne0 ?_; conv => whnf)
  refine Om.of _ eixx ?_
  conv => whnf
  repeat (refine Br.no hne0 ?_; conv => whnf)
  refine Om.of _ (load_cell Try.underlying5 rfl rfl fbx.rd (v := .int .u8 (w0.toNat : Int)) rfl) ?_
  conv => whnf
  repeat (refine Br.no hne0 ?_; conv => whnf)
  refine Om.of _ eixd ?_
  conv => whnf
  repeat (refine Br.no hne0 ?_; conv => whnf)
  refine Om.of _ (load_cell Try.underlying5 rfl rfl bd9.rd (v := .int .u8 (IntKind.u8.wrap ((w0.toNat : Int) + 1))) rfl) ?_
  conv => whnf
  repeat (first | (refine Br.no hne0 ?_; conv => whnf) | (refine Br.no hne1 ?_; conv => whnf))
  refine Sm.weak [(5, .slice (some ⟨bd, 0, none⟩) LD LD), (6, .pointer (some ⟨bp, 0, none⟩)), (7, .pointer (some ⟨bq, 0, none⟩)), (8, .slice (some ⟨bx, 0, none⟩) LD LD)] (.cons rfl (.cons rfl (.cons rfl (.cons rfl (Sub.nil _))))) ?_
  -- x[0]
  refine Sm.seqW ?_
  conv => whnf
  refine Om.of _ eixx ?_
  conv => whnf
  refine Om.of _ (load_cell Try.underlying5 rfl rfl fbx.rd (v := .int .u8 (w0.toNat : Int)) rfl) ?_
  conv => whnf
  refine Om.of _ eixx ?_
  conv => whnf
  obtain ⟨s10, e10, k10, f10⟩ := store_cell (P := Try.prog) (t := 5) rfl rfl wf9 fbx (off := 0 + 0 * 1) (v := .int .u8 (IntKind.u8.wrap ((w0.toNat : Int) + 3))) (by simp [byteVals]) rfl rfl
  refine Om.of s10 e10 ?_
  conv => whnf
  have g7 := f7.lt wf7
  have gq7 := hq7.lt wf7
  have hn78 := k8.next
  have f11 := f9.keep k10 (by omega) (by omega)
  have hq11 := hq9.keep k10 (by omega) (by omega)
  have hkd := od7.lt wf7
  have bd11 := k10.blk _ _ _ _ (by omega) bd9
  have wf10 := k10.wf
  refine Sm.weak [(5, .slice (some ⟨bd, 0, none⟩) LD LD), (6, .pointer (some ⟨bp, 0, none⟩)), (7, .pointer (some ⟨bq, 0, none⟩))] (.cons rfl (.cons rfl (.cons rfl (Sub.nil _)))) ?_
  -- y
  refine Sm.seqW ?_
  conv => whnf
  refine (read_spec wf10 f11 1 (LD : Int)).mono ?_
  rintro r12 s12 ⟨k12, ⟨hr2, _⟩ | ⟨l, y, hr2, rfl, oy⟩⟩
  · rw [SL.read_plain rfl (by omega) (by omega) (by simp only; omega)] at hr2; cases hr2
  rw [SL.read_plain rfl (by omega) (by omega) (by simp only; omega)] at hr2
  obtain rfl : l = w0 :: D1 := (Option.some.inj hr2).symm.trans hback
  have hq12 := hq11.keep0 k12
  have bd12 := k12.blk _ _ _ _ (fun h => h) bd11
  obtain ⟨ky, hy1, hy2, oy12⟩ := oy.own (by simp)
  rw [hLD] at oy12
  obtain ⟨by_, rfl, _⟩ := oy12.ex
  conv => whnf
  refine Sm.weak [(5, .slice (some ⟨bd, 0, none⟩) LD LD), (7, .pointer (some ⟨bq, 0, none⟩)), (10, .slice (some ⟨by_, 0, none⟩) LD LD)] (.cons rfl (.cons rfl (.cons rfl (Sub.nil _)))) ?_
  -- z
  refine Sm.seqW ?_
  conv => whnf
  refine (read_spec k12.wf hq12 0 40).mono ?_
  rintro r13 s13 ⟨k13, ⟨hr3, _⟩ | ⟨l, z, hr3, rfl, oz⟩⟩
  · rw [SL.read_plain rfl (by omega) (by omega) (by simp)] at hr3; cases hr3
  rw [SL.read_plain rfl (by omega) (by omega) (by simp)] at hr3
  obtain rfl : l = List.replicate 40 0 := (Option.some.inj hr3).symm
  have hq13 := hq12.keep0 k13
  have bd13 := k13.blk _ _ _ _ (fun h => h) bd12
  have oy13 := oy12.keep0 k13
  have wf13 := k13.wf
  conv => whnf
  refine Sm.weak [(5, .slice (some ⟨bd, 0, none⟩) LD LD), (7, .pointer (some ⟨bq, 0, none⟩)), (10, .slice (some ⟨by_, 0, none⟩) LD LD), (12, z), (13, .bool true)] (.cons rfl (.cons rfl (.cons rfl (.cons rfl (.cons rfl (Sub.nil _)))))) ?_
  have od13 : Own s13 kd (.slice (some ⟨bd, 0, none⟩) LD LD) 1 LD (.int .u8 (IntKind.u8.wrap ((w0.toNat : Int) + 1)) :: byteVals D1) := ⟨bd, rfl, bd13, by simp [byteVals]; simp at hLD; omega⟩
  obtain ⟨by', hby', fby, eiyy⟩ := index_own oy13 .i64 (i := 0) hLD0
  obtain rfl : by_ = by' := by injection hby' with h; injection h with h; injection h
  obtain ⟨bd', hbd3, _, eiyd⟩ := index_own od13 .i64 (i := 0) hLD0
  obtain rfl : bd = bd' := by injection hbd3 with h; injection h with h; injection h
  refine Sm.ofW ?_
  conv => whnf
  refine ⟨[0, 1, 0, 4, 15, 31, 63, 127, 255, 511, 63, 1087, 3135, 8191, 16383, 32767, 65535, 131071, 262143, 524287, 1048575, 524287, 2621439, 8388607, 16777215, 33554431, 67108863, 134217727, 268435455, 536870911, 1073741823], by decide +kernel, by decide +kernel, ?_⟩
  conv => whnf
  repeat (refine Br.yes heq0 ?_; conv => whnf)
  refine Om.of _ eiyy ?_
  conv => whnf
  repeat (refine Br.yes heq0 ?_; conv => whnf)
  refine Om.of _ (load_cell Try.underlying5 rfl rfl fby.rd (v := .int .u8 (w0.toNat : Int)) rfl) ?_
  conv => whnf
  repeat (refine Br.yes heq0 ?_; conv => whnf)
  refine Om.of _ eiyd ?_
  conv => whnf
  repeat (refine Br.yes heq0 ?_; conv => whnf)
  refine Om.of _ (load_cell Try.underlying5 rfl rfl bd13.rd (v := .int .u8 (IntKind.u8.wrap ((w0.toNat : Int) + 1))) rfl) ?_
  conv => whnf
  repeat (first | (refine Br.yes heq0 ?_; conv => whnf) | (refine Br.yes heq1 ?_; conv => whnf) | (refine Br.yes rfl ?_; conv => whnf))
  refine Om.of _ (ob_str oz.reset) ?_
  conv => whnf
  refine Dk.same wf13 ?_
  conv => whnf
  repeat (first | (refine Br.yes heq0 ?_; conv => whnf) | (refine Br.yes heq1 ?_; conv => whnf) | (refine Br.yes rfl ?_; conv => whnf))
  obtain ⟨v14, s14, e14, o14, k14⟩ := make_one B26 wf13.reset rfl .i64 .i64 (n := 40) (by omega)
  rw [← byteVals_replicate] at o14
  refine Om.of (v14, s14) e14 ?_
  conv => whnf
  refine Dk.nw (k14.low_reset fun _ h => h.elim) ?_
  have k15 := k14.of_reset wf13
  have wf15 := k15.wf
  have hq15 := hq13.keep0 k15
  have o15 : Sb (relow s13 s14) _ v14 (List.replicate 40 0) := Sb.of o14.relow.sl
  conv => whnf
  repeat (first | (refine Br.yes heq0 ?_; conv => whnf) | (refine Br.yes heq1 ?_; conv => whnf) | (refine Br.yes rfl ?_; conv => whnf))
  refine Om.of _ (string_sl Try.underlying22 Try.underlying9 Try.underlying5 o15.reset) ?_
  conv => whnf
  refine Dk.same wf15 ?_
  conv => whnf
  repeat (first | (refine Br.yes heq0 ?_; conv => whnf) | (refine Br.yes heq1 ?_; conv => whnf) | (refine Br.yes rfl ?_; conv => whnf))
  refine Om.of (.bool true) (congrArg (fun b => some (Value.bool b)) (show (List.replicate 40 (0 : UInt8) == List.replicate 40 0) = true by simp)) ?_
  conv => whnf
  repeat (first | (refine Br.yes heq0 ?_; conv => whnf) | (refine Br.yes heq1 ?_; conv => whnf) | (refine Br.yes rfl ?_; conv => whnf))
  refine (writes_spec (hq15.keep0 (K0.rst wf15))).mono ?_
  rintro r16 s16 ⟨rfl, rfl⟩
  conv => whnf
  refine Dk.same wf15 ?_
  conv => whnf
  repeat (first | (refine Br.yes heq0 ?_; conv => whnf) | (refine Br.yes heq1 ?_; conv => whnf) | (refine Br.yes rfl ?_; conv => whnf))
  exact ⟨rfl⟩
end Go.Ev
