/- What the functions of slab do: reading, writing, the rest. No condition. -/
import Derived.Test.YtfbdnmcncgbifaaB1
noncomputable section
namespace Go.Ev
open Go.Proofs
set_option linter.unusedVariables false
set_option maxRecDepth 100000

theorem slice_mid {s : St} {κ : Option Nat} {v : Value} {l : List UInt8} (h : Sb s κ v l) (k : IntKind) {i j : Nat} (hi : i ≤ j) (hj : j ≤ l.length) :
    ∃ v', evSliceMem Try.prog 32 v (some (.int k (i : Int))) (some (.int k (j : Int))) none s = some v' ∧ Sb s κ v' ((l.drop i).take (j - i)) := by
  obtain ⟨v', e, h'⟩ := slice_sl B26 h k k (some i) (some j) (by simpa using hi) (by simpa using hj)
  refine ⟨v', e, Sb.of (n := j - i) ?_⟩
  simpa [drop_bytes, take_bytes] using h'
theorem slice_from_val {s : St} {b : Nat} (he : blkEsz s b = some 1) (k : IntKind) {i n : Nat} (hi : i ≤ n) :
    evSliceMem Try.prog 32 (.slice (some ⟨b, 0, none⟩) n n) (some (.int k (i : Int))) none none s = some (.slice (some ⟨b, 0 + i * 1, none⟩) (n - i) (n - i)) := by
  obtain ⟨j, hi1, hi2, hi3, hi4⟩ := B26.hi
  have hb : bnds n n (some (.int k (i : Int))) none none = some (i, n, n) := by
    unfold bnds
    simp only [bnd_nat hi]
  unfold evSliceMem; rw [B26.hu]; simp only [hi1, he, hi2, Nat.beq_refl, hb]
theorem SL.has_iff {σ : SL} {a n : Int} : σ.has a n = true ↔ σ.dead = false ∧ 0 ≤ a ∧ 0 ≤ n ∧ a ≤ (σ.b.length : Int) ∧ n ≤ (σ.b.length : Int) - a := by
  simp [SL.has]
theorem read_spec {s : St} (wf : WF s) {p : Value} {ks kb : Nat} {σ : SL} (h : SlabAt s p ks kb σ) (at_ n : Int) :
    Cw Try.prog 15 [p, .int .i64 at_, .int .i64 n] s fun r s' => K0 s s' ∧ ((σ.read at_ n = none ∧ r = .tuple #[.slice none 0 0, .bool false]) ∨ ∃ l v, σ.read at_ n = some l ∧ r = .tuple #[v, .bool true] ∧ Ob s.next s' v l) := by
  have h0 := h
  obtain ⟨bs, bb, rfl, g1, g2⟩ := h.ex
  have hlen := h.len
  refine Cw.enter Try.func15 rfl rfl ?_
  conv => whnf
  refine (has_spec h0 at_ n).mono ?_
  rintro r s' ⟨rfl, rfl⟩
  conv => whnf
  cases hh : σ.has at_ n with
  | false =>
    refine Br.yes rfl ?_
    conv => whnf
    exact ⟨⟨Kp.refl wf, .inl ⟨by simp [SL.read, hh], rfl⟩⟩⟩
  | true =>
    refine Br.no rfl ?_
    conv => whnf
    have hb := SL.has_iff.1 hh
    refine Om.of _ (load_cell Try.underlying32 rfl rfl g1.rd rfl) ?_
    conv => whnf
    have sb : Sb s' (some kb) (.slice (some ⟨bb, 0, none⟩) σ.b.length σ.b.length) σ.b := Own.sl ⟨bb, rfl, g2, by simp [byteVals]⟩
    obtain ⟨v, e, hv⟩ := slice_mid sb .i64 (i := at_.toNat) (j := at_.toNat + n.toNat) (by omega) (by omega)
    have e1 : ((at_.toNat : Nat) : Int) = at_ := by omega
    have e2 : ((at_.toNat + n.toNat : Nat) : Int) = IntKind.i64.wrap (at_ + n) := by rw [wrap_i64 (by omega) (by omega)]; omega
    rw [e1, e2] at e
    refine Om.of v e ?_
    conv => whnf
    refine (clone_spec wf hv (by simp; omega)).mono ?_
    rintro v2 s2 ⟨k2, o2⟩
    conv => whnf
    refine ⟨⟨k2, .inr ⟨_, v2, by simp [SL.read, hh]; rfl, rfl, ?_⟩⟩⟩
    have : at_.toNat + n.toNat - at_.toNat = n.toNat := by omega
    rw [this] at o2
    exact o2
theorem byteVals_all (l : List UInt8) : (byteVals l).all (·.oneCell') = true := byteVals_one l
/-- A copy of bytes into the slab's. -/
theorem copy_slab {s : St} (wf : WF s) {kb bb : Nat} {b : List UInt8} (g : Blk s kb bb (byteVals b) 1) {i : Nat} (hi : i ≤ b.length) {κ : Option Nat} {x : Value} {l : List UInt8} (hx : Sb s κ x l) (hl : i + l.length ≤ b.length) :
    ∃ r s', evCopy Try.prog 32 (.slice (some ⟨bb, 0 + i * 1, none⟩) (b.length - i) (b.length - i)) x s = some (r, s') ∧ Kp (fun j => j = kb) s s' ∧ Blk s' kb bb (byteVals (putB b i l)) 1 := by
  have hmin : min l.length (b.length - i) = l.length := by omega
  obtain ⟨s', e, k, g'⟩ := copy_own (n := b.length - i) (c := b.length - i) (off := 0 + i * 1) B26 wf g hx (byteVals_one l) (by rw [hmin]; simp [byteVals]; omega)
  rw [hmin] at e g'
  refine ⟨_, s', e, k, ?_⟩
  have e2 : (byteVals l).take (l.length * 1) = byteVals l := List.take_of_length_le (by simp [byteVals])
  rw [e2, Nat.zero_add, Nat.mul_one, putAt_bytes] at g'
  exact g'
theorem write_spec {s : St} (wf : WF s) {p : Value} {ks kb : Nat} {σ : SL} (h : SlabAt s p ks kb σ) (at_ : Int) {κ : Option Nat} {v : Value} {l : List UInt8} (hv : Sb s κ v l) (hκ : ∀ k, κ = some k → k ≠ ks ∧ k ≠ kb) :
    Cw Try.prog 16 [p, .int .i64 at_, v] s fun r s' => Kp (fun j => j = ks ∨ j = kb) s s' ∧ r = .bool (σ.write at_ l).2 ∧ SlabAt s' p ks kb (σ.write at_ l).1 := by
  have h0 := h
  obtain ⟨bs, bb, rfl, g1, g2⟩ := h.ex
  have hlen := h.len
  have hne := h.ne
  obtain ⟨a, c, rfl⟩ := hv.shape
  refine Cw.enter Try.func16 rfl rfl ?_
  conv => whnf
  refine (has_spec h0 at_ l.length).mono ?_
  rintro r s' ⟨rfl, rfl⟩
  conv => whnf
  cases hh : σ.has at_ l.length with
  | false =>
    refine Br.yes rfl ?_
    conv => whnf
    have : σ.write at_ l = (σ, false) := by simp [SL.write, hh]
    rw [this]
    exact ⟨⟨Kp.refl wf, rfl, h0⟩⟩
  | true =>
    refine Br.no rfl ?_
    conv => whnf
    have hb := SL.has_iff.1 hh
    refine Om.of _ (load_cell Try.underlying3 rfl rfl g1.rd rfl) ?_
    conv => whnf
    obtain ⟨s1, e1, k1, f1⟩ := store_cell (P := Try.prog) (t := 3) rfl rfl wf g1 (off := 0 + 3) (v := .int .i64 (IntKind.i64.wrap (σ.writes + 1))) (by simp [slabCells]) rfl rfl
    refine Om.of s1 e1 ?_
    conv => whnf
    have f2 : Blk s1 kb bb (byteVals σ.b) 1 := k1.blk _ _ _ _ (fun hh => hne hh.symm) g2
    have hv1 := hv.keep k1 (fun k hk => (hκ k hk).1)
    have hat : ((at_.toNat : Nat) : Int) = at_ := by omega
    have goon : ∀ {Q : Prop}, (σ.limits = true → σ.left = 0 → Q) → ((σ.limits = true ∧ σ.left = 0 → False) → Q) → Q := fun a b => by
      by_cases h1 : σ.limits = true ∧ σ.left = 0
      · exact a h1.1 h1.2
      · exact b h1
    refine Om.of _ (load_cell Try.underlying4 rfl rfl f1.rd rfl) ?_
    conv => whnf
    refine goon (fun hlim hleft => ?_) (fun hcut => ?_)
    · have hw : σ.write at_ l = ({ σ with writes := IntKind.i64.wrap (σ.writes + 1), b := putB σ.b at_.toNat (l.take (max 0 (min σ.torn l.length)).toNat), dead := true }, false) := by simp [SL.write, hh, hlim, hleft]
      repeat (refine Br.yes hlim ?_; conv => whnf)
      refine Om.of _ (load_cell Try.underlying3 rfl rfl f1.rd rfl) ?_
      conv => whnf
      have hz : (σ.left == 0) = true := by simp [hleft]
      repeat (first | (refine Br.yes hlim ?_; conv => whnf) | (refine Br.yes hz ?_; conv => whnf))
      refine ⟨[0, 1, 3, 7, 0, 31, 0, 0, 128, 384, 896, 0, 2048, 8064, 16256, 32704, 65535], by decide +kernel, by decide +kernel, ?_⟩
      conv => whnf
      refine Om.of _ (load_cell Try.underlying32 rfl rfl f1.rd rfl) ?_
      conv => whnf
      have e3 := slice_from_val (s := s1) (b := bb) (Blk.esz f2) .i64 (i := at_.toNat) (n := σ.b.length) (by omega)
      rw [hat] at e3
      refine Om.of _ e3 ?_
      conv => whnf
      refine Om.of _ (load_cell Try.underlying3 rfl rfl f1.rd rfl) ?_
      conv => whnf
      have hq : (if (if (l.length : Int) < σ.torn then (l.length : Int) else σ.torn) > 0 then (if (l.length : Int) < σ.torn then (l.length : Int) else σ.torn) else 0) = (((max 0 (min σ.torn l.length)).toNat : Nat) : Int) := by
        split <;> split at * <;> omega
      have hq2 : (max 0 (min σ.torn l.length)).toNat ≤ l.length := by omega
      generalize (max 0 (min σ.torn l.length)).toNat = M at hq hq2 hw ⊢
      obtain ⟨w, e4, hw4⟩ := slice_to hv1 .i64 hq2
      refine Om.of w ((congrArg (fun x => evSliceMem Try.prog 32 (.slice a l.length c) none (some (.int .i64 x)) none s1) hq).trans e4) ?_
      conv => whnf
      obtain ⟨r5, s5, e5, k5, f5⟩ := copy_slab k1.wf.reset f2.reset (i := at_.toNat) (by omega) hw4.reset (by simp; omega)
      refine Om.of (r5, s5) e5 ?_
      conv => whnf
      have k6 := k5.of_reset k1.wf
      have f6 := f5.relow (s := s1)
      have f7 := k6.blk _ _ _ _ (fun hh => hne hh) f1
      obtain ⟨s8, e8, k8, f8⟩ := store_cell (P := Try.prog) (t := 4) rfl rfl k6.wf f7 (off := 0 + 4) (v := .bool true) (by simp [slabCells]) rfl rfl
      have fin : Kp (fun j => j = ks ∨ j = kb) s' s8 ∧ SlabAt s8 (.pointer (some ⟨bs, 0, none⟩)) ks kb (σ.write at_ l).1 := by
        refine ⟨((k1.weak fun k hk => .inl (.inl hk)).trans k6 fun k hk => .inl (.inr hk)).trans k8 fun k hk => .inl (.inl hk), hne, ?_, bs, bb, rfl, ?_, k8.blk _ _ _ _ (fun hh => hne hh.symm) (by rw [hw]; exact f6)⟩
        · rw [hw]; show (putB σ.b at_.toNat (l.take M)).length ≤ 65536
          rw [putB_length _ _ _ (by simp; omega)]; exact hlen
        · rw [hw]
          have e9 : (putB σ.b at_.toNat (l.take M)).length = σ.b.length := putB_length _ _ _ (by simp; omega)
          have : slabCells bb { σ with writes := IntKind.i64.wrap (σ.writes + 1), b := putB σ.b at_.toNat (l.take M), dead := true } = (((slabCells bb σ).set (0 + 3) (.int .i64 (IntKind.i64.wrap (σ.writes + 1)))).set (0 + 4) (.bool true)) := by
            simp only [slabCells, e9]; rfl
          rw [this]; exact f8
      have r2 : (σ.write at_ l).2 = false := by rw [hw]
      rcases Nat.lt_or_ge s5.low s1.next with hlow | hlow
      · refine ⟨.inr ⟨hlow, ?_⟩⟩
        conv => whnf
        refine Om.of s8 e8 ?_
        conv => whnf
        rw [r2]
        exact ⟨⟨fin.1, rfl, fin.2⟩⟩
      · refine ⟨.inl ⟨hlow, ?_⟩⟩
        conv => whnf
        refine Om.of s8 e8 ?_
        conv => whnf
        rw [r2]
        exact ⟨⟨fin.1, rfl, fin.2⟩⟩
    · have hw : σ.write at_ l = ({ σ with writes := IntKind.i64.wrap (σ.writes + 1), left := IntKind.i64.wrap (σ.left - 1), b := putB σ.b at_.toNat l }, true) := by
        simp only [SL.write, hh, if_true]
        rw [if_neg (fun h => hcut h)]
      have fin2 : ∀ {P1 : Prop}, P1 → P1 := fun h => h
      obtain ⟨s2, e2, k2, f3⟩ := store_cell (P := Try.prog) (t := 3) rfl rfl k1.wf f1 (off := 0 + 1) (v := .int .i64 (IntKind.i64.wrap (σ.left - 1))) (by simp [slabCells]) rfl rfl
      have f4 : Blk s2 kb bb (byteVals σ.b) 1 := k2.blk _ _ _ _ (fun hh => hne hh.symm) f2
      have hv2 := hv1.keep k2 (fun k hk => (hκ k hk).1)
      have e3 := slice_from_val (s := s2) (b := bb) (Blk.esz f4) .i64 (i := at_.toNat) (n := σ.b.length) (by omega)
      rw [hat] at e3
      obtain ⟨r5, s5, e5, k5, f5⟩ := copy_slab k2.wf f4 (i := at_.toNat) (by omega) hv2 (by omega)
      have fin : Kp (fun j => j = ks ∨ j = kb) s' s5 ∧ SlabAt s5 (.pointer (some ⟨bs, 0, none⟩)) ks kb (σ.write at_ l).1 := by
        refine ⟨((k1.weak fun k hk => .inl (.inl hk)).trans k2 fun k hk => .inl (.inl hk)).trans k5 fun k hk => .inl (.inr hk), hne, ?_, bs, bb, rfl, ?_, by rw [hw]; exact f5⟩
        · rw [hw]; show (putB σ.b at_.toNat l).length ≤ 65536
          rw [putB_length _ _ _ (by omega)]; exact hlen
        · rw [hw]
          have e9 : (putB σ.b at_.toNat l).length = σ.b.length := putB_length _ _ _ (by omega)
          have : slabCells bb { σ with writes := IntKind.i64.wrap (σ.writes + 1), left := IntKind.i64.wrap (σ.left - 1), b := putB σ.b at_.toNat l } = (((slabCells bb σ).set (0 + 3) (.int .i64 (IntKind.i64.wrap (σ.writes + 1)))).set (0 + 1) (.int .i64 (IntKind.i64.wrap (σ.left - 1)))) := by
            simp only [slabCells, e9]; rfl
          rw [this]; exact k5.blk _ _ _ _ (fun hh => hne hh) f3
      have r2 : (σ.write at_ l).2 = true := by rw [hw]
      cases hlim : σ.limits with
      | false =>
        repeat (refine Br.no rfl ?_; conv => whnf)
        refine Om.of _ (load_cell Try.underlying3 rfl rfl f1.rd rfl) ?_
        conv => whnf
        refine Om.of s2 e2 ?_
        conv => whnf
        refine Om.of _ (load_cell Try.underlying32 rfl rfl f3.rd rfl) ?_
        conv => whnf
        refine Om.of _ e3 ?_
        conv => whnf
        refine Om.of (r5, s5) e5 ?_
        conv => whnf
        rw [r2]
        exact ⟨⟨fin.1, rfl, fin.2⟩⟩
      | true =>
        have hz : (σ.left == 0) = false := by
          rw [beq_eq_false_iff_ne]; exact fun h => hcut ⟨hlim, h⟩
        repeat (refine Br.yes rfl ?_; conv => whnf)
        refine Om.of _ (load_cell Try.underlying3 rfl rfl f1.rd rfl) ?_
        conv => whnf
        repeat (first | (refine Br.yes rfl ?_; conv => whnf) | (refine Br.no hz ?_; conv => whnf))
        refine Om.of _ (load_cell Try.underlying3 rfl rfl f1.rd rfl) ?_
        conv => whnf
        refine Om.of s2 e2 ?_
        conv => whnf
        refine Om.of _ (load_cell Try.underlying32 rfl rfl f3.rd rfl) ?_
        conv => whnf
        refine Om.of _ e3 ?_
        conv => whnf
        refine Om.of (r5, s5) e5 ?_
        conv => whnf
        rw [r2]
        exact ⟨⟨fin.1, rfl, fin.2⟩⟩
end Go.Ev
