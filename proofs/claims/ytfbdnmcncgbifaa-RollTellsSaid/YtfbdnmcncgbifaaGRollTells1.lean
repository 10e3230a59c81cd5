/- Several texts in one: what the law's text leans on, one behind the other. No condition but those that each theorem names. -/
import Derived.Test.YtfbdnmcncgbifaaH1
import Derived.Test.YtfbdnmcncgbifaaK1
import Derived.Test.YtfbdnmcncgbifaaT1
import Derived.Test.YtfbdnmcncgbifaaM1
import Derived.Test.YtfbdnmcncgbifaaS5
/- What the functions of slab do. No condition. -/
noncomputable section
namespace Go.Ev
open Go.Proofs
set_option linter.unusedVariables false
set_option maxRecDepth 100000

/-- A slab, without a program. -/
structure SL where
  b : List UInt8
  left : Int
  torn : Int
  writes : Int
  dead : Bool
  limits : Bool
def SL.has (σ : SL) (at_ n : Int) : Bool := !σ.dead && (decide (at_ ≥ 0) && (decide (n ≥ 0) && (decide (at_ ≤ (σ.b.length : Int)) && decide (n ≤ (σ.b.length : Int) - at_))))
def putB (b : List UInt8) (i : Nat) (l : List UInt8) : List UInt8 := b.take i ++ l ++ b.drop (i + l.length)
def SL.write (σ : SL) (at_ : Int) (l : List UInt8) : SL × Bool :=
  if σ.has at_ l.length = true then
    (if σ.limits = true ∧ σ.left = 0 then ({ σ with writes := IntKind.i64.wrap (σ.writes + 1), b := putB σ.b at_.toNat (l.take (max 0 (min σ.torn l.length)).toNat), dead := true }, false)
     else ({ σ with writes := IntKind.i64.wrap (σ.writes + 1), left := IntKind.i64.wrap (σ.left - 1), b := putB σ.b at_.toNat l }, true))
  else (σ, false)
def SL.read (σ : SL) (at_ n : Int) : Option (List UInt8) := if σ.has at_ n = true then some ((σ.b.drop at_.toNat).take n.toNat) else none
theorem putB_length (b : List UInt8) (i : Nat) (l : List UInt8) (h : i + l.length ≤ b.length) : (putB b i l).length = b.length := by
  simp [putB]; omega
theorem putAt_bytes (b : List UInt8) (i : Nat) (l : List UInt8) : putAt (byteVals b) i (byteVals l) = byteVals (putB b i l) := by
  simp [putAt, putB, byteVals]
def slabCells (bb : Nat) (σ : SL) : List Value := [.slice (some ⟨bb, 0, none⟩) σ.b.length σ.b.length, .int .i64 σ.left, .int .i64 σ.torn, .int .i64 σ.writes, .bool σ.dead, .bool σ.limits]
/-- The slab that a pointer leads to: its struct is family ks, its bytes are family kb. -/
structure SlabAt (s : St) (p : Value) (ks kb : Nat) (σ : SL) : Prop where
  ne : ks ≠ kb
  len : σ.b.length ≤ 65536
  ex : ∃ bs bb, p = .pointer (some ⟨bs, 0, none⟩) ∧ Blk s ks bs (slabCells bb σ) 6 ∧ Blk s kb bb (byteVals σ.b) 1
theorem SlabAt.keep {X : Nat → Prop} {s s' : St} {p : Value} {ks kb : Nat} {σ : SL} (h : SlabAt s p ks kb σ) (k : Kp X s s') (h1 : ¬ X ks) (h2 : ¬ X kb) : SlabAt s' p ks kb σ := by
  obtain ⟨bs, bb, rfl, g1, g2⟩ := h.ex
  exact ⟨h.ne, h.len, bs, bb, rfl, k.blk _ _ _ _ h1 g1, k.blk _ _ _ _ h2 g2⟩
theorem SlabAt.lt {s : St} {p : Value} {ks kb : Nat} {σ : SL} (wf : WF s) (h : SlabAt s p ks kb σ) : ks < s.next ∧ kb < s.next := by
  obtain ⟨bs, bb, rfl, g1, g2⟩ := h.ex
  have := g1.lt wf
  have := g2.lt wf
  omega

theorem new_spec {s : St} (wf : WF s) (n : Int) : Cw Try.prog 8 [.int .i64 n] s fun r s' => K0 s s' ∧ ∃ ks kb, s.next ≤ ks ∧ s.next ≤ kb ∧ SlabAt s' r ks kb ⟨List.replicate (max 1 (min n 65536)).toNat 0, 0, 0, 0, false, false⟩ := by
  refine Cw.enter Try.func8 rfl rfl ?_
  conv => whnf
  have hm : (if (if 65536 < n then 65536 else n) > 1 then (if 65536 < n then 65536 else n) else 1) = (((max 1 (min n 65536)).toNat : Nat) : Int) := by
    split <;> split at * <;> omega
  have hm2 : (max 1 (min n 65536)).toNat ≤ 65536 := by omega
  generalize hM : (max 1 (min n 65536)).toNat = M at hm hm2 ⊢
  obtain ⟨v1, s1, e1, o1, k1⟩ := make_one B26 wf rfl .i64 .i64 (n := M) (by omega)
  refine Om.of (v1, s1) ((congrArg (fun x => evMakeSlice Try.prog 32 (.int .i64 x) (.int .i64 x) s) hm).trans e1) ?_
  obtain ⟨bb, rfl, hb, hbl⟩ := o1.ex
  conv => whnf
  rw [← byteVals_replicate] at hb
  have hlt := hb.lt k1.wf
  let σ : SL := ⟨List.replicate M 0, 0, 0, 0, false, false⟩
  have hl : σ.b.length = M := by simp [σ]
  obtain ⟨k2, g⟩ := new_kp k1.wf (slabCells bb σ) 6
  refine Om.of (.pointer (some ⟨s1.next, 0, none⟩), s1.new (slabCells bb σ) 6) (by unfold slabCells; rw [hl]; rfl) ?_
  conv => whnf
  exact ⟨⟨k1.then k2, s1.next, s.next, by have := k1.next; omega, Nat.le_refl _, by omega, by simp; omega, s1.next, bb, rfl, g, k2.blk _ _ _ _ (fun h => h) hb⟩⟩
theorem has_spec {s : St} {p : Value} {ks kb : Nat} {σ : SL} (h : SlabAt s p ks kb σ) (at_ n : Int) : Cw Try.prog 33 [p, .int .i64 at_, .int .i64 n] s fun r s' => s' = s ∧ r = .bool (σ.has at_ n) := by
  obtain ⟨bs, bb, rfl, g1, g2⟩ := h.ex
  have hlen := h.len
  refine Cw.enter Try.func33 rfl rfl ?_
  conv => whnf
  refine Om.of (.bool true) rfl ?_
  conv => whnf
  repeat' (first
    | (refine Br.yes (by first | rfl | with_reducible assumption) ?_; conv => whnf)
    | (refine Br.no (by first | rfl | with_reducible assumption) ?_; conv => whnf)
    | (refine Om.of _ (load_cell Try.underlying4 rfl rfl g1.rd rfl) ?_; conv => whnf)
    | (refine Om.of _ (load_cell Try.underlying32 rfl rfl g1.rd rfl) ?_; conv => whnf)
    | (refine Br.mk (fun hq => ?_) (fun hq => ?_) <;> conv => whnf))
  all_goals (refine ⟨⟨rfl, congrArg Value.bool ?_⟩⟩; simp_all [SL.has])
  all_goals first | omega | rw [wrap_i64 (by omega) (by omega)]
end Go.Ev
end

/- What the functions of slab do: reading, writing, the rest. No condition. -/
noncomputable section
namespace Go.Ev
open Go.Proofs
set_option linter.unusedVariables false
set_option maxRecDepth 100000

theorem slice_mid {s : St} {κ : Option Nat} {v : Value} {l : List UInt8} (h : Sb s κ v l) (k : IntKind) {i j : Nat} (hi : i ≤ j) (hj : j ≤ l.length) :
    ∃ v', evSliceMem Try.prog 32 v (some (.int k (i : Int))) (some (.int k (j : Int))) none s = some v' ∧ Sb s κ v' ((l.drop i).take (j - i)) := by
  obtain ⟨v', e, h'⟩ := slice_sl B26 h k k (some i) (some j) (by simpa using hi) (by simpa using hj)
  refine ⟨v', e, Sb.of (n := j - i) ?_⟩
  simpa [drop_bytes, take_bytes] using h'
theorem slice_from_val {s : St} {b : Nat} (he : blkEsz s b = some 1) (k : IntKind) {i n : Nat} (hi : i ≤ n) :
    evSliceMem Try.prog 32 (.slice (some ⟨b, 0, none⟩) n n) (some (.int k (i : Int))) none none s = some (.slice (some ⟨b, 0 + i * 1, none⟩) (n - i) (n - i)) := by
  obtain ⟨j, hi1, hi2, hi3, hi4⟩ := B26.hi
  have hb : bnds n n (some (.int k (i : Int))) none none = some (i, n, n) := by
    unfold bnds
    simp only [bnd_nat hi]
  unfold evSliceMem; rw [B26.hu]; simp only [hi1, he, hi2, Nat.beq_refl, hb]
theorem SL.has_iff {σ : SL} {a n : Int} : σ.has a n = true ↔ σ.dead = false ∧ 0 ≤ a ∧ 0 ≤ n ∧ a ≤ (σ.b.length : Int) ∧ n ≤ (σ.b.length : Int) - a := by
  simp [SL.has]
theorem read_spec {s : St} (wf : WF s) {p : Value} {ks kb : Nat} {σ : SL} (h : SlabAt s p ks kb σ) (at_ n : Int) :
    Cw Try.prog 15 [p, .int .i64 at_, .int .i64 n] s fun r s' => K0 s s' ∧ ((σ.read at_ n = none ∧ r = .tuple #[.slice none 0 0, .bool false]) ∨ ∃ l v, σ.read at_ n = some l ∧ r = .tuple #[v, .bool true] ∧ Ob s.next s' v l) := by
  have h0 := h
  obtain ⟨bs, bb, rfl, g1, g2⟩ := h.ex
  have hlen := h.len
  refine Cw.enter Try.func15 rfl rfl ?_
  conv => whnf
  refine (has_spec h0 at_ n).mono ?_
  rintro r s' ⟨rfl, rfl⟩
  conv => whnf
  cases hh : σ.has at_ n with
  | false =>
    refine Br.yes rfl ?_
    conv => whnf
    exact ⟨⟨Kp.refl wf, .inl ⟨by simp [SL.read, hh], rfl⟩⟩⟩
  | true =>
    refine Br.no rfl ?_
    conv => whnf
    have hb := SL.has_iff.1 hh
    refine Om.of _ (load_cell Try.underlying32 rfl rfl g1.rd rfl) ?_
    conv => whnf
    have sb : Sb s' (some kb) (.slice (some ⟨bb, 0, none⟩) σ.b.length σ.b.length) σ.b := Own.sl ⟨bb, rfl, g2, by simp [byteVals]⟩
    obtain ⟨v, e, hv⟩ := slice_mid sb .i64 (i := at_.toNat) (j := at_.toNat + n.toNat) (by omega) (by omega)
    have e1 : ((at_.toNat : Nat) : Int) = at_ := by omega
    have e2 : ((at_.toNat + n.toNat : Nat) : Int) = IntKind.i64.wrap (at_ + n) := by rw [wrap_i64 (by omega) (by omega)]; omega
    rw [e1, e2] at e
    refine Om.of v e ?_
    conv => whnf
    refine (clone_spec wf hv (by simp; omega)).mono ?_
    rintro v2 s2 ⟨k2, o2⟩
    conv => whnf
    refine ⟨⟨k2, .inr ⟨_, v2, by simp [SL.read, hh]; rfl, rfl, ?_⟩⟩⟩
    have : at_.toNat + n.toNat - at_.toNat = n.toNat := by omega
    rw [this] at o2
    exact o2
/-- A copy of bytes into the slab's. -/
theorem copy_slab {s : St} (wf : WF s) {kb bb : Nat} {b : List UInt8} (g : Blk s kb bb (byteVals b) 1) {i : Nat} (hi : i ≤ b.length) {κ : Option Nat} {x : Value} {l : List UInt8} (hx : Sb s κ x l) (hl : i + l.length ≤ b.length) :
    ∃ r s', evCopy Try.prog 32 (.slice (some ⟨bb, 0 + i * 1, none⟩) (b.length - i) (b.length - i)) x s = some (r, s') ∧ Kp (fun j => j = kb) s s' ∧ Blk s' kb bb (byteVals (putB b i l)) 1 := by
  have hmin : min l.length (b.length - i) = l.length := by omega
  obtain ⟨s', e, k, g'⟩ := copy_own (n := b.length - i) (c := b.length - i) (off := 0 + i * 1) B26 wf g hx (byteVals_one l) (by rw [hmin]; simp [byteVals]; omega)
  rw [hmin] at e g'
  refine ⟨_, s', e, k, ?_⟩
  have e2 : (byteVals l).take (l.length * 1) = byteVals l := List.take_of_length_le (by simp [byteVals])
  rw [e2, Nat.zero_add, Nat.mul_one, putAt_bytes] at g'
  exact g'
theorem write_spec {s : St} (wf : WF s) {p : Value} {ks kb : Nat} {σ : SL} (h : SlabAt s p ks kb σ) (at_ : Int) {κ : Option Nat} {v : Value} {l : List UInt8} (hv : Sb s κ v l) (hκ : ∀ k, κ = some k → k ≠ ks ∧ k ≠ kb) :
    Cw Try.prog 16 [p, .int .i64 at_, v] s fun r s' => Kp (fun j => j = ks ∨ j = kb) s s' ∧ r = .bool (σ.write at_ l).2 ∧ SlabAt s' p ks kb (σ.write at_ l).1 := by
  have h0 := h
  obtain ⟨bs, bb, rfl, g1, g2⟩ := h.ex
  have hlen := h.len
  have hne := h.ne
  obtain ⟨a, c, rfl⟩ := hv.shape
  refine Cw.enter Try.func16 rfl rfl ?_
  conv => whnf
  refine (has_spec h0 at_ l.length).mono ?_
  rintro r s' ⟨rfl, rfl⟩
  conv => whnf
  cases hh : σ.has at_ l.length with
  | false =>
    refine Br.yes rfl ?_
    conv => whnf
    have : σ.write at_ l = (σ, false) := by simp [SL.write, hh]
    rw [this]
    exact ⟨⟨Kp.refl wf, rfl, h0⟩⟩
  | true =>
    refine Br.no rfl ?_
    conv => whnf
    have hb := SL.has_iff.1 hh
    refine Om.of _ (load_cell Try.underlying3 rfl rfl g1.rd rfl) ?_
    conv => whnf
    obtain ⟨s1, e1, k1, f1⟩ := store_cell (P := Try.prog) (t := 3) rfl rfl wf g1 (off := 0 + 3) (v := .int .i64 (IntKind.i64.wrap (σ.writes + 1))) (by simp [slabCells]) rfl rfl
    refine Om.of s1 e1 ?_
    conv => whnf
    have f2 : Blk s1 kb bb (byteVals σ.b) 1 := k1.blk _ _ _ _ (fun hh => hne hh.symm) g2
    have hv1 := hv.keep k1 (fun k hk => (hκ k hk).1)
    have hat : ((at_.toNat : Nat) : Int) = at_ := by omega
    have goon : ∀ {Q : Prop}, (σ.limits = true → σ.left = 0 → Q) → ((σ.limits = true ∧ σ.left = 0 → False) → Q) → Q := fun a b => by
      by_cases h1 : σ.limits = true ∧ σ.left = 0
      · exact a h1.1 h1.2
      · exact b h1
    refine Om.of _ (load_cell Try.underlying4 rfl rfl f1.rd rfl) ?_
    conv => whnf
    refine goon (fun hlim hleft => ?_) (fun hcut => ?_)
    · have hw : σ.write at_ l = ({ σ with writes := IntKind.i64.wrap (σ.writes + 1), b := putB σ.b at_.toNat (l.take (max 0 (min σ.torn l.length)).toNat), dead := true }, false) := by simp [SL.write, hh, hlim, hleft]
      repeat (refine Br.yes hlim ?_; conv => whnf)
      refine Om.of _ (load_cell Try.underlying3 rfl rfl f1.rd rfl) ?_
      conv => whnf
      have hz : (σ.left == 0) = true := by simp [hleft]
      repeat (first | (refine Br.yes hlim ?_; conv => whnf) | (refine Br.yes hz ?_; conv => whnf))
      refine ⟨[0, 1, 3, 7, 0, 31, 0, 0, 128, 384, 896, 0, 2048, 8064, 16256, 32704, 65535], by decide +kernel, by decide +kernel, ?_⟩
      conv => whnf
      refine Om.of _ (load_cell Try.underlying32 rfl rfl f1.rd rfl) ?_
      conv => whnf
      have e3 := slice_from_val (s := s1) (b := bb) (Blk.esz f2) .i64 (i := at_.toNat) (n := σ.b.length) (by omega)
      rw [hat] at e3
      refine Om.of _ e3 ?_
      conv => whnf
      refine Om.of _ (load_cell Try.underlying3 rfl rfl f1.rd rfl) ?_
      conv => whnf
      have hq : (if (if (l.length : Int) < σ.torn then (l.length : Int) else σ.torn) > 0 then (if (l.length : Int) < σ.torn then (l.length : Int) else σ.torn) else 0) = (((max 0 (min σ.torn l.length)).toNat : Nat) : Int) := by
        split <;> split at * <;> omega
      have hq2 : (max 0 (min σ.torn l.length)).toNat ≤ l.length := by omega
      generalize (max 0 (min σ.torn l.length)).toNat = M at hq hq2 hw ⊢
      obtain ⟨w, e4, hw4⟩ := slice_to hv1 .i64 hq2
      refine Om.of w ((congrArg (fun x => evSliceMem Try.prog 32 (.slice a l.length c) none (some (.int .i64 x)) none s1) hq).trans e4) ?_
      conv => whnf
      obtain ⟨r5, s5, e5, k5, f5⟩ := copy_slab k1.wf.reset f2.reset (i := at_.toNat) (by omega) hw4.reset (by simp; omega)
      refine Om.of (r5, s5) e5 ?_
      conv => whnf
      have k6 := k5.of_reset k1.wf
      have f6 := f5.relow (s := s1)
      have f7 := k6.blk _ _ _ _ (fun hh => hne hh) f1
      obtain ⟨s8, e8, k8, f8⟩ := store_cell (P := Try.prog) (t := 4) rfl rfl k6.wf f7 (off := 0 + 4) (v := .bool true) (by simp [slabCells]) rfl rfl
      have fin : Kp (fun j => j = ks ∨ j = kb) s' s8 ∧ SlabAt s8 (.pointer (some ⟨bs, 0, none⟩)) ks kb (σ.write at_ l).1 := by
        refine ⟨((k1.weak fun k hk => .inl (.inl hk)).trans k6 fun k hk => .inl (.inr hk)).trans k8 fun k hk => .inl (.inl hk), hne, ?_, bs, bb, rfl, ?_, k8.blk _ _ _ _ (fun hh => hne hh.symm) (by rw [hw]; exact f6)⟩
        · rw [hw]; show (putB σ.b at_.toNat (l.take M)).length ≤ 65536
          rw [putB_length _ _ _ (by simp; omega)]; exact hlen
        · rw [hw]
          have e9 : (putB σ.b at_.toNat (l.take M)).length = σ.b.length := putB_length _ _ _ (by simp; omega)
          have : slabCells bb { σ with writes := IntKind.i64.wrap (σ.writes + 1), b := putB σ.b at_.toNat (l.take M), dead := true } = (((slabCells bb σ).set (0 + 3) (.int .i64 (IntKind.i64.wrap (σ.writes + 1)))).set (0 + 4) (.bool true)) := by
            simp only [slabCells, e9]; rfl
          rw [this]; exact f8
      have r2 : (σ.write at_ l).2 = false := by rw [hw]
      rcases Nat.lt_or_ge s5.low s1.next with hlow | hlow
      · refine ⟨.inr ⟨hlow, ?_⟩⟩
        conv => whnf
        refine Om.of s8 e8 ?_
        conv => whnf
        rw [r2]
        exact ⟨⟨fin.1, rfl, fin.2⟩⟩
      · refine ⟨.inl ⟨hlow, ?_⟩⟩
        conv => whnf
        refine Om.of s8 e8 ?_
        conv => whnf
        rw [r2]
        exact ⟨⟨fin.1, rfl, fin.2⟩⟩
    · have hw : σ.write at_ l = ({ σ with writes := IntKind.i64.wrap (σ.writes + 1), left := IntKind.i64.wrap (σ.left - 1), b := putB σ.b at_.toNat l }, true) := by
        simp only [SL.write, hh, if_true]
        rw [if_neg (fun h => hcut h)]
      have fin2 : ∀ {P1 : Prop}, P1 → P1 := fun h => h
      obtain ⟨s2, e2, k2, f3⟩ := store_cell (P := Try.prog) (t := 3) rfl rfl k1.wf f1 (off := 0 + 1) (v := .int .i64 (IntKind.i64.wrap (σ.left - 1))) (by simp [slabCells]) rfl rfl
      have f4 : Blk s2 kb bb (byteVals σ.b) 1 := k2.blk _ _ _ _ (fun hh => hne hh.symm) f2
      have hv2 := hv1.keep k2 (fun k hk => (hκ k hk).1)
      have e3 := slice_from_val (s := s2) (b := bb) (Blk.esz f4) .i64 (i := at_.toNat) (n := σ.b.length) (by omega)
      rw [hat] at e3
      obtain ⟨r5, s5, e5, k5, f5⟩ := copy_slab k2.wf f4 (i := at_.toNat) (by omega) hv2 (by omega)
      have fin : Kp (fun j => j = ks ∨ j = kb) s' s5 ∧ SlabAt s5 (.pointer (some ⟨bs, 0, none⟩)) ks kb (σ.write at_ l).1 := by
        refine ⟨((k1.weak fun k hk => .inl (.inl hk)).trans k2 fun k hk => .inl (.inl hk)).trans k5 fun k hk => .inl (.inr hk), hne, ?_, bs, bb, rfl, ?_, by rw [hw]; exact f5⟩
        · rw [hw]; show (putB σ.b at_.toNat l).length ≤ 65536
          rw [putB_length _ _ _ (by omega)]; exact hlen
        · rw [hw]
          have e9 : (putB σ.b at_.toNat l).length = σ.b.length := putB_length _ _ _ (by omega)
          have : slabCells bb { σ with writes := IntKind.i64.wrap (σ.writes + 1), left := IntKind.i64.wrap (σ.left - 1), b := putB σ.b at_.toNat l } = (((slabCells bb σ).set (0 + 3) (.int .i64 (IntKind.i64.wrap (σ.writes + 1)))).set (0 + 1) (.int .i64 (IntKind.i64.wrap (σ.left - 1)))) := by
            simp only [slabCells, e9]; rfl
          rw [this]; exact k5.blk _ _ _ _ (fun hh => hne hh) f3
      have r2 : (σ.write at_ l).2 = true := by rw [hw]
      cases hlim : σ.limits with
      | false =>
        repeat (refine Br.no rfl ?_; conv => whnf)
        refine Om.of _ (load_cell Try.underlying3 rfl rfl f1.rd rfl) ?_
        conv => whnf
        refine Om.of s2 e2 ?_
        conv => whnf
        refine Om.of _ (load_cell Try.underlying32 rfl rfl f3.rd rfl) ?_
        conv => whnf
        refine Om.of _ e3 ?_
        conv => whnf
        refine Om.of (r5, s5) e5 ?_
        conv => whnf
        rw [r2]
        exact ⟨⟨fin.1, rfl, fin.2⟩⟩
      | true =>
        have hz : (σ.left == 0) = false := by
          rw [beq_eq_false_iff_ne]; exact fun h => hcut ⟨hlim, h⟩
        repeat (refine Br.yes rfl ?_; conv => whnf)
        refine Om.of _ (load_cell Try.underlying3 rfl rfl f1.rd rfl) ?_
        conv => whnf
        repeat (first | (refine Br.yes rfl ?_; conv => whnf) | (refine Br.no hz ?_; conv => whnf))
        refine Om.of _ (load_cell Try.underlying3 rfl rfl f1.rd rfl) ?_
        conv => whnf
        refine Om.of s2 e2 ?_
        conv => whnf
        refine Om.of _ (load_cell Try.underlying32 rfl rfl f3.rd rfl) ?_
        conv => whnf
        refine Om.of _ e3 ?_
        conv => whnf
        refine Om.of (r5, s5) e5 ?_
        conv => whnf
        rw [r2]
        exact ⟨⟨fin.1, rfl, fin.2⟩⟩
end Go.Ev
end

/- What the functions of slab do: the small ones. No condition. -/
noncomputable section
namespace Go.Ev
open Go.Proofs
set_option linter.unusedVariables false
set_option maxRecDepth 100000

theorem cut_spec {s : St} (wf : WF s) {p : Value} {ks kb : Nat} {σ : SL} (h : SlabAt s p ks kb σ) (n torn : Int) :
    Cw Try.prog 18 [p, .int .i64 n, .int .i64 torn] s fun r s' => Kp (fun j => j = ks) s s' ∧ SlabAt s' p ks kb { σ with left := n, torn := torn, limits := decide (n ≥ 0) } := by
  obtain ⟨bs, bb, rfl, g1, g2⟩ := h.ex
  have hne := h.ne
  refine Cw.enter Try.func18 rfl rfl ?_
  conv => whnf
  refine Om.of (.bool true) rfl ?_
  conv => whnf
  refine Br.yes rfl ?_
  conv => whnf
  obtain ⟨s1, e1, k1, f1⟩ := store_cell (P := Try.prog) (t := 3) rfl rfl wf g1 (off := 0 + 1) (v := .int .i64 n) (by simp [slabCells]) rfl rfl
  refine Om.of s1 e1 ?_
  conv => whnf
  obtain ⟨s2, e2, k2, f2⟩ := store_cell (P := Try.prog) (t := 3) rfl rfl k1.wf f1 (off := 0 + 2) (v := .int .i64 torn) (by simp [slabCells]) rfl rfl
  refine Om.of s2 e2 ?_
  conv => whnf
  obtain ⟨s3, e3, k3, f3⟩ := store_cell (P := Try.prog) (t := 4) rfl rfl k2.wf f2 (off := 0 + 5) (v := .bool (decide (n ≥ 0))) (by simp [slabCells]) rfl rfl
  refine Om.of s3 e3 ?_
  conv => whnf
  have k := (k1.then k2).then k3
  exact ⟨⟨k, hne, h.len, bs, bb, rfl, f3, k.blk _ _ _ _ (fun hh => hne hh.symm) g2⟩⟩
theorem revive_spec {s : St} (wf : WF s) {p : Value} {ks kb : Nat} {σ : SL} (h : SlabAt s p ks kb σ) :
    Cw Try.prog 19 [p] s fun r s' => Kp (fun j => j = ks) s s' ∧ SlabAt s' p ks kb { σ with dead := false, limits := false } := by
  obtain ⟨bs, bb, rfl, g1, g2⟩ := h.ex
  have hne := h.ne
  refine Cw.enter Try.func19 rfl rfl ?_
  conv => whnf
  refine Om.of (.bool true) rfl ?_
  conv => whnf
  refine Br.yes rfl ?_
  conv => whnf
  obtain ⟨s1, e1, k1, f1⟩ := store_cell (P := Try.prog) (t := 4) rfl rfl wf g1 (off := 0 + 4) (v := .bool false) (by simp [slabCells]) rfl rfl
  refine Om.of s1 e1 ?_
  conv => whnf
  obtain ⟨s2, e2, k2, f2⟩ := store_cell (P := Try.prog) (t := 4) rfl rfl k1.wf f1 (off := 0 + 5) (v := .bool false) (by simp [slabCells]) rfl rfl
  refine Om.of s2 e2 ?_
  conv => whnf
  have k := k1.then k2
  exact ⟨⟨k, hne, h.len, bs, bb, rfl, f2, k.blk _ _ _ _ (fun hh => hne hh.symm) g2⟩⟩
theorem size_spec {s : St} {p : Value} {ks kb : Nat} {σ : SL} (h : SlabAt s p ks kb σ) : Cw Try.prog 28 [p] s fun r s' => s' = s ∧ r = .int .i64 (σ.b.length : Int) := by
  obtain ⟨bs, bb, rfl, g1, g2⟩ := h.ex
  refine Cw.enter Try.func28 rfl rfl ?_
  conv => whnf
  refine Om.of (.bool false) rfl ?_
  conv => whnf
  refine Br.no rfl ?_
  conv => whnf
  refine Om.of _ (load_cell Try.underlying32 rfl rfl g1.rd rfl) ?_
  conv => whnf
  exact ⟨⟨rfl, rfl⟩⟩
end Go.Ev
end

/- What pack.ReadInt does; the helpers. No condition. -/
noncomputable section
namespace Go.Ev
open Go.Proofs
set_option linter.unusedVariables false
set_option maxRecDepth 100000

theorem shl_u64 {P : Program} {t : TypeId} {cst : Bool} {k : IntKind} {a c : Nat} (h : a * 2 ^ c < 18446744073709551616) (hc : c ≤ 64) : evBin P .shl t cst (.int .u64 (a : Int)) (.int k (c : Int)) = some (.int .u64 ((a * 2 ^ c : Nat) : Int)) := by
  show (match decide ((c : Int) < 0) with
    | true => none
    | false => some (Value.int .u64 (IntKind.u64.wrap ((a : Int) * 2 ^ (min ((c : Int)).toNat IntKind.u64.bits))))) = _
  rw [decide_eq_false (by omega)]
  have e : min ((c : Int)).toNat IntKind.u64.bits = c := by
    show min ((c : Int)).toNat 64 = c
    omega
  simp only [e]
  have e2 : (a : Int) * 2 ^ c = ((a * 2 ^ c : Nat) : Int) := by push_cast; rfl
  rw [e2, wrap_u64, Nat.mod_eq_of_lt h]
theorem unz {t : Nat} (h : t < 18446744073709551616) :
    IntKind.i64.wrap ((BitVec.ofInt IntKind.i64.bits (IntKind.i64.wrap ((t : Int).fdiv (2 ^ 1))) ^^^ BitVec.ofInt IntKind.i64.bits (IntKind.i64.wrap (0 - IntKind.i64.wrap (IntKind.u64.wrap ((BitVec.ofInt IntKind.u64.bits (t : Int) &&& BitVec.ofInt IntKind.u64.bits 1).toNat : Int))))).toNat : Int) = Pk.unzig t := by
  have e1 : (t : Int).fdiv (2 ^ 1) = ((t / 2 : Nat) : Int) := by rw [Int.fdiv_eq_ediv_of_nonneg _ (by decide)]; omega
  have e2 : IntKind.u64.wrap ((BitVec.ofInt IntKind.u64.bits (t : Int) &&& BitVec.ofInt IntKind.u64.bits 1).toNat : Int) = ((t % 2 : Nat) : Int) := by
    rw [show (1 : Int) = ((1 : Nat) : Int) from rfl, and_u64 h (by omega), Nat.and_one_is_mod]
  rw [e1, e2, wrap_i64 (n := ((t / 2 : Nat) : Int)) (by omega) (by omega), wrap_i64 (n := ((t % 2 : Nat) : Int)) (by omega) (by omega)]
  unfold Pk.unzig
  by_cases h2 : t % 2 = 0
  · rw [h2, if_pos rfl, show IntKind.i64.wrap (0 - ((0 : Nat) : Int)) = 0 from rfl, xor_i64_0 (by omega) (by omega)]
  · have : t % 2 = 1 := by omega
    rw [this, if_neg (by decide), show IntKind.i64.wrap (0 - ((1 : Nat) : Int)) = -1 from rfl, xor_i64_1 (by omega) (by omega)]
theorem readInt_spec {s : St} (wf : WF s) {κ : Option Nat} {v : Value} {l : List UInt8} (h : Sb s κ v l) (hl : l.length ≤ 150000000000000) :
    Cw Try.prog 55 [v] s fun r s' => K0 s s' ∧ ((Pk.readI l = none ∧ r = .tuple #[.int .i64 0, .slice none 0 0, .int .i64 2]) ∨
      ∃ n rest w, Pk.readI l = some (n, rest) ∧ r = .tuple #[.int .i64 n, w, .int .i64 0] ∧ Ob s.next s' w rest) := by
  obtain ⟨a, c, rfl⟩ := h.shape
  refine Cw.enter Try.func55 rfl rfl ?_
  conv => whnf
  refine Lp.ofS (α := Nat × Nat) (fun x => [(0, .slice a l.length c), (9, .slice a l.length c), (10, .int .i64 (l.length : Int)), (11, .int .i64 (x.1 : Int)), (5, .int .u64 (x.2 : Int))])
    (fun x s' => s' = s ∧ x.1 ≤ l.length ∧ x.1 ≤ 9 ∧ x.2 < 2 ^ (7 * x.1) ∧ Pk.readL 0 0 l = Pk.readL x.1 x.2 (l.drop x.1)) (fun x => l.length - x.1) ?_ (0, 0)
    (.cons rfl (.cons rfl (.cons rfl (.cons rfl (.cons rfl (Sub.nil _)))))) ⟨rfl, by omega, by omega, by decide, by simp⟩
  rintro ⟨k, acc⟩ s1 ⟨rfl, h1, h2, h3, h4⟩
  simp only at h1 h2 h3 h4
  refine Sm.seqW ?_
  conv => whnf
  refine Sm.seqW ?_
  conv => whnf
  refine ⟨fun hc => ?_, fun hc => ?_⟩
  rotate_left
  · have hc := of_decide_eq_false hc
    conv => whnf
    refine ⟨⟨Kp.refl wf, .inl ⟨?_, rfl⟩⟩⟩
    have : l.drop k = [] := List.drop_eq_nil_of_le (by omega)
    rw [this] at h4
    simp [Pk.readI, h4, Pk.readL]
  have hc : k < l.length := by have := of_decide_eq_true hc; omega
  conv => whnf
  refine Sm.seq (Sm.block ?_)
  refine Sm.seqW ?_
  conv => whnf
  obtain ⟨p, x, e1, e2, e3, _, rfl⟩ := index_sl B26 Try.underlying5 rfl h .i64 hc
  obtain ⟨b, hb, hx⟩ : ∃ b : UInt8, l.drop k = b :: l.drop (k + 1) ∧ x = .int .u8 (b.toNat : Int) := by
    refine ⟨l[k], List.drop_eq_getElem_cons hc, ?_⟩
    simp [byteVals, hc] at e2
    exact e2.symm
  subst hx
  refine Om.of _ e1 ?_
  conv => whnf
  refine Om.of _ e3 ?_
  conv => whnf
  refine Sm.seqW ?_
  conv => whnf
  have hbl := b.toNat_lt
  refine Sm.seqC (fun e L' s' => s' = s1 ∧ Sub [(6, .int .i64 (k : Int)), (7, .int .u8 (b.toNat : Int)), (8, .bool (decide ((b.toNat : Int) < 128))), (0, .slice a l.length c), (9, .slice a l.length c), (10, .int .i64 (l.length : Int)), (11, .int .i64 (k : Int)), (5, .int .u64 (acc : Int))] L' ∧
    ((((k = 9 ∧ 1 < b.toNat) ∨ (b.toNat < 128 ∧ b.toNat = 0 ∧ 0 < k)) ∧ e = .exit 0) ∨ (¬ ((k = 9 ∧ 1 < b.toNat) ∨ (b.toNat < 128 ∧ b.toNat = 0 ∧ 0 < k)) ∧ e = .normal))) ?_ ?_
  · conv => whnf
    repeat' (first
      | (refine Br.yes (by with_reducible assumption) ?_; conv => whnf)
      | (refine Br.no (by with_reducible assumption) ?_; conv => whnf)
      | (refine Br.mk (fun hq => ?_) (fun hq => ?_) <;> conv => whnf))
    all_goals (refine ⟨rfl, .cons rfl (.cons rfl (.cons rfl (.cons rfl (.cons rfl (.cons rfl (.cons rfl (.cons rfl (Sub.nil _)))))))), ?_⟩; simp only [beq_iff_eq, beq_eq_false_iff_ne, decide_eq_true_eq, decide_eq_false_iff_not, ne_eq, reduceCtorEq, and_false, and_true, or_false, false_or] at * <;> omega)
  rintro e L' s' ⟨rfl, hs, ⟨hst, rfl⟩ | ⟨hst, rfl⟩⟩
  · conv => whnf
    refine ⟨⟨Kp.refl wf, .inl ⟨?_, rfl⟩⟩⟩
    rw [hb, Pk.readL, if_pos hst] at h4
    simp [Pk.readI, h4]
  refine Sm.weak _ hs ?_
  have hpow : b.toNat % 128 * 2 ^ (7 * k) < 18446744073709551616 := by
    by_cases h9 : k = 9
    · subst h9
      have : b.toNat ≤ 1 := by omega
      have e : (2 : Nat) ^ (7 * 9) = 9223372036854775808 := by decide
      rw [e]; omega
    · have : (2 : Nat) ^ (7 * k) ≤ 2 ^ (7 * 8) := Nat.pow_le_pow_right (by omega) (by omega)
      have e : (2 : Nat) ^ (7 * 8) = 72057594037927936 := by decide
      rw [e] at this
      have h128 : b.toNat % 128 ≤ 127 := by omega
      calc b.toNat % 128 * 2 ^ (7 * k) ≤ 127 * 72057594037927936 := Nat.mul_le_mul h128 this
        _ < 18446744073709551616 := by decide
  have hacc : acc < 18446744073709551616 := by
    have : (2 : Nat) ^ (7 * k) ≤ 2 ^ (7 * 9) := Nat.pow_le_pow_right (by omega) (by omega)
    have e : (2 : Nat) ^ (7 * 9) = 9223372036854775808 := by decide
    omega
  have hsum : acc + b.toNat % 128 * 2 ^ (7 * k) < 18446744073709551616 := by
    rw [← or_shift h3]
    exact Nat.or_lt_two_pow (n := 64) hacc hpow
  have hA : IntKind.u64.wrap (IntKind.u8.wrap ((BitVec.ofInt IntKind.u8.bits (b.toNat : Int) &&& ~~~ BitVec.ofInt IntKind.u8.bits 128).toNat : Int)) = ((b.toNat % 128 : Nat) : Int) := by
    rw [show (128 : Int) = ((128 : Nat) : Int) from rfl, andNot_u8 (by omega) (by omega), and127 _ (by omega), wrap_u64]
    congr 1; omega
  have hB : IntKind.i64.wrap (7 * (k : Int)) = ((7 * k : Nat) : Int) := by rw [wrap_i64 (by omega) (by omega)]; omega
  have hC : IntKind.u64.wrap ((BitVec.ofInt IntKind.u64.bits (acc : Int) ||| BitVec.ofInt IntKind.u64.bits ((b.toNat % 128 * 2 ^ (7 * k) : Nat) : Int)).toNat : Int) = ((acc + b.toNat % 128 * 2 ^ (7 * k) : Nat) : Int) := by
    rw [or_u64 hacc hpow, or_shift h3]
  refine Sm.seqW ?_
  conv => whnf
  refine Om.of (.int .u64 ((b.toNat % 128 * 2 ^ (7 * k) : Nat) : Int)) ((congr (congrArg (fun x y => evBin Try.prog .shl 86 (isConst (.tmp 38) || isConst (.tmp 40)) (.int .u64 x) (.int .i64 y)) hA) hB).trans (shl_u64 hpow (by omega))) ?_
  conv => whnf
  have hk1 : IntKind.i64.wrap ((k : Int) + 1) = ((k + 1 : Nat) : Int) := by rw [wrap_i64 (by omega) (by omega)]; omega
  rw [hb, Pk.readL, if_neg hst] at h4
  refine Sm.seqW ?_
  conv => whnf
  refine Sm.ofW ?_
  conv => whnf
  refine ⟨fun hl => ?_, fun hl => ?_⟩
  · have hlast : b.toNat < 128 := by have := of_decide_eq_true hl; omega
    conv => whnf
    refine Om.of _ rfl ?_
    conv => whnf
    obtain ⟨v2, e5, h5⟩ := slice_sl B26 h .i64 .i64 (some (k + 1)) none (by simp; omega) (by simp)
    refine Om.of v2 ((congrArg (fun x => evSliceMem Try.prog 32 (.slice a l.length c) (some (.int .i64 x)) none none s') hk1).trans e5) ?_
    conv => whnf
    have h6 : Sb s' κ v2 (l.drop (k + 1)) := by
      refine Sb.of (n := l.length - (k + 1)) ?_
      have : ((byteVals l).drop ((k + 1) * 1)).take ((l.length - (k + 1)) * 1) = byteVals (l.drop (k + 1)) := by
        rw [Nat.mul_one, Nat.mul_one, List.take_of_length_le (by simp [byteVals])]
        simp [byteVals]
      rw [← this]
      exact h5
    refine (clone_spec wf h6 (by simp; omega)).mono ?_
    rintro v3 s3 ⟨k3, o3⟩
    conv => whnf
    rw [if_pos hlast] at h4
    refine ⟨⟨k3, .inr ⟨Pk.unzig (acc + b.toNat * 2 ^ (7 * k)), l.drop (k + 1), v3, by simp [Pk.readI, h4], ?_, o3⟩⟩⟩
    have hm : b.toNat % 128 = b.toNat := by omega
    have := unz hsum
    have this := (congrArg (fun x => IntKind.i64.wrap ((BitVec.ofInt IntKind.i64.bits (IntKind.i64.wrap ((x : Int).fdiv (2 ^ 1))) ^^^ BitVec.ofInt IntKind.i64.bits (IntKind.i64.wrap (0 - IntKind.i64.wrap (IntKind.u64.wrap ((BitVec.ofInt IntKind.u64.bits (x : Int) &&& BitVec.ofInt IntKind.u64.bits 1).toNat : Int))))).toNat : Int)) hC).trans this
    exact (congrArg (fun x => Value.tuple #[.int .i64 x, v3, .int .i64 0]) this).trans (by rw [hm])
  · have hlast : ¬ b.toNat < 128 := by have := of_decide_eq_false hl; omega
    conv => whnf
    refine Sm.ofW ?_
    conv => whnf
    have h9 : k ≠ 9 := by omega
    rw [if_neg hlast] at h4
    refine ⟨(k + 1, acc + b.toNat % 128 * 2 ^ (7 * k)), by simp only; omega, .cons rfl (.cons rfl (.cons rfl (.cons (congrArg (fun x => some (Value.int .i64 x)) hk1) (.cons (congrArg (fun x => some (Value.int .u64 x)) hC) (Sub.nil _))))), rfl, by simp only; omega, by simp only; omega, ?_, h4⟩
    simp only
    rw [Pk.pow7]
    have : b.toNat % 128 ≤ 127 := by omega
    have := Nat.mul_le_mul_right (2 ^ (7 * k)) this
    clear hC hA hB hsum hpow hacc h4 e1 e2 e3 hs
    generalize b.toNat % 128 * 2 ^ (7 * k) = q at this ⊢
    generalize 2 ^ (7 * k) = p2 at *
    omega
end Go.Ev
end

/- Texts as bytes: read. No condition. -/
noncomputable section
namespace Go.Ev
open Go.Proofs
set_option linter.unusedVariables false
set_option maxRecDepth 100000

def Pk.readT (l : List UInt8) : Option (List UInt8 × List UInt8) :=
  match Pk.readI l with
  | none => none
  | some (n, rest) => if 0 ≤ n ∧ n ≤ (rest.length : Int) then some (rest.take n.toNat, rest.drop n.toNat) else none
theorem readText_spec {s : St} (wf : WF s) {κ : Option Nat} {v : Value} {l : List UInt8} (h : Sb s κ v l) (hl : l.length ≤ 150000000000000) :
    Cw Try.prog 42 [v] s fun r s' => K0 s s' ∧ ((Pk.readT l = none ∧ r = .tuple #[.string ⟨#[]⟩, .slice none 0 0, .int .i64 2]) ∨
      ∃ a rest w, Pk.readT l = some (a, rest) ∧ r = .tuple #[.string ⟨a.toArray⟩, w, .int .i64 0] ∧ Ob s.next s' w rest) := by
  refine Cw.enterS Try.func42 rfl rfl ?_
  refine Sm.seqW ?_
  conv => whnf
  refine Sm.seqW ?_
  conv => whnf
  refine (readInt_spec wf h hl).mono ?_
  rintro r s1 ⟨k1, ⟨hr, rfl⟩ | ⟨n, rest, w, hr, rfl, ow⟩⟩
  · conv => whnf
    refine Sm.ofW ?_
    conv => whnf
    repeat (first | (refine Br.yes rfl ?_; conv => whnf) | (refine Br.no rfl ?_; conv => whnf))
    exact ⟨k1, .inl ⟨by simp [Pk.readT, hr], rfl⟩⟩
  · obtain ⟨hl2, hn⟩ := Pk.readI_dec hr
    have hrl : rest.length ≤ l.length := by rw [hl2]; simp
    obtain ⟨a, c, rfl⟩ := ow.shape
    conv => whnf
    refine Sm.weak [(3, .slice a rest.length c), (4, .int .i64 0), (5, .int .i64 n)] (.cons rfl (.cons rfl (.cons rfl (Sub.nil _)))) ?_
    refine Sm.seqW ?_
    conv => whnf
    repeat (refine Br.no rfl ?_; conv => whnf)
    by_cases hq : 0 ≤ n ∧ n ≤ (rest.length : Int)
    · have h1 : decide (n < 0) = false := decide_eq_false (by omega)
      have h2 : decide (n > (rest.length : Int)) = false := decide_eq_false (by omega)
      repeat (first | (refine Br.no rfl ?_; conv => whnf) | (refine Br.no h1 ?_; conv => whnf) | (refine Br.no h2 ?_; conv => whnf))
      refine Sm.ofW ?_
      conv => whnf
      refine ⟨[0, 0, 3, 7, 0, 0, 48, 112, 255, 511, 1023], by decide +kernel, by decide +kernel, ?_⟩
      conv => whnf
      obtain ⟨κ, sw, _⟩ := ow.sl
      have hn1 : ((n.toNat : Nat) : Int) = n := by omega
      obtain ⟨w1, e1, f1⟩ := slice_to sw .i64 (n := n.toNat) (by omega)
      rw [hn1] at e1
      refine Om.of w1 e1 ?_
      conv => whnf
      have f1' : Sb (reset s1) κ w1 (rest.take n.toNat) := f1.reset
      refine Om.of _ (string_sl Try.underlying32 Try.underlying9 Try.underlying5 f1') ?_
      conv => whnf
      refine Dk.same k1.wf ?_
      conv => whnf
      obtain ⟨w2, e2, f2⟩ := slice_from sw .i64 (n := n.toNat) (by omega)
      rw [hn1] at e2
      refine Om.of w2 e2 ?_
      conv => whnf
      refine (clone_spec k1.wf.reset f2.reset (by simp; omega)).mono ?_
      rintro w3 s3 ⟨k3, o3⟩
      conv => whnf
      refine Dk.nw (k3.low_reset fun _ h => h.elim) ?_
      conv => whnf
      have k4 := k3.of_reset k1.wf
      refine ⟨k1.then k4, .inr ⟨rest.take n.toNat, rest.drop n.toNat, w3, by simp [Pk.readT, hr, hq], rfl, o3.relow.mono k1.next⟩⟩
    · have hT : Pk.readT l = none := by simp only [Pk.readT, hr]; rw [if_neg hq]
      have hcase : decide (n < 0) = true ∨ (decide (n < 0) = false ∧ decide (n > (rest.length : Int)) = true) := by
        by_cases h0 : n < 0
        · exact .inl (decide_eq_true h0)
        · exact .inr ⟨decide_eq_false h0, decide_eq_true (by omega)⟩
      rcases hcase with h1 | ⟨h1, h2⟩
      · repeat (first | (refine Br.no rfl ?_; conv => whnf) | (refine Br.yes rfl ?_; conv => whnf) | (refine Br.yes h1 ?_; conv => whnf))
        exact ⟨k1, .inl ⟨hT, rfl⟩⟩
      · repeat (first | (refine Br.no rfl ?_; conv => whnf) | (refine Br.yes rfl ?_; conv => whnf) | (refine Br.no h1 ?_; conv => whnf) | (refine Br.yes h2 ?_; conv => whnf))
        exact ⟨k1, .inl ⟨hT, rfl⟩⟩

/-! ### the document's -/
end Go.Ev
end

/- Rolls: a mark's bytes, a number of bytes, bytes put together, a record as bytes. No condition. -/
noncomputable section
namespace Go.Ev
open Go.Proofs
set_option linter.unusedVariables false
set_option maxRecDepth 100000

def bytes8 (h : BitVec 64) : List UInt8 := (List.range 8).map fun i => UInt8.ofNat (h.toNat / 2 ^ (56 - 8 * i) % 256)
theorem bytes8_len (h : BitVec 64) : (bytes8 h).length = 8 := by simp [bytes8]
theorem shr_u64 {P : Program} {t : TypeId} {cst : Bool} {k : IntKind} {a c : Nat} (hc : c ≤ 64) : evBin P .shr t cst (.int .u64 (a : Int)) (.int k (c : Int)) = some (.int .u64 ((a / 2 ^ c : Nat) : Int)) := by
  show (match decide ((c : Int) < 0) with
    | true => none
    | false => some (Value.int .u64 ((a : Int).fdiv (2 ^ (min ((c : Int)).toNat IntKind.u64.bits))))) = _
  rw [decide_eq_false (by omega)]
  have e : min ((c : Int)).toNat IntKind.u64.bits = c := by
    show min ((c : Int)).toNat 64 = c
    omega
  simp only [e]
  have e2 : ((a : Int).fdiv (2 ^ c)) = ((a / 2 ^ c : Nat) : Int) := by
    rw [Int.fdiv_eq_ediv_of_nonneg _ (Int.pow_nonneg (by omega))]; push_cast; rfl
  rw [e2]
theorem mbytes_spec {s : St} (wf : WF s) (h : BitVec 64) : Cw Try.prog 48 [.int .u64 (h.toNat : Int)] s fun r s' => K0 s s' ∧ Ob s.next s' r (bytes8 h) := by
  have hp : Hp (fun _ => False) s [] [] s := Hp.start _ wf _ (by simp)
  refine Cw.enterS Try.func48 rfl rfl ?_
  refine Sm.seqW ?_
  conv => whnf
  refine Sm.seqW ?_
  conv => whnf
  refine Sm.seq ?_
  refine Sm.seqW ?_
  conv => whnf
  refine Sm.block ?_
  refine Sm.loop ?_
  refine Lp.ofS (α := Nat × Option Nat × Value) (fun x => [(0, .int .u64 (h.toNat : Int)), (3, x.2.2), (4, .int .i64 (56 - 8 * (x.1 : Int)))])
    (fun x s' => x.1 ≤ 8 ∧ Hp (fun _ => False) s [] [onA x.2.1 x.2.2 1 x.1 (byteVals ((bytes8 h).take x.1))] s') (fun x => 8 - x.1) ?_ (0, none, .slice none 0 0) (subK_ok (by refine ⟨rfl, rfl, rfl, trivial⟩))
    ⟨by omega, hp.push (.refl wf) ⟨.inl ⟨rfl, rfl, rfl, rfl⟩⟩ fun j hj => by cases hj⟩
  clear hp
  rintro ⟨i, κ, v⟩ s1 ⟨hi, hp⟩
  simp only at hi hp
  obtain ⟨a, c, rfl⟩ := (hp.slF .here).shape
  refine Sm.seq ?_
  refine Sm.ofW ?_
  conv => whnf
  refine Br.mk (fun hc => ?_) (fun hc => ?_)
  · have hc : i ≤ 7 := by have := of_decide_eq_true hc; omega
    conv => whnf
    refine Sm.seq (Sm.block ?_)
    refine Sm.ofW ?_
    conv => whnf
    have e1 : (56 - 8 * (i : Int)) = ((56 - 8 * i : Nat) : Int) := by omega
    refine Om.of _ ((congrArg (fun x => evBin Try.prog .shr 86 _ (.int .u64 (h.toNat : Int)) (.int .i64 x)) e1).trans (shr_u64 (by omega))) ?_
    conv => whnf
    refine hp.one B26 rfl ?_
    clear hp
    intro v2 b2 s2 hp k2
    conv => whnf
    have hx : Sl s2 (some b2) v2 1 1 [.int .u8 (IntKind.u8.wrap ((h.toNat / 2 ^ (56 - 8 * i) : Nat) : Int))] := Own.sl (hp.okF _ List.mem_cons_self)
    refine hp.app B26 Try.underlying32 rfl (by repeat (first | exact Rm.here | apply Rm.there)) (elems_sl hx) rfl rfl (by omega) ?_
    clear hx
    intro v3 κ3 s3 hp
    conv => whnf
    refine Sm.ofW ?_
    conv => whnf
    rw [wrap_u8, byteVals_snoc _ _ (by omega)] at hp
    have e2 : (bytes8 h).take i ++ [UInt8.ofNat (h.toNat / 2 ^ (56 - 8 * i) % 256)] = (bytes8 h).take (i + 1) := by
      rw [List.take_succ_eq_append_getElem (by rw [bytes8_len]; omega)]
      congr 2
      simp [bytes8]
    rw [e2] at hp
    have e3 : IntKind.i64.wrap (56 - 8 * (i : Int) - 8) = 56 - 8 * ((i + 1 : Nat) : Int) := by rw [wi64 (by omega) (by omega)]; omega
    exact ⟨(i + 1, κ3, v3), by (show 8 - (i + 1) < 8 - i); omega, subK_ok (by refine ⟨rfl, rfl, congrArg (fun x => some (Value.int .i64 x)) e3, trivial⟩), by (show i + 1 ≤ 8); omega, hp.pik (by repeat (first | exact Pik.nil | exact Pik.refl _ | exact Rm.here | apply Rm.there | apply Pik.cons | apply Pik.skip))⟩
  · have hc : i = 8 := by have := of_decide_eq_false hc; omega
    subst hc
    conv => whnf
    refine Sm.ofW ?_
    conv => whnf
    rw [List.take_of_length_le (by rw [bytes8_len]; omega)] at hp
    exact ⟨hp.fr, by have := hp.out .here; exact Ob.of this⟩
def num8 (l : List UInt8) : Nat := l.foldl (fun a c => (a * 256 + c.toNat) % 18446744073709551616) 0
theorem number_spec (s : St) {κ : Option Nat} {v : Value} {l : List UInt8} (hv : Sb s κ v l) (hl : l.length ≤ 100000) :
    Cw Try.prog 43 [v] s fun r s' => s' = s ∧ r = .int .i64 (IntKind.i64.wrap (num8 l : Int)) := by
  obtain ⟨a, c, rfl⟩ := hv.shape
  refine Cw.enterS Try.func43 rfl rfl ?_
  refine Sm.seqW ?_
  conv => whnf
  refine Sm.seqW ?_
  conv => whnf
  refine Sm.seq ?_
  refine Sm.seqW ?_
  conv => whnf
  refine Sm.block ?_
  refine Sm.loop ?_
  refine Lp.ofS (α := Nat) (fun i => [(3, .int .u64 (num8 (l.take i) : Int)), (6, .slice a l.length c), (7, .int .i64 (l.length : Int)), (8, .int .i64 (i : Int))])
    (fun i s' => s' = s ∧ i ≤ l.length) (fun i => l.length - i) ?_ 0 (subK_ok (by refine ⟨rfl, rfl, rfl, rfl, trivial⟩)) ⟨rfl, by omega⟩
  rintro i s1 ⟨rfl, hi⟩
  refine Sm.seqW ?_
  conv => whnf
  refine Sm.seqW ?_
  conv => whnf
  refine Br.mk (fun hc => ?_) (fun hc => ?_)
  · have hc : i < l.length := by have := of_decide_eq_true hc; omega
    conv => whnf
    refine Sm.seq (Sm.block ?_)
    refine Sm.seqW ?_
    conv => whnf
    obtain ⟨p, x, e1, e2, e3, _, rfl⟩ := index_sl B26 Try.underlying5 rfl hv .i64 hc
    obtain rfl : x = .int .u8 (l[i].toNat : Int) := by simp [byteVals, hc] at e2; exact e2.symm
    refine Om.of _ e1 ?_
    conv => whnf
    refine Om.of _ e3 ?_
    conv => whnf
    refine Sm.ofW ?_
    conv => whnf
    refine Om.of _ rfl ?_
    conv => whnf
    refine Sm.ofW ?_
    conv => whnf
    have h8 := l[i].toNat_lt
    have hn : num8 (l.take i) < 18446744073709551616 := by
      unfold num8
      cases i with
      | zero => show 0 < 18446744073709551616; decide
      | succ i =>
        rw [List.take_succ_eq_append_getElem (by omega), List.foldl_append]
        exact Nat.mod_lt _ (by decide)
    have e5 : IntKind.u64.wrap ((BitVec.ofInt IntKind.u64.bits (IntKind.u64.wrap ((num8 (l.take i) : Int) * 2 ^ min (Int.toNat 8) IntKind.u64.bits)) ||| BitVec.ofInt IntKind.u64.bits (IntKind.u64.wrap (l[i].toNat : Int))).toNat : Int) = (num8 (l.take (i + 1)) : Int) := by
      have m1 : min (Int.toNat 8) IntKind.u64.bits = 8 := by decide
      have e6 : IntKind.u64.wrap ((num8 (l.take i) : Int) * 2 ^ 8) = ((num8 (l.take i) * 256 % 18446744073709551616 : Nat) : Int) := by
        rw [show ((num8 (l.take i) : Int) * 2 ^ 8) = ((num8 (l.take i) * 256 : Nat) : Int) by push_cast; rfl, wrap_u64]
      have e7 : IntKind.u64.wrap (l[i].toNat : Int) = ((l[i].toNat : Nat) : Int) := by rw [wrap_u64]; omega
      rw [m1, e6, e7, or_u64 (by omega) (by omega)]
      have e8 : num8 (l.take (i + 1)) = (num8 (l.take i) * 256 + l[i].toNat) % 18446744073709551616 := by
        unfold num8
        rw [List.take_succ_eq_append_getElem hc, List.foldl_append]; rfl
      rw [e8]
      have e9 : num8 (l.take i) * 256 % 18446744073709551616 = (num8 (l.take i) % 72057594037927936) * 2 ^ 8 := by omega
      rw [e9, Nat.or_comm, or_shift (by omega)]
      congr 1
      omega
    have e6 : IntKind.i64.wrap ((i : Int) + 1) = ((i + 1 : Nat) : Int) := by rw [wi64 (by omega) (by omega)]; omega
    exact ⟨i + 1, by (show l.length - (i + 1) < l.length - i); omega, subK_ok (by refine ⟨congrArg (fun x => some (Value.int .u64 x)) e5, rfl, rfl, congrArg (fun x => some (Value.int .i64 x)) e6, trivial⟩), rfl, hc⟩
  · have hc : i = l.length := by have := of_decide_eq_false hc; omega
    subst hc
    rw [List.take_of_length_le (Nat.le_refl _)]
    conv => whnf
    refine Sm.ofW ?_
    conv => whnf
    exact ⟨rfl, rfl⟩
end Go.Ev
end

/- Rolls: bytes put together. No condition. -/
noncomputable section
namespace Go.Ev
open Go.Proofs
set_option linter.unusedVariables false
set_option maxRecDepth 100000

theorem R94 : SlT Try.prog 94 32 1 24 (.slice none 0 0) := ⟨Try.underlying94, ⟨_, rfl, rfl, rfl, rfl⟩, rfl, rfl, by decide, by decide⟩
/-- A piece that is to be put to others. -/
structure Pt where
  κ : Option Nat
  v : Value
  b : List UInt8
def ptsA (L : List Pt) : At where
  foot := fun j => ∃ x ∈ L, x.κ = some j
  ok := fun s => ∀ x ∈ L, Sb s x.κ x.v x.b
  keep := fun _ _ _ hk hX h x hx => (h x hx).keep hk fun k hk => hX k ⟨x, hx, hk⟩
  lt := fun s wf h j hj => by
    obtain ⟨x, hx, hj⟩ := hj
    exact (h x hx).lt wf j hj
  lo := fun s m h x hx => (h x hx).lo m
theorem slice_to_val {s : St} {b off n c j : Nat} (he : blkEsz s b = some 1) (k : IntKind) (hj : j ≤ c) :
    evSliceMem Try.prog 32 (.slice (some ⟨b, off, none⟩) n c) none (some (.int k (j : Int))) none s = some (.slice (some ⟨b, off, none⟩) j c) := by
  obtain ⟨i, hi1, hi2, hi3, hi4⟩ := B26.hi
  have hb : bnds n c none (some (.int k (j : Int))) none = some (0, j, c) := by
    unfold bnds
    simp only [bnd_nat hj]
  unfold evSliceMem; rw [B26.hu]; simp only [hi1, he, hi2, Nat.beq_refl, hb, Nat.zero_mul, Nat.add_zero, Nat.sub_zero]
theorem clip_to_nil (s : St) : evSliceMem Try.prog 32 (.slice none 0 0) none (some (.int .i64 0)) none s = some (.slice none 0 0) := by
  obtain ⟨i, hi1, hi2, hi3, hi4⟩ := B26.hi
  have hb : bnds 0 0 none (some (.int .i64 0)) none = some (0, 0, 0) := rfl
  unfold evSliceMem; rw [B26.hu]; simp only [hb, hi1]
section
variable {X : Nat → Prop} {s0 s : St} {R F G : List At}
theorem grow_spec (hp : Hp X s0 R F s) {m : Nat} (h0 : 0 < m) (hm : m ≤ 1000000000) {K : Value → St → Prop} (hK : ∀ b s', Hp X s0 R (blkA b b (byteVals (List.replicate m 0)) 1 :: F) s' → K0 s s' → K (.slice (some ⟨b, 0, none⟩) 0 m) s') :
    Cw Try.prog 60 [.slice none 0 0, .int .i64 (m : Int)] s K := by
  refine Cw.enterS Try.func60 rfl rfl ?_
  refine Sm.seqW ?_
  conv => whnf
  refine Sm.seq ?_
  refine Sm.seqW ?_
  conv => whnf
  refine Sm.ofW ?_
  conv => whnf
  refine Br.no (by rw [decide_eq_false]; omega) ?_
  conv => whnf
  refine Sm.seq ?_
  refine Sm.seqW ?_
  conv => whnf
  refine Om.of (.int .i64 0) rfl ?_
  conv => whnf
  have e1 : IntKind.i64.wrap ((m : Int) - IntKind.i64.wrap (0 - 0)) = (m : Int) := by
    rw [show IntKind.i64.wrap (0 - 0) = 0 from rfl, wi64 (by omega) (by omega)]; omega
  refine Sm.weak [(0, .slice none 0 0), (1, .int .i64 (m : Int))] (subK_ok ⟨rfl, congrArg (fun x => some (Value.int .i64 x)) e1, trivial⟩) ?_
  refine Sm.seqW ?_
  conv => whnf
  refine Sm.ofW ?_
  conv => whnf
  refine Br.yes (by rw [decide_eq_true]; omega) ?_
  conv => whnf
  refine Om.of (.int .i64 0) rfl ?_
  conv => whnf
  refine Om.of (.slice none 0 0) (clip_to_nil s) ?_
  conv => whnf
  refine hp.appZ (m := m) B26 rfl Try.underlying3 h0 (by omega) ?_
  clear hp
  intro b s1 hp k1
  rw [← byteVals_replicate] at hp
  conv => whnf
  refine Om.of _ (slice_to_val (j := 0) (Blk.esz (hp.blk .here)) .i64 (by omega)) ?_
  conv => whnf
  refine Sm.ofW ?_
  conv => whnf
  exact ⟨hK _ _ hp k1⟩
theorem flat_take (L : List Pt) {i : Nat} (hi : i < L.length) : (L.take (i + 1)).flatMap Pt.b = (L.take i).flatMap Pt.b ++ L[i].b := by
  rw [List.take_succ_eq_append_getElem hi, List.flatMap_append]; simp
theorem flat_len (L : List Pt) {i : Nat} (hi : i ≤ L.length) : ((L.take i).flatMap Pt.b).length ≤ (L.flatMap Pt.b).length := by
  conv => rhs; rw [← List.take_append_drop i L, List.flatMap_append, List.length_append]
  omega
theorem putAt_grow (d l : List UInt8) (n : Nat) (h : d.length + l.length ≤ n) : putAt (byteVals (d ++ List.replicate (n - d.length) 0)) (0 + d.length * 1) (byteVals l) = byteVals ((d ++ l) ++ List.replicate (n - (d ++ l).length) 0) := by
  rw [Nat.zero_add, Nat.mul_one]
  unfold putAt
  rw [byteVals_length, byteVals_append, List.take_left' (byteVals_length d), List.append_assoc, ← List.drop_drop, List.drop_left' (byteVals_length d), byteVals_append, byteVals_append, List.append_assoc]
  congr 2
  rw [byteVals_replicate, byteVals_replicate, List.drop_replicate]
  congr 1
  simp; omega
theorem concat_spec {s : St} (wf : WF s) {κ0 : Option Nat} {xs : Value} (L : List Pt) (hx : Sl s κ0 xs 1 L.length (L.map Pt.v)) (hs : ∀ x ∈ L, Sb s x.κ x.v x.b) (h0 : 0 < (L.flatMap Pt.b).length) (hm : (L.flatMap Pt.b).length ≤ 1000000000) (hL : L.length ≤ 1000) :
    Cw Try.prog 50 [xs] s fun r s' => K0 s s' ∧ Ob s.next s' r (L.flatMap Pt.b) := by
  have hp : Hp (fun _ => False) s [slA κ0 xs 1 L.length (L.map Pt.v), ptsA L] [] s := Hp.start _ wf _ (by simp; exact ⟨hx, hs⟩)
  obtain ⟨a, c, rfl⟩ := hx.shape
  generalize hN : (L.flatMap Pt.b).length = N at h0 hm
  refine Cw.enterS Try.func50 rfl rfl ?_
  refine Sm.seqW ?_
  conv => whnf
  refine Sm.seqW ?_
  conv => whnf
  refine Sm.seq ?_
  refine Sm.seqW ?_
  conv => whnf
  refine Sm.block ?_
  refine Sm.loop ?_
  refine Lp.ofS (α := Nat) (fun i => [(0, .slice a L.length c), (3, .int .i64 (((L.take i).flatMap Pt.b).length : Int)), (9, .slice a L.length c), (10, .int .i64 (L.length : Int)), (11, .int .i64 (i : Int))])
    (fun i s' => s' = s ∧ i ≤ L.length) (fun i => L.length - i) ?_ 0 (subK_ok (by refine ⟨rfl, rfl, rfl, rfl, rfl, trivial⟩)) ⟨rfl, by omega⟩
  rintro i s1 ⟨rfl, hi⟩
  refine Sm.seqW ?_
  conv => whnf
  refine Sm.seqW ?_
  conv => whnf
  refine Br.mk (fun hc => ?_) (fun hc => ?_)
  · have hc : i < L.length := by have := of_decide_eq_true hc; omega
    conv => whnf
    refine Sm.seq (Sm.block ?_)
    refine Sm.seqW ?_
    conv => whnf
    obtain ⟨p, x, e1, e2, e3, _, rfl⟩ := index_sl R94 Try.underlying32 rfl hx .i64 hc
    obtain rfl : x = L[i].v := by simp [hc] at e2; exact e2.symm
    refine Om.of _ e1 ?_
    conv => whnf
    refine Om.of _ e3 ?_
    conv => whnf
    obtain ⟨ai, ci, hsh⟩ := (hs L[i] (List.getElem_mem hc)).shape
    rw [hsh]
    refine Sm.seqW ?_
    conv => whnf
    refine Sm.seqW ?_
    conv => whnf
    have hle := flat_len L (i := i + 1) hc
    rw [flat_take L hc, hN, List.length_append] at hle
    have e5 : IntKind.i64.wrap ((((L.take i).flatMap Pt.b).length : Int) + (L[i].b.length : Int)) = (((L.take (i + 1)).flatMap Pt.b).length : Int) := by
      rw [flat_take L hc, List.length_append, wi64 (by omega) (by omega)]; push_cast; rfl
    rw [e5]
    refine Sm.ofW ?_
    conv => whnf
    refine Br.no (by rw [decide_eq_false]; omega) ?_
    conv => whnf
    refine Sm.ofW ?_
    conv => whnf
    have e6 : IntKind.i64.wrap ((i : Int) + 1) = ((i + 1 : Nat) : Int) := by rw [wi64 (by omega) (by omega)]; omega
    exact ⟨i + 1, by (show L.length - (i + 1) < L.length - i); omega, subK_ok (by refine ⟨rfl, rfl, rfl, rfl, congrArg (fun x => some (Value.int .i64 x)) e6, trivial⟩), rfl, hc⟩
  · have hc : i = L.length := by have := of_decide_eq_false hc; omega
    subst hc
    rw [List.take_of_length_le (Nat.le_refl _), hN]
    conv => whnf
    refine Sm.live [0, 3] ?_
    conv => whnf
    refine Sm.seqW ?_
    conv => whnf
    refine grow_spec hp h0 hm ?_
    clear hp
    intro b s hp _
    conv => whnf
    refine Sm.live [0, 6] ?_
    conv => whnf
    refine Sm.seq ?_
    refine Sm.seqW ?_
    conv => whnf
    refine Sm.block ?_
    refine Sm.loop ?_
    refine Lp.ofS (α := Nat) (fun i => [(6, .slice (some ⟨b, 0, none⟩) ((L.take i).flatMap Pt.b).length N), (25, .slice a L.length c), (26, .int .i64 (L.length : Int)), (27, .int .i64 (i : Int))])
      (fun i s' => i ≤ L.length ∧ Hp (fun _ => False) s1 [slA κ0 (.slice a L.length c) 1 L.length (L.map Pt.v), ptsA L] [blkA b b (byteVals ((L.take i).flatMap Pt.b ++ List.replicate (N - ((L.take i).flatMap Pt.b).length) 0)) 1] s') (fun i => L.length - i) ?_ 0
      (subK_ok (by refine ⟨rfl, rfl, rfl, rfl, trivial⟩)) ⟨by omega, hp⟩
    clear hp
    rintro i s ⟨hi, hp⟩
    refine Sm.seqW ?_
    conv => whnf
    refine Sm.seqW ?_
    conv => whnf
    refine Br.mk (fun hc => ?_) (fun hc => ?_)
    · have hc : i < L.length := by have := of_decide_eq_true hc; omega
      conv => whnf
      refine Sm.seq (Sm.block ?_)
      refine Sm.seqW ?_
      conv => whnf
      obtain ⟨p, x, e1, e2, e3, _, rfl⟩ := index_sl R94 Try.underlying32 rfl (hp.slR .here) .i64 hc
      obtain rfl : x = L[i].v := by simp [hc] at e2; exact e2.symm
      refine Om.of _ e1 ?_
      conv => whnf
      refine Om.of _ e3 ?_
      conv => whnf
      refine Sm.ofW ?_
      conv => whnf
      have hle := flat_len L (i := i + 1) hc
      rw [flat_take L hc, hN, List.length_append] at hle
      have hsi : Sb s L[i].κ L[i].v L[i].b := (hp.okR (ptsA L) (by simp)) L[i] (List.getElem_mem hc)
      refine hp.appIn B26 Try.underlying32 rfl .here (elems_sl hsi) (by simp [byteVals]) (byteVals_one _) hle (by rw [byteVals_length, List.length_append, List.length_replicate]; omega) ?_
      clear hp e1 e3
      intro s hp
      conv => whnf
      rw [putAt_grow _ _ _ hle, ← flat_take L hc] at hp
      refine Sm.ofW ?_
      conv => whnf
      have e6 : IntKind.i64.wrap ((i : Int) + 1) = ((i + 1 : Nat) : Int) := by rw [wi64 (by omega) (by omega)]; omega
      refine ⟨i + 1, by (show L.length - (i + 1) < L.length - i); omega, subK_ok (by refine ⟨?_, rfl, rfl, congrArg (fun x => some (Value.int .i64 x)) e6, trivial⟩; rw [flat_take L hc, List.length_append]; rfl), hc, hp⟩
    · have hc : i = L.length := by have := of_decide_eq_false hc; omega
      subst hc
      rw [List.take_of_length_le (Nat.le_refl _), hN, Nat.sub_self, List.replicate_zero, List.append_nil] at hp
      rw [List.take_of_length_le (Nat.le_refl _), hN]
      conv => whnf
      refine Sm.ofW ?_
      conv => whnf
      have hb := hp.blk (k := b) (b := b) (e := 1) (C := byteVals (L.flatMap Pt.b)) .here
      refine ⟨hp.fr, ⟨.inr ⟨b, ?_, ?_, b, by rw [hN]; rfl, hb, by rw [byteVals_length, Nat.mul_one]⟩⟩⟩
      · rcases hp.own _ List.mem_cons_self b rfl with g | g
        · exact g.elim
        · exact g
      · exact (hb.lt hp.wf).2
end
end Go.Ev
end

/- Rolls: a record as bytes; are two runs of bytes the same? No condition. -/
noncomputable section
namespace Go.Ev
open Go.Proofs
set_option linter.unusedVariables false
set_option maxRecDepth 100000

/-- A record. -/
structure Rr where
  seq : Int
  body : ByteArray
def Rr.cells (r : Rr) : List Value := [.int .i64 r.seq, .string r.body]
def Rr.val (r : Rr) : Value := .agg #[.int .i64 r.seq, .string r.body]
/-- What is marked of a record. -/
def layB (r : Rr) : List UInt8 := bytes8 (BitVec.ofInt 64 r.seq) ++ Pk.encI (bs r.body).length ++ bs r.body ++ [255]
/-- A record's bytes, where it begins in its region. -/
def layF (r : Rr) (at_ : Int) : List UInt8 := [UInt8.ofNat ((128 + (layB r).length / 128) % 256), UInt8.ofNat ((128 + (layB r).length % 128) % 256)] ++ bytes8 (Mk.sum (BitVec.ofInt 64 at_) (layB r)) ++ layB r
theorem u64_of (n : Int) : IntKind.u64.wrap n = ((BitVec.ofInt 64 n).toNat : Int) := wrap_bv n
theorem quo_nat {P : Program} {t : TypeId} {cst : Bool} {n m : Nat} (hm : 0 < m) (hn : n < 9223372036854775808) : evBin P .quo t cst (.int .i64 (n : Int)) (.int .i64 (m : Int)) = some (.int .i64 ((n / m : Nat) : Int)) := by
  show (match decide ((m : Int) = 0) with
    | true => none
    | false => some (Value.int .i64 (IntKind.i64.wrap ((n : Int).tdiv m)))) = _
  rw [decide_eq_false (by omega)]
  have : (n : Int).tdiv m = ((n / m : Nat) : Int) := by rw [Int.tdiv_eq_ediv_of_nonneg (by omega)]; push_cast; rfl
  have h2 : n / m ≤ n := Nat.div_le_self _ _
  rw [this]
  generalize n / m = q at h2
  simp only
  rw [wi64 (by omega) (by omega)]
theorem rem_nat {P : Program} {t : TypeId} {cst : Bool} {n m : Nat} (hm : 0 < m) : evBin P .rem t cst (.int .i64 (n : Int)) (.int .i64 (m : Int)) = some (.int .i64 ((n % m : Nat) : Int)) := by
  show (match decide ((m : Int) = 0) with
    | true => none
    | false => some (Value.int .i64 ((n : Int).tmod m))) = _
  rw [decide_eq_false (by omega)]
  have : (n : Int).tmod m = ((n % m : Nat) : Int) := by rw [Int.tmod_eq_emod_of_nonneg (by omega)]; push_cast; rfl
  rw [this]
theorem laid_spec {z : St} (wf : WF z) (r : Rr) (hb : (bs r.body).length ≤ 100000000) (at_ : Int) :
    Cw Try.prog 32 [r.val, .int .i64 at_] z fun v s' => K0 z s' ∧ Ob z.next s' v (layF r at_) := by
  have hp : Hp (fun _ => False) z [] [] z := Hp.start _ wf _ (by simp)
  have hel := Pk.encI_len (n := ((bs r.body).length : Int)) (by unfold Pk.inR; omega)
  have hlB : (layB r).length = 9 + (Pk.encI ((bs r.body).length : Int)).length + (bs r.body).length := by
    unfold layB; simp [bytes8_len]; omega
  refine Cw.enterS Try.func32 rfl rfl ?_
  refine Sm.seqW ?_
  conv => whnf
  refine hp.var (cs := r.cells) (e := 2) rfl rfl ?_
  clear hp
  intro b1 s1 hp _
  conv => whnf
  refine Sm.seqW ?_
  conv => whnf
  refine ⟨[0, 1, 3, 7, 0, 16, 63, 127], by decide +kernel, by decide +kernel, ?_⟩
  conv => whnf
  (refine hp.load (by repeat (first | exact Has.here | apply Has.there | (apply Has.swap; repeat (first | exact HasR.here | apply HasR.there)))) (by rfl) rfl rfl rfl ?_; conv => whnf)
  rw [u64_of]
  refine hp.rst.callO (mbytes_spec hp.rst.wf (BitVec.ofInt 64 r.seq)) ?_
  intro v2 κ2 s2 h2 k2
  conv => whnf
  refine hp.dkN h2 k2 ?_
  clear hp h2 k2
  intro s hp
  conv => whnf
  (refine hp.load (by repeat (first | exact Has.here | apply Has.there | (apply Has.swap; repeat (first | exact HasR.here | apply HasR.there)))) (by rfl) rfl rfl rfl ?_; conv => whnf)
  refine hp.rst.callO (text_spec hp.rst.wf (Sb.of (hp.rst.slF .here)) (by rw [bytes8_len]; omega) r.body (by rw [bytes8_len]; omega)) ?_
  intro v3 κ3 s3 h3 k3
  conv => whnf
  refine hp.dkN h3 k3 ?_
  clear hp h3 k3
  intro s hp
  conv => whnf
  refine Sm.live [1, 5] ?_
  conv => whnf
  refine Sm.seqW ?_
  conv => whnf
  refine hp.one B26 rfl ?_
  clear hp
  intro v4 b4 s4 hp _
  conv => whnf
  have x4 : Sl s4 (some b4) v4 1 1 [.int .u8 255] := Own.sl (hp.okF _ List.mem_cons_self)
  refine hp.app B26 Try.underlying32 rfl (by repeat (first | exact Rm.here | apply Rm.there)) (elems_sl x4) rfl rfl (by simp [bytes8_len]; omega) ?_
  clear hp x4
  intro v5 κ5 s5 hp
  rw [show (.int .u8 255 : Value) = .int .u8 ((255 : Nat) : Int) from rfl, byteVals_snoc _ _ (by decide)] at hp
  have hB : bytes8 (BitVec.ofInt 64 r.seq) ++ Pk.encI ((bs r.body).length : Int) ++ bs r.body ++ [UInt8.ofNat 255] = layB r := rfl
  rw [hB] at hp
  have hp : Hp (fun _ => False) z [] [onA κ5 v5 1 (layB r).length (byteVals (layB r))] s5 := by
    have : (bytes8 (BitVec.ofInt 64 r.seq) ++ Pk.encI ((bs r.body).length : Int) ++ bs r.body).length + 1 = (layB r).length := by rw [← hB]; simp; omega
    rw [this] at hp
    exact hp.pik (by repeat (first | exact Pik.nil | exact Pik.refl _ | exact Rm.here | apply Rm.there | apply Pik.cons | apply Pik.skip))
  conv => whnf
  refine Sm.live [1, 5] ?_
  conv => whnf
  refine Sm.seqW ?_
  conv => whnf
  obtain ⟨a5, c5, rfl⟩ := (hp.slF .here).shape
  rw [u64_of]
  refine (sum_spec s5 (Sb.of (hp.slF .here)) (by omega) (BitVec.ofInt 64 at_)).mono ?_
  rintro _ _ ⟨rfl, rfl⟩
  conv => whnf
  refine hp.callO (mbytes_spec hp.wf (Mk.sum (BitVec.ofInt 64 at_) (layB r))) ?_
  clear hp
  intro v6 κ6 s6 hp _
  conv => whnf
  refine Sm.live [5, 6] ?_
  conv => whnf
  refine Sm.seqW ?_
  conv => whnf
  generalize hn : (layB r).length = n at hlB hp ⊢
  refine Om.of _ (quo_nat (n := n) (m := 128) (by omega) (by omega)) ?_
  conv => whnf
  refine Om.of _ (rem_nat (n := n) (m := 128) (by omega)) ?_
  conv => whnf
  have e1 : IntKind.u8.wrap (IntKind.i64.wrap (128 + ((n / 128 : Nat) : Int))) = (((128 + n / 128) % 256 : Nat) : Int) := by
    rw [wi64 (by omega) (by omega), show (128 + ((n / 128 : Nat) : Int)) = ((128 + n / 128 : Nat) : Int) by push_cast; rfl, wrap_u8]
  have e2 : IntKind.u8.wrap (IntKind.i64.wrap (128 + ((n % 128 : Nat) : Int))) = (((128 + n % 128) % 256 : Nat) : Int) := by
    rw [wi64 (by omega) (by omega), show (128 + ((n % 128 : Nat) : Int)) = ((128 + n % 128 : Nat) : Int) by push_cast; rfl, wrap_u8]
  rw [e1, e2]
  refine hp.lit (cs := byteVals [UInt8.ofNat ((128 + n / 128) % 256), UInt8.ofNat ((128 + n % 128) % 256)]) (e := 1) (by
    have g1 : (UInt8.ofNat ((128 + n / 128) % 256)).toNat = (128 + n / 128) % 256 := toNat_ofNat (by omega)
    have g2 : (UInt8.ofNat ((128 + n % 128) % 256)).toNat = (128 + n % 128) % 256 := toNat_ofNat (by omega)
    rw [show byteVals [UInt8.ofNat ((128 + n / 128) % 256), UInt8.ofNat ((128 + n % 128) % 256)] = [.int .u8 ((UInt8.ofNat ((128 + n / 128) % 256)).toNat : Int), .int .u8 ((UInt8.ofNat ((128 + n % 128) % 256)).toNat : Int)] from rfl, g1, g2]
    rfl) ?_
  clear hp
  intro b7 s7 hp _
  conv => whnf
  refine hp.lit (cs := [.slice (some ⟨b7, 0, none⟩) 2 2, v6, .slice a5 n c5]) (e := 1) (by
    obtain ⟨a6, c6, h6⟩ := (hp.slF (κ := κ6) (v := v6) (by repeat (first | exact Rm.here | apply Rm.there))).shape
    rw [h6]; rfl) ?_
  clear hp
  intro b8 s8 hp _
  conv => whnf
  have q1 := hp.blkSl (n := 2) (m := (by repeat (first | exact Has.here | apply Has.there | (apply Has.swap; repeat (first | exact HasR.here | apply HasR.there))) : Has (blkA b7 b7 (byteVals [UInt8.ofNat ((128 + n / 128) % 256), UInt8.ofNat ((128 + n % 128) % 256)]) 1) _ _)) rfl
  have q2 : Sb s8 κ6 v6 (bytes8 (Mk.sum (BitVec.ofInt 64 at_) (layB r))) := Sb.of (hp.slF (by repeat (first | exact Rm.here | apply Rm.there)))
  have q3 : Sb s8 κ5 (.slice a5 n c5) (layB r) := by
    have := hp.slF (κ := κ5) (v := .slice a5 n c5) (n := n) (cs := byteVals (layB r)) (by repeat (first | exact Rm.here | apply Rm.there))
    exact Sb.of this
  have q4 := hp.blkSl (n := 3) (m := (by repeat (first | exact Has.here | apply Has.there | (apply Has.swap; repeat (first | exact HasR.here | apply HasR.there))) : Has (blkA b8 b8 [.slice (some ⟨b7, 0, none⟩) 2 2, v6, .slice a5 n c5] 1) _ _)) rfl
  have hflat : (List.flatMap Pt.b [⟨some b7, .slice (some ⟨b7, 0, none⟩) 2 2, [UInt8.ofNat ((128 + n / 128) % 256), UInt8.ofNat ((128 + n % 128) % 256)]⟩, ⟨κ6, v6, bytes8 (Mk.sum (BitVec.ofInt 64 at_) (layB r))⟩, ⟨κ5, .slice a5 n c5, layB r⟩]) = layF r at_ := by
    unfold layF; simp [hn]
  have hlen : (layF r at_).length = n + 10 := by unfold layF; simp [hn, bytes8_len]; omega
  have hcc := concat_spec hp.wf [⟨some b7, .slice (some ⟨b7, 0, none⟩) 2 2, [UInt8.ofNat ((128 + n / 128) % 256), UInt8.ofNat ((128 + n % 128) % 256)]⟩, ⟨κ6, v6, bytes8 (Mk.sum (BitVec.ofInt 64 at_) (layB r))⟩, ⟨κ5, .slice a5 n c5, layB r⟩] q4 (by
    intro x hx
    simp only [List.mem_cons, List.not_mem_nil, or_false] at hx
    rcases hx with rfl | rfl | rfl
    · exact q1
    · exact q2
    · exact q3) (by rw [hflat]; omega) (by rw [hflat]; omega) (by simp)
  rw [hflat] at hcc
  refine hp.callO hcc ?_
  clear hp q1 q2 q3 q4 hcc
  intro v9 κ9 s9 hp _
  conv => whnf
  refine Sm.ofW ?_
  conv => whnf
  exact ⟨hp.fr, hp.out .here⟩
end Go.Ev
end

/- Rolls: is a whole record at the beginning of some bytes? No condition. -/
noncomputable section
namespace Go.Ev
open Go.Proofs
set_option linter.unusedVariables false
set_option maxRecDepth 100000

theorem equal_spec (s : St) {κ κ' : Option Nat} {v w : Value} {l l' : List UInt8} (hv : Sb s κ v l) (hw : Sb s κ' w l') (hl : l.length ≤ 1000000) :
    Cw Try.prog 44 [v, w] s fun r s' => s' = s ∧ r = .bool (decide (l = l')) := by
  obtain ⟨a, c, rfl⟩ := hv.shape
  obtain ⟨a', c', rfl⟩ := hw.shape
  have hp : Hp (fun _ => False) s [slA κ (.slice a l.length c) 1 l.length (byteVals l), slA κ' (.slice a' l'.length c') 1 l'.length (byteVals l')] [] s ∨ True := .inr trivial
  refine Cw.enterS Try.func44 rfl rfl ?_
  refine Sm.seqW ?_
  conv => whnf
  refine Sm.seq ?_
  refine Sm.seqW ?_
  conv => whnf
  refine Sm.ofW ?_
  conv => whnf
  refine Br.mk (fun hq => ?_) (fun hq => ?_)
  · have hq : l.length ≠ l'.length := by intro h; rw [h] at hq; simp at hq
    conv => whnf
    have : decide (l = l') = false := decide_eq_false (fun h => hq (by rw [h]))
    rw [this]
    exact ⟨rfl, rfl⟩
  · have hq : l.length = l'.length := by have := bne_eq_false_iff_eq.1 hq; omega
    conv => whnf
    refine Sm.live [0, 1] ?_
    conv => whnf
    refine Sm.seq ?_
    refine Sm.seqW ?_
    conv => whnf
    refine Sm.block ?_
    refine Sm.loop ?_
    refine Lp.ofS (α := Nat) (fun i => [(0, .slice a l.length c), (1, .slice a' l'.length c'), (12, .int .i64 (l.length : Int)), (13, .int .i64 (i : Int))])
      (fun i s' => s' = s ∧ i ≤ l.length ∧ l.take i = l'.take i) (fun i => l.length - i) ?_ 0 (subK_ok (by refine ⟨rfl, rfl, rfl, rfl, trivial⟩)) ⟨rfl, by omega, rfl⟩
    rintro i s1 ⟨rfl, hi, heq⟩
    refine Sm.seqW ?_
    conv => whnf
    refine Sm.seqW ?_
    conv => whnf
    refine Br.mk (fun hc => ?_) (fun hc => ?_)
    · have hc : i < l.length := by have := of_decide_eq_true hc; omega
      have hd : i < l'.length := by omega
      conv => whnf
      refine Sm.seq (Sm.block ?_)
      refine Sm.seqW ?_
      conv => whnf
      refine Sm.ofW ?_
      conv => whnf
      refine ⟨[0, 0, 3, 7, 0, 0, 48, 112, 255], by decide +kernel, by decide +kernel, ?_⟩
      conv => whnf
      obtain ⟨p, x, e1, e2, e3, _, rfl⟩ := index_sl B26 Try.underlying5 rfl hv .i64 hc
      obtain rfl : x = .int .u8 (l[i].toNat : Int) := by simp [byteVals, hc] at e2; exact e2.symm
      refine Om.of _ e1 ?_
      conv => whnf
      refine Om.of _ e3 ?_
      conv => whnf
      obtain ⟨p, x, f1, f2, f3, _, rfl⟩ := index_sl B26 Try.underlying5 rfl hw .i64 hd
      obtain rfl : x = .int .u8 (l'[i].toNat : Int) := by simp [byteVals, hd] at f2; exact f2.symm
      refine Om.of _ f1 ?_
      conv => whnf
      refine Om.of _ f3 ?_
      conv => whnf
      refine Br.mk (fun hr => ?_) (fun hr => ?_)
      · have hr : l[i] ≠ l'[i] := by intro h; rw [h] at hr; simp at hr
        conv => whnf
        have : decide (l = l') = false := decide_eq_false (fun h => hr (by subst h; rfl))
        rw [this]
        exact ⟨rfl, rfl⟩
      · have hr : l[i] = l'[i] := by
          have := bne_eq_false_iff_eq.1 hr
          exact UInt8.toNat_inj.1 (by omega)
        conv => whnf
        refine Sm.ofW ?_
        conv => whnf
        have e6 : IntKind.i64.wrap ((i : Int) + 1) = ((i + 1 : Nat) : Int) := by rw [wi64 (by omega) (by omega)]; omega
        refine ⟨i + 1, by (show l.length - (i + 1) < l.length - i); omega, subK_ok (by refine ⟨rfl, rfl, rfl, congrArg (fun x => some (Value.int .i64 x)) e6, trivial⟩), rfl, hc, ?_⟩
        rw [List.take_succ_eq_append_getElem hc, List.take_succ_eq_append_getElem hd, heq, hr]
    · have hc : i = l.length := by have := of_decide_eq_false hc; omega
      subst hc
      conv => whnf
      refine Sm.ofW ?_
      conv => whnf
      rw [List.take_of_length_le (Nat.le_refl _), List.take_of_length_le (by omega)] at heq
      have : decide (l = l') = true := decide_eq_true heq
      rw [this]
      exact ⟨rfl, rfl⟩
/-- The record that the bytes begin with, how many it has. -/
def wholeF (l : List UInt8) (at_ : Int) : Option (Rr × Nat) :=
  if l.length < 10 ∨ (l.getD 0 0).toNat < 128 ∨ (l.getD 1 0).toNat < 128 then none else
  let n := ((l.getD 0 0).toNat - 128) * 128 + ((l.getD 1 0).toNat - 128)
  if n < 10 ∨ l.length - 10 < n ∨ (l.getD (10 + n - 1) 0).toNat ≠ 255 then none else
  match Pk.readT ((l.drop 18).take (n - 9)) with
  | none => none
  | some (body, rest) =>
    if rest = [] ∧ layF ⟨IntKind.i64.wrap (num8 ((l.drop 10).take 8) : Int), ⟨body.toArray⟩⟩ at_ = l.take (10 + n) then some (⟨IntKind.i64.wrap (num8 ((l.drop 10).take 8) : Int), ⟨body.toArray⟩⟩, 10 + n) else none
theorem readT_len {l a r : List UInt8} (h : Pk.readT l = some (a, r)) : a.length ≤ l.length := by
  unfold Pk.readT at h
  cases hr : Pk.readI l with
  | none => rw [hr] at h; cases h
  | some p =>
    obtain ⟨n, rest⟩ := p
    rw [hr] at h
    simp only at h
    split at h <;> first | contradiction | skip
    injection h with h
    injection h with h1 h2
    have := (Pk.readI_dec hr).1
    rw [this, ← h1]; simp; omega
theorem idx8 {s : St} {κ : Option Nat} {v : Value} {l : List UInt8} (hv : Sb s κ v l) {i : Nat} (hi : i < l.length) :
    ∃ a, evIndexAddr Try.prog 32 v (.int .i64 (i : Int)) = some (.pointer (some a)) ∧ evLoad Try.prog 5 (.pointer (some a)) s = some (.int .u8 (l[i].toNat : Int)) := by
  obtain ⟨p, x, e1, e2, e3, a, rfl⟩ := index_sl B26 Try.underlying5 rfl hv .i64 hi
  obtain rfl : x = .int .u8 (l[i].toNat : Int) := by simp [byteVals, hi] at e2; exact e2.symm
  exact ⟨a, e1, e3⟩
theorem slice_midT {s : St} {κ : Option Nat} {v : Value} {l : List UInt8} (h : Sb s κ v l) (k : IntKind) {i j : Nat} (hi : i ≤ j) (hj : j ≤ l.length) :
    ∃ v', evSliceMem Try.prog 32 v (some (.int k (i : Int))) (some (.int k (j : Int))) none s = some v' ∧ Sb s κ v' ((l.drop i).take (j - i)) := by
  obtain ⟨v', e, h'⟩ := slice_sl B26 h k k (some i) (some j) (by simpa using hi) (by simpa using hj)
  refine ⟨v', e, Sb.of (n := j - i) ?_⟩
  simpa [drop_bytes, take_bytes] using h'
theorem whole_spec {z : St} (wf : WF z) {κ : Option Nat} {v : Value} {l : List UInt8} (hv : Sb z κ v l) (hl : l.length ≤ 100000) (at_ : Int) :
    Cw Try.prog 29 [v, .int .i64 at_] z fun r s' => K0 z s' ∧ ((wholeF l at_ = none ∧ ∃ q, r = .tuple #[q, .int .i64 0, .bool false] ∧ q = Rr.val ⟨0, ⟨#[]⟩⟩) ∨ ∃ x n, wholeF l at_ = some (x, n) ∧ r = .tuple #[x.val, .int .i64 (n : Int), .bool true]) := by
  have hp : Hp (fun _ => False) z [slA κ v 1 l.length (byteVals l)] [] z := Hp.start _ wf _ (by simp; exact hv)
  obtain ⟨a, c, rfl⟩ := hv.shape
  refine Cw.enterS Try.func29 rfl rfl ?_
  refine Sm.seqW ?_
  conv => whnf
  refine hp.alloc (cs := Rr.cells ⟨0, ⟨#[]⟩⟩) (e := 2) rfl rfl rfl rfl rfl ?_
  clear hp
  intro b1 s hp _
  conv => whnf
  refine Sm.seqW ?_
  conv => whnf
  refine Sm.live [0, 1, 4, 7] ?_
  conv => whnf
  refine Sm.seq ?_
  by_cases h10 : l.length < 10
  · have hw : wholeF l at_ = none := by unfold wholeF; rw [if_pos (.inl h10)]
    refine Sm.seqW ?_
    conv => whnf
    have d1 : decide ((l.length : Int) < 10) = true := decide_eq_true (by omega)
    repeat (first | (refine Br.yes (by first | with_reducible rfl | exact d1) ?_; conv => whnf))
    refine Sm.ofW ?_
    conv => whnf
    repeat (first | (refine Br.yes (by first | with_reducible rfl | exact d1) ?_; conv => whnf))
    refine hp.storeW (vs := Rr.cells ⟨0, ⟨#[]⟩⟩) rfl (by repeat (first | exact Rm.here | apply Rm.there)) (by rfl) rfl rfl rfl ?_
    clear hp
    intro s hp _
    conv => whnf
    refine hp.loadA (l := Rr.cells ⟨0, ⟨#[]⟩⟩) (by repeat (first | exact Has.here | apply Has.there | (apply Has.swap; repeat (first | exact HasR.here | apply HasR.there)))) rfl (by rfl) rfl rfl ?_
    conv => whnf
    exact ⟨hp.fr, .inl ⟨hw, _, rfl, rfl⟩⟩
  have d1 : decide ((l.length : Int) < 10) = false := decide_eq_false (by omega)
  have g0 : l.getD 0 0 = l[0] := by simp [List.getD, show 0 < l.length by omega]
  have g1 : l.getD 1 0 = l[1] := by simp [List.getD, show 1 < l.length by omega]
  have u0 := l[0].toNat_lt
  have u1 := l[1].toNat_lt
  obtain ⟨p0, i0, j0⟩ := idx8 (hp.slR .here) (i := 0) (by omega)
  obtain ⟨p1, i1, j1⟩ := idx8 (hp.slR .here) (i := 1) (by omega)
  by_cases h12 : l[0].toNat < 128 ∨ l[1].toNat < 128
  · have hw : wholeF l at_ = none := by unfold wholeF; rw [g0, g1, if_pos (.inr h12)]
    refine Sm.seqW ?_
    conv => whnf
    repeat (first | (refine Br.no (by first | with_reducible rfl | exact d1) ?_; conv => whnf))
    refine Om.of _ i0 ?_
    conv => whnf
    repeat (first | (refine Br.no (by first | with_reducible rfl | exact d1) ?_; conv => whnf))
    refine Om.of _ j0 ?_
    conv => whnf
    repeat (first | (refine Br.no (by first | with_reducible rfl | exact d1) ?_; conv => whnf))
    by_cases h1 : l[0].toNat < 128
    · have d2 : decide ((l[0].toNat : Int) < 128) = true := decide_eq_true (by omega)
      repeat (first | (refine Br.yes (by first | with_reducible rfl | exact d2) ?_; conv => whnf))
      refine Sm.ofW ?_
      conv => whnf
      repeat (first | (refine Br.yes (by first | with_reducible rfl | exact d2) ?_; conv => whnf))
      refine hp.storeW (vs := Rr.cells ⟨0, ⟨#[]⟩⟩) rfl (by repeat (first | exact Rm.here | apply Rm.there)) (by rfl) rfl rfl rfl ?_
      clear hp
      intro s hp _
      conv => whnf
      refine hp.loadA (l := Rr.cells ⟨0, ⟨#[]⟩⟩) (by repeat (first | exact Has.here | apply Has.there | (apply Has.swap; repeat (first | exact HasR.here | apply HasR.there)))) rfl (by rfl) rfl rfl ?_
      conv => whnf
      exact ⟨hp.fr, .inl ⟨hw, _, rfl, rfl⟩⟩
    · have d2 : decide ((l[0].toNat : Int) < 128) = false := decide_eq_false (by omega)
      have d3 : decide ((l[1].toNat : Int) < 128) = true := decide_eq_true (by omega)
      repeat (first | (refine Br.no (by first | with_reducible rfl | exact d2) ?_; conv => whnf))
      refine Om.of _ i1 ?_
      conv => whnf
      repeat (first | (refine Br.no (by first | with_reducible rfl | exact d2) ?_; conv => whnf))
      refine Om.of _ j1 ?_
      conv => whnf
      repeat (first | (refine Br.no (by first | with_reducible rfl | exact d2) ?_; conv => whnf))
      refine Sm.ofW ?_
      conv => whnf
      repeat (first | (refine Br.yes (by first | with_reducible rfl | exact d3) ?_; conv => whnf))
      refine hp.storeW (vs := Rr.cells ⟨0, ⟨#[]⟩⟩) rfl (by repeat (first | exact Rm.here | apply Rm.there)) (by rfl) rfl rfl rfl ?_
      clear hp
      intro s hp _
      conv => whnf
      refine hp.loadA (l := Rr.cells ⟨0, ⟨#[]⟩⟩) (by repeat (first | exact Has.here | apply Has.there | (apply Has.swap; repeat (first | exact HasR.here | apply HasR.there)))) rfl (by rfl) rfl rfl ?_
      conv => whnf
      exact ⟨hp.fr, .inl ⟨hw, _, rfl, rfl⟩⟩
  have d2 : decide ((l[0].toNat : Int) < 128) = false := decide_eq_false (by omega)
  have d3 : decide ((l[1].toNat : Int) < 128) = false := decide_eq_false (by omega)
  refine Sm.seqW ?_
  conv => whnf
  repeat (first | (refine Br.no (by first | with_reducible rfl | exact d1 | exact d2) ?_; conv => whnf) | (refine Om.of _ i0 ?_; conv => whnf) | (refine Om.of _ j0 ?_; conv => whnf) | (refine Om.of _ i1 ?_; conv => whnf) | (refine Om.of _ j1 ?_; conv => whnf))
  refine Sm.ofW ?_
  conv => whnf
  refine Br.no d3 ?_
  conv => whnf
  clear i0 j0 i1 j1
  refine Sm.live [0, 1, 4, 7] ?_
  conv => whnf
  refine Sm.seqW ?_
  conv => whnf
  refine ⟨[0, 1, 3, 7, 15, 31, 0, 64, 192, 448, 960, 2047, 4095], by decide +kernel, by decide +kernel, ?_⟩
  conv => whnf
  obtain ⟨p0, i0, j0⟩ := idx8 (hp.slR .here) (i := 0) (by omega)
  obtain ⟨p1, i1, j1⟩ := idx8 (hp.slR .here) (i := 1) (by omega)
  refine Om.of _ i0 ?_
  conv => whnf
  refine Om.of _ j0 ?_
  conv => whnf
  refine Om.of _ i1 ?_
  conv => whnf
  refine Om.of _ j1 ?_
  conv => whnf
  clear i0 j0 i1 j1
  have w0 : IntKind.u8.wrap ((l[0].toNat : Int) - 128) = ((l[0].toNat - 128 : Nat) : Int) := by rw [wrap_u8i]; omega
  have w1 : IntKind.u8.wrap ((l[1].toNat : Int) - 128) = ((l[1].toNat - 128 : Nat) : Int) := by rw [wrap_u8i]; omega
  have w2 : IntKind.i64.wrap (IntKind.i64.wrap (IntKind.i64.wrap ((l[0].toNat - 128 : Nat) : Int) * 128) + IntKind.i64.wrap ((l[1].toNat - 128 : Nat) : Int)) = (((l[0].toNat - 128) * 128 + (l[1].toNat - 128) : Nat) : Int) := by
    rw [wi64 (n := ((l[0].toNat - 128 : Nat) : Int)) (by omega) (by omega), wi64 (n := ((l[1].toNat - 128 : Nat) : Int)) (by omega) (by omega), wi64 (n := ((l[0].toNat - 128 : Nat) : Int) * 128) (by omega) (by omega), wi64 (by omega) (by omega)]
    push_cast; rfl
  rw [w0, w1, w2]
  generalize hn : (l[0].toNat - 128) * 128 + (l[1].toNat - 128) = n
  have hn2 : n < 20000 := by omega
  refine Sm.live [0, 1, 4, 7, 8] ?_
  conv => whnf
  refine Sm.seq ?_
  have hwF : wholeF l at_ = if n < 10 ∨ l.length - 10 < n ∨ (l.getD (10 + n - 1) 0).toNat ≠ 255 then none else
      match Pk.readT ((l.drop 18).take (n - 9)) with
      | none => none
      | some (body, rest) =>
        if rest = [] ∧ layF ⟨IntKind.i64.wrap (num8 ((l.drop 10).take 8) : Int), ⟨body.toArray⟩⟩ at_ = l.take (10 + n) then some (⟨IntKind.i64.wrap (num8 ((l.drop 10).take 8) : Int), ⟨body.toArray⟩⟩, 10 + n) else none := by
    unfold wholeF
    rw [g0, g1, if_neg (by omega)]
    simp only [hn]
  refine Sm.seqC (fun e L' s' => e = .normal ∧ s' = s ∧ ∃ q, Sub [(0, .slice a l.length c), (1, .int .i64 at_), (4, .pointer (some ⟨b1, 0, none⟩)), (7, .int .i64 10), (8, .int .i64 (n : Int)), (61, .bool q)] L' ∧ (q = true ↔ (n < 10 ∨ l.length - 10 < n ∨ (l.getD (10 + n - 1) 0).toNat ≠ 255))) ?_ ?_
  · conv => whnf
    by_cases c1 : n < 10
    · have f1 : decide ((n : Int) < 10) = true := decide_eq_true (by omega)
      repeat (first | (refine Br.yes (by first | with_reducible rfl | exact f1) ?_; conv => whnf))
      exact ⟨rfl, rfl, true, subK_ok ⟨rfl, rfl, rfl, rfl, rfl, rfl, trivial⟩, by simp [c1]⟩
    have f1 : decide ((n : Int) < 10) = false := decide_eq_false (by omega)
    have f2' : decide ((n : Int) > IntKind.i64.wrap ((l.length : Int) - 10)) = decide (l.length - 10 < n) := by
      rw [wi64 (by omega) (by omega)]
      by_cases c2 : l.length - 10 < n
      · rw [decide_eq_true c2]; exact decide_eq_true (by omega)
      · rw [decide_eq_false c2]; exact decide_eq_false (by omega)
    by_cases c2 : l.length - 10 < n
    · rw [decide_eq_true c2] at f2'
      repeat (first | (refine Br.no (by first | with_reducible rfl | exact f1) ?_; conv => whnf) | (refine Br.yes (by first | with_reducible rfl | exact f2') ?_; conv => whnf))
      exact ⟨rfl, rfl, true, subK_ok ⟨rfl, rfl, rfl, rfl, rfl, rfl, trivial⟩, by simp [c2]⟩
    rw [decide_eq_false c2] at f2'
    repeat (first | (refine Br.no (by first | with_reducible rfl | exact f1 | exact f2') ?_; conv => whnf))
    have hi : 10 + n - 1 < l.length := by omega
    have e3 : IntKind.i64.wrap (IntKind.i64.wrap (10 + (n : Int)) - 1) = ((10 + n - 1 : Nat) : Int) := by
      rw [wi64 (n := 10 + (n : Int)) (by omega) (by omega), wi64 (by omega) (by omega)]; omega
    obtain ⟨p0, i0, j0⟩ := idx8 (hp.slR .here) (i := 10 + n - 1) hi
    rw [e3]
    refine Om.of _ i0 ?_
    conv => whnf
    repeat (first | (refine Br.no (by first | with_reducible rfl | exact f1 | exact f2') ?_; conv => whnf))
    refine Om.of _ j0 ?_
    conv => whnf
    repeat (first | (refine Br.no (by first | with_reducible rfl | exact f1 | exact f2') ?_; conv => whnf))
    refine ⟨rfl, rfl, _, subK_ok ⟨rfl, rfl, rfl, rfl, rfl, rfl, trivial⟩, ?_⟩
    have g2 : l.getD (10 + n - 1) 0 = l[10 + n - 1] := by rw [List.getD_eq_getElem?_getD, List.getElem?_eq_getElem hi]; rfl
    rw [g2]
    simp [c1, c2]
    omega
  rintro e L' s' ⟨rfl, rfl, q, hs, hq⟩
  refine Sm.weak _ hs ?_
  clear hs
  refine Sm.ofW ?_
  conv => whnf
  cases q with
  | true =>
    have hw : wholeF l at_ = none := by rw [hwF, if_pos (hq.1 rfl)]
    refine Br.yes rfl ?_
    conv => whnf
    refine hp.storeW (vs := Rr.cells ⟨0, ⟨#[]⟩⟩) rfl (by repeat (first | exact Rm.here | apply Rm.there)) (by rfl) rfl rfl rfl ?_
    clear hp
    intro s hp _
    conv => whnf
    refine hp.loadA (l := Rr.cells ⟨0, ⟨#[]⟩⟩) (by repeat (first | exact Has.here | apply Has.there | (apply Has.swap; repeat (first | exact HasR.here | apply HasR.there)))) rfl (by rfl) rfl rfl ?_
    conv => whnf
    exact ⟨hp.fr, .inl ⟨hw, _, rfl, rfl⟩⟩
  | false =>
    have hcond : ¬ (n < 10 ∨ l.length - 10 < n ∨ (l.getD (10 + n - 1) 0).toNat ≠ 255) := fun h => by have := hq.2 h; cases this
    rw [if_neg hcond] at hwF
    refine Br.no rfl ?_
    conv => whnf
    refine Sm.live [0, 1, 4, 7, 8] ?_
    conv => whnf
    -- its body
    refine Sm.seqW ?_
    conv => whnf
    have e1 : IntKind.i64.wrap (10 + 8) = ((18 : Nat) : Int) := rfl
    have e3 : IntKind.i64.wrap (IntKind.i64.wrap (10 + (n : Int)) - 1) = ((10 + n - 1 : Nat) : Int) := by
      rw [wi64 (n := 10 + (n : Int)) (by omega) (by omega), wi64 (by omega) (by omega)]; omega
    rw [e1, e3]
    obtain ⟨w1, f1, hw1⟩ := slice_midT (hp.slR .here) .i64 (i := 18) (j := 10 + n - 1) (by omega) (by omega)
    rw [show 10 + n - 1 - 18 = n - 9 by omega] at hw1
    refine Om.of w1 f1 ?_
    conv => whnf
    refine (readText_spec hp.wf hw1 (by simp; omega)).mono ?_
    rintro _ s1 ⟨k1, ⟨hr, rfl⟩ | ⟨body, rest, w2, hr, rfl, o2⟩⟩
    · have hw : wholeF l at_ = none := by rw [hwF, hr]
      replace hp := hp.k0 k1
      clear k1 f1 hw1
      conv => whnf
      refine Sm.live [0, 1, 4, 7, 8, 9, 10, 11] ?_
      conv => whnf
      refine Sm.seqW ?_
      conv => whnf
      rw [e1]
      obtain ⟨w3, f3, hw3⟩ := slice_midT (hp.slR .here) .i64 (i := 10) (j := 18) (by omega) (by omega)
      refine Om.of w3 f3 ?_
      conv => whnf
      refine (number_spec _ hw3 (by simp; omega)).mono ?_
      rintro _ _ ⟨rfl, rfl⟩
      conv => whnf
      refine hp.alloc (cs := Rr.cells ⟨0, ⟨#[]⟩⟩) (e := 2) rfl rfl rfl rfl rfl ?_
      clear hp f3 hw3
      intro b3 s hp _
      conv => whnf
      refine hp.storeW (vs := Rr.cells ⟨IntKind.i64.wrap (num8 ((l.drop 10).take (18 - 10)) : Int), ⟨#[]⟩⟩) rfl (by repeat (first | exact Rm.here | apply Rm.there)) (by rfl) rfl rfl rfl ?_
      clear hp
      intro s hp _
      conv => whnf
      refine Sm.seq ?_
      refine Sm.ofW ?_
      conv => whnf
      refine ⟨[0, 1, 3, 7, 15, 31, 63, 127, 255, 255, 1023, 255, 255, 255, 12543, 30975, 65535, 131071, 262143], by decide +kernel, by decide +kernel, ?_⟩
      conv => whnf
      repeat (first | (refine Br.yes (by first | with_reducible rfl | with_reducible exact beq_self_eq_true _ | rfl) ?_; conv => whnf) | (refine Br.no (by first | with_reducible rfl | with_reducible exact bne_self_eq_false _ | rfl) ?_; conv => whnf))
      refine hp.storeW (vs := Rr.cells ⟨0, ⟨#[]⟩⟩) (C := Rr.cells ⟨0, ⟨#[]⟩⟩) rfl (by repeat (first | exact Rm.here | apply Rm.there)) (by rfl) rfl rfl rfl ?_
      clear hp
      intro s hp _
      conv => whnf
      refine hp.loadA (l := Rr.cells ⟨0, ⟨#[]⟩⟩) (by repeat (first | exact Has.here | apply Has.there | (apply Has.swap; repeat (first | exact HasR.here | apply HasR.there)))) rfl (by rfl) rfl rfl ?_
      conv => whnf
      exact ⟨hp.fr, .inl ⟨hw, _, rfl, rfl⟩⟩
    · obtain ⟨κ2, hp⟩ := hp.on k1 o2
      obtain ⟨a2, c2, rfl⟩ := (hp.slF .here).shape
      have hbl : body.length ≤ l.length := by
        have := readT_len hr
        simp at this; omega
      have hrl : rest.length ≤ 100000000 := by
        unfold Pk.readT at hr
        cases hri : Pk.readI ((l.drop 18).take (n - 9)) with
        | none => rw [hri] at hr; cases hr
        | some p =>
          obtain ⟨m, r'⟩ := p
          rw [hri] at hr
          simp only at hr
          split at hr <;> first | contradiction | skip
          injection hr with hr
          injection hr with h1 h2
          have := congrArg List.length (Pk.readI_dec hri).1
          rw [← h2]
          simp at this ⊢
          omega
      clear f1 hw1 k1 o2
      conv => whnf
      refine Sm.live [0, 1, 4, 7, 8, 9, 10, 11] ?_
      conv => whnf
      refine Sm.seqW ?_
      conv => whnf
      rw [e1]
      obtain ⟨w3, f3, hw3⟩ := slice_midT (hp.slR .here) .i64 (i := 10) (j := 18) (by omega) (by omega)
      refine Om.of w3 f3 ?_
      conv => whnf
      refine (number_spec _ hw3 (by simp; omega)).mono ?_
      rintro _ _ ⟨rfl, rfl⟩
      conv => whnf
      refine hp.alloc (cs := Rr.cells ⟨0, ⟨#[]⟩⟩) (e := 2) rfl rfl rfl rfl rfl ?_
      clear hp f3 hw3
      intro b3 s hp _
      conv => whnf
      refine hp.storeW (vs := Rr.cells ⟨IntKind.i64.wrap (num8 ((l.drop 10).take (18 - 10)) : Int), ⟨body.toArray⟩⟩) rfl (by repeat (first | exact Rm.here | apply Rm.there)) (by rfl) rfl rfl rfl ?_
      clear hp
      intro s hp _
      conv => whnf
      refine Sm.seq ?_
      rw [hr] at hwF
      simp only at hwF
      refine Sm.seqC (fun e L' s' => e = .normal ∧ Hp (fun _ => False) z [slA κ (.slice a l.length c) 1 l.length (byteVals l)] [blkA b3 b3 (Rr.cells ⟨IntKind.i64.wrap (num8 ((l.drop 10).take (18 - 10)) : Int), ⟨body.toArray⟩⟩) 2, blkA b1 b1 (Rr.cells ⟨0, ⟨#[]⟩⟩) 2] s' ∧ ∃ q, Sub [(4, .pointer (some ⟨b1, 0, none⟩)), (7, .int .i64 10), (8, .int .i64 (n : Int)), (12, .pointer (some ⟨b3, 0, none⟩)), (102, .bool q)] L' ∧
        (q = false ↔ (rest = [] ∧ layF ⟨IntKind.i64.wrap (num8 ((l.drop 10).take 8) : Int), ⟨body.toArray⟩⟩ at_ = l.take (10 + n)))) ?_ ?_
      · conv => whnf
        refine ⟨[0, 1, 3, 7, 15, 31, 63, 127, 255, 255, 1023, 255, 255, 255, 12543, 30975, 65535, 131071, 262143], by decide +kernel, by decide +kernel, ?_⟩
        conv => whnf
        by_cases hrest : rest = []
        · have q1 : decide ((rest.length : Int) > 0) = false := decide_eq_false (by rw [hrest]; simp)
          repeat (first | (refine Br.no (by first | with_reducible rfl | exact q1 | rfl) ?_; conv => whnf))
          refine hp.loadA (l := Rr.cells ⟨IntKind.i64.wrap (num8 ((l.drop 10).take (18 - 10)) : Int), ⟨body.toArray⟩⟩) (by repeat (first | exact Has.here | apply Has.there | (apply Has.swap; repeat (first | exact HasR.here | apply HasR.there)))) rfl (by rfl) rfl rfl ?_
          conv => whnf
          repeat (first | (refine Br.no (by first | with_reducible rfl | exact q1) ?_; conv => whnf))
          refine hp.rst.callO (laid_spec hp.rst.wf ⟨IntKind.i64.wrap (num8 ((l.drop 10).take (18 - 10)) : Int), ⟨body.toArray⟩⟩ (by rw [bs_mk]; omega) at_) ?_
          intro v5 κ5 s5 h5 k5
          conv => whnf
          refine hp.dkN h5 k5 ?_
          clear hp h5 k5
          intro s hp
          conv => whnf
          repeat (first | (refine Br.no (by first | with_reducible rfl | exact q1) ?_; conv => whnf))
          have e5 : IntKind.i64.wrap (10 + (n : Int)) = ((10 + n : Nat) : Int) := by rw [wi64 (by omega) (by omega)]; push_cast; rfl
          rw [e5]
          obtain ⟨w6, f6, hw6⟩ := slice_to (hp.slR .here) .i64 (n := 10 + n) (by omega)
          refine Om.of w6 f6 ?_
          conv => whnf
          repeat (first | (refine Br.no (by first | with_reducible rfl | exact q1) ?_; conv => whnf))
          have hlen5 : (layF ⟨IntKind.i64.wrap (num8 ((l.drop 10).take (18 - 10)) : Int), ⟨body.toArray⟩⟩ at_).length ≤ 1000000 := by
            have hel := Pk.encI_len (n := (body.length : Int)) (by unfold Pk.inR; omega)
            unfold layF layB
            simp [bytes8_len, bs_mk]
            omega
          refine (equal_spec _ (hp.rst.slF .here) hw6.reset hlen5).mono ?_
          rintro _ _ ⟨rfl, rfl⟩
          conv => whnf
          refine hp.dkS ?_
          conv => whnf
          repeat (first | (refine Br.no (by first | with_reducible rfl | exact q1) ?_; conv => whnf))
          refine ⟨rfl, hp.pik (by repeat (first | exact Pik.nil | exact Pik.refl _ | exact Rm.here | apply Rm.there | apply Pik.cons | apply Pik.skip)), _, subK_ok ⟨rfl, rfl, rfl, rfl, rfl, trivial⟩, ?_⟩
          rw [Bool.not_eq_false', decide_eq_true_eq]
          exact ⟨fun h => ⟨hrest, h⟩, fun h => h.2⟩
        · have q1 : decide ((rest.length : Int) > 0) = true := decide_eq_true (by
            have := List.length_pos_iff.2 hrest; omega)
          repeat (first | (refine Br.no (by first | with_reducible rfl | rfl) ?_; conv => whnf))
          repeat (first | (refine Br.yes (by first | with_reducible rfl | exact q1) ?_; conv => whnf))
          exact ⟨rfl, hp.pik (by repeat (first | exact Pik.nil | exact Pik.refl _ | exact Rm.here | apply Rm.there | apply Pik.cons | apply Pik.skip)), true, subK_ok ⟨rfl, rfl, rfl, rfl, rfl, trivial⟩, by simp [hrest]⟩
      clear hp
      rintro e L' s ⟨rfl, hp, q, hs, hq⟩
      refine Sm.weak _ hs ?_
      clear hs
      refine Sm.ofW ?_
      conv => whnf
      cases q with
      | true =>
        have hw : wholeF l at_ = none := by
          rw [hwF, if_neg]
          intro h
          have := hq.2 h; cases this
        refine Br.yes rfl ?_
        conv => whnf
        refine hp.storeW (vs := Rr.cells ⟨0, ⟨#[]⟩⟩) (C := Rr.cells ⟨0, ⟨#[]⟩⟩) rfl (by repeat (first | exact Rm.here | apply Rm.there)) (by rfl) rfl rfl rfl ?_
        clear hp
        intro s hp _
        conv => whnf
        refine hp.loadA (l := Rr.cells ⟨0, ⟨#[]⟩⟩) (by repeat (first | exact Has.here | apply Has.there | (apply Has.swap; repeat (first | exact HasR.here | apply HasR.there)))) rfl (by rfl) rfl rfl ?_
        conv => whnf
        exact ⟨hp.fr, .inl ⟨hw, _, rfl, rfl⟩⟩
      | false =>
        have hw := hq.1 rfl
        rw [if_pos hw] at hwF
        refine Br.no rfl ?_
        conv => whnf
        refine Sm.ofW ?_
        conv => whnf
        refine hp.loadA (l := Rr.cells ⟨IntKind.i64.wrap (num8 ((l.drop 10).take (18 - 10)) : Int), ⟨body.toArray⟩⟩) (by repeat (first | exact Has.here | apply Has.there | (apply Has.swap; repeat (first | exact HasR.here | apply HasR.there)))) rfl (by rfl) rfl rfl ?_
        conv => whnf
        refine hp.storeW (vs := Rr.cells ⟨IntKind.i64.wrap (num8 ((l.drop 10).take (18 - 10)) : Int), ⟨body.toArray⟩⟩) (C := Rr.cells ⟨0, ⟨#[]⟩⟩) rfl (by repeat (first | exact Rm.here | apply Rm.there)) (by rfl) rfl rfl rfl ?_
        clear hp
        intro s hp _
        conv => whnf
        refine hp.loadA (l := Rr.cells ⟨IntKind.i64.wrap (num8 ((l.drop 10).take (18 - 10)) : Int), ⟨body.toArray⟩⟩) (by repeat (first | exact Has.here | apply Has.there | (apply Has.swap; repeat (first | exact HasR.here | apply HasR.there)))) rfl (by rfl) rfl rfl ?_
        conv => whnf
        have e5 : IntKind.i64.wrap (10 + (n : Int)) = ((10 + n : Nat) : Int) := by rw [wi64 (by omega) (by omega)]; push_cast; rfl
        refine ⟨hp.fr, .inr ⟨_, _, hwF, ?_⟩⟩
        rw [← e5]
        rfl
end Go.Ev
end

/- Rolls: what is laid down, the last one, what is left, the records. No condition. -/
noncomputable section
namespace Go.Ev
open Go.Proofs
set_option linter.unusedVariables false
set_option maxRecDepth 100000

def slabA (p : Value) (ks kb : Nat) (σ : SL) : At where
  foot := fun j => j = ks ∨ j = kb
  ok := fun s => SlabAt s p ks kb σ
  keep := fun _ _ _ hk hX h => h.keep hk (hX ks (.inl rfl)) (hX kb (.inr rfl))
  lt := fun s wf h j hj => by
    have := h.lt wf
    rcases hj with rfl | rfl
    · exact this.1
    · exact this.2
  lo := fun s m h => by
    obtain ⟨bs, bb, rfl, g1, g2⟩ := h.ex
    exact ⟨h.ne, h.len, bs, bb, rfl, g1.lo m, g2.lo m⟩
section
variable {X : Nat → Prop} {s0 s : St} {R F G H : List At} {p : Value} {ks kb : Nat} {σ : SL}
theorem Hp.slab (hp : Hp X s0 R F s) (m : Has (slabA p ks kb σ) F R) : SlabAt s p ks kb σ := hp.at m
theorem Hp.sNew (hp : Hp X s0 R F s) (n : Int) {K : Value → St → Prop} (k : ∀ b ks kb s', Hp X s0 R (slabA (.pointer (some ⟨b, 0, none⟩)) ks kb ⟨List.replicate (max 1 (min n 65536)).toNat 0, 0, 0, 0, false, false⟩ :: F) s' → K0 s s' → K (.pointer (some ⟨b, 0, none⟩)) s') :
    Cw Try.prog 8 [.int .i64 n] s K :=
  (new_spec hp.wf n).mono fun r s' ⟨k1, ks, kb, h1, h2, h3⟩ => by
    obtain ⟨bs, bb, rfl, _⟩ := h3.ex
    refine k bs ks kb s' (hp.push k1 h3 ?_) k1
    rintro j (rfl | rfl)
    · exact h1
    · exact h2
theorem Hp.sWrite (hp : Hp X s0 R F s) (r : Rm (slabA p ks kb σ) F G) (at_ : Int) {κ : Option Nat} {v : Value} {l : List UInt8} (m : Has (onA κ v 1 l.length (byteVals l)) G R) {K : Value → St → Prop}
    (k : ∀ s', Hp X s0 R (slabA p ks kb (σ.write at_ l).1 :: G) s' → K (.bool (σ.write at_ l).2) s') : Cw Try.prog 16 [p, .int .i64 at_, v] s K := by
  have hS : SlabAt s p ks kb σ := hp.okF _ r.sub.1
  have hdj : ∀ j, κ = some j → j ≠ ks ∧ j ≠ kb := by
    intro j hj
    have : ∀ q, (q = ks ∨ q = kb) → ¬ (κ = some q) := by
      rcases m.mem with g | g
      · exact (r.dj hp.dj).1 _ g
      · exact fun q hq => hp.dr _ r.sub.1 _ g q hq
    exact ⟨fun h => this ks (.inl rfl) (h ▸ hj), fun h => this kb (.inr rfl) (h ▸ hj)⟩
  have ho : OwnO s κ v 1 l.length (byteVals l) := by
    rcases m.mem with g | g
    · exact hp.okF _ (r.sub.2 _ g)
    · exact hp.okR _ g
  refine (write_spec hp.wf hS at_ (Sb.of ho.sl) hdj).mono fun v s' ⟨k1, hv, h1⟩ => ?_
  subst hv
  exact k s' (hp.upd r k1 (fun j hj => .inl hj) h1 fun j hj => .inl hj)
theorem Hp.sRead (hp : Hp X s0 R F s) (m : Has (slabA p ks kb σ) F R) (at_ n : Int) {K : Value → St → Prop}
    (k1 : σ.read at_ n = none → K (.tuple #[.slice none 0 0, .bool false]) s) (k : ∀ l v κ s', σ.read at_ n = some l → Hp X s0 R (onA κ v 1 l.length (byteVals l) :: F) s' → K0 s s' → K (.tuple #[v, .bool true]) s') :
    Cw Try.prog 15 [p, .int .i64 at_, .int .i64 n] s K := by
  have hS : SlabAt s p ks kb σ := hp.at m
  cases hr : σ.read at_ n with
  | none =>
    have hno := SL.has_iff (σ := σ) (a := at_) (n := n)
    -- not there: nothing is touched
    obtain ⟨bs, bb, rfl, g1, g2⟩ := hS.ex
    have hh : σ.has at_ n = false := by
      cases hq : σ.has at_ n with
      | false => rfl
      | true => simp [SL.read, hq] at hr
    refine Cw.enter Try.func15 rfl rfl ?_
    conv => whnf
    refine (has_spec hS at_ n).mono ?_
    rintro r s' ⟨rfl, rfl⟩
    rw [hh]
    conv => whnf
    refine Br.yes rfl ?_
    conv => whnf
    exact ⟨k1 hr⟩
  | some l =>
    refine (read_spec hp.wf hS at_ n).mono fun v s' ⟨h1, h2⟩ => ?_
    rcases h2 with ⟨h2, _⟩ | ⟨l', w, h2, rfl, o⟩
    · rw [hr] at h2; cases h2
    · rw [hr] at h2; injection h2 with h2; subst h2
      obtain ⟨κ, h3⟩ := hp.on h1 o
      exact k l w κ s' hr h3 h1
theorem Hp.sCut (hp : Hp X s0 R F s) (r : Rm (slabA p ks kb σ) F G) (n torn : Int) {K : Value → St → Prop} (k : ∀ v s', Hp X s0 R (slabA p ks kb { σ with left := n, torn := torn, limits := decide (n ≥ 0) } :: G) s' → K v s') :
    Cw Try.prog 18 [p, .int .i64 n, .int .i64 torn] s K :=
  (cut_spec hp.wf (hp.okF _ r.sub.1 : SlabAt s p ks kb σ) n torn).mono fun v s' ⟨k1, h1⟩ => k v s' (hp.upd r k1 (fun j hj => .inl (.inl hj)) h1 fun j hj => .inl hj)
theorem Hp.sRevive (hp : Hp X s0 R F s) (r : Rm (slabA p ks kb σ) F G) {K : Value → St → Prop} (k : ∀ v s', Hp X s0 R (slabA p ks kb { σ with dead := false, limits := false } :: G) s' → K v s') :
    Cw Try.prog 19 [p] s K :=
  (revive_spec hp.wf (hp.okF _ r.sub.1 : SlabAt s p ks kb σ)).mono fun v s' ⟨k1, h1⟩ => k v s' (hp.upd r k1 (fun j hj => .inl (.inl hj)) h1 fun j hj => .inl hj)
end

theorem R39 : SlT Try.prog 39 42 2 24 (.agg #[.int .i64 0, .string ⟨#[]⟩]) := ⟨Try.underlying39, ⟨_, rfl, rfl, rfl, rfl⟩, rfl, rfl, by decide, by decide⟩
def rrCells (l : List Rr) : List Value := l.flatMap Rr.cells
theorem rrCells_length (l : List Rr) : (rrCells l).length = l.length * 2 := by
  induction l with
  | nil => rfl
  | cons r l ih =>
    show (Rr.cells r ++ rrCells l).length = _
    rw [List.length_append, ih]; simp [Rr.cells]; omega
theorem rrCells_one (l : List Rr) : (rrCells l).all (·.oneCell') = true := by
  rw [List.all_eq_true]
  intro x hx
  obtain ⟨r, _, hr⟩ := List.mem_flatMap.1 hx
  simp only [Rr.cells, List.mem_cons, List.not_mem_nil, or_false] at hr
  rcases hr with rfl | rfl <;> rfl
theorem rrCells_append (a b : List Rr) : rrCells (a ++ b) = rrCells a ++ rrCells b := by simp [rrCells]
theorem rrCells_drop (l : List Rr) (i : Nat) : (rrCells l).drop (i * 2) = rrCells (l.drop i) := by
  induction i generalizing l with
  | zero => simp
  | succ i ih =>
    cases l with
    | nil => simp [rrCells]
    | cons r l =>
      show (Rr.cells r ++ rrCells l).drop _ = _
      rw [show (i + 1) * 2 = 2 + i * 2 by omega, ← List.drop_drop]
      show ((rrCells l).drop (i * 2)) = _
      rw [ih]; rfl
theorem rr_cell {l : List Rr} {i j : Nat} (h : i < l.length) (hj : j < 2) : (rrCells l)[i * 2 + j]? = l[i].cells[j]? := by
  have h4 : j < l[i].cells.length := hj
  rw [← List.getElem?_drop, rrCells_drop, List.drop_eq_getElem_cons h]
  show (l[i].cells ++ rrCells (l.drop (i + 1)))[j]? = _
  rw [List.getElem?_append_left h4]
abbrev Srr (s : St) (κ : Option Nat) (v : Value) (l : List Rr) : Prop := Sl s κ v 2 l.length (rrCells l)
/-- A field of an element. -/
theorem fld_at {P : Program} {t et sz by_ : Nat} {z : Value} (T : SlT P t et sz by_ z) {s : St} {κ : Option Nat} {v : Value} {n i : Nat} {cs : List Value} (h : Sl s κ v sz n cs) (k : IntKind) (hi : i < n) :
    ∃ b off C, evIndexAddr P t v (.int k (i : Int)) = some (.pointer (some ⟨b, off, none⟩)) ∧ s.rd b = some C ∧ ∀ j, j < sz → C[off + j]? = cs[i * sz + j]? := by
  rcases h.ex with ⟨rfl, rfl, rfl, rfl⟩ | ⟨b, off, c, C, rfl, hc, hl, hs, hm⟩
  · omega
  · have hr : s.rd b = some C := by
      rcases hm with ⟨k, _, hm⟩ | ⟨_, hm⟩
      · exact hm.rd
      · exact hm.rd
    have hle : i * sz + sz ≤ n * sz := by
      have : (i + 1) * sz ≤ n * sz := Nat.mul_le_mul_right _ hi
      rw [Nat.add_mul, Nat.one_mul] at this; exact this
    refine ⟨b, off + i * sz, C, idx_at T k hi, hr, fun j hj => ?_⟩
    obtain ⟨g1, g2, g3, g4⟩ := sl_some hs
    have hlt : i * sz + j < cs.length := by omega
    have := g4 (i * sz + j) _ (List.getElem?_eq_getElem hlt)
    rw [List.getElem?_eq_getElem hlt, ← this]
    congr 1; omega
def lastF (l : List Rr) : Int := match l.getLast? with
  | none => 0
  | some r => r.seq
/-- A roll: where, how large, how much is used, its records. -/
structure RO where
  at_ : Nat
  size : Nat
  used : Nat
  l : List Rr
def roCells (p : Value) (ro : RO) (v : Value) : List Value := [p, .int .i64 ro.at_, .int .i64 ro.size, .int .i64 ro.used, v]
section
variable {X : Nat → Prop} {s0 s : St} {R F G H : List At} {p v : Value} {kr br : Nat} {κ : Option Nat} {ro : RO}
theorem last_spec (hp : Hp X s0 R F s) (m : Has (blkA kr br (roCells p ro v) 5) F R) (hv : Srr s κ v ro.l) (hl : ro.l.length ≤ 100000) :
    Cw Try.prog 30 [.pointer (some ⟨br, 0, none⟩)] s fun r s' => s' = s ∧ r = .int .i64 (lastF ro.l) := by
  obtain ⟨a, c, rfl⟩ := hv.shape
  refine Cw.enterS Try.func30 rfl rfl ?_
  refine Sm.seqW ?_
  conv => whnf
  refine Sm.seq ?_
  refine Sm.seqW ?_
  conv => whnf
  refine hp.load m rfl rfl rfl rfl ?_
  conv => whnf
  refine Sm.ofW ?_
  conv => whnf
  refine Br.mk (fun hq => ?_) (fun hq => ?_)
  · have hq : ro.l.length = 0 := by have := eq_of_beq hq; omega
    conv => whnf
    have : lastF ro.l = 0 := by rw [List.length_eq_zero_iff.1 hq]; rfl
    rw [this]
    exact ⟨rfl, rfl⟩
  · have hq : ro.l.length ≠ 0 := by have := beq_eq_false_iff_ne.1 hq; omega
    conv => whnf
    refine Sm.ofW ?_
    conv => whnf
    refine ⟨[0, 1, 3, 7, 0, 16, 48, 112, 240, 496, 1023, 2047, 4095, 8191], by decide +kernel, by decide +kernel, ?_⟩
    conv => whnf
    refine hp.load m rfl rfl rfl rfl ?_
    conv => whnf
    refine hp.load m rfl rfl rfl rfl ?_
    conv => whnf
    have e1 : IntKind.i64.wrap ((ro.l.length : Int) - 1) = ((ro.l.length - 1 : Nat) : Int) := by rw [wi64 (by omega) (by omega)]; omega
    rw [e1]
    obtain ⟨b, off, C, i1, i2, i3⟩ := fld_at R39 hv .i64 (i := ro.l.length - 1) (by omega)
    refine Om.of _ i1 ?_
    conv => whnf
    have hlast : C[off + 0]? = some (.int .i64 (lastF ro.l)) := by
      rw [i3 0 (by decide), rr_cell (by omega) (by decide)]
      have : lastF ro.l = (ro.l[ro.l.length - 1]'(by omega)).seq := by
        unfold lastF
        rw [List.getLast?_eq_getElem?, List.getElem?_eq_getElem (by omega)]
      rw [this]; rfl
    refine Om.of _ (load_cell Try.underlying3 rfl rfl i2 hlast) ?_
    conv => whnf
    exact ⟨rfl, rfl⟩
theorem left_spec (hp : Hp X s0 R F s) (m : Has (blkA kr br (roCells p ro v) 5) F R) (h1 : ro.size ≤ 65536) (h2 : ro.used ≤ 65536) :
    Cw Try.prog 13 [.pointer (some ⟨br, 0, none⟩)] s fun r s' => s' = s ∧ r = .int .i64 ((ro.size : Int) - ro.used) := by
  refine Cw.enterS Try.func13 rfl rfl ?_
  refine Sm.seqW ?_
  conv => whnf
  refine Sm.seq ?_
  refine Sm.seqW ?_
  conv => whnf
  refine Om.of (.bool false) rfl ?_
  conv => whnf
  refine Sm.ofW ?_
  conv => whnf
  refine Br.no rfl ?_
  conv => whnf
  refine Sm.ofW ?_
  conv => whnf
  refine ⟨[0, 1, 3, 7, 0, 16, 48, 112, 255, 511], by decide +kernel, by decide +kernel, ?_⟩
  conv => whnf
  refine hp.load m rfl rfl rfl rfl ?_
  conv => whnf
  refine hp.load m rfl rfl rfl rfl ?_
  conv => whnf
  exact ⟨rfl, congrArg (Value.int .i64) (wi64 (by omega) (by omega))⟩
end
end Go.Ev
end

/- Rolls: the records, told; a record is appended. No condition. -/
noncomputable section
namespace Go.Ev
open Go.Proofs
set_option linter.unusedVariables false
set_option maxRecDepth 100000

theorem rrclone_spec {s : St} (wf : WF s) {κ : Option Nat} {v : Value} {l : List Rr} (h : Srr s κ v l) (hl : l.length ≤ 100000) :
    Cw Try.prog 36 [v] s fun r s' => K0 s s' ∧ OwnN s.next s' r 2 l.length (rrCells l) := by
  refine Cw.enter Try.func36 rfl rfl ?_
  rcases h.ex with ⟨rfl, h1, h2, rfl⟩ | ⟨b, off, c, C, rfl, hc, hlen, hs, hm⟩
  · conv => whnf
    refine Om.of (.bool true) rfl ?_
    conv => whnf
    refine Br.yes rfl ?_
    conv => whnf
    exact ⟨⟨Kp.refl wf, ⟨.inl ⟨rfl, h1, h2⟩⟩⟩⟩
  · conv => whnf
    refine Om.of (.bool false) rfl ?_
    conv => whnf
    refine Br.no rfl ?_
    conv => whnf
    obtain ⟨v1, s1, e1, o1, k1⟩ := buildSlice0 R39 wf
    refine Om.of (v1, s1) e1 ?_
    conv => whnf
    obtain ⟨v2, s2, e2, o2, k2⟩ := append_own R39 Try.underlying39 rfl k1.wf o1 (elems_sl (h.keep0 k1)) (rrCells_length l) (rrCells_one l) (by omega)
    refine Om.of (v2, s2) e2 ?_
    conv => whnf
    rw [Nat.zero_add, List.nil_append] at o2
    exact ⟨⟨k1.trans k2 fun j hj => .inr (by omega), o2.n k2.wf (Nat.le_refl _)⟩⟩
theorem rrclip_spec {s : St} {m : Nat} {v : Value} {l : List Rr} (h : OwnN m s v 2 l.length (rrCells l)) :
    Cw Try.prog 35 [v] s fun r s' => s' = s ∧ r = v := by
  obtain ⟨a, c, rfl⟩ := h.shape
  refine Cw.enter Try.func35 rfl rfl ?_
  conv => whnf
  refine Om.of _ (clip_ownN R39 h .i64 .i64) ?_
  conv => whnf
  exact ⟨⟨rfl, rfl⟩⟩
theorem Hp.rec2 {X : Nat → Prop} {s0 s : St} {R F : List At} {K : Value × St → Prop} (h : Hp X s0 R F s) (r : Rr) (hk : ∀ v b s', Hp X s0 R (ownA b v 2 1 (rrCells [r]) :: F) s' → K0 s s' → K (v, s')) : Om (evBuildSlice Try.prog 39 1 [(0, r.val)] s) K := by
  obtain ⟨k7, b7⟩ := new_kp h.wf r.cells 2
  refine .of (.slice (some ⟨s.next, 0, none⟩) 1 1, s.new r.cells 2) rfl (hk _ _ _ (h.push k7 ⟨_, rfl, b7, rfl⟩ fun j hj => by subst hj; exact Nat.le_refl _) k7)
section
variable {X : Nat → Prop} {s0 s : St} {R F G H : List At} {p v : Value} {kr br : Nat} {κ : Option Nat} {ro : RO} {ks kb : Nat} {σ : SL}
theorem records_spec (hp : Hp X s0 R F s) (m : Has (blkA kr br (roCells p ro v) 5) F R) (hv : Srr s κ v ro.l) (hl : ro.l.length ≤ 100000) :
    Cw Try.prog 17 [.pointer (some ⟨br, 0, none⟩)] s fun r s' => K0 s s' ∧ OwnN s.next s' r 2 ro.l.length (rrCells ro.l) := by
  obtain ⟨a, c, rfl⟩ := hv.shape
  refine Cw.enterS Try.func17 rfl rfl ?_
  refine Sm.seqW ?_
  conv => whnf
  refine Sm.seq ?_
  refine Sm.seqW ?_
  conv => whnf
  refine Om.of (.bool false) rfl ?_
  conv => whnf
  refine Sm.ofW ?_
  conv => whnf
  refine Br.no rfl ?_
  conv => whnf
  refine Sm.ofW ?_
  conv => whnf
  refine hp.load m rfl rfl rfl rfl ?_
  conv => whnf
  refine (rrclone_spec hp.wf hv hl).mono ?_
  rintro w s1 ⟨k1, o1⟩
  conv => whnf
  refine (rrclip_spec o1).mono ?_
  rintro _ _ ⟨rfl, rfl⟩
  conv => whnf
  exact ⟨k1, o1⟩
/-- What Append answers. -/
inductive ApE where
  | ok | arg | full | down
def ApE.n : ApE → Int
  | .ok => 0
  | .arg => 1
  | .full => 5
  | .down => 6
/-- The error, the slab, the roll behind it. -/
def appF (σ : SL) (ro : RO) (r : Rr) : ApE × SL × RO :=
  if r.seq ≤ lastF ro.l ∨ 420 < (bs r.body).length then (.arg, σ, ro)
  else if (ro.size : Int) - ro.used < (layF r ro.used).length then (.full, σ, ro)
  else if (σ.write ((ro.at_ : Int) + ro.used) (layF r ro.used)).2 = true then (.ok, (σ.write ((ro.at_ : Int) + ro.used) (layF r ro.used)).1, { ro with l := ro.l ++ [r], used := ro.used + (layF r ro.used).length })
  else (.down, (σ.write ((ro.at_ : Int) + ro.used) (layF r ro.used)).1, ro)
theorem layF_len (r : Rr) (n : Int) : (layF r n).length = 19 + (Pk.encI ((bs r.body).length : Int)).length + (bs r.body).length := by
  unfold layF layB; simp [bytes8_len]; omega
theorem append_spec (hp : Hp X s0 R F s) (h1 : Rm (blkA kr br (roCells p ro v) 5) F G) (h2 : Rm (onA κ v 2 ro.l.length (rrCells ro.l)) G H) {H' : List At} (h3 : Rm (slabA p ks kb σ) H H') (hz : ro.size ≤ 8192) (hu : ro.used ≤ 8192) (ha : ro.at_ ≤ 65536) (hl : ro.l.length ≤ 10000)
    (r : Rr) (hb : (bs r.body).length ≤ 140737488351232) {K : Value → St → Prop}
    (hK : ∀ v' κ' s', Hp X s0 R (blkA kr br (roCells p (appF σ ro r).2.2 v') 5 :: onA κ' v' 2 (appF σ ro r).2.2.l.length (rrCells (appF σ ro r).2.2.l) :: slabA p ks kb (appF σ ro r).2.1 :: H') s' → K (.int .i64 (appF σ ro r).1.n) s') :
    Cw Try.prog 11 [.pointer (some ⟨br, 0, none⟩), .int .i64 r.seq, .string r.body] s K := by
  replace hp : Hp X s0 R (blkA kr br (roCells p ro v) 5 :: onA κ v 2 ro.l.length (rrCells ro.l) :: slabA p ks kb σ :: H') s := hp.pik (.cons h1 (.cons h2 (.cons h3 (.refl H'))))
  clear h1 h2 h3
  obtain ⟨av, cv, rfl⟩ := (hp.slF (by repeat (first | exact Rm.here | apply Rm.there))).shape
  obtain ⟨bp, bb, rfl, -, -⟩ := (hp.slab (p := p) (ks := ks) (kb := kb) (σ := σ) (by repeat (first | exact Has.here | apply Has.there | (apply Has.swap; repeat (first | exact HasR.here | apply HasR.there))))).ex
  refine Cw.enterS Try.func11 rfl rfl ?_
  refine Sm.seqW ?_
  conv => whnf
  refine Sm.seq ?_
  by_cases hc : r.seq ≤ lastF ro.l ∨ 420 < (bs r.body).length
  · have hA : appF σ ro r = (.arg, σ, ro) := by unfold appF; rw [if_pos hc]
    rw [hA] at hK
    refine Sm.seqW ?_
    conv => whnf
    refine Om.of (.bool false) rfl ?_
    conv => whnf
    repeat (refine Br.no rfl ?_; conv => whnf)
    refine (last_spec hp (by repeat (first | exact Has.here | apply Has.there | (apply Has.swap; repeat (first | exact HasR.here | apply HasR.there)))) (hp.slF (by repeat (first | exact Rm.here | apply Rm.there))) (by omega)).mono ?_
    rintro _ _ ⟨rfl, rfl⟩
    conv => whnf
    repeat (refine Br.no rfl ?_; conv => whnf)
    by_cases hs : r.seq ≤ lastF ro.l
    · have d1 : decide (r.seq ≤ lastF ro.l) = true := decide_eq_true hs
      repeat (first | (refine Br.yes (by first | with_reducible rfl | exact d1) ?_; conv => whnf))
      refine Sm.ofW ?_
      conv => whnf
      repeat (first | (refine Br.yes (by first | with_reducible rfl | exact d1) ?_; conv => whnf))
      exact ⟨hK _ _ _ hp⟩
    · have d1 : decide (r.seq ≤ lastF ro.l) = false := decide_eq_false hs
      have d2 : decide (((bs r.body).length : Int) > 420) = true := decide_eq_true (by omega)
      repeat (first | (refine Br.no (by first | with_reducible rfl | exact d1) ?_; conv => whnf))
      refine Sm.ofW ?_
      conv => whnf
      repeat (first | (refine Br.yes (by first | with_reducible rfl | exact d2) ?_; conv => whnf))
      exact ⟨hK _ _ _ hp⟩
  have d1 : decide (r.seq ≤ lastF ro.l) = false := decide_eq_false (fun h => hc (.inl h))
  have d2 : decide (((bs r.body).length : Int) > 420) = false := decide_eq_false (fun h => hc (.inr (by omega)))
  have hb2 : (bs r.body).length ≤ 420 := by omega
  have hel := Pk.encI_len (n := ((bs r.body).length : Int)) (by unfold Pk.inR; omega)
  have hlay := layF_len r ro.used
  refine Sm.seqW ?_
  conv => whnf
  refine Om.of (.bool false) rfl ?_
  conv => whnf
  repeat (refine Br.no rfl ?_; conv => whnf)
  refine (last_spec hp (by repeat (first | exact Has.here | apply Has.there | (apply Has.swap; repeat (first | exact HasR.here | apply HasR.there)))) (hp.slF (by repeat (first | exact Rm.here | apply Rm.there))) (by omega)).mono ?_
  rintro _ _ ⟨rfl, rfl⟩
  conv => whnf
  repeat (first | (refine Br.no (by first | with_reducible rfl | exact d1) ?_; conv => whnf))
  refine Sm.ofW ?_
  conv => whnf
  refine Br.no d2 ?_
  conv => whnf
  refine Sm.live [0, 1, 2] ?_
  conv => whnf
  refine Sm.seqW ?_
  conv => whnf
  refine hp.alloc (cs := Rr.cells ⟨0, ⟨#[]⟩⟩) (e := 2) rfl rfl rfl rfl rfl ?_
  clear hp
  intro b7 s hp _
  conv => whnf
  refine hp.storeW (vs := r.cells) rfl (by repeat (first | exact Rm.here | apply Rm.there)) (by rfl) rfl rfl rfl ?_
  clear hp
  intro s hp _
  conv => whnf
  refine Sm.live [0, 7] ?_
  conv => whnf
  -- its bytes
  refine Sm.seqW ?_
  conv => whnf
  refine ⟨[0, 0, 2, 6, 14, 31, 63], by decide +kernel, by decide +kernel, ?_⟩
  conv => whnf
  refine hp.loadA (l := r.cells) (by repeat (first | exact Has.here | apply Has.there | (apply Has.swap; repeat (first | exact HasR.here | apply HasR.there)))) rfl (by rfl) rfl rfl ?_
  conv => whnf
  (refine hp.load (by repeat (first | exact Has.here | apply Has.there | (apply Has.swap; repeat (first | exact HasR.here | apply HasR.there)))) (by rfl) rfl rfl rfl ?_; conv => whnf)
  refine hp.rst.callO (laid_spec hp.rst.wf r (by omega) (ro.used : Int)) ?_
  intro v8 κ8 s8 h8 k8
  conv => whnf
  refine hp.dkN h8 k8 ?_
  clear hp h8 k8
  intro s hp
  obtain ⟨a8, c8, rfl⟩ := (hp.slF .here).shape
  conv => whnf
  refine Sm.live [0, 7, 8] ?_
  conv => whnf
  refine Sm.seq (Sm.block ?_)
  refine Sm.seqW ?_
  conv => whnf
  refine (left_spec hp (by repeat (first | exact Has.here | apply Has.there | (apply Has.swap; repeat (first | exact HasR.here | apply HasR.there)))) (by omega) (by omega)).mono ?_
  rintro _ _ ⟨rfl, rfl⟩
  conv => whnf
  refine Sm.ofW ?_
  conv => whnf
  by_cases hf : (ro.size : Int) - ro.used < (layF r ro.used).length
  · have hA : appF σ ro r = (.full, σ, ro) := by unfold appF; rw [if_neg hc, if_pos hf]
    rw [hA] at hK
    refine Br.yes (decide_eq_true (by omega)) ?_
    conv => whnf
    exact ⟨hK _ _ _ (hp.pik (by repeat (first | exact Pik.nil | exact Pik.refl _ | exact Rm.here | apply Rm.there | apply Pik.cons | apply Pik.skip)))⟩
  refine Br.no (decide_eq_false (by omega)) ?_
  conv => whnf
  refine ⟨[0, 1, 3, 7, 0, 16, 48, 112, 0, 256, 768, 1792, 4080, 0, 16383, 32767, 65535], by decide +kernel, by decide +kernel, ?_⟩
  conv => whnf
  (refine hp.load (by repeat (first | exact Has.here | apply Has.there | (apply Has.swap; repeat (first | exact HasR.here | apply HasR.there)))) (by rfl) rfl rfl rfl ?_; conv => whnf)
  (refine hp.load (by repeat (first | exact Has.here | apply Has.there | (apply Has.swap; repeat (first | exact HasR.here | apply HasR.there)))) (by rfl) rfl rfl rfl ?_; conv => whnf)
  (refine hp.load (by repeat (first | exact Has.here | apply Has.there | (apply Has.swap; repeat (first | exact HasR.here | apply HasR.there)))) (by rfl) rfl rfl rfl ?_; conv => whnf)
  have e1 : IntKind.i64.wrap ((ro.at_ : Int) + (ro.used : Int)) = (ro.at_ : Int) + ro.used := wi64 (by omega) (by omega)
  rw [e1]
  refine hp.rst.sWrite (by repeat (first | exact Rm.here | apply Rm.there)) _ (by repeat (first | exact Has.here | apply Has.there | (apply Has.swap; repeat (first | exact HasR.here | apply HasR.there)))) ?_
  intro s9 h9
  conv => whnf
  cases hw : (σ.write ((ro.at_ : Int) + ro.used) (layF r ro.used)).2 with
  | false =>
    have hA : appF σ ro r = (.down, (σ.write ((ro.at_ : Int) + ro.used) (layF r ro.used)).1, ro) := by unfold appF; rw [if_neg hc, if_neg hf, if_neg (by rw [hw]; decide)]
    rw [hA] at hK
    refine hp.dkA h9 ?_ ?_
    all_goals
      clear hp h9
      intro s hp
      conv => whnf
      refine Br.yes rfl ?_
      conv => whnf
      exact ⟨hK _ _ _ (hp.pik (by repeat (first | exact Pik.nil | exact Pik.refl _ | exact Rm.here | apply Rm.there | apply Pik.cons | apply Pik.skip)))⟩
  | true =>
    have hA : appF σ ro r = (.ok, (σ.write ((ro.at_ : Int) + ro.used) (layF r ro.used)).1, { ro with l := ro.l ++ [r], used := ro.used + (layF r ro.used).length }) := by unfold appF; rw [if_neg hc, if_neg hf, if_pos hw]
    rw [hA] at hK
    refine hp.dkA h9 ?_ ?_
    all_goals
      clear hp h9
      intro s hp
      conv => whnf
      refine Br.no rfl ?_
      conv => whnf
      refine Sm.live [0, 7, 8] ?_
      conv => whnf
      -- one record more
      refine Sm.seqW ?_
      conv => whnf
      refine ⟨[0, 0, 2, 6, 14, 0, 32, 126, 255, 511, 1023], by decide +kernel, by decide +kernel, ?_⟩
      conv => whnf
      (refine hp.load (by repeat (first | exact Has.here | apply Has.there | (apply Has.swap; repeat (first | exact HasR.here | apply HasR.there)))) (by rfl) rfl rfl rfl ?_; conv => whnf)
      refine hp.loadA (l := r.cells) (by repeat (first | exact Has.here | apply Has.there | (apply Has.swap; repeat (first | exact HasR.here | apply HasR.there)))) rfl (by rfl) rfl rfl ?_
      conv => whnf
      refine hp.rst.rec2 r ?_
      intro v7 b9 s7 h7 k7
      conv => whnf
      refine hp.dkN h7 k7 ?_
      clear hp h7 k7
      intro s7 hp
      conv => whnf
      have x7 : Srr (reset s7) (some b9) v7 [r] := Own.sl (hp.rst.okF _ List.mem_cons_self)
      refine hp.rst.app R39 Try.underlying39 rfl (by repeat (first | exact Rm.here | apply Rm.there)) (elems_sl x7) rfl (rrCells_one [r]) (by simp only [List.length_singleton]; omega) ?_
      intro v9 κ9 s9 h9
      rw [← rrCells_append] at h9
      conv => whnf
      obtain ⟨a9, c9, rfl⟩ := (h9.slF (by repeat (first | exact Rm.here | apply Rm.there))).shape
      refine hp.dkA h9 ?_ ?_
      all_goals
        clear hp h9 x7
        intro s hp
        conv => whnf
        (refine hp.rst.store (by repeat (first | exact Rm.here | apply Rm.there)) (by first | exact of_decide_eq_true rfl | (simp; done) | (simp; omega) | omega) rfl rfl rfl rfl ?_; intro s1 h1 l1; (conv => whnf); refine hp.dkW h1 l1 ?_; clear h1 l1; intro s hp; conv => whnf)
        refine Sm.live [0, 7, 8] ?_
        conv => whnf
        refine Sm.seqW ?_
        conv => whnf
        (refine hp.load (by repeat (first | exact Has.here | apply Has.there | (apply Has.swap; repeat (first | exact HasR.here | apply HasR.there)))) (by rfl) rfl rfl rfl ?_; conv => whnf)
        (refine hp.store (by repeat (first | exact Rm.here | apply Rm.there)) (by first | exact of_decide_eq_true rfl | (simp; done) | (simp; omega) | omega) rfl rfl rfl rfl ?_; intro s hp _; conv => whnf)
        have e2 : IntKind.i64.wrap ((ro.used : Int) + ((layF r ro.used).length : Int)) = ((ro.used + (layF r ro.used).length : Nat) : Int) := by
          rw [wi64 (by omega) (by omega)]; push_cast; rfl
        rw [e2] at hp
        refine Sm.ofW ?_
        conv => whnf
        have hq : (ro.l ++ [r]).length = ro.l.length + 1 := by simp
        refine ⟨hK (.slice a9 (ro.l.length + 1) c9) κ9 _ ?_⟩
        simp only [hq]
        exact hp.pik (by repeat (first | exact Pik.nil | exact Pik.refl _ | exact Rm.here | apply Rm.there | apply Pik.cons | apply Pik.skip))
end
end Go.Ev
end

/- Rolls: what is behind the records is zeroed. No condition. -/
noncomputable section
namespace Go.Ev
open Go.Proofs
set_option linter.unusedVariables false
set_option maxRecDepth 100000

theorem isnt_spec (s : St) (c : UInt8) : Cw Try.prog 46 [.int .u8 (c.toNat : Int)] s fun r s' => s' = s ∧ r = .bool (!(c == 0)) := by
  refine Cw.enter Try.func46 rfl rfl ?_
  conv => whnf
  refine ⟨⟨rfl, congrArg Value.bool ?_⟩⟩
  by_cases h : c = 0
  · subst h; rfl
  · have h2 : c.toNat ≠ 0 := fun e => h (UInt8.toNat_inj.1 e)
    have : ((c.toNat : Int) == 0) = false := beq_eq_false_iff_ne.2 (by omega)
    show (match ((c.toNat : Int) == 0) with | true => false | false => true) = _
    rw [this, beq_eq_false_iff_ne.2 h]; rfl
theorem indexFunc_spec (s : St) {κ : Option Nat} {v : Value} {l : List UInt8} (hv : Sb s κ v l) (hl : l.length ≤ 1000000) :
    Cw Try.prog 56 [v, .func (.func 46) #[] #[]] s fun r s' => s' = s ∧ ∃ i : Int, r = .int .i64 i ∧ (0 ≤ i ↔ l.any (fun c => !(c == 0)) = true) := by
  obtain ⟨a, c, rfl⟩ := hv.shape
  refine Cw.enterS Try.func56 rfl rfl ?_
  refine Sm.seqW ?_
  conv => whnf
  refine Sm.seq ?_
  refine Sm.seqW ?_
  conv => whnf
  refine Sm.block ?_
  refine Sm.loop ?_
  refine Lp.ofS (α := Nat) (fun i => [(0, .slice a l.length c), (1, .func (.func 46) #[] #[]), (7, .int .i64 (l.length : Int)), (8, .int .i64 (i : Int))])
    (fun i s' => s' = s ∧ i ≤ l.length ∧ (l.take i).any (fun c => !(c == 0)) = false) (fun i => l.length - i) ?_ 0 (subK_ok (by refine ⟨rfl, rfl, rfl, rfl, trivial⟩)) ⟨rfl, by omega, rfl⟩
  rintro i s1 ⟨rfl, hi, hno⟩
  refine Sm.seqW ?_
  conv => whnf
  refine Sm.seqW ?_
  conv => whnf
  refine Br.mk (fun hc => ?_) (fun hc => ?_)
  · have hc : i < l.length := by have := of_decide_eq_true hc; omega
    conv => whnf
    refine Sm.seq (Sm.block ?_)
    refine Sm.seqW ?_
    conv => whnf
    refine Sm.seqW ?_
    conv => whnf
    obtain ⟨p, e1, e2⟩ := idx8 hv hc
    refine Om.of _ e1 ?_
    conv => whnf
    refine Om.of _ e2 ?_
    conv => whnf
    refine (isnt_spec s1 l[i]).mono ?_
    rintro _ _ ⟨rfl, rfl⟩
    conv => whnf
    refine Sm.ofW ?_
    conv => whnf
    cases hz : (!(l[i] == 0)) with
    | true =>
      refine Br.yes rfl ?_
      conv => whnf
      refine ⟨rfl, (i : Int), rfl, fun _ => ?_, fun _ => by omega⟩
      rw [List.any_eq_true]
      exact ⟨l[i], List.getElem_mem hc, hz⟩
    | false =>
      refine Br.no rfl ?_
      conv => whnf
      refine Sm.ofW ?_
      conv => whnf
      have e6 : IntKind.i64.wrap ((i : Int) + 1) = ((i + 1 : Nat) : Int) := by rw [wi64 (by omega) (by omega)]; omega
      refine ⟨i + 1, by (show l.length - (i + 1) < l.length - i); omega, subK_ok (by refine ⟨rfl, rfl, rfl, congrArg (fun x => some (Value.int .i64 x)) e6, trivial⟩), rfl, hc, ?_⟩
      rw [List.take_succ_eq_append_getElem hc, List.any_append, hno]
      simp only [List.any_cons, List.any_nil, hz]; rfl
  · have hc : i = l.length := by have := of_decide_eq_false hc; omega
    subst hc
    rw [List.take_of_length_le (Nat.le_refl _)] at hno
    conv => whnf
    refine Sm.ofW ?_
    conv => whnf
    exact ⟨rfl, -1, rfl, fun h => by omega, fun h => by rw [hno] at h; cases h⟩
theorem contains_spec (s : St) {κ : Option Nat} {v : Value} {l : List UInt8} (hv : Sb s κ v l) (hl : l.length ≤ 1000000) :
    Cw Try.prog 45 [v, .func (.func 46) #[] #[]] s fun r s' => s' = s ∧ r = .bool (l.any (fun c => !(c == 0))) := by
  refine Cw.enter Try.func45 rfl rfl ?_
  conv => whnf
  refine (indexFunc_spec s hv hl).mono ?_
  rintro _ _ ⟨rfl, i, rfl, h⟩
  conv => whnf
  refine ⟨⟨rfl, congrArg Value.bool ?_⟩⟩
  show decide (i ≥ 0) = _
  cases ha : l.any (fun c => !(c == 0)) with
  | true => exact decide_eq_true (h.2 ha)
  | false => exact decide_eq_false (fun hh => by have := h.1 hh; rw [ha] at this; cases this)
/-- Zeros are written, thirty-two at once. -/
def zeroL : Nat → SL → Int → Nat → Nat → SL × Bool
  | 0, σ, _, _, _ => (σ, true)
  | f + 1, σ, base, at_, len => if at_ < len then
      (if (σ.write (base + at_) (List.replicate (min 32 (len - at_)) 0)).2 = true then zeroL f (σ.write (base + at_) (List.replicate (min 32 (len - at_)) 0)).1 base (at_ + 32) len else ((σ.write (base + at_) (List.replicate (min 32 (len - at_)) 0)).1, false))
    else (σ, true)
def zeroF (σ : SL) (base : Int) (l : List UInt8) : SL × Bool := if l.any (fun c => !(c == 0)) = true then zeroL (l.length + 1) σ base 0 l.length else (σ, true)
theorem SL.write_len (σ : SL) (a : Int) (l : List UInt8) : (σ.write a l).1.b.length = σ.b.length := by
  unfold SL.write
  split
  · rename_i h
    obtain ⟨h1, h2, h3, h4, h5⟩ := SL.has_iff.1 h
    split
    · simp only; rw [putB_length _ _ _ (by simp; omega)]
    · simp only; rw [putB_length _ _ _ (by omega)]
  · rfl
section
variable {X : Nat → Prop} {s0 s : St} {R F G H : List At} {p v : Value} {kr br : Nat} {κ : Option Nat} {ro : RO} {ks kb : Nat} {σ : SL}
theorem Hp.blkOn {k b e n : Nat} {C : List Value} (h : Hp X s0 R F s) (r : Rm (blkA k b C e) F G) (hl : C.length = n * e) : Hp X s0 R (onA (some k) (.slice (some ⟨b, 0, none⟩) n n) e n C :: G) s :=
  h.as r (fun hb => ⟨.inr ⟨k, rfl, b, rfl, hb, hl⟩⟩) fun j hj => by (injection hj with hj); exact hj.symm
theorem zeroed_spec (hp : Hp X s0 R F s) (h1 : Rm (blkA kr br (roCells p ro v) 5) F G) (h3 : Rm (slabA p ks kb σ) G H) (ha : ro.at_ ≤ 65536) (hu : ro.used ≤ 8192) {κb : Option Nat} {w : Value} {l : List UInt8} (hw : HasR (slA κb w 1 l.length (byteVals l)) R) (hl : l.length ≤ 8192)
    {K : Value → St → Prop} (hK : ∀ s', Hp X s0 R (slabA p ks kb (zeroF σ ((ro.at_ : Int) + ro.used) l).1 :: blkA kr br (roCells p ro v) 5 :: H) s' → K (.int .i64 (if (zeroF σ ((ro.at_ : Int) + ro.used) l).2 = true then 0 else 6)) s') :
    Cw Try.prog 31 [.pointer (some ⟨br, 0, none⟩), w] s K := by
  replace hp : Hp X s0 R (slabA p ks kb σ :: blkA kr br (roCells p ro v) 5 :: H) s := (hp.pik (.cons h1 (.cons h3 (.refl H)))).pik (by repeat (first | exact Pik.nil | exact Pik.refl _ | exact Rm.here | apply Rm.there | apply Pik.cons | apply Pik.skip))
  clear h1 h3
  obtain ⟨aw, cw, rfl⟩ := (hp.slR hw).shape
  obtain ⟨bp, bb, rfl, -, -⟩ := (hp.slab (p := p) (ks := ks) (kb := kb) (σ := σ) (by repeat (first | exact Has.here | apply Has.there | (apply Has.swap; repeat (first | exact HasR.here | apply HasR.there))))).ex
  refine Cw.enterS Try.func31 rfl rfl ?_
  refine Sm.seqW ?_
  conv => whnf
  refine Sm.seq ?_
  refine Sm.seqW ?_
  conv => whnf
  refine (contains_spec s (hp.slR hw) (by omega)).mono ?_
  rintro _ _ ⟨rfl, rfl⟩
  conv => whnf
  refine Sm.ofW ?_
  conv => whnf
  cases hany : l.any (fun c => !(c == 0)) with
  | false =>
    have hz : zeroF σ ((ro.at_ : Int) + ro.used) l = (σ, true) := by unfold zeroF; rw [hany]; rfl
    rw [hz] at hK
    refine Br.yes rfl ?_
    conv => whnf
    exact ⟨hK _ hp⟩
  | true =>
    have hz : zeroF σ ((ro.at_ : Int) + ro.used) l = zeroL (l.length + 1) σ ((ro.at_ : Int) + ro.used) 0 l.length := by unfold zeroF; rw [hany]; rfl
    rw [hz] at hK
    clear hz hany
    refine Br.no rfl ?_
    conv => whnf
    refine Sm.live [0, 1] ?_
    conv => whnf
    refine Sm.seq ?_
    refine Sm.seqW ?_
    conv => whnf
    refine Sm.block ?_
    refine Sm.loop ?_
    refine Lp.ofS (α := Nat × SL × Nat) (fun x => [(0, .pointer (some ⟨br, 0, none⟩)), (1, .slice aw l.length cw), (5, .int .i64 (x.1 : Int))])
      (fun x s' => x.1 ≤ l.length + 32 ∧ l.length < x.2.2 * 32 + x.1 ∧ Hp X s0 R (slabA (.pointer (some ⟨bp, 0, none⟩)) ks kb x.2.1 :: blkA kr br (roCells (.pointer (some ⟨bp, 0, none⟩)) ro v) 5 :: H) s' ∧ zeroL (l.length + 1) σ ((ro.at_ : Int) + ro.used) 0 l.length = zeroL x.2.2 x.2.1 ((ro.at_ : Int) + ro.used) x.1 l.length)
      (fun x => l.length + 32 - x.1) ?_ (0, σ, l.length + 1) (subK_ok (by refine ⟨rfl, rfl, rfl, trivial⟩)) ⟨by omega, by simp only; omega, hp, rfl⟩
    clear hp
    rintro ⟨i, τ, f⟩ s ⟨hi, hf, hp, he⟩
    simp only at hi hf hp he
    rw [he] at hK
    refine Sm.seq ?_
    refine Sm.ofW ?_
    conv => whnf
    refine Br.mk (fun hc => ?_) (fun hc => ?_)
    · have hci : i < l.length := by have := of_decide_eq_true hc; omega
      clear hc
      obtain ⟨f, rfl⟩ : ∃ g, f = g + 1 := ⟨f - 1, by omega⟩
      have hun : zeroL (f + 1) τ ((ro.at_ : Int) + ro.used) i l.length = (if (τ.write ((ro.at_ : Int) + ro.used + i) (List.replicate (min 32 (l.length - i)) 0)).2 = true then zeroL f (τ.write ((ro.at_ : Int) + ro.used + i) (List.replicate (min 32 (l.length - i)) 0)).1 ((ro.at_ : Int) + ro.used) (i + 32) l.length else ((τ.write ((ro.at_ : Int) + ro.used + i) (List.replicate (min 32 (l.length - i)) 0)).1, false)) := by
        conv => lhs; unfold zeroL
        rw [if_pos hci]
      conv => whnf
      refine Sm.seq (Sm.block ?_)
      refine Sm.seqW ?_
      conv => whnf
      refine ⟨[0, 1, 3, 7, 0, 16, 48, 112, 0, 256, 768, 1792, 4080, 0, 16368, 0, 32768, 0, 229376, 491520, 1015808, 2097151, 4194303], by decide +kernel, by decide +kernel, ?_⟩
      conv => whnf
      (refine hp.load (by repeat (first | exact Has.here | apply Has.there | (apply Has.swap; repeat (first | exact HasR.here | apply HasR.there)))) (by rfl) rfl rfl rfl ?_; conv => whnf)
      (refine hp.load (by repeat (first | exact Has.here | apply Has.there | (apply Has.swap; repeat (first | exact HasR.here | apply HasR.there)))) (by rfl) rfl rfl rfl ?_; conv => whnf)
      (refine hp.load (by repeat (first | exact Has.here | apply Has.there | (apply Has.swap; repeat (first | exact HasR.here | apply HasR.there)))) (by rfl) rfl rfl rfl ?_; conv => whnf)
      have e1 : IntKind.i64.wrap (IntKind.i64.wrap ((ro.at_ : Int) + (ro.used : Int)) + (i : Int)) = (ro.at_ : Int) + ro.used + i := by
        rw [wi64 (n := (ro.at_ : Int) + (ro.used : Int)) (by omega) (by omega), wi64 (by omega) (by omega)]
      have e2 : (if IntKind.i64.wrap ((l.length : Int) - (i : Int)) < 32 then IntKind.i64.wrap ((l.length : Int) - (i : Int)) else 32) = ((min 32 (l.length - i) : Nat) : Int) := by
        rw [wi64 (by omega) (by omega)]; split <;> omega
      generalize hm : min 32 (l.length - i) = m at e2 hun
      refine hp.rst.mks B26 rfl m e2 e2 (by omega) ?_
      intro b7 s7 h7 k7
      conv => whnf
      refine hp.dkN h7 k7 ?_
      clear hp h7 k7
      intro s hp
      rw [← byteVals_replicate] at hp
      conv => whnf
      have hp2 := hp.blkOn (n := m) (by repeat (first | exact Rm.here | apply Rm.there)) (by rw [byteVals_length]; simp)
      clear hp
      rw [e1]
      have hlr : (List.replicate m (0 : UInt8)).length = m := by simp
      refine hp2.rst.sWrite (κ := some b7) (l := List.replicate m 0) (by repeat (first | exact Rm.here | apply Rm.there)) _ (by rw [hlr]; repeat (first | exact Has.here | apply Has.there | (apply Has.swap; repeat (first | exact HasR.here | apply HasR.there)))) ?_
      intro s8 h8
      conv => whnf
      have e3 : IntKind.i64.wrap ((i : Int) + 32) = ((i + 32 : Nat) : Int) := by rw [wi64 (by omega) (by omega)]; omega
      cases hwr : (τ.write ((ro.at_ : Int) + ro.used + i) (List.replicate m 0)).2 with
      | false =>
        rw [hwr] at hun
        rw [hun] at hK
        refine hp2.dkA h8 ?_ ?_
        all_goals
          clear hp2 h8
          intro s hp
          conv => whnf
          refine Sm.ofW ?_
          conv => whnf
          refine Br.yes rfl ?_
          conv => whnf
          exact ⟨hK _ (hp.pik (by repeat (first | exact Pik.nil | exact Pik.refl _ | exact Rm.here | apply Rm.there | apply Pik.cons | apply Pik.skip)))⟩
      | true =>
        rw [hwr, if_pos rfl] at hun
        refine hp2.dkA h8 ?_ ?_
        all_goals
          clear hp2 h8
          intro s hp
          conv => whnf
          refine Sm.ofW ?_
          conv => whnf
          refine Br.no rfl ?_
          conv => whnf
          refine Sm.ofW ?_
          conv => whnf
          exact ⟨(i + 32, _, f), by (show l.length + 32 - (i + 32) < l.length + 32 - i); omega, subK_ok (by refine ⟨rfl, rfl, congrArg (fun x => some (Value.int .i64 x)) e3, trivial⟩), by (show i + 32 ≤ l.length + 32); omega, by (show l.length < f * 32 + (i + 32)); omega, hp.pik (by repeat (first | exact Pik.nil | exact Pik.refl _ | exact Rm.here | apply Rm.there | apply Pik.cons | apply Pik.skip)), he.trans hun⟩
    · have hci : ¬ i < l.length := by have := of_decide_eq_false hc; omega
      have hun : zeroL f τ ((ro.at_ : Int) + ro.used) i l.length = (τ, true) := by
        cases f with
        | zero => rfl
        | succ f => unfold zeroL; rw [if_neg hci]
      rw [hun] at hK
      conv => whnf
      refine Sm.ofW ?_
      conv => whnf
      exact ⟨hK _ hp⟩
end
end Go.Ev
end

/- Rolls: a region is opened. No condition. -/
noncomputable section
namespace Go.Ev
open Go.Proofs
set_option linter.unusedVariables false
set_option maxRecDepth 100000

theorem wholeF_n {l : List UInt8} {a : Int} {x : Rr} {n : Nat} (h : wholeF l a = some (x, n)) : 20 ≤ n ∧ n ≤ l.length := by
  unfold wholeF at h
  split at h <;> first | contradiction | skip
  simp only at h
  split at h <;> first | contradiction | skip
  split at h <;> first | contradiction | skip
  split at h <;> first | contradiction | skip
  rename_i h1 h2 body rest h3 h4
  injection h with h
  injection h with h5 h6
  subst h6
  omega
/-- The records at the beginning, and how many bytes they have. -/
def parseL : Nat → List UInt8 → Nat → List Rr → List Rr × Nat
  | 0, _, used, l => (l, used)
  | f + 1, b, used, l => match wholeF (b.drop used) used with
    | none => (l, used)
    | some (x, n) => if x.seq ≤ lastF l then (l, used) else parseL f b (used + n) (l ++ [x])
def parseF (b : List UInt8) : List Rr × Nat := parseL (b.length + 1) b 0 []
theorem parseL_le : ∀ (f : Nat) (b : List UInt8) (u : Nat) (l : List Rr), u ≤ b.length → (parseL f b u l).2 ≤ b.length ∧ l.length ≤ (parseL f b u l).1.length ∧ ((parseL f b u l).1.length - l.length) * 20 + u ≤ b.length
  | 0, b, u, l, h => ⟨h, Nat.le_refl _, by show (l.length - l.length) * 20 + u ≤ b.length; omega⟩
  | f + 1, b, u, l, h => by
    unfold parseL
    split
    · exact ⟨h, Nat.le_refl _, by simp; omega⟩
    · rename_i x n hw
      split
      · exact ⟨h, Nat.le_refl _, by simp; omega⟩
      · have hn := wholeF_n hw
        simp at hn
        have ih := parseL_le f b (u + n) (l ++ [x]) (by omega)
        simp only [List.length_append, List.length_singleton] at ih
        omega
/-- What opening answers. -/
inductive OpE where
  | arg | down | ok (ro : RO)
def openF (σ : SL) (at_ size : Int) : OpE × SL :=
  if size < 32 ∨ 8192 < size ∨ at_ < 0 ∨ (σ.b.length : Int) - size < at_ then (.arg, σ)
  else match σ.read at_ size with
    | none => (.down, σ)
    | some b => match zeroF σ (at_ + (parseF b).2) (b.drop (parseF b).2) with
      | (σ', ok) => if ok = true then (.ok ⟨at_.toNat, size.toNat, (parseF b).2, (parseF b).1⟩, σ') else (.down, σ')
section
variable {X : Nat → Prop} {s0 s : St} {R F G H : List At} {p v : Value} {kr br : Nat} {κ : Option Nat} {ro : RO} {ks kb : Nat} {σ : SL}
theorem open_spec (hp : Hp X s0 R F s) {bp : Nat} (h1 : Rm (slabA (.pointer (some ⟨bp, 0, none⟩)) ks kb σ) F G) (at_ size : Int) (ha : inR at_) (hs : inR size)
    {K : Value → St → Prop} (hArg : (openF σ at_ size).1 = .arg → ∀ s', Hp X s0 R (slabA (.pointer (some ⟨bp, 0, none⟩)) ks kb σ :: G) s' → K (.tuple #[.pointer none, .int .i64 1]) s')
    (hDown : (openF σ at_ size).1 = .down → ∀ s', Hp X s0 R (slabA (.pointer (some ⟨bp, 0, none⟩)) ks kb (openF σ at_ size).2 :: G) s' → K (.tuple #[.pointer none, .int .i64 6]) s')
    (hOk : ∀ ro, (openF σ at_ size).1 = .ok ro → ∀ kr br κ v s', Hp X s0 R (blkA kr br (roCells (.pointer (some ⟨bp, 0, none⟩)) ro v) 5 :: onA κ v 2 ro.l.length (rrCells ro.l) :: slabA (.pointer (some ⟨bp, 0, none⟩)) ks kb (openF σ at_ size).2 :: G) s' → K (.tuple #[.pointer (some ⟨br, 0, none⟩), .int .i64 0]) s') :
    Cw Try.prog 9 [.pointer (some ⟨bp, 0, none⟩), .int .i64 at_, .int .i64 size] s K := by
  replace hp : Hp X s0 R (slabA (.pointer (some ⟨bp, 0, none⟩)) ks kb σ :: G) s := hp.pik (.cons h1 (.refl G))
  clear h1
  have hlen := (hp.slab (p := .pointer (some ⟨bp, 0, none⟩)) (ks := ks) (kb := kb) (σ := σ) (by repeat (first | exact Has.here | apply Has.there | (apply Has.swap; repeat (first | exact HasR.here | apply HasR.there))))).len
  obtain ⟨ha1, ha2⟩ := ha
  obtain ⟨hs1, hs2⟩ := hs
  refine Cw.enterS Try.func9 rfl rfl ?_
  refine Sm.seqW ?_
  conv => whnf
  refine Sm.seq ?_
  refine Sm.seqC (fun e L' s' => e = .normal ∧ s' = s ∧ ∃ q, Sub [(0, .pointer (some ⟨bp, 0, none⟩)), (1, .int .i64 at_), (2, .int .i64 size), (36, .bool q)] L' ∧ (q = true ↔ (size < 32 ∨ 8192 < size ∨ at_ < 0 ∨ (σ.b.length : Int) - size < at_))) ?_ ?_
  · conv => whnf
    refine Om.of (.bool false) rfl ?_
    conv => whnf
    repeat (refine Br.no rfl ?_; conv => whnf)
    by_cases c1 : size < 32
    · have d1 : decide (size < 32) = true := decide_eq_true c1
      repeat (first | (refine Br.yes (by first | with_reducible rfl | exact d1) ?_; conv => whnf) | (refine Br.no (by with_reducible rfl) ?_; conv => whnf))
      exact ⟨rfl, rfl, true, subK_ok ⟨rfl, rfl, rfl, rfl, trivial⟩, by simp [c1]⟩
    have d1 : decide (size < 32) = false := decide_eq_false c1
    by_cases c2 : 8192 < size
    · have d2 : decide (size > 8192) = true := decide_eq_true c2
      repeat (first | (refine Br.yes (by first | with_reducible rfl | exact d2) ?_; conv => whnf) | (refine Br.no (by first | with_reducible rfl | exact d1) ?_; conv => whnf))
      exact ⟨rfl, rfl, true, subK_ok ⟨rfl, rfl, rfl, rfl, trivial⟩, by simp [c2]⟩
    have d2 : decide (size > 8192) = false := decide_eq_false c2
    by_cases c3 : at_ < 0
    · have d3 : decide (at_ < 0) = true := decide_eq_true c3
      repeat (first | (refine Br.yes (by first | with_reducible rfl | exact d3) ?_; conv => whnf) | (refine Br.no (by first | with_reducible rfl | exact d1 | exact d2) ?_; conv => whnf))
      exact ⟨rfl, rfl, true, subK_ok ⟨rfl, rfl, rfl, rfl, trivial⟩, by simp [c3]⟩
    have d3 : decide (at_ < 0) = false := decide_eq_false c3
    repeat (first | (refine Br.no (by first | with_reducible rfl | exact d1 | exact d2 | exact d3) ?_; conv => whnf))
    refine (size_spec (hp.slab (p := .pointer (some ⟨bp, 0, none⟩)) (ks := ks) (kb := kb) (σ := σ) (by repeat (first | exact Has.here | apply Has.there | (apply Has.swap; repeat (first | exact HasR.here | apply HasR.there)))))).mono ?_
    rintro _ _ ⟨rfl, rfl⟩
    conv => whnf
    repeat (first | (refine Br.no (by first | with_reducible rfl | exact d1 | exact d2 | exact d3) ?_; conv => whnf))
    refine ⟨rfl, rfl, _, subK_ok ⟨rfl, rfl, rfl, rfl, trivial⟩, ?_⟩
    rw [wi64 (by omega) (by omega), decide_eq_true_eq]
    simp [c1, c2, c3]
  rintro e L' s' ⟨rfl, rfl, q, hsub, hq⟩
  refine Sm.weak _ hsub ?_
  clear hsub
  refine Sm.ofW ?_
  conv => whnf
  cases q with
  | true =>
    refine Br.yes rfl ?_
    conv => whnf
    exact ⟨hArg (by unfold openF; rw [if_pos (hq.1 rfl)]) _ hp⟩
  | false =>
    have hc : ¬ (size < 32 ∨ 8192 < size ∨ at_ < 0 ∨ (σ.b.length : Int) - size < at_) := fun h => by have := hq.2 h; cases this
    clear hArg
    refine Br.no rfl ?_
    conv => whnf
    refine Sm.live [0, 1, 2] ?_
    conv => whnf
    refine Sm.seqW ?_
    conv => whnf
    refine hp.sRead (by repeat (first | exact Has.here | apply Has.there | (apply Has.swap; repeat (first | exact HasR.here | apply HasR.there)))) at_ size ?_ ?_
    · intro hr
      have hO : openF σ at_ size = (.down, σ) := by unfold openF; rw [if_neg hc, hr]
      rw [hO] at hDown
      conv => whnf
      refine Sm.seq ?_
      refine Sm.ofW ?_
      conv => whnf
      refine Br.yes rfl ?_
      conv => whnf
      exact ⟨hDown rfl _ hp⟩
    · intro b vb κb s1 hr hp1 _
      clear hp
      have hO : openF σ at_ size = (match zeroF σ (at_ + (parseF b).2) (b.drop (parseF b).2) with
        | (σ', ok) => if ok = true then (.ok ⟨at_.toNat, size.toNat, (parseF b).2, (parseF b).1⟩, σ') else (.down, σ')) := by unfold openF; rw [if_neg hc, hr]
      have hbl : b.length = size.toNat := by
        unfold SL.read at hr
        split at hr <;> first | contradiction | skip
        injection hr with hr
        rw [← hr]; simp; omega
      replace hp := hp1.iceO (by repeat (first | exact Rm.here | apply Rm.there))
      obtain ⟨ab, cb, rfl⟩ := (hp.slR .here).shape
      clear hp1
      conv => whnf
      refine Sm.seq ?_
      refine Sm.seqW ?_
      conv => whnf
      refine Sm.ofW ?_
      conv => whnf
      refine Br.no rfl ?_
      conv => whnf
      refine Sm.live [0, 1, 2, 8] ?_
      conv => whnf
      refine Sm.seqW ?_
      conv => whnf
      refine hp.var (cs := [.pointer (some ⟨bp, 0, none⟩), .int .i64 at_, .int .i64 size, .int .i64 0, .slice none 0 0]) (e := 5) rfl rfl ?_
      clear hp
      intro br s hp _
      conv => whnf
      refine Sm.live [8, 10] ?_
      conv => whnf
      obtain ⟨A, rfl⟩ : ∃ A : Nat, at_ = (A : Int) := ⟨at_.toNat, by omega⟩
      obtain ⟨Z, rfl⟩ : ∃ Z : Nat, size = (Z : Int) := ⟨size.toNat, by omega⟩
      simp only [Int.toNat_natCast] at hbl hO
      have hp0 : Hp X s0 (slA κb (.slice ab b.length cb) 1 b.length (byteVals b) :: R) (blkA br br (roCells (.pointer (some ⟨bp, 0, none⟩)) ⟨A, Z, 0, []⟩ (.slice none 0 0)) 5 :: onA none (.slice none 0 0) 2 0 (rrCells []) :: slabA (.pointer (some ⟨bp, 0, none⟩)) ks kb σ :: G) s :=
        (hp.push (a := onA none (.slice none 0 0) 2 0 (rrCells [])) (.refl hp.wf) ⟨.inl ⟨rfl, rfl, rfl, rfl⟩⟩ fun j hj => by cases hj).pik (by repeat (first | exact Pik.nil | exact Pik.refl _ | exact Rm.here | apply Rm.there | apply Pik.cons | apply Pik.skip))
      clear hp
      refine Sm.seq ?_
      refine Sm.block ?_
      refine Sm.loop ?_
      refine Lp.ofS (α := Nat × List Rr × Option Nat × Value × Nat) (fun x => [(8, .slice ab b.length cb), (10, .pointer (some ⟨br, 0, none⟩))])
        (fun x s' => x.1 ≤ b.length ∧ b.length < x.2.2.2.2 + x.1 ∧ x.2.1.length * 20 ≤ x.1 ∧ Hp X s0 (slA κb (.slice ab b.length cb) 1 b.length (byteVals b) :: R) (blkA br br (roCells (.pointer (some ⟨bp, 0, none⟩)) ⟨A, Z, x.1, x.2.1⟩ x.2.2.2.1) 5 :: onA x.2.2.1 x.2.2.2.1 2 x.2.1.length (rrCells x.2.1) :: slabA (.pointer (some ⟨bp, 0, none⟩)) ks kb σ :: G) s' ∧
          parseF b = parseL x.2.2.2.2 b x.1 x.2.1) (fun x => b.length - x.1) ?_ (0, [], none, .slice none 0 0, b.length + 1) (subK_ok (by refine ⟨rfl, rfl, trivial⟩)) ⟨Nat.zero_le _, by simp only; omega, by simp, hp0, rfl⟩
      clear hp0
      rintro ⟨u, l, κl, vl, f⟩ s ⟨hu, hf, hlu, hp, hpf⟩
      simp only at hu hf hlu hp hpf
      obtain ⟨al, cl, rfl⟩ := (hp.slF (κ := κl) (by repeat (first | exact Rm.here | apply Rm.there))).shape
      obtain ⟨f, rfl⟩ : ∃ g, f = g + 1 := ⟨f - 1, by omega⟩
      have hun : parseL (f + 1) b u l = (match wholeF (b.drop u) u with
        | none => (l, u)
        | some (x, n) => if x.seq ≤ lastF l then (l, u) else parseL f b (u + n) (l ++ [x])) := rfl
      refine Sm.block ?_
      refine Sm.seqC (fun e L' s' => e = .normal ∧ ∃ (x : Rr) (n : Nat) (is : Bool) (b1 : Nat), Hp X s0 (slA κb (.slice ab b.length cb) 1 b.length (byteVals b) :: R) (blkA b1 b1 (Rr.cells x) 2 :: blkA br br (roCells (.pointer (some ⟨bp, 0, none⟩)) ⟨A, Z, u, l⟩ (.slice al l.length cl)) 5 :: onA κl (.slice al l.length cl) 2 l.length (rrCells l) :: slabA (.pointer (some ⟨bp, 0, none⟩)) ks kb σ :: G) s' ∧
        Sub [(8, .slice ab b.length cb), (10, .pointer (some ⟨br, 0, none⟩)), (11, .pointer (some ⟨b1, 0, none⟩)), (12, .int .i64 (n : Int)), (13, .bool is)] L' ∧ ((is = false ∧ wholeF (b.drop u) u = none) ∨ (is = true ∧ wholeF (b.drop u) u = some (x, n)))) ?_ ?_
      · conv => whnf
        refine ⟨[0, 0, 2, 6, 14, 31, 0, 64, 192, 448, 1023, 2047, 4095, 4095, 4095, 0, 40959, 114687, 262143], by decide +kernel, by decide +kernel, ?_⟩
        conv => whnf
        (refine hp.load (by repeat (first | exact Has.here | apply Has.there | (apply Has.swap; repeat (first | exact HasR.here | apply HasR.there)))) (by rfl) rfl rfl rfl ?_; conv => whnf)
        obtain ⟨w1, f1, hw1⟩ := slice_from (hp.slR .here) .i64 (n := u) hu
        refine Om.of w1 f1 ?_
        conv => whnf
        (refine hp.load (by repeat (first | exact Has.here | apply Has.there | (apply Has.swap; repeat (first | exact HasR.here | apply HasR.there)))) (by rfl) rfl rfl rfl ?_; conv => whnf)
        refine (whole_spec hp.rst.wf hw1.reset (by simp; omega) (u : Int)).mono ?_
        clear f1 hw1
        rintro _ s1 ⟨k1, ⟨hw, q, rfl, rfl⟩ | ⟨x, n, hw, rfl⟩⟩
        · conv => whnf
          refine hp.dkN (hp.rst.k0 k1) k1 ?_
          clear hp k1
          intro s hp
          conv => whnf
          refine hp.rst.alloc (cs := Rr.cells ⟨0, ⟨#[]⟩⟩) (e := 2) rfl rfl rfl rfl rfl ?_
          intro b1 s1 h1 k1
          conv => whnf
          refine hp.dkN h1 k1 ?_
          clear hp h1 k1
          intro s hp
          conv => whnf
          refine hp.rst.storeW (vs := Rr.cells ⟨0, ⟨#[]⟩⟩) rfl (by repeat (first | exact Rm.here | apply Rm.there)) (by rfl) rfl rfl rfl ?_
          intro s1 h1 l1
          conv => whnf
          refine hp.dkW h1 l1 ?_
          clear hp h1 l1
          intro s hp
          conv => whnf
          exact ⟨rfl, _, 0, false, b1, hp.pik (by repeat (first | exact Pik.nil | exact Pik.refl _ | exact Rm.here | apply Rm.there | apply Pik.cons | apply Pik.skip)), subK_ok ⟨rfl, rfl, rfl, rfl, rfl, trivial⟩, .inl ⟨rfl, hw⟩⟩
        · conv => whnf
          refine hp.dkN (hp.rst.k0 k1) k1 ?_
          clear hp k1
          intro s hp
          conv => whnf
          refine hp.rst.alloc (cs := Rr.cells ⟨0, ⟨#[]⟩⟩) (e := 2) rfl rfl rfl rfl rfl ?_
          intro b1 s1 h1 k1
          conv => whnf
          refine hp.dkN h1 k1 ?_
          clear hp h1 k1
          intro s hp
          conv => whnf
          refine hp.rst.storeW (vs := x.cells) (C := Rr.cells ⟨0, ⟨#[]⟩⟩) rfl (by repeat (first | exact Rm.here | apply Rm.there)) (by rfl) rfl rfl rfl ?_
          intro s1 h1 l1
          conv => whnf
          refine hp.dkW h1 l1 ?_
          clear hp h1 l1
          intro s hp
          conv => whnf
          exact ⟨rfl, x, n, true, b1, hp.pik (by repeat (first | exact Pik.nil | exact Pik.refl _ | exact Rm.here | apply Rm.there | apply Pik.cons | apply Pik.skip)), subK_ok ⟨rfl, rfl, rfl, rfl, rfl, trivial⟩, .inr ⟨rfl, hw⟩⟩
      clear hp
      rintro e L' s ⟨rfl, x, n, is, b1, hp, hsub, hwh⟩
      refine Sm.weak _ hsub ?_
      clear hsub
      refine Sm.seq ?_
      refine Sm.seqC (fun e L' s' => e = .normal ∧ ∃ q, Hp X s0 (slA κb (.slice ab b.length cb) 1 b.length (byteVals b) :: R) (blkA b1 b1 (Rr.cells x) 2 :: blkA br br (roCells (.pointer (some ⟨bp, 0, none⟩)) ⟨A, Z, u, l⟩ (.slice al l.length cl)) 5 :: onA κl (.slice al l.length cl) 2 l.length (rrCells l) :: slabA (.pointer (some ⟨bp, 0, none⟩)) ks kb σ :: G) s' ∧
        Sub [(8, .slice ab b.length cb), (10, .pointer (some ⟨br, 0, none⟩)), (11, .pointer (some ⟨b1, 0, none⟩)), (12, .int .i64 (n : Int)), (74, .bool q)] L' ∧ ((q = true ∧ parseL (f + 1) b u l = (l, u)) ∨ (q = false ∧ wholeF (b.drop u) u = some (x, n) ∧ parseL (f + 1) b u l = parseL f b (u + n) (l ++ [x])))) ?_ ?_
      · conv => whnf
        refine ⟨[0, 1, 3, 7, 15, 7, 39, 127, 255], by decide +kernel, by decide +kernel, ?_⟩
        conv => whnf
        rcases hwh with ⟨rfl, hw⟩ | ⟨rfl, hw⟩
        · rw [hw] at hun
          repeat (refine Br.yes rfl ?_; conv => whnf)
          exact ⟨rfl, true, hp, subK_ok ⟨rfl, rfl, rfl, rfl, rfl, trivial⟩, .inl ⟨rfl, hun⟩⟩
        · rw [hw] at hun
          simp only at hun
          repeat (refine Br.no rfl ?_; conv => whnf)
          (refine hp.load (by repeat (first | exact Has.here | apply Has.there | (apply Has.swap; repeat (first | exact HasR.here | apply HasR.there)))) (by rfl) rfl rfl rfl ?_; conv => whnf)
          repeat (refine Br.no rfl ?_; conv => whnf)
          refine (last_spec hp.rst (ro := ⟨A, Z, u, l⟩) (v := .slice al l.length cl) (κ := κl) (by repeat (first | exact Has.here | apply Has.there | (apply Has.swap; repeat (first | exact HasR.here | apply HasR.there)))) (hp.rst.slF (by repeat (first | exact Rm.here | apply Rm.there))) (by show l.length ≤ 100000; omega)).mono ?_
          rintro _ _ ⟨rfl, rfl⟩
          conv => whnf
          refine hp.dkS ?_
          conv => whnf
          repeat (refine Br.no rfl ?_; conv => whnf)
          refine ⟨rfl, _, hp, subK_ok ⟨rfl, rfl, rfl, rfl, rfl, trivial⟩, ?_⟩
          by_cases hseq : x.seq ≤ lastF l
          · rw [if_pos hseq] at hun
            exact .inl ⟨decide_eq_true hseq, hun⟩
          · rw [if_neg hseq] at hun
            exact .inr ⟨decide_eq_false hseq, hw, hun⟩
      clear hp
      rintro e L' s ⟨rfl, q, hp, hsub, hq2⟩
      refine Sm.weak _ hsub ?_
      clear hsub
      refine Sm.ofW ?_
      conv => whnf
      rcases hq2 with ⟨rfl, hq2⟩ | ⟨rfl, hw, hq2⟩
      · -- no more of them
        rw [hq2] at hpf
        rw [hpf] at hO
        refine Br.yes rfl ?_
        conv => whnf
        refine Sm.live [8, 10] ?_
        conv => whnf
        refine Sm.seq ?_
        refine Sm.seqW ?_
        conv => whnf
        (refine hp.load (by repeat (first | exact Has.here | apply Has.there | (apply Has.swap; repeat (first | exact HasR.here | apply HasR.there)))) (by rfl) rfl rfl rfl ?_; conv => whnf)
        obtain ⟨w1, f1, hw1⟩ := slice_from (hp.slR .here) .i64 (n := u) hu
        refine Om.of w1 f1 ?_
        conv => whnf
        have hp2 := hp.view (a' := slA κb w1 1 (b.drop u).length (byteVals (b.drop u))) .here hw1 fun j hj => hj
        clear hp
        refine zeroed_spec hp2 (ro := ⟨A, Z, u, l⟩) (v := .slice al l.length cl) (p := .pointer (some ⟨bp, 0, none⟩)) (ks := ks) (kb := kb) (σ := σ) (κb := κb) (l := b.drop u) (by repeat (first | exact Rm.here | apply Rm.there)) (by repeat (first | exact Rm.here | apply Rm.there)) (by show A ≤ 65536; omega) (by show u ≤ 8192; omega) .here (by simp; omega) ?_
        intro s hp
        conv => whnf
        refine Sm.live [10, 14] ?_
        conv => whnf
        cases hz : (zeroF σ ((A : Int) + (u : Int)) (b.drop u)).2 with
        | false =>
          rw [hz] at hO
          rw [hO] at hDown
          refine Sm.ofW ?_
          conv => whnf
          refine Br.yes rfl ?_
          conv => whnf
          refine ⟨hDown rfl _ ?_⟩
          have := hp.pikR (R' := R) (.skip (.skip (.refl R)))
          exact this.pik (by repeat (first | exact Pik.nil | exact Pik.refl _ | exact Rm.here | apply Rm.there | apply Pik.cons | apply Pik.skip))
        | true =>
          rw [hz] at hO
          rw [hO] at hOk
          refine Sm.ofW ?_
          conv => whnf
          refine Br.no rfl ?_
          conv => whnf
          refine Sm.ofW ?_
          conv => whnf
          refine ⟨hOk _ rfl br br κl (.slice al l.length cl) _ ?_⟩
          have := hp.pikR (R' := R) (.skip (.skip (.refl R)))
          exact this.pik (by repeat (first | exact Pik.nil | exact Pik.refl _ | exact Rm.here | apply Rm.there | apply Pik.cons | apply Pik.skip))
      · -- one more
        have hn := wholeF_n hw
        simp at hn
        refine Br.no rfl ?_
        conv => whnf
        refine Sm.live [8, 10, 11, 12] ?_
        conv => whnf
        refine Sm.seqW ?_
        conv => whnf
        refine ⟨[0, 0, 2, 6, 14, 0, 32, 126, 255, 511, 1023], by decide +kernel, by decide +kernel, ?_⟩
        conv => whnf
        (refine hp.load (by repeat (first | exact Has.here | apply Has.there | (apply Has.swap; repeat (first | exact HasR.here | apply HasR.there)))) (by rfl) rfl rfl rfl ?_; conv => whnf)
        refine hp.loadA (l := x.cells) (by repeat (first | exact Has.here | apply Has.there | (apply Has.swap; repeat (first | exact HasR.here | apply HasR.there)))) rfl (by rfl) rfl rfl ?_
        conv => whnf
        refine hp.rst.rec2 x ?_
        intro v7 b9 s7 h7 k7
        conv => whnf
        refine hp.dkN h7 k7 ?_
        clear hp h7 k7
        intro s7 hp
        conv => whnf
        have x7 : Srr (reset s7) (some b9) v7 [x] := Own.sl (hp.rst.okF _ List.mem_cons_self)
        refine hp.rst.app R39 Try.underlying39 rfl (by repeat (first | exact Rm.here | apply Rm.there)) (elems_sl x7) rfl (rrCells_one [x]) (by simp only [List.length_singleton]; omega) ?_
        intro v9 κ9 s9 h9
        rw [← rrCells_append] at h9
        conv => whnf
        obtain ⟨a9, c9, rfl⟩ := (h9.slF (by repeat (first | exact Rm.here | apply Rm.there))).shape
        refine hp.dkA h9 ?_ ?_
        all_goals
          clear hp h9 x7
          intro s hp
          conv => whnf
          (refine hp.rst.store (by repeat (first | exact Rm.here | apply Rm.there)) (by first | exact of_decide_eq_true rfl | (simp; done) | (simp; omega) | omega) rfl rfl rfl rfl ?_; intro s1 h1 l1; (conv => whnf); refine hp.dkW h1 l1 ?_; clear h1 l1; intro s hp; conv => whnf)
          refine Sm.live [8, 10, 12] ?_
          conv => whnf
          refine Sm.ofW ?_
          conv => whnf
          (refine hp.load (by repeat (first | exact Has.here | apply Has.there | (apply Has.swap; repeat (first | exact HasR.here | apply HasR.there)))) (by rfl) rfl rfl rfl ?_; conv => whnf)
          (refine hp.store (by repeat (first | exact Rm.here | apply Rm.there)) (by first | exact of_decide_eq_true rfl | (simp; done) | (simp; omega) | omega) rfl rfl rfl rfl ?_; intro s hp _; conv => whnf)
          have e2 : IntKind.i64.wrap ((u : Int) + (n : Int)) = ((u + n : Nat) : Int) := by
            rw [wi64 (by omega) (by omega)]; push_cast; rfl
          rw [e2] at hp
          have hq : (l ++ [x]).length = l.length + 1 := by simp
          refine ⟨(u + n, l ++ [x], κ9, .slice a9 (l.length + 1) c9, f), by (show b.length - (u + n) < b.length - u); omega, subK_ok (by refine ⟨rfl, rfl, trivial⟩), by (show u + n ≤ b.length); omega, by (show b.length < f + (u + n)); omega, by (show (l ++ [x]).length * 20 ≤ u + n); omega, ?_, hpf.trans hq2⟩
          simp only [hq]
          exact hp.pik (by repeat (first | exact Pik.nil | exact Pik.refl _ | exact Rm.here | apply Rm.there | apply Pik.cons | apply Pik.skip))
end
end Go.Ev
end

/- Rolls without a program: what is laid down is told. No condition. -/
noncomputable section
namespace Go.Ev
open Go.Proofs
set_option linter.unusedVariables false
set_option maxRecDepth 100000

theorem SL.read_plainR {σ : SL} {a n : Int} (h1 : σ.dead = false) (h3 : 0 ≤ a) (h4 : 0 ≤ n) (h5 : a + n ≤ σ.b.length) : σ.read a n = some ((σ.b.drop a.toNat).take n.toNat) := by
  have hh : σ.has a n = true := SL.has_iff.2 ⟨h1, h3, by omega, by omega, by omega⟩
  simp [SL.read, hh]
theorem num8_take (h : BitVec 64) : ∀ i, i ≤ 8 → num8 ((bytes8 h).take i) = h.toNat / 2 ^ (64 - 8 * i) := by
  intro i
  have hx := h.isLt
  induction i with
  | zero =>
    intro _
    rw [List.take_zero, Nat.div_eq_of_lt (by simpa using hx)]; rfl
  | succ i ih =>
    intro hi
    have hlt : i < (bytes8 h).length := by rw [bytes8_len]; omega
    have hg : (bytes8 h)[i] = UInt8.ofNat (h.toNat / 2 ^ (56 - 8 * i) % 256) := by simp [bytes8]
    rw [List.take_succ_eq_append_getElem hlt]
    unfold num8
    rw [List.foldl_append]
    show (num8 ((bytes8 h).take i) * 256 + ((bytes8 h)[i]).toNat) % 18446744073709551616 = _
    rw [ih (by omega), hg, toNat_ofNat (Nat.mod_lt _ (by decide))]
    have e1 : 64 - 8 * i = (56 - 8 * i) + 8 := by omega
    have e2 : 64 - 8 * (i + 1) = 56 - 8 * i := by omega
    rw [e1, e2, Nat.pow_add, ← Nat.div_div_eq_div_mul]
    have hle := Nat.div_le_self h.toNat (2 ^ (56 - 8 * i))
    generalize h.toNat / 2 ^ (56 - 8 * i) = y at hle
    omega
theorem num8_bytes8 (h : BitVec 64) : num8 (bytes8 h) = h.toNat := by
  have := num8_take h 8 (Nat.le_refl _)
  rw [List.take_of_length_le (by rw [bytes8_len]; omega)] at this
  simpa using this
theorem bytes8_inj {a b : BitVec 64} (h : bytes8 a = bytes8 b) : a = b := by
  apply BitVec.eq_of_toNat_eq
  rw [← num8_bytes8 a, h, num8_bytes8]
structure Rr.ok (r : Rr) : Prop where
  seq : inR r.seq
  body : (bs r.body).length ≤ 420
theorem seq_back {n : Int} (h : inR n) : IntKind.i64.wrap (num8 (bytes8 (BitVec.ofInt 64 n)) : Int) = n := by
  obtain ⟨h1, h2⟩ := h
  rw [num8_bytes8, BitVec.toNat_ofInt, wrap_i64i]
  split <;> omega
theorem layB_len (r : Rr) : (layB r).length = 9 + (Pk.encI ((bs r.body).length : Int)).length + (bs r.body).length := by
  unfold layB; simp [bytes8_len]; omega
theorem getD_at {l : List UInt8} {i : Nat} {x : UInt8} (h : l[i]? = some x) : l.getD i 0 = x := by
  rw [List.getD_eq_getElem?_getD, h]; rfl
/-- What is laid down is a whole record, whatever is behind it. -/
theorem whole_lay {r : Rr} (ok : r.ok) (at_ : Int) (rest : List UInt8) : wholeF (layF r at_ ++ rest) at_ = some (r, (layF r at_).length) := by
  have hb := ok.body
  have hel := Pk.encI_len (n := ((bs r.body).length : Int)) (by unfold Pk.inR; omega)
  have hep := Pk.encI_pos ((bs r.body).length : Int)
  have hlB := layB_len r
  have hlF := layF_len r at_
  obtain ⟨n, hn⟩ : ∃ n, n = (layB r).length := ⟨_, rfl⟩
  have hn1 : n ≤ 439 := by omega
  have hF : layF r at_ = UInt8.ofNat (128 + n / 128) :: UInt8.ofNat (128 + n % 128) :: (bytes8 (Mk.sum (BitVec.ofInt 64 at_) (layB r)) ++ layB r) := by
    unfold layF
    rw [← hn, Nat.mod_eq_of_lt (show 128 + n / 128 < 256 by omega), Nat.mod_eq_of_lt (show 128 + n % 128 < 256 by omega)]
    rfl
  have hS : (bytes8 (Mk.sum (BitVec.ofInt 64 at_) (layB r))).length = 8 := bytes8_len _
  generalize hSd : bytes8 (Mk.sum (BitVec.ofInt 64 at_) (layB r)) = S at hS hF
  have hlen : (layF r at_).length = 10 + n := by rw [hF]; simp [hS]; omega
  have g0 : (layF r at_ ++ rest).getD 0 0 = UInt8.ofNat (128 + n / 128) := by rw [hF, List.cons_append, List.getD_cons_zero]
  have g1 : (layF r at_ ++ rest).getD 1 0 = UInt8.ofNat (128 + n % 128) := by rw [hF, List.cons_append, List.cons_append, List.getD_cons_succ, List.getD_cons_zero]
  have t0 : (UInt8.ofNat (128 + n / 128)).toNat = 128 + n / 128 := toNat_ofNat (by omega)
  have t1 : (UInt8.ofNat (128 + n % 128)).toNat = 128 + n % 128 := toNat_ofNat (by omega)
  have hnn : (128 + n / 128 - 128) * 128 + (128 + n % 128 - 128) = n := by omega
  have d10 : (layF r at_ ++ rest).drop 10 = layB r ++ rest := by
    rw [hF, List.cons_append, List.cons_append, List.drop_succ_cons, List.drop_succ_cons, List.append_assoc, List.drop_left' hS]
  have g2 : (layF r at_ ++ rest).getD (10 + n - 1) 0 = 255 := by
    apply getD_at
    have : (layF r at_ ++ rest)[10 + (n - 1)]? = ((layF r at_ ++ rest).drop 10)[n - 1]? := by rw [List.getElem?_drop]
    rw [show 10 + n - 1 = 10 + (n - 1) by omega, this, d10, List.getElem?_append_left (by omega)]
    unfold layB
    rw [List.getElem?_append_right (by simp [bytes8_len]; omega)]
    have : n - 1 - (bytes8 (BitVec.ofInt 64 r.seq) ++ Pk.encI ((bs r.body).length : Int) ++ bs r.body).length = 0 := by simp [bytes8_len]; omega
    rw [this]; rfl
  have d18 : ((layF r at_ ++ rest).drop 18).take (n - 9) = Pk.encI ((bs r.body).length : Int) ++ bs r.body := by
    rw [show 18 = 10 + 8 by rfl, ← List.drop_drop, d10]
    unfold layB
    rw [List.append_assoc, List.append_assoc, List.append_assoc, List.drop_left' (bytes8_len _), ← List.append_assoc]
    rw [List.take_left' (by simp; omega)]
  have n8 : ((layF r at_ ++ rest).drop 10).take 8 = bytes8 (BitVec.ofInt 64 r.seq) := by
    rw [d10]
    unfold layB
    rw [List.append_assoc, List.append_assoc, List.append_assoc, List.take_left' (bytes8_len _)]
  have hrt : Pk.readT (Pk.encI ((bs r.body).length : Int) ++ bs r.body) = some (bs r.body, []) := by
    unfold Pk.readT
    rw [Pk.readI_enc (by unfold Pk.inR; omega)]
    simp
  have hll : (layF r at_ ++ rest).length = 10 + n + rest.length := by rw [List.length_append, hlen]
  unfold wholeF
  rw [if_neg (by rw [g0, g1, t0, t1]; omega)]
  simp only [g0, g1, t0, t1, hnn]
  rw [if_neg (by rw [g2]; simp; omega), d18, hrt, n8, seq_back ok.seq]
  simp only [mk_bs]
  rw [if_pos ⟨trivial, by rw [← hlen, List.take_left' rfl]⟩, hlen]
theorem whole_zero {l : List UInt8} (h : l.all (· == 0) = true) (at_ : Int) : wholeF l at_ = none := by
  unfold wholeF
  rw [if_pos]
  cases l with
  | nil => left; simp
  | cons x l =>
    right; left
    simp at h
    rw [h.1]
    show (0 : UInt8).toNat < 128
    decide
/-- Records, one behind the other, from a place on. -/
def layAll : Nat → List Rr → List UInt8
  | _, [] => []
  | u, r :: l => layF r u ++ layAll (u + (layF r u).length) l
theorem layAll_append (u : Nat) (a b : List Rr) : layAll u (a ++ b) = layAll u a ++ layAll (u + (layAll u a).length) b := by
  induction a generalizing u with
  | nil => simp [layAll]
  | cons r a ih =>
    simp only [List.cons_append, layAll, List.append_assoc, List.length_append, ih]
    rw [Nat.add_assoc]
theorem lastF_snoc (l : List Rr) (r : Rr) : lastF (l ++ [r]) = r.seq := by simp [lastF]
/-- Each behind the last. -/
def rises : Int → List Rr → Prop
  | _, [] => True
  | a, r :: l => a < r.seq ∧ rises r.seq l
theorem rises_snoc : ∀ {l : List Rr} {a : Int} {r : Rr}, rises a l → (l = [] → a < r.seq) → (l ≠ [] → lastF l < r.seq) → rises a (l ++ [r])
  | [], a, r, _, h1, _ => ⟨h1 rfl, trivial⟩
  | x :: l, a, r, h, h1, h2 => by
    refine ⟨h.1, rises_snoc h.2 (fun hl => ?_) (fun hl => ?_)⟩
    · subst hl; exact h2 (by simp)
    · have := h2 (by simp)
      have e : lastF (x :: l) = lastF l := by
        unfold lastF
        rw [List.getLast?_cons]
        cases hg : l.getLast? with
        | none => exact absurd (List.getLast?_eq_none_iff.1 hg) hl
        | some y => rfl
      rw [← e]; exact this
/-- What was laid down is told, till there is no whole record. -/
theorem parse_lay : ∀ (L : List Rr) (f u : Nat) (b : List UInt8) (l : List Rr) (rest : List UInt8), (∀ r ∈ L, r.ok) → rises (lastF l) L → b.drop u = layAll u L ++ rest → L.length ≤ f →
    parseL f b u l = parseL (f - L.length) b (u + (layAll u L).length) (l ++ L)
  | [], f, u, b, l, rest, _, _, _, _ => by simp [layAll]
  | r :: L, f, u, b, l, rest, ok, hr, hd, hf => by
    obtain ⟨f, rfl⟩ : ∃ g, f = g + 1 := ⟨f - 1, by simp at hf; omega⟩
    have hw : wholeF (b.drop u) u = some (r, (layF r u).length) := by
      rw [hd]
      show wholeF (layF r u ++ layAll (u + (layF r u).length) L ++ rest) u = _
      rw [List.append_assoc]
      exact whole_lay (ok r (by simp)) _ _
    have hun : parseL (f + 1) b u l = parseL f b (u + (layF r u).length) (l ++ [r]) := by
      show (match wholeF (b.drop u) u with
        | none => (l, u)
        | some (x, n) => if x.seq ≤ lastF l then (l, u) else parseL f b (u + n) (l ++ [x])) = _
      rw [hw]
      simp only
      rw [if_neg (by have := hr.1; omega)]
    rw [hun]
    have hd2 : b.drop (u + (layF r u).length) = layAll (u + (layF r u).length) L ++ rest := by
      rw [← List.drop_drop, hd]
      show (layF r u ++ layAll (u + (layF r u).length) L ++ rest).drop _ = _
      rw [List.append_assoc, List.drop_left' rfl]
    rw [parse_lay L f (u + (layF r u).length) b (l ++ [r]) rest (fun x hx => ok x (by simp [hx])) (by rw [lastF_snoc]; exact hr.2) hd2 (by simp at hf; omega)]
    simp only [layAll, List.length_append, List.length_cons, List.append_assoc, List.singleton_append]
    rw [show f + 1 - (L.length + 1) = f - L.length by omega, Nat.add_assoc]
theorem layF_min (r : Rr) (n : Int) : 20 ≤ (layF r n).length := by
  have := layF_len r n
  have := Pk.encI_pos ((bs r.body).length : Int)
  omega
theorem layAll_min : ∀ (L : List Rr) (u : Nat), L.length * 20 ≤ (layAll u L).length
  | [], u => by simp [layAll]
  | r :: L, u => by
    have := layAll_min L (u + (layF r u).length)
    have := layF_min r u
    simp only [layAll, List.length_append, List.length_cons]
    omega
/-- A region of records, and of zeros. -/
structure Laid (b : List UInt8) (L : List Rr) : Prop where
  ok : ∀ r ∈ L, r.ok
  rises : rises 0 L
  zeros : ∃ n, b = layAll 0 L ++ List.replicate n 0
theorem Laid.parse {b : List UInt8} {L : List Rr} (h : Laid b L) : parseF b = (L, (layAll 0 L).length) := by
  obtain ⟨n, hn⟩ := h.zeros
  have hmin := layAll_min L 0
  have hbl : b.length = (layAll 0 L).length + n := by rw [hn]; simp
  unfold parseF
  rw [parse_lay L (b.length + 1) 0 b [] (List.replicate n 0) h.ok h.rises (by simpa using hn) (by omega)]
  rw [Nat.zero_add, List.nil_append]
  have hdz : b.drop (layAll 0 L).length = List.replicate n 0 := by rw [hn, List.drop_left' rfl]
  obtain ⟨f, hf⟩ : ∃ f, b.length + 1 - L.length = f + 1 := ⟨b.length - L.length, by omega⟩
  rw [hf]
  show (match wholeF (b.drop (layAll 0 L).length) (layAll 0 L).length with
    | none => (L, (layAll 0 L).length)
    | some (x, n) => if x.seq ≤ lastF L then (L, (layAll 0 L).length) else parseL f b ((layAll 0 L).length + n) (L ++ [x])) = _
  rw [hdz, whole_zero (by simp)]
theorem Laid.zero {b : List UInt8} {L : List Rr} (h : Laid b L) (σ : SL) (base : Int) : zeroF σ base (b.drop (layAll 0 L).length) = (σ, true) := by
  obtain ⟨n, hn⟩ := h.zeros
  have hdz : b.drop (layAll 0 L).length = List.replicate n 0 := by rw [hn, List.drop_left' rfl]
  rw [hdz]
  unfold zeroF
  have : (List.replicate n (0 : UInt8)).any (fun c => !(c == 0)) = false := by
    rw [List.any_eq_false]
    intro x hx
    rw [(List.mem_replicate.1 hx).2]; simp
  rw [this]; rfl
/-- A region that holds records and zeros is opened as it is. -/
theorem open_laid {σ : SL} {A Z : Nat} {L : List Rr} (hd : σ.dead = false) (h1 : 32 ≤ Z) (h2 : Z ≤ 8192) (h3 : A + Z ≤ σ.b.length) (h : Laid ((σ.b.drop A).take Z) L) : openF σ A Z = (.ok ⟨A, Z, (layAll 0 L).length, L⟩, σ) := by
  unfold openF
  rw [if_neg (by omega), SL.read_plainR hd (by omega) (by omega) (by omega)]
  simp only [Int.toNat_natCast]
  rw [h.parse, h.zero]
  rfl
end Go.Ev
end

/- Rolls without a program: what is appended; what 'known' says. No condition. -/
noncomputable section
namespace Go.Ev
open Go.Proofs
set_option linter.unusedVariables false
set_option maxRecDepth 100000

theorem putB_getR {b l : List UInt8} {i : Nat} (h : i + l.length ≤ b.length) (k : Nat) : (putB b i l)[k]? = if k < i then b[k]? else if k < i + l.length then l[k - i]? else b[k]? := by
  unfold putB
  by_cases h1 : k < i
  · rw [if_pos h1, List.getElem?_append_left (by simp; omega), List.getElem?_append_left (by simp; omega), List.getElem?_take, if_pos h1]
  · rw [if_neg h1]
    by_cases h2 : k < i + l.length
    · rw [if_pos h2, List.getElem?_append_left (by simp; omega), List.getElem?_append_right (by simp; omega)]
      congr 1; simp; omega
    · rw [if_neg h2, List.getElem?_append_right (by simp; omega), List.getElem?_drop]
      congr 1; simp; omega
theorem reg_get (b : List UInt8) (A Z k : Nat) : ((b.drop A).take Z)[k]? = if k < Z then b[A + k]? else none := by
  rw [List.getElem?_take]
  split
  · rw [List.getElem?_drop]
  · rfl
/-- A write within a region, at its u-th byte. -/
theorem reg_put {b l : List UInt8} {A Z u : Nat} (hA : A + Z ≤ b.length) (hu : u + l.length ≤ Z) : ((putB b (A + u) l).drop A).take Z = putB ((b.drop A).take Z) u l := by
  apply List.ext_getElem?
  intro k
  rw [reg_get, putB_getR (by omega), putB_getR (by simp; omega), reg_get]
  repeat' split
  all_goals first | rfl | omega | (congr 1; omega)
theorem put_zeros (X l : List UInt8) (n : Nat) (h : l.length ≤ n) : putB (X ++ List.replicate n 0) X.length l = X ++ l ++ List.replicate (n - l.length) 0 := by
  unfold putB
  rw [List.take_left' rfl, ← List.drop_drop, List.drop_left' rfl, List.drop_replicate]
theorem SL.write_plainR {σ : SL} {a : Int} {l : List UInt8} (h1 : σ.dead = false) (h2 : σ.limits = false) (h3 : 0 ≤ a) (h4 : a + l.length ≤ σ.b.length) :
    σ.write a l = ({ σ with writes := IntKind.i64.wrap (σ.writes + 1), left := IntKind.i64.wrap (σ.left - 1), b := putB σ.b a.toNat l }, true) := by
  have hh : σ.has a l.length = true := SL.has_iff.2 ⟨h1, h3, by omega, by omega, by omega⟩
  simp only [SL.write, hh, if_true, h2]
  simp
/-- A record more. -/
theorem Laid.snoc {b : List UInt8} {L : List Rr} (h : Laid b L) {r : Rr} (ok : r.ok) (hs : lastF L < r.seq) (hb : (layAll 0 L).length + (layF r (layAll 0 L).length).length ≤ b.length) : Laid (putB b (layAll 0 L).length (layF r (layAll 0 L).length)) (L ++ [r]) := by
  obtain ⟨n, hn⟩ := h.zeros
  have hbl : b.length = (layAll 0 L).length + n := by rw [hn]; simp
  refine ⟨fun x hx => ?_, rises_snoc h.rises (fun hl => by subst hl; exact hs) (fun _ => hs), n - (layF r (layAll 0 L).length).length, ?_⟩
  · rcases List.mem_append.1 hx with g | g
    · exact h.ok x g
    · rw [List.mem_singleton] at g; subst g; exact ok
  · rw [hn, put_zeros _ _ _ (by omega), layAll_append]
    simp [layAll]
/-- What stands of a roll that was opened, and only appended to, on a slab that was not cut. -/
structure RollOk (σ : SL) (ro : RO) : Prop where
  dead : σ.dead = false
  fits : ro.at_ + ro.size ≤ σ.b.length
  used : ro.used = (layAll 0 ro.l).length
  room : ro.used ≤ ro.size
  laid : Laid ((σ.b.drop ro.at_).take ro.size) ro.l
theorem RollOk.append {σ : SL} {ro : RO} (h : RollOk σ ro) (hlim : σ.limits = false) {r : Rr} (ok : r.ok) (hs : lastF ro.l < r.seq) :
    ((ro.size : Int) - ro.used < (layF r ro.used).length → appF σ ro r = (.full, σ, ro)) ∧
    (¬ ((ro.size : Int) - ro.used < (layF r ro.used).length) → ∃ σ', appF σ ro r = (.ok, σ', { ro with l := ro.l ++ [r], used := ro.used + (layF r ro.used).length }) ∧ RollOk σ' { ro with l := ro.l ++ [r], used := ro.used + (layF r ro.used).length } ∧ σ'.limits = false ∧ σ'.b = putB σ.b (ro.at_ + ro.used) (layF r ro.used)) := by
  have hb := ok.body
  have hc : ¬ (r.seq ≤ lastF ro.l ∨ 420 < (bs r.body).length) := by omega
  refine ⟨fun hf => by unfold appF; rw [if_neg hc, if_pos hf], fun hf => ?_⟩
  have hroom := h.room
  have hfits := h.fits
  have hw := SL.write_plainR (σ := σ) (a := (ro.at_ : Int) + ro.used) (l := layF r ro.used) h.dead hlim (by omega) (by omega)
  have htn : ((ro.at_ : Int) + (ro.used : Int)).toNat = ro.at_ + ro.used := by omega
  rw [htn] at hw
  refine ⟨{ σ with writes := IntKind.i64.wrap (σ.writes + 1), left := IntKind.i64.wrap (σ.left - 1), b := putB σ.b (ro.at_ + ro.used) (layF r ro.used) }, by unfold appF; rw [if_neg hc, if_neg hf, hw, if_pos rfl], ⟨h.dead, ?_, ?_, ?_, ?_⟩, hlim, rfl⟩
  · show ro.at_ + ro.size ≤ (putB σ.b (ro.at_ + ro.used) (layF r ro.used)).length
    rw [putB_length _ _ _ (by omega)]; exact h.fits
  · show ro.used + (layF r ro.used).length = (layAll 0 (ro.l ++ [r])).length
    rw [layAll_append, List.length_append, ← h.used]
    simp [layAll, h.used]
  · show ro.used + (layF r ro.used).length ≤ ro.size
    omega
  · show Laid (((putB σ.b (ro.at_ + ro.used) (layF r ro.used)).drop ro.at_).take ro.size) (ro.l ++ [r])
    rw [reg_put h.fits (by omega), h.used]
    refine h.laid.snoc ok hs ?_
    rw [← h.used]; simp; omega
theorem RollOk.open {σ : SL} {ro : RO} (h : RollOk σ ro) (h1 : 32 ≤ ro.size) (h2 : ro.size ≤ 8192) : openF σ ro.at_ ro.size = (.ok ro, σ) := by
  have := open_laid (A := ro.at_) (Z := ro.size) h.dead h1 h2 h.fits h.laid
  rw [this, ← h.used]
theorem zeros_ok {σ : SL} {A Z : Nat} (hd : σ.dead = false) (hf : A + Z ≤ σ.b.length) (hz : ∀ x ∈ σ.b, x = 0) : RollOk σ ⟨A, Z, 0, []⟩ :=
  ⟨hd, hf, rfl, Nat.zero_le _, ⟨fun r h => by (cases h), trivial, Z, by
    show (σ.b.drop A).take Z = [] ++ List.replicate Z 0
    rw [List.nil_append, List.eq_replicate_iff]
    exact ⟨by simp; omega, fun x hx => hz x (List.mem_of_mem_drop (List.mem_of_mem_take hx))⟩⟩⟩
theorem rr_at {l : List Rr} {i : Nat} (h : i < l.length) : ((rrCells l).drop (i * 2)).take 2 = l[i].cells := by
  rw [rrCells_drop, List.drop_eq_getElem_cons h]
  rfl
theorem index_rr {s : St} {κ : Option Nat} {v : Value} {l : List Rr} (h : Srr s κ v l) {i : Nat} (hi : i < l.length) :
    ∃ a, evIndexAddr Try.prog 39 v (.int .i64 (i : Int)) = some (.pointer (some a)) ∧ evLoad Try.prog 42 (.pointer (some a)) s = some l[i].val := by
  rcases h.ex with ⟨rfl, h0, _, _⟩ | ⟨b, off, c, C, rfl, hc, hl, hs, hm⟩
  · omega
  · have hr : s.rd b = some C := by
      rcases hm with ⟨k, _, hm⟩ | ⟨_, hm⟩
      · exact hm.rd
      · exact hm.rd
    refine ⟨_, idx_at R39 .i64 hi, ?_⟩
    unfold evLoad
    have hsl : sl C (off + i * 2) 2 = some l[i].cells := by
      obtain ⟨g1, g2, g3, _⟩ := sl_some hs
      have hle : i * 2 + 2 ≤ l.length * 2 := by omega
      have e : (List.drop (off + i * 2) C).take 2 = ((rrCells l).drop (i * 2)).take 2 := by
        rw [g2, List.drop_take, List.drop_drop, List.take_take, Nat.min_eq_left (by omega)]
      unfold sl
      rw [e, rr_at hi]
      rfl
    have hu : Try.prog.underlying 42 = _ := Try.underlying42
    have hi2 : ∃ q, Try.prog.info? 42 = some q ∧ q.size = 2 := ⟨_, rfl, rfl⟩
    obtain ⟨q, hq, hq2⟩ := hi2
    simp only [hr, hu, hq, hq2, hsl]
    rfl
theorem eq_rr (a b : Rr) (c : Bool) : evBin Try.prog .eql 42 c a.val b.val = some (.bool ((a.seq == b.seq) && (bs a.body == bs b.body))) := by
  have e : ∀ p q : Bool, (a.seq == b.seq) = p → (bs a.body == bs b.body) = q → evEq Try.prog 10000 42 a.val b.val = some (p && q) := by
    intro p q h1 h2
    conv => lhs; whnf
    rw [show Try.prog.stoodInHeld 42 = false by decide +kernel]
    show (match (some (a.seq == b.seq) : Option Bool) with | some true => (match (some (bs a.body == bs b.body) : Option Bool) with | some true => some true | some false => some false | none => none) | some false => some false | none => none) = _
    rw [h1, h2]
    cases p <;> cases q <;> rfl
  have hg : Try.prog.eqGuardType Try.prog.depth 42 = false := by decide +kernel
  show (match !(Try.prog.eqGuardType Try.prog.depth 42) with | false => none | true => (match evEq Try.prog 10000 42 a.val b.val with | some b => some (Value.bool b) | none => none)) = _
  rw [hg, e _ _ rfl rfl]; rfl
/-- A slab as it is made. -/
structure Fresh (σ : SL) (n : Nat) : Prop where
  dead : σ.dead = false
  limits : σ.limits = false
  len : σ.b.length = n
  zero : ∀ x ∈ σ.b, x = 0
section
variable {X : Nat → Prop} {s0 s : St} {R F G H : List At} {p v : Value} {kr br : Nat} {κ : Option Nat} {ro : RO} {ks kb : Nat} {σ : SL}
theorem Hp.sFresh (hp : Hp X s0 R F s) (n : Nat) (h1 : 1 ≤ n) (h2 : n ≤ 65536) {K : Value → St → Prop} (k : ∀ b ks kb σ s', Fresh σ n → Hp X s0 R (slabA (.pointer (some ⟨b, 0, none⟩)) ks kb σ :: F) s' → K (.pointer (some ⟨b, 0, none⟩)) s') :
    Cw Try.prog 8 [.int .i64 (n : Int)] s K :=
  hp.sNew (n : Int) fun b ks kb s' h _ => k b ks kb _ s' ⟨rfl, rfl, by simp; omega, fun x hx => (List.mem_replicate.1 hx).2⟩ h
theorem Hp.rOpen (hp : Hp X s0 R F s) {bp : Nat} (r : Rm (slabA (.pointer (some ⟨bp, 0, none⟩)) ks kb σ) F G) (ok : RollOk σ ro) (h1 : 32 ≤ ro.size) (h2 : ro.size ≤ 8192) {at_ size : Int} (ha : at_ = (ro.at_ : Int)) (hs : size = (ro.size : Int)) {K : Value → St → Prop}
    (k : ∀ kr br κ v s', Hp X s0 R (blkA kr br (roCells (.pointer (some ⟨bp, 0, none⟩)) ro v) 5 :: onA κ v 2 ro.l.length (rrCells ro.l) :: slabA (.pointer (some ⟨bp, 0, none⟩)) ks kb σ :: G) s' → K (.tuple #[.pointer (some ⟨br, 0, none⟩), .int .i64 0]) s') :
    Cw Try.prog 9 [.pointer (some ⟨bp, 0, none⟩), .int .i64 at_, .int .i64 size] s K := by
  subst ha hs
  have hlen := (hp.okF _ r.sub.1 : SlabAt s (.pointer (some ⟨bp, 0, none⟩)) ks kb σ).len
  have hf := ok.fits
  have ho := ok.open h1 h2
  refine open_spec hp r _ _ (by unfold inR; omega) (by unfold inR; omega) (fun h => by rw [ho] at h; cases h) (fun h => by rw [ho] at h; cases h) ?_
  intro ro' hro kr br κ v s' h'
  rw [ho] at hro h'
  injection hro with hro
  subst hro
  exact k kr br κ v s' h'
/-- A record that goes in. -/
theorem Hp.rAppend (hp : Hp X s0 R F s) {p : Value} {v : Value} (h1 : Rm (blkA kr br (roCells p ro v) 5) F G) (h2 : Rm (onA κ v 2 ro.l.length (rrCells ro.l)) G H) {H' : List At} (h3 : Rm (slabA p ks kb σ) H H') (ok : RollOk σ ro) (hlim : σ.limits = false) (hz : ro.size ≤ 8192)
    {r : Rr} (hr : r.ok) (hs : lastF ro.l < r.seq) {seq : Int} {body : Value} (hsq : seq = r.seq) (hbd : body = .string r.body) {K : Value → St → Prop}
    (kF : (ro.size : Int) - ro.used < (layF r ro.used).length → ∀ v' κ' s', Hp X s0 R (blkA kr br (roCells p ro v') 5 :: onA κ' v' 2 ro.l.length (rrCells ro.l) :: slabA p ks kb σ :: H') s' → K (.int .i64 5) s')
    (kO : ¬ ((ro.size : Int) - ro.used < (layF r ro.used).length) → ∀ σ' v' κ' s', RollOk σ' { ro with l := ro.l ++ [r], used := ro.used + (layF r ro.used).length } → σ'.limits = false → σ'.b = putB σ.b (ro.at_ + ro.used) (layF r ro.used) →
      Hp X s0 R (blkA kr br (roCells p { ro with l := ro.l ++ [r], used := ro.used + (layF r ro.used).length } v') 5 :: onA κ' v' 2 (ro.l ++ [r]).length (rrCells (ro.l ++ [r])) :: slabA p ks kb σ' :: H') s' → K (.int .i64 0) s') :
    Cw Try.prog 11 [.pointer (some ⟨br, 0, none⟩), .int .i64 seq, body] s K := by
  subst hsq hbd
  have hb := hr.body
  have hlen := (hp.okF _ (h1.sub.2 _ (h2.sub.2 _ h3.sub.1)) : SlabAt s p ks kb σ).len
  have hfits := ok.fits
  have hroom := ok.room
  have hmin := layAll_min ro.l 0
  have hu := ok.used
  obtain ⟨a1, a2⟩ := ok.append hlim hr hs
  refine append_spec hp h1 h2 h3 hz (by omega) (by omega) (by omega) r (by omega) ?_
  intro v' κ' s' h'
  by_cases hf : (ro.size : Int) - ro.used < (layF r ro.used).length
  · rw [a1 hf] at h' ⊢
    exact kF hf v' κ' s' h'
  · obtain ⟨σ', b1, b2, b3, b4⟩ := a2 hf
    rw [b1] at h' ⊢
    exact kO hf σ' v' κ' s' b2 b3 b4 h'
end
def ab3 : Rr := ⟨3, ⟨#[97, 98]⟩⟩
theorem ab3_ok : ab3.ok := ⟨by unfold inR ab3; decide, by decide⟩
theorem rknown_spec {z : St} (wf : WF z) : Cw Try.prog 10 [] z fun r s' => r = .bool true ∧ K0 z s' := by
  have hp : Hp (fun _ => False) z [] [] z := Hp.start _ wf _ (by simp)
  refine Cw.enterS Try.func10 rfl rfl ?_
  refine Sm.seqW ?_
  conv => whnf
  refine Sm.seqW ?_
  conv => whnf
  refine hp.sFresh 100 (by decide) (by decide) ?_
  clear hp
  intro b1 ks kb σ s hfr hp
  have hlen := hfr.len
  conv => whnf
  refine Sm.live [1] ?_
  conv => whnf
  refine Sm.seqW ?_
  conv => whnf
  have ok0 := zeros_ok (A := 10) (Z := 64) hfr.dead (by omega) hfr.zero
  refine hp.rOpen (by repeat (first | exact Rm.here | apply Rm.there)) ok0 (by decide) (by decide) rfl rfl ?_
  clear hp
  intro kr br κ v s hp
  conv => whnf
  refine Sm.live [1, 2, 3] ?_
  conv => whnf
  refine Sm.seq ?_
  refine Sm.seqW ?_
  conv => whnf
  repeat (first | (refine Br.yes (by first | with_reducible rfl | with_reducible exact beq_self_eq_true _ | rfl) ?_; conv => whnf) | (refine Br.no (by first | with_reducible rfl | with_reducible exact bne_self_eq_false _ | rfl) ?_; conv => whnf))
  refine Om.of (.bool false) rfl ?_
  conv => whnf
  repeat (first | (refine Br.yes (by first | with_reducible rfl | with_reducible exact beq_self_eq_true _ | rfl) ?_; conv => whnf) | (refine Br.no (by first | with_reducible rfl | with_reducible exact bne_self_eq_false _ | rfl) ?_; conv => whnf))
  refine Om.of (.bool false) rfl ?_
  conv => whnf
  repeat (first | (refine Br.yes (by first | with_reducible rfl | with_reducible exact beq_self_eq_true _ | rfl) ?_; conv => whnf) | (refine Br.no (by first | with_reducible rfl | with_reducible exact bne_self_eq_false _ | rfl) ?_; conv => whnf))
  refine hp.rAppend (ro := ⟨10, 64, 0, []⟩) (r := ab3) (by repeat (first | exact Rm.here | apply Rm.there)) (by repeat (first | exact Rm.here | apply Rm.there)) (by repeat (first | exact Rm.here | apply Rm.there)) ok0 hfr.limits (by decide) ab3_ok (by decide) rfl rfl (fun hf => absurd hf (by decide +kernel)) ?_
  clear hp
  intro _ σ' v' κ' s ok1 hl1 _ hp
  conv => whnf
  repeat (first | (refine Br.yes (by first | with_reducible rfl | with_reducible exact beq_self_eq_true _ | rfl) ?_; conv => whnf) | (refine Br.no (by first | with_reducible rfl | with_reducible exact bne_self_eq_false _ | rfl) ?_; conv => whnf))
  refine Sm.ofW ?_
  conv => whnf
  repeat (first | (refine Br.yes (by first | with_reducible rfl | with_reducible exact beq_self_eq_true _ | rfl) ?_; conv => whnf) | (refine Br.no (by first | with_reducible rfl | with_reducible exact bne_self_eq_false _ | rfl) ?_; conv => whnf))
  refine Sm.live [1] ?_
  conv => whnf
  refine Sm.seqW ?_
  conv => whnf
  refine hp.rOpen (by repeat (first | exact Rm.here | apply Rm.there)) ok1 (by decide) (by decide) rfl rfl ?_
  clear hp
  intro kr2 br2 κ2 v2 s hp
  conv => whnf
  refine Sm.live [4, 5] ?_
  conv => whnf
  refine Sm.seq ?_
  refine Sm.seqW ?_
  conv => whnf
  repeat (first | (refine Br.yes (by first | with_reducible rfl | with_reducible exact beq_self_eq_true _ | rfl) ?_; conv => whnf) | (refine Br.no (by first | with_reducible rfl | with_reducible exact bne_self_eq_false _ | rfl) ?_; conv => whnf))
  refine Om.of (.bool false) rfl ?_
  conv => whnf
  repeat (first | (refine Br.yes (by first | with_reducible rfl | with_reducible exact beq_self_eq_true _ | rfl) ?_; conv => whnf) | (refine Br.no (by first | with_reducible rfl | with_reducible exact bne_self_eq_false _ | rfl) ?_; conv => whnf))
  refine Sm.ofW ?_
  conv => whnf
  repeat (first | (refine Br.yes (by first | with_reducible rfl | with_reducible exact beq_self_eq_true _ | rfl) ?_; conv => whnf) | (refine Br.no (by first | with_reducible rfl | with_reducible exact bne_self_eq_false _ | rfl) ?_; conv => whnf))
  refine Sm.seqW ?_
  conv => whnf
  refine hp.callO (records_spec hp (κ := κ2) (v := v2) (kr := kr2) (br := br2) (by repeat (first | exact Has.here | apply Has.there | (apply Has.swap; repeat (first | exact HasR.here | apply HasR.there)))) (hp.slF (by repeat (first | exact Rm.here | apply Rm.there))) (by decide)) ?_
  clear hp
  intro v3 κ3 s hp _
  obtain ⟨a3, c3, rfl⟩ := (hp.slF (κ := κ3) .here).shape
  conv => whnf
  refine Sm.seqW ?_
  conv => whnf
  repeat (first | (refine Br.yes (by first | with_reducible rfl | with_reducible exact beq_self_eq_true _ | rfl) ?_; conv => whnf) | (refine Br.no (by first | with_reducible rfl | with_reducible exact bne_self_eq_false _ | rfl) ?_; conv => whnf))
  obtain ⟨p, e1, e2⟩ := index_rr (l := [ab3]) (hp.slF (κ := κ3) (v := .slice a3 1 c3) .here) (i := 0) (by decide)
  refine Om.of _ e1 ?_
  conv => whnf
  repeat (first | (refine Br.yes (by first | with_reducible rfl | with_reducible exact beq_self_eq_true _ | rfl) ?_; conv => whnf) | (refine Br.no (by first | with_reducible rfl | with_reducible exact bne_self_eq_false _ | rfl) ?_; conv => whnf))
  refine Om.of _ e2 ?_
  conv => whnf
  repeat (first | (refine Br.yes (by first | with_reducible rfl | with_reducible exact beq_self_eq_true _ | rfl) ?_; conv => whnf) | (refine Br.no (by first | with_reducible rfl | with_reducible exact bne_self_eq_false _ | rfl) ?_; conv => whnf))
  refine Om.of _ (eq_rr ab3 ab3 _) ?_
  conv => whnf
  have hab : (ab3.seq == ab3.seq && bs ab3.body == bs ab3.body) = true := by decide +kernel
  repeat (first | (refine Br.yes hab ?_; conv => whnf) | (refine Br.yes rfl ?_; conv => whnf))
  refine (left_spec hp (v := v2) (kr := kr2) (br := br2) (by repeat (first | exact Has.here | apply Has.there | (apply Has.swap; repeat (first | exact HasR.here | apply HasR.there)))) (by decide) (by decide +kernel)).mono ?_
  rintro _ _ ⟨rfl, rfl⟩
  conv => whnf
  repeat (first | (refine Br.yes hab ?_; conv => whnf))
  refine Sm.ofW ?_
  conv => whnf
  exact ⟨congrArg Value.bool (show (((64 : Nat) : Int) - ((0 + (layF ab3 ((0 : Nat) : Int)).length : Nat) : Int) == 42) = true by decide +kernel), hp.fr⟩
end Go.Ev
end

/- What the document's ReadInt and ReadText do. No condition. -/
noncomputable section
namespace Go.Ev
open Go.Proofs
set_option linter.unusedVariables false
set_option maxRecDepth 100000

theorem tm128 (u : Nat) : (u : Int).tmod 128 = ((u % 128 : Nat) : Int) := by rw [Int.tmod_eq_emod_of_nonneg (by omega)]; omega
theorem wu64 {n : Nat} (h : n < 18446744073709551616) : IntKind.u64.wrap (n : Int) = (n : Int) := by rw [wrap_u64, Nat.mod_eq_of_lt h]
theorem refReadInt_spec {s : St} (wf : WF s) {κ : Option Nat} {v : Value} {l : List UInt8} (h : Sb s κ v l) (hl : l.length ≤ 150000000000000) :
    Cw Try.prog 61 [v] s fun r s' => K0 s s' ∧ ((Pk.readI l = none ∧ r = .tuple #[.int .i64 0, .slice none 0 0, .int .i64 2]) ∨
      ∃ n rest w, Pk.readI l = some (n, rest) ∧ r = .tuple #[.int .i64 n, w, .int .i64 0] ∧ Ob s.next s' w rest) := by
  obtain ⟨a, c, rfl⟩ := h.shape
  refine Cw.enterS Try.func61 rfl rfl ?_
  refine Sm.seqW ?_
  conv => whnf
  refine Sm.seqW ?_
  conv => whnf
  refine Sm.seqW ?_
  conv => whnf
  refine Sm.seqW ?_
  conv => whnf
  refine Lp.ofS (α := Nat × Nat × Nat) (fun x => [(0, .slice a l.length c), (7, .int .i64 (x.1 : Int)), (5, .int .u64 (x.2.1 : Int)), (6, .int .u64 (x.2.2 : Int))])
    (fun x s' => s' = s ∧ x.1 ≤ l.length ∧ x.1 ≤ 10 ∧ x.2.1 < 18446744073709551616 ∧ (x.1 ≤ 9 → x.2.1 < 2 ^ (7 * x.1) ∧ x.2.2 = 2 ^ (7 * x.1) ∧ Pk.readL 0 0 l = Pk.readL x.1 x.2.1 (l.drop x.1)) ∧ (x.1 = 10 → Pk.readL 0 0 l = none)) (fun x => 10 - x.1) ?_ (0, 0, 1)
    (.cons rfl (.cons rfl (.cons rfl (.cons rfl (Sub.nil _))))) ⟨rfl, by omega, by omega, by decide, fun _ => ⟨by decide, by decide, by simp⟩, fun h => by cases h⟩
  rintro ⟨k, acc, pw⟩ s1 ⟨rfl, h1, h2, h3, h4, h5⟩
  simp only at h1 h2 h3 h4 h5
  have form : Pk.readL 0 0 l = none → Pk.readI l = none := fun e => by simp [Pk.readI, e]
  refine Sm.seqW ?_
  conv => whnf
  refine Br.mk (fun hc => ?_) (fun hc => ?_)
  rotate_left
  · have hc := of_decide_eq_false hc
    conv => whnf
    refine Sm.ofW ?_
    conv => whnf
    exact ⟨Kp.refl wf, .inl ⟨form (h5 (by omega)), rfl⟩⟩
  have hc : k < 10 := by have := of_decide_eq_true hc; omega
  obtain ⟨g1, g2, g3⟩ := h4 (by omega)
  clear h4 h5
  conv => whnf
  refine Sm.seq (Sm.block ?_)
  refine Sm.seqW ?_
  conv => whnf
  refine Br.mk (fun hk => ?_) (fun hk => ?_)
  · have hk := of_decide_eq_true hk
    conv => whnf
    have : l.drop k = [] := List.drop_eq_nil_of_le (by omega)
    rw [this] at g3
    exact ⟨Kp.refl wf, .inl ⟨form (by rw [g3]; simp [Pk.readL]), rfl⟩⟩
  have hk : k < l.length := by have := of_decide_eq_false hk; omega
  conv => whnf
  obtain ⟨p, x, e1, e2, e3, _, rfl⟩ := index_sl B26 Try.underlying5 rfl h .i64 hk
  obtain ⟨b, hb, hx⟩ : ∃ b : UInt8, l.drop k = b :: l.drop (k + 1) ∧ x = .int .u8 (b.toNat : Int) := by
    refine ⟨l[k], List.drop_eq_getElem_cons hk, ?_⟩
    simp [byteVals, hk] at e2
    exact e2.symm
  subst hx
  have hbl := b.toNat_lt
  refine Sm.seqW ?_
  conv => whnf
  refine Om.of _ e1 ?_
  conv => whnf
  refine Om.of _ e3 ?_
  conv => whnf
  refine Om.of _ rfl ?_
  conv => whnf
  have ec : (IntKind.u64.wrap (b.toNat : Int)).tmod 128 = ((b.toNat % 128 : Nat) : Int) := by rw [wu64 (by omega), tm128]
  refine Sm.weak [(0, .slice a l.length c), (7, .int .i64 (k : Int)), (5, .int .u64 (acc : Int)), (6, .int .u64 (pw : Int)), (8, .int .u64 ((b.toNat % 128 : Nat) : Int))] (.cons rfl (.cons rfl (.cons rfl (.cons rfl (.cons (congrArg (fun x => some (Value.int .u64 x)) ec) (Sub.nil _)))))) ?_
  rw [hb] at g3
  -- k == 9 && c > 1
  refine Sm.seqC (fun e L' s' => s' = s1 ∧ ((k = 9 ∧ 1 < b.toNat % 128 ∧ e = .ret ∧ Sub [(2, .int .i64 0), (3, .slice none 0 0), (4, .int .i64 2)] L') ∨ (¬ (k = 9 ∧ 1 < b.toNat % 128) ∧ e = .normal ∧ Sub [(0, .slice a l.length c), (7, .int .i64 (k : Int)), (5, .int .u64 (acc : Int)), (6, .int .u64 (pw : Int)), (8, .int .u64 ((b.toNat % 128 : Nat) : Int))] L'))) ?_ ?_
  · conv => whnf
    refine Br.mk (fun q1 => ?_) (fun q1 => ?_)
    · have k9 : k = 9 := by
        have : (k : Int) = 9 := by simpa using q1
        omega
      conv => whnf
      repeat (refine Br.yes q1 ?_; conv => whnf)
      refine Br.mk (fun q2 => ?_) (fun q2 => ?_)
      · have q2 := of_decide_eq_true q2
        conv => whnf
        exact ⟨rfl, .inl ⟨k9, by omega, rfl, .cons rfl (.cons rfl (.cons rfl (Sub.nil _)))⟩⟩
      · have q2 := of_decide_eq_false q2
        conv => whnf
        exact ⟨rfl, .inr ⟨by omega, rfl, .cons rfl (.cons rfl (.cons rfl (.cons rfl (.cons rfl (Sub.nil _)))))⟩⟩
    · have k9 : ¬ k = 9 := by
        intro h; subst h; exact absurd q1 (by decide)
      conv => whnf
      repeat (first | (refine Br.no q1 ?_; conv => whnf) | (refine Br.no rfl ?_; conv => whnf))
      exact ⟨rfl, .inr ⟨by omega, rfl, .cons rfl (.cons rfl (.cons rfl (.cons rfl (.cons rfl (Sub.nil _)))))⟩⟩
  rintro e L' s' ⟨rfl, ⟨k9, hc1, rfl, hs⟩ | ⟨hnc, rfl, hs⟩⟩
  · have hnone : Pk.readL 0 0 l = none := by rw [g3, Pk.readL, if_pos (.inl ⟨k9, by omega⟩)]
    have l2 := hs 2 _ rfl
    have l3 := hs 3 _ rfl
    have l4 := hs 4 _ rfl
    show Rq (lk 2 L') _
    rw [l2]
    show Rq (lk 3 L') _
    rw [l3]
    show Rq (lk 4 L') _
    rw [l4]
    exact ⟨⟨Kp.refl wf, .inl ⟨form hnone, rfl⟩⟩⟩
  refine Sm.weak _ hs ?_
  clear hs
  have hpow : b.toNat % 128 * 2 ^ (7 * k) < 18446744073709551616 := by
    by_cases h9 : k = 9
    · subst h9
      have : b.toNat % 128 ≤ 1 := by omega
      have e : (2 : Nat) ^ (7 * 9) = 9223372036854775808 := by decide
      rw [e]; omega
    · have : (2 : Nat) ^ (7 * k) ≤ 2 ^ (7 * 8) := Nat.pow_le_pow_right (by omega) (by omega)
      have e : (2 : Nat) ^ (7 * 8) = 72057594037927936 := by decide
      rw [e] at this
      have h128 : b.toNat % 128 ≤ 127 := by omega
      calc b.toNat % 128 * 2 ^ (7 * k) ≤ 127 * 72057594037927936 := Nat.mul_le_mul h128 this
        _ < 18446744073709551616 := by decide
  have hsum : acc + b.toNat % 128 * 2 ^ (7 * k) < 18446744073709551616 := by
    rw [← or_shift g1]
    exact Nat.or_lt_two_pow (n := 64) h3 hpow
  subst g2
  have eA : IntKind.u64.wrap ((acc : Int) + IntKind.u64.wrap (((b.toNat % 128 : Nat) : Int) * ((2 ^ (7 * k) : Nat) : Int))) = ((acc + b.toNat % 128 * 2 ^ (7 * k) : Nat) : Int) := by
    rw [← Int.natCast_mul, wu64 hpow, ← Int.natCast_add, wu64 hsum]
  have eB : IntKind.u64.wrap (((2 ^ (7 * k) : Nat) : Int) * 128) = ((2 ^ (7 * k) * 128 % 18446744073709551616 : Nat) : Int) := by
    rw [show (128 : Int) = ((128 : Nat) : Int) from rfl, ← Int.natCast_mul, wrap_u64]
  refine Sm.seqW ?_
  conv => whnf
  refine Sm.weak [(0, .slice a l.length c), (7, .int .i64 (k : Int)), (5, .int .u64 ((acc + b.toNat % 128 * 2 ^ (7 * k) : Nat) : Int)), (6, .int .u64 ((2 ^ (7 * k) : Nat) : Int)), (8, .int .u64 ((b.toNat % 128 : Nat) : Int))] (.cons rfl (.cons rfl (.cons (congrArg (fun x => some (Value.int .u64 x)) eA) (.cons rfl (.cons rfl (Sub.nil _)))))) ?_
  refine Sm.seqW ?_
  conv => whnf
  refine Sm.weak [(0, .slice a l.length c), (7, .int .i64 (k : Int)), (5, .int .u64 ((acc + b.toNat % 128 * 2 ^ (7 * k) : Nat) : Int)), (6, .int .u64 ((2 ^ (7 * k) * 128 % 18446744073709551616 : Nat) : Int)), (8, .int .u64 ((b.toNat % 128 : Nat) : Int))] (.cons rfl (.cons rfl (.cons rfl (.cons (congrArg (fun x => some (Value.int .u64 x)) eB) (.cons rfl (Sub.nil _)))))) ?_
  clear eA eB
  have hk1 : IntKind.i64.wrap ((k : Int) + 1) = ((k + 1 : Nat) : Int) := by rw [wrap_i64 (by omega) (by omega)]; omega
  have hpw : k + 1 ≤ 9 → 2 ^ (7 * k) * 128 % 18446744073709551616 = 2 ^ (7 * (k + 1)) := by
    intro hk9
    rw [Pk.pow7, Nat.mul_comm]
    apply Nat.mod_eq_of_lt
    rw [← Pk.pow7]
    have : (2 : Nat) ^ (7 * (k + 1)) ≤ 2 ^ (7 * 9) := Nat.pow_le_pow_right (by omega) (by omega)
    have e : (2 : Nat) ^ (7 * 9) = 9223372036854775808 := by decide
    omega
  have hnext : k + 1 ≤ 9 → acc + b.toNat % 128 * 2 ^ (7 * k) < 2 ^ (7 * (k + 1)) := by
    intro _
    rw [Pk.pow7]
    have : b.toNat % 128 ≤ 127 := by omega
    have := Nat.mul_le_mul_right (2 ^ (7 * k)) this
    clear hsum hpow hpw g3 hnc
    generalize b.toNat % 128 * 2 ^ (7 * k) = q at this ⊢
    generalize 2 ^ (7 * k) = p2 at *
    omega
  generalize 2 ^ (7 * k) * 128 % 18446744073709551616 = PW at hpw ⊢
  generalize hACC : acc + b.toNat % 128 * 2 ^ (7 * k) = ACC at hsum hnext ⊢
  refine Sm.ofW ?_
  conv => whnf
  refine Om.of _ e1 ?_
  conv => whnf
  refine Om.of _ e3 ?_
  conv => whnf
  refine Br.mk (fun hlt => ?_) (fun hlt => ?_)
  · have hlast : b.toNat < 128 := by have := of_decide_eq_true hlt; omega
    have hm : b.toNat % 128 = b.toNat := by omega
    conv => whnf
    have hz1 : ∀ {z : Bool}, (((b.toNat % 128 : Nat) : Int) == 0) = z → z = decide (b.toNat = 0) := by
      intro z hz; rw [← hz, hm, Bool.eq_iff_iff]; simp
    by_cases hst : b.toNat = 0 ∧ 0 < k
    · have q1 : (((b.toNat % 128 : Nat) : Int) == 0) = true := by rw [hm]; simp [hst.1]
      have q2 : decide ((k : Int) > 0) = true := decide_eq_true (by omega)
      repeat (first | (refine Br.yes q1 ?_; conv => whnf) | (refine Br.yes q2 ?_; conv => whnf))
      have hnone : Pk.readL 0 0 l = none := by rw [g3, Pk.readL, if_pos (.inr ⟨hlast, hst.1, hst.2⟩)]
      exact ⟨Kp.refl wf, .inl ⟨form hnone, rfl⟩⟩
    · have hgo : Pk.readL 0 0 l = some (ACC, l.drop (k + 1)) := by
        rw [g3, Pk.readL, if_neg (by omega), if_pos hlast, ← hACC, hm]
      have hsw : ∀ {R : Prop}, ((((b.toNat % 128 : Nat) : Int) == 0) = false → R) → ((((b.toNat % 128 : Nat) : Int) == 0) = true → decide ((k : Int) > 0) = false → R) → R := by
        intro R a1 a2
        by_cases hz : b.toNat = 0
        · exact a2 (by rw [hm]; simp [hz]) (decide_eq_false (by omega))
        · exact a1 (by rw [hm]; simp; omega)
      obtain ⟨v3, s3, e6, o3, k3⟩ := buildSlice0 B26 wf
      obtain ⟨v2, hst3, h5⟩ := slice_from (h.keep0 k3) .i64 (n := k + 1) (by omega)
      rw [← hk1] at hst3
      obtain ⟨v4, s4, e7, o4, k4⟩ := append_own B26 Try.underlying32 rfl k3.wf o3 (elems_sl h5) (by simp [byteVals]) (byteVals_one _) (by simp; omega)
      rw [Nat.zero_add, List.nil_append] at o4
      have K4 := k3.touch k4 (fun j hj => by omega)
      have ob4 := Ob.of (o4.n K4.wf (Nat.le_refl s'.next))
      have evn : (ACC : Int).tdiv 2 = ((ACC / 2 : Nat) : Int) := by rw [Int.tdiv_eq_ediv_of_nonneg (by omega)]; omega
      have evm : (ACC : Int).tmod 2 = ((ACC % 2 : Nat) : Int) := by rw [Int.tmod_eq_emod_of_nonneg (by omega)]; omega
      have ez : IntKind.i64.wrap (IntKind.u64.wrap ((ACC : Int).tdiv 2)) = ((ACC / 2 : Nat) : Int) := by
        rw [evn, wu64 (by omega), wrap_i64 (by omega) (by omega)]
      have done : ∀ {n : Int} , n = Pk.unzig ACC → (Pk.readI l = none ∧ Value.tuple #[.int .i64 n, v4, .int .i64 0] = Value.tuple #[.int .i64 0, .slice none 0 0, .int .i64 2]) ∨
          ∃ n' rest w, Pk.readI l = some (n', rest) ∧ Value.tuple #[.int .i64 n, v4, .int .i64 0] = .tuple #[.int .i64 n', w, .int .i64 0] ∧ Ob s'.next s4 w rest := by
        intro n hn
        subst hn
        exact .inr ⟨Pk.unzig ACC, l.drop (k + 1), v4, by simp [Pk.readI, hgo], rfl, ob4⟩
      refine hsw (fun q1 => ?_) (fun q1 q2 => ?_)
      all_goals
        repeat (first | (refine Br.no q1 ?_; conv => whnf) | (refine Br.yes q1 ?_; conv => whnf) | (refine Br.no q2 ?_; conv => whnf) | (refine Br.no rfl ?_; conv => whnf))
        refine Om.of _ rfl ?_
        conv => whnf
        refine Om.of _ rfl ?_
        conv => whnf
        refine Br.mk (fun hodd => ?_) (fun hodd => ?_)
        · have hodd : ACC % 2 = 1 := by
            rw [evm] at hodd
            have : ((ACC % 2 : Nat) : Int) = 1 := by simpa using hodd
            omega
          conv => whnf
          refine Om.of _ e6 ?_
          conv => whnf
          refine Om.of _ hst3 ?_
          conv => whnf
          refine Om.of _ e7 ?_
          conv => whnf
          refine ⟨K4, done ?_⟩
          rw [ez]
          unfold Pk.unzig
          rw [if_neg (by omega), wrap_i64 (n := 0 - ((ACC / 2 : Nat) : Int)) (by omega) (by omega), wrap_i64 (by omega) (by omega)]
          omega
        · have hev : ACC % 2 = 0 := by
            rw [evm] at hodd
            have : ((ACC % 2 : Nat) : Int) ≠ 1 := by simpa using hodd
            omega
          conv => whnf
          refine Om.of _ e6 ?_
          conv => whnf
          refine Om.of _ hst3 ?_
          conv => whnf
          refine Om.of _ e7 ?_
          conv => whnf
          refine ⟨K4, done ?_⟩
          rw [ez]
          unfold Pk.unzig
          rw [if_pos hev]
  · have hlast : ¬ b.toNat < 128 := by have := of_decide_eq_false hlt; omega
    conv => whnf
    refine Sm.ofW ?_
    conv => whnf
    refine ⟨(k + 1, ACC, PW), by simp only; omega, .cons rfl (.cons (congrArg (fun x => some (Value.int .i64 x)) hk1) (.cons rfl (.cons rfl (Sub.nil _)))), rfl, by simp only; omega, by simp only; omega, by simp only; omega, fun h9 => ⟨hnext h9, hpw h9, ?_⟩, fun h10 => ?_⟩
    · simp only at h9
      rw [g3, Pk.readL, if_neg (by omega), if_neg hlast, ← hACC]
    · simp only at h10
      rw [g3, Pk.readL, if_pos (.inl ⟨by omega, by omega⟩)]
end Go.Ev
end

/- What the document's ReadText does; what PackTells says. No condition. -/
noncomputable section
namespace Go.Ev
open Go.Proofs
set_option linter.unusedVariables false
set_option maxRecDepth 100000

theorem refReadText_spec {s : St} (wf : WF s) {κ : Option Nat} {v : Value} {l : List UInt8} (h : Sb s κ v l) (hl : l.length ≤ 150000000000000) :
    Cw Try.prog 51 [v] s fun r s' => K0 s s' ∧ ((Pk.readT l = none ∧ r = .tuple #[.string ⟨#[]⟩, .slice none 0 0, .int .i64 2]) ∨
      ∃ a rest w κ, Pk.readT l = some (a, rest) ∧ r = .tuple #[.string ⟨a.toArray⟩, w, .int .i64 0] ∧ Sb s' κ w rest) := by
  refine Cw.enterS Try.func51 rfl rfl ?_
  refine Sm.seqW ?_
  conv => whnf
  refine Sm.seqW ?_
  conv => whnf
  refine (refReadInt_spec wf h hl).mono ?_
  rintro r s1 ⟨k1, ⟨hr, rfl⟩ | ⟨n, rest, w, hr, rfl, ow⟩⟩
  · conv => whnf
    refine Sm.ofW ?_
    conv => whnf
    repeat (first | (refine Br.yes rfl ?_; conv => whnf) | (refine Br.no rfl ?_; conv => whnf))
    exact ⟨k1, .inl ⟨by simp [Pk.readT, hr], rfl⟩⟩
  · obtain ⟨hl2, hn⟩ := Pk.readI_dec hr
    have hrl : rest.length ≤ l.length := by rw [hl2]; simp
    obtain ⟨a, c, rfl⟩ := ow.shape
    conv => whnf
    refine Sm.weak [(5, .int .i64 n), (6, .slice a rest.length c), (7, .int .i64 0)] (.cons rfl (.cons rfl (.cons rfl (Sub.nil _)))) ?_
    refine Sm.seqW ?_
    conv => whnf
    repeat (refine Br.no rfl ?_; conv => whnf)
    by_cases hq : 0 ≤ n ∧ n ≤ (rest.length : Int)
    · have h1 : decide (n < 0) = false := decide_eq_false (by omega)
      have h2 : decide (n > (rest.length : Int)) = false := decide_eq_false (by omega)
      repeat (first | (refine Br.no rfl ?_; conv => whnf) | (refine Br.no h1 ?_; conv => whnf) | (refine Br.no h2 ?_; conv => whnf))
      refine Sm.ofW ?_
      conv => whnf
      refine ⟨[0, 0, 3, 7, 0, 0, 48, 15, 255, 511], by decide +kernel, by decide +kernel, ?_⟩
      conv => whnf
      obtain ⟨κ, sw, _⟩ := ow.sl
      have hn1 : ((n.toNat : Nat) : Int) = n := by omega
      obtain ⟨w1, e1, f1⟩ := slice_to sw .i64 (n := n.toNat) (by omega)
      rw [hn1] at e1
      refine Om.of w1 e1 ?_
      conv => whnf
      refine Om.of _ (string_sl Try.underlying32 Try.underlying9 Try.underlying5 f1.reset) ?_
      conv => whnf
      refine Dk.same k1.wf ?_
      conv => whnf
      obtain ⟨w2, e2, f2⟩ := slice_from sw .i64 (n := n.toNat) (by omega)
      rw [hn1] at e2
      refine Om.of w2 e2 ?_
      conv => whnf
      exact ⟨k1, .inr ⟨rest.take n.toNat, rest.drop n.toNat, w2, κ, by simp [Pk.readT, hr, hq], rfl, f2⟩⟩
    · have hT : Pk.readT l = none := by simp only [Pk.readT, hr]; rw [if_neg hq]
      have hcase : decide (n < 0) = true ∨ (decide (n < 0) = false ∧ decide (n > (rest.length : Int)) = true) := by
        by_cases h0 : n < 0
        · exact .inl (decide_eq_true h0)
        · exact .inr ⟨decide_eq_false h0, decide_eq_true (by omega)⟩
      rcases hcase with h1 | ⟨h1, h2⟩
      · repeat (first | (refine Br.no rfl ?_; conv => whnf) | (refine Br.yes rfl ?_; conv => whnf) | (refine Br.yes h1 ?_; conv => whnf))
        exact ⟨k1, .inl ⟨hT, rfl⟩⟩
      · repeat (first | (refine Br.no rfl ?_; conv => whnf) | (refine Br.yes rfl ?_; conv => whnf) | (refine Br.no h1 ?_; conv => whnf) | (refine Br.yes h2 ?_; conv => whnf))
        exact ⟨k1, .inl ⟨hT, rfl⟩⟩
end Go.Ev
end

/- Rolls: the document's step, and its sum. No condition. -/
noncomputable section
namespace Go.Ev
open Go.Proofs
set_option linter.unusedVariables false
set_option maxRecDepth 100000

theorem rstep_eq (h : BitVec 64) (c : Nat) :
    IntKind.u64.wrap (((BitVec.ofInt IntKind.u64.bits (IntKind.u64.wrap (IntKind.u64.wrap ((h.toNat : Int) * 512) + IntKind.u64.wrap ((h.toNat : Int).tdiv 36028797018963968))) ^^^ BitVec.ofInt IntKind.u64.bits (IntKind.u64.wrap (c : Int))).toNat : Int)) = (((((h <<< 9) ||| (h >>> 55)) ^^^ BitVec.ofNat 64 c)).toNat : Int) := by
  have e : IntKind.u64.bits = 64 := rfl
  have h1 : BitVec.ofInt 64 ((h.toNat : Int) * 512) = h <<< 9 := by
    apply BitVec.eq_of_toNat_eq
    rw [BitVec.toNat_ofInt, BitVec.toNat_shiftLeft, Nat.shiftLeft_eq]
    omega
  have h2 : BitVec.ofInt 64 ((h.toNat : Int).tdiv 36028797018963968) = h >>> 55 := by
    apply BitVec.eq_of_toNat_eq
    have h1 := h.isLt
    have h2 : (h.toNat : Int).tdiv 36028797018963968 = ((h.toNat / 2 ^ 55 : Nat) : Int) := by rw [Int.tdiv_eq_ediv_of_nonneg (by omega)]; omega
    rw [h2, BitVec.toNat_ofInt, BitVec.toNat_ushiftRight, Nat.shiftRight_eq_div_pow]
    omega
  have h3 : BitVec.ofInt 64 (c : Int) = BitVec.ofNat 64 c := by simp
  have h4 : (h <<< 9) + (h >>> 55) = (h <<< 9) ||| (h >>> 55) := by
    apply BitVec.add_eq_or_of_and_eq_zero
    ext i hi
    simp only [BitVec.getElem_and, BitVec.getElem_ushiftRight, BitVec.getElem_shiftLeft, BitVec.getElem_zero]
    by_cases q : i < 9
    · simp [q]
    · have : h.getLsbD (55 + i) = false := BitVec.getLsbD_of_ge _ _ (by omega)
      simp [this]
  rw [e, bv_wrap, BitVec.ofInt_add, bv_wrap, bv_wrap, bv_wrap, h1, h2, h3, h4, wrap_bv, bv_toNat]
theorem rstep_spec (s : St) (h : BitVec 64) (c : UInt8) :
    Cw Try.prog 62 [.int .u64 (h.toNat : Int), .int .u8 (c.toNat : Int)] s fun r s' => s' = s ∧ r = .int .u64 ((Mk.step h c).toNat : Int) := by
  refine Cw.enter Try.func62 rfl rfl ?_
  conv => whnf
  refine Om.of _ rfl ?_
  conv => whnf
  refine ⟨⟨rfl, congrArg (Value.int .u64) ?_⟩⟩
  have := rstep_eq h c.toNat
  show IntKind.u64.wrap (IntKind.u64.wrap (((BitVec.ofInt IntKind.u64.bits (IntKind.u64.wrap (IntKind.u64.wrap ((h.toNat : Int) * 512) + IntKind.u64.wrap ((h.toNat : Int).tdiv 36028797018963968))) ^^^ BitVec.ofInt IntKind.u64.bits (IntKind.u64.wrap (c.toNat : Int))).toNat : Int)) * 11400714819323198485) = _
  rw [this, wrap_bv, BitVec.ofInt_mul, bv_toNat]
  rfl
theorem rsum_spec (s : St) {κ : Option Nat} {v : Value} {l : List UInt8} (hv : Sb s κ v l) (hl : l.length ≤ 281474976710656) (h : BitVec 64) :
    Cw Try.prog 53 [.int .u64 (h.toNat : Int), v] s fun r s' => s' = s ∧ r = .int .u64 ((Mk.sum h l).toNat : Int) := by
  obtain ⟨a, c, rfl⟩ := hv.shape
  refine Cw.enterS Try.func53 rfl rfl ?_
  refine Sm.seqW ?_
  conv => whnf
  refine Sm.seqW ?_
  conv => whnf
  refine Sm.seq ?_
  refine Sm.seqW ?_
  conv => whnf
  refine Sm.block ?_
  refine Sm.loop ?_
  refine Lp.ofS (α := Nat) (fun i => [(1, .slice a l.length c), (5, .int .u64 ((((l.take i).foldl Mk.step h).toNat : Nat) : Int)), (6, .int .i64 (i : Int))])
    (fun i s' => s' = s ∧ i ≤ l.length) (fun i => l.length - i) ?_ 0 (subK_ok (by refine ⟨rfl, rfl, rfl, trivial⟩)) ⟨rfl, by omega⟩
  rintro i s1 ⟨rfl, hi⟩
  refine Sm.seq ?_
  refine Sm.ofW ?_
  conv => whnf
  refine Br.mk (fun hc => ?_) (fun hc => ?_)
  rotate_left
  · have hc := of_decide_eq_false hc
    conv => whnf
    refine Sm.seqW ?_
    conv => whnf
    rw [List.take_of_length_le (by omega)]
    refine (rstep_spec s1 (l.foldl Mk.step h) 255).mono ?_
    rintro r s2 ⟨rfl, rfl⟩
    conv => whnf
    refine Sm.ofW ?_
    conv => whnf
    exact ⟨rfl, rfl⟩
  have hc : i < l.length := by have := of_decide_eq_true hc; omega
  conv => whnf
  refine Sm.seq (Sm.block ?_)
  refine Sm.ofW ?_
  conv => whnf
  obtain ⟨p, x, e1, e2, e3, _, rfl⟩ := index_sl B26 Try.underlying5 rfl hv .i64 hc
  obtain rfl : x = .int .u8 (l[i].toNat : Int) := by simp [byteVals, hc] at e2; exact e2.symm
  refine Om.of _ e1 ?_
  conv => whnf
  refine Om.of _ e3 ?_
  conv => whnf
  refine (rstep_spec s1 ((l.take i).foldl Mk.step h) l[i]).mono ?_
  rintro r s2 ⟨rfl, rfl⟩
  conv => whnf
  refine Sm.ofW ?_
  conv => whnf
  have e5 : Mk.step ((l.take i).foldl Mk.step h) l[i] = (l.take (i + 1)).foldl Mk.step h := by rw [List.take_succ_eq_append_getElem hc, List.foldl_append]; rfl
  have e6 : IntKind.i64.wrap ((i : Int) + 1) = ((i + 1 : Nat) : Int) := by rw [wrap_i64 (by omega) (by omega)]; omega
  rw [e5]
  exact ⟨i + 1, by (show l.length - (i + 1) < l.length - i); omega, subK_ok (by refine ⟨rfl, rfl, congrArg (fun x => some (Value.int .i64 x)) e6, trivial⟩), rfl, by omega⟩
end Go.Ev
end

/- Slabs without a program; what 'known' says. No condition. -/
noncomputable section
namespace Go.Ev
open Go.Proofs
set_option linter.unusedVariables false
set_option maxRecDepth 100000

end Go.Ev
end

/- What the document's slab does. No condition. -/
noncomputable section
namespace Go.Ev
open Go.Proofs
set_option linter.unusedVariables false
set_option maxRecDepth 100000

/-- The document's slab. -/
structure RL where
  b : List UInt8
  left : Int
  torn : Int
  dead : Bool
  writes : Int
def RL.has (σ : RL) (at_ n : Int) : Bool := !σ.dead && (decide (at_ ≥ 0) && (decide (at_ ≤ (σ.b.length : Int)) && (decide (n ≥ 0) && decide (n ≤ (σ.b.length : Int) - at_))))
def RL.write (σ : RL) (at_ : Int) (l : List UInt8) : RL × Bool :=
  if σ.has at_ l.length = true then
    (if σ.left = 0 then ({ σ with writes := IntKind.i64.wrap (σ.writes + 1), b := putB σ.b at_.toNat (l.take (max 0 (min σ.torn l.length)).toNat), dead := true }, false)
     else ({ σ with writes := IntKind.i64.wrap (σ.writes + 1), left := if 0 < σ.left then IntKind.i64.wrap (σ.left - 1) else σ.left, b := putB σ.b at_.toNat l }, true))
  else (σ, false)
def refCells (bb : Nat) (σ : RL) : List Value := [.slice (some ⟨bb, 0, none⟩) σ.b.length σ.b.length, .int .i64 σ.left, .int .i64 σ.torn, .bool σ.dead, .int .i64 σ.writes]
theorem within_spec (s : St) (n a b : Int) :
    Cw Try.prog 37 [.int .i64 n, .int .i64 a, .int .i64 b] s fun r s' => s' = s ∧ r = .int .i64 (max a (min b n)) := by
  refine Cw.enter Try.func37 rfl rfl ?_
  conv => whnf
  refine ⟨⟨rfl, congrArg (Value.int .i64) ?_⟩⟩
  show (if (if n < b then n else b) > a then (if n < b then n else b) else a) = _
  split <;> split at * <;> omega
section
variable {X : Nat → Prop} {s0 s : St} {R F G H : List At} {ks bs kb bb : Nat} {σ : RL}
theorem there_spec (hp : Hp X s0 R F s) (h1 : Has (blkA ks bs (refCells bb σ) 5) F R) (hlen : σ.b.length ≤ 65536) (at_ n : Int) :
    Cw Try.prog 38 [.pointer (some ⟨bs, 0, none⟩), .int .i64 at_, .int .i64 n] s fun r s' => s' = s ∧ r = .bool (σ.has at_ n) := by
  refine Cw.enter Try.func38 rfl rfl ?_
  conv => whnf
  repeat' (first
    | (refine Br.yes (by first | with_reducible rfl | with_reducible assumption) ?_; conv => whnf)
    | (refine Br.no (by first | with_reducible rfl | with_reducible assumption) ?_; conv => whnf)
    | (refine hp.load h1 rfl rfl rfl rfl ?_; conv => whnf)
    | (refine Br.mk (fun hq => ?_) (fun hq => ?_) <;> conv => whnf))
  all_goals (refine ⟨⟨rfl, congrArg Value.bool ?_⟩⟩; simp_all [RL.has])
  all_goals first | omega | rw [wrap_i64 (by omega) (by omega)]
theorem refNew_spec (hp : Hp X s0 R F s) (n : Int) {K : Value → St → Prop} (hK : ∀ ks bs kb bb s', Hp X s0 R (blkA ks bs (refCells bb ⟨List.replicate (max 1 (min n 65536)).toNat 0, -1, 0, false, 0⟩) 5 :: blkA kb bb (byteVals (List.replicate (max 1 (min n 65536)).toNat 0)) 1 :: F) s' → K0 s s' → K (.pointer (some ⟨bs, 0, none⟩)) s') :
    Cw Try.prog 20 [.int .i64 n] s K := by
  refine Cw.enter Try.func20 rfl rfl ?_
  conv => whnf
  refine (within_spec s n 1 65536).mono ?_
  rintro _ _ ⟨rfl, rfl⟩
  conv => whnf
  have e1 : (max 1 (min 65536 n)) = (((max 1 (min n 65536)).toNat : Nat) : Int) := by omega
  have e2 : (max 1 (min n 65536)).toNat ≤ 65536 := by omega
  generalize (max 1 (min n 65536)).toNat = M at e1 e2 hK
  refine hp.mks B26 rfl M e1 e1 (by omega) ?_
  intro bb s1 hp k1
  conv => whnf
  rw [← byteVals_replicate] at hp
  refine hp.var (cs := refCells bb ⟨List.replicate M 0, -1, 0, false, 0⟩) (e := 5) (by simp [refCells]; rfl) rfl ?_
  intro bs s2 hp k2
  conv => whnf
  exact ⟨hK _ _ _ _ _ hp (k1.then k2)⟩
theorem refCut_spec (hp : Hp X s0 R F s) (r : Rm (blkA ks bs (refCells bb σ) 5) F G) (n torn : Int) {K : Value → St → Prop} (hK : ∀ v s', Hp X s0 R (blkA ks bs (refCells bb { σ with left := max (-1) n, torn := torn }) 5 :: G) s' → K v s') :
    Cw Try.prog 23 [.pointer (some ⟨bs, 0, none⟩), .int .i64 n, .int .i64 torn] s K := by
  refine Cw.enter Try.func23 rfl rfl ?_
  conv => whnf
  refine hp.store r (of_decide_eq_true rfl) rfl rfl rfl rfl ?_
  intro s hp _
  conv => whnf
  (refine hp.store (by repeat (first | exact Rm.here | apply Rm.there)) (by first | exact of_decide_eq_true rfl | (simp; done) | (simp; omega) | omega) rfl rfl rfl rfl ?_; intro s hp _; conv => whnf)
  have e1 : (if n > -1 then n else -1) = max (-1) n := by split <;> omega
  exact ⟨hK _ _ (by rw [← e1]; exact hp)⟩
theorem refRevive_spec (hp : Hp X s0 R F s) (r : Rm (blkA ks bs (refCells bb σ) 5) F G) {K : Value → St → Prop} (hK : ∀ v s', Hp X s0 R (blkA ks bs (refCells bb { σ with dead := false, left := -1 }) 5 :: G) s' → K v s') :
    Cw Try.prog 24 [.pointer (some ⟨bs, 0, none⟩)] s K := by
  refine Cw.enter Try.func24 rfl rfl ?_
  conv => whnf
  refine hp.store r (of_decide_eq_true rfl) rfl rfl rfl rfl ?_
  intro s hp _
  conv => whnf
  (refine hp.store (by repeat (first | exact Rm.here | apply Rm.there)) (by first | exact of_decide_eq_true rfl | (simp; done) | (simp; omega) | omega) rfl rfl rfl rfl ?_; intro s hp _; conv => whnf)
  exact ⟨hK _ _ hp⟩
theorem blk_sb {s : St} {l : List UInt8} (h : Blk s kb bb (byteVals l) 1) : Sb s (some kb) (.slice (some ⟨bb, 0, none⟩) l.length l.length) l := Own.sl ⟨bb, rfl, h, by simp [byteVals]⟩
theorem RL.has_iff {σ : RL} {a n : Int} : σ.has a n = true ↔ σ.dead = false ∧ 0 ≤ a ∧ 0 ≤ n ∧ a ≤ (σ.b.length : Int) ∧ n ≤ (σ.b.length : Int) - a := by
  simp [RL.has]
  omega
theorem copyB {K : Value × St → Prop} (h : Hp X s0 R F s) {b : List UInt8} (r : Rm (blkA kb bb (byteVals b) 1) F G) {i : Nat} (hi : i ≤ b.length) {κ : Option Nat} {x : Value} {l : List UInt8} (hx : Sb s κ x l) (hl : i + l.length ≤ b.length)
    (hk : ∀ v s', Hp X s0 R (blkA kb bb (byteVals (putB b i l)) 1 :: G) s' → K (v, s')) : Om (evCopy Try.prog 32 (.slice (some ⟨bb, 0 + i * 1, none⟩) (b.length - i) (b.length - i)) x s) K := by
  obtain ⟨v, s', e1, k1, b1⟩ := copy_slab h.wf (h.okF _ r.sub.1 : Blk s kb bb (byteVals b) 1) hi hx hl
  exact .of _ e1 (hk _ _ (h.upd r k1 (fun j hj => .inl hj) b1 fun j hj => .inl hj))
theorem refWrite_spec (hp : Hp X s0 R F s) (h1 : Rm (blkA ks bs (refCells bb σ) 5) F G) (h2 : Rm (blkA kb bb (byteVals σ.b) 1) G H) (hlen : σ.b.length ≤ 65536) (at_ : Int) {κ : Option Nat} {v : Value} {l : List UInt8} (hv : HasR (slA κ v 1 l.length (byteVals l)) R)
    {K : Value → St → Prop} (hK : ∀ s', Hp X s0 R (blkA ks bs (refCells bb (σ.write at_ l).1) 5 :: blkA kb bb (byteVals (σ.write at_ l).1.b) 1 :: H) s' → K (.bool (σ.write at_ l).2) s') :
    Cw Try.prog 21 [.pointer (some ⟨bs, 0, none⟩), .int .i64 at_, v] s K := by
  obtain ⟨a, c, rfl⟩ := (hp.slR hv).shape
  replace hp : Hp X s0 R (blkA ks bs (refCells bb σ) 5 :: blkA kb bb (byteVals σ.b) 1 :: H) s := hp.pik (.cons h1 (.cons h2 (.refl H)))
  clear h1 h2
  refine Cw.enterS Try.func21 rfl rfl ?_
  refine Sm.seqW ?_
  conv => whnf
  refine Sm.seq ?_
  refine Sm.seqW ?_
  conv => whnf
  refine (there_spec hp .here hlen at_ l.length).mono ?_
  rintro _ _ ⟨rfl, rfl⟩
  conv => whnf
  refine Sm.ofW ?_
  conv => whnf
  cases hh : σ.has at_ l.length with
  | false =>
    refine Br.yes rfl ?_
    conv => whnf
    have : σ.write at_ l = (σ, false) := by simp [RL.write, hh]
    rw [this] at hK
    exact ⟨hK _ hp⟩
  | true =>
    refine Br.no rfl ?_
    conv => whnf
    have hb := RL.has_iff.1 hh
    have hat : ((at_.toNat : Nat) : Int) = at_ := by omega
    refine Sm.live [0, 1, 2] ?_
    conv => whnf
    refine Sm.seqW ?_
    conv => whnf
    (refine hp.load (by repeat (first | exact Has.here | apply Has.there | (apply Has.swap; repeat (first | exact HasR.here | apply HasR.there)))) (by rfl) rfl rfl rfl ?_; conv => whnf)
    (refine hp.store (by repeat (first | exact Rm.here | apply Rm.there)) (by first | exact of_decide_eq_true rfl | (simp; done) | (simp; omega) | omega) rfl rfl rfl rfl ?_; intro s hp _; conv => whnf)
    refine Sm.live [0, 1, 2] ?_
    conv => whnf
    refine Sm.seq ?_
    refine Sm.seqW ?_
    conv => whnf
    (refine hp.load (by repeat (first | exact Has.here | apply Has.there | (apply Has.swap; repeat (first | exact HasR.here | apply HasR.there)))) (by rfl) rfl rfl rfl ?_; conv => whnf)
    refine Sm.ofW ?_
    conv => whnf
    refine Br.mk (fun hq => ?_) (fun hq => ?_)
    · have hleft : σ.left = 0 := eq_of_beq hq
      have hw : σ.write at_ l = ({ σ with writes := IntKind.i64.wrap (σ.writes + 1), b := putB σ.b at_.toNat (l.take (max 0 (min σ.torn l.length)).toNat), dead := true }, false) := by simp [RL.write, hh, hleft]
      rw [hw] at hK
      conv => whnf
      refine ⟨[0, 1, 3, 7, 0, 31, 0, 0, 128, 384, 896, 0, 2048, 8064, 16320, 32767], by decide +kernel, by decide +kernel, ?_⟩
      conv => whnf
      (refine hp.load (by repeat (first | exact Has.here | apply Has.there | (apply Has.swap; repeat (first | exact HasR.here | apply HasR.there)))) (by rfl) rfl rfl rfl ?_; conv => whnf)
      have e3 := slice_from_val (s := s) (b := bb) (Blk.esz (hp.blk (by repeat (first | exact Has.here | apply Has.there | (apply Has.swap; repeat (first | exact HasR.here | apply HasR.there)))) : Blk s kb bb (byteVals σ.b) 1)) .i64 (i := at_.toNat) (n := σ.b.length) (by omega)
      rw [hat] at e3
      refine Om.of _ e3 ?_
      conv => whnf
      (refine hp.load (by repeat (first | exact Has.here | apply Has.there | (apply Has.swap; repeat (first | exact HasR.here | apply HasR.there)))) (by rfl) rfl rfl rfl ?_; conv => whnf)
      refine (within_spec _ σ.torn 0 l.length).mono ?_
      rintro _ _ ⟨rfl, rfl⟩
      conv => whnf
      refine hp.dkS ?_
      conv => whnf
      have hq1 : max 0 (min (l.length : Int) σ.torn) = (((max 0 (min σ.torn l.length)).toNat : Nat) : Int) := by omega
      have hq2 : (max 0 (min σ.torn l.length)).toNat ≤ l.length := by omega
      generalize (max 0 (min σ.torn l.length)).toNat = M at hq1 hq2 hw hK ⊢
      obtain ⟨w, e4, hw4⟩ := slice_to (hp.slR hv) .i64 hq2
      refine Om.of w ((congrArg (fun x => evSliceMem Try.prog 32 (.slice a l.length c) none (some (.int .i64 x)) none s) hq1).trans e4) ?_
      conv => whnf
      refine copyB hp.rst (.there .here) (by omega) hw4.reset (by simp; omega) ?_
      intro r5 s5 h5
      conv => whnf
      have e9 : (putB σ.b at_.toNat (l.take M)).length = σ.b.length := putB_length _ _ _ (by simp; omega)
      have ec : refCells bb { σ with writes := IntKind.i64.wrap (σ.writes + 1), b := putB σ.b at_.toNat (l.take M), dead := true } = ((refCells bb σ).set (0 + 4) (.int .i64 (IntKind.i64.wrap (σ.writes + 1)))).set (0 + 3) (.bool true) := by
        simp only [refCells, e9]; rfl
      rw [ec] at hK
      refine hp.dkA h5 ?_ ?_
      all_goals
        clear hp h5
        intro s hp
        conv => whnf
        (refine hp.store (by repeat (first | exact Rm.here | apply Rm.there)) (by first | exact of_decide_eq_true rfl | (simp; done) | (simp; omega) | omega) rfl rfl rfl rfl ?_; intro s hp _; conv => whnf)
        exact ⟨hK _ (hp.pik (by repeat (first | exact Pik.nil | exact Pik.refl _ | exact Rm.here | apply Rm.there | apply Pik.cons | apply Pik.skip)))⟩
    · have hleft : σ.left ≠ 0 := by simpa using hq
      conv => whnf
      refine Sm.live [0, 1, 2] ?_
      conv => whnf
      have hw : σ.write at_ l = ({ σ with writes := IntKind.i64.wrap (σ.writes + 1), left := if 0 < σ.left then IntKind.i64.wrap (σ.left - 1) else σ.left, b := putB σ.b at_.toNat l }, true) := by simp [RL.write, hh, hleft]
      rw [hw] at hK
      have e9 : (putB σ.b at_.toNat l).length = σ.b.length := putB_length _ _ _ (by omega)
      have ec : ∀ x, refCells bb { σ with writes := IntKind.i64.wrap (σ.writes + 1), left := x, b := putB σ.b at_.toNat l } = ((refCells bb σ).set (0 + 4) (.int .i64 (IntKind.i64.wrap (σ.writes + 1)))).set (0 + 1) (.int .i64 x) := by
        intro x
        simp only [refCells, e9]; rfl
      rw [ec] at hK
      refine Sm.seqC (fun e L' s' => e = .normal ∧ Hp X s0 R (blkA ks bs (((refCells bb σ).set (0 + 4) (.int .i64 (IntKind.i64.wrap (σ.writes + 1)))).set (0 + 1) (.int .i64 (if 0 < σ.left then IntKind.i64.wrap (σ.left - 1) else σ.left))) 5 :: blkA kb bb (byteVals σ.b) 1 :: H) s' ∧ Sub [(0, .pointer (some ⟨bs, 0, none⟩)), (1, .int .i64 at_), (2, .slice a l.length c)] L') ?_ ?_
      · conv => whnf
        (refine hp.load (by repeat (first | exact Has.here | apply Has.there | (apply Has.swap; repeat (first | exact HasR.here | apply HasR.there)))) (by rfl) rfl rfl rfl ?_; conv => whnf)
        refine Br.mk (fun hq => ?_) (fun hq => ?_)
        · have hq := of_decide_eq_true hq
          conv => whnf
          (refine hp.load (by repeat (first | exact Has.here | apply Has.there | (apply Has.swap; repeat (first | exact HasR.here | apply HasR.there)))) (by rfl) rfl rfl rfl ?_; conv => whnf)
          (refine hp.store (by repeat (first | exact Rm.here | apply Rm.there)) (by first | exact of_decide_eq_true rfl | (simp; done) | (simp; omega) | omega) rfl rfl rfl rfl ?_; intro s hp _; conv => whnf)
          rw [if_pos hq]
          exact ⟨rfl, hp, .cons rfl (.cons rfl (.cons rfl (Sub.nil _)))⟩
        · have hq := of_decide_eq_false hq
          conv => whnf
          rw [if_neg hq]
          exact ⟨rfl, hp, .cons rfl (.cons rfl (.cons rfl (Sub.nil _)))⟩
      clear hp
      rintro e L' s ⟨rfl, hp, hs⟩
      refine Sm.weak _ hs ?_
      clear hs
      refine Sm.ofW ?_
      conv => whnf
      (refine hp.load (by repeat (first | exact Has.here | apply Has.there | (apply Has.swap; repeat (first | exact HasR.here | apply HasR.there)))) (by rfl) rfl rfl rfl ?_; conv => whnf)
      have e3 := slice_from_val (s := s) (b := bb) (Blk.esz (hp.blk (by repeat (first | exact Has.here | apply Has.there | (apply Has.swap; repeat (first | exact HasR.here | apply HasR.there)))) : Blk s kb bb (byteVals σ.b) 1)) .i64 (i := at_.toNat) (n := σ.b.length) (by omega)
      rw [hat] at e3
      refine Om.of _ e3 ?_
      conv => whnf
      refine copyB hp (.there .here) (by omega) (hp.slR hv) (by omega) ?_
      intro r5 s5 hp
      conv => whnf
      exact ⟨hK _ (hp.pik (by repeat (first | exact Pik.nil | exact Pik.refl _ | exact Rm.here | apply Rm.there | apply Pik.cons | apply Pik.skip)))⟩
end
end Go.Ev
end
