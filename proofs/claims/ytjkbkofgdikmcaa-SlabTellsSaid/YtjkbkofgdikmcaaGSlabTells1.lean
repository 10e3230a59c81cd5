/- Several texts in one: what the law's text leans on, one behind the other. No condition but those that each theorem names. -/
import Derived.Test.YtjkbkofgdikmcaaH1
import Derived.Test.YtjkbkofgdikmcaaS5
import Derived.Test.YtjkbkofgdikmcaaF5
/- What the functions of slab do. No condition. -/
noncomputable section
namespace Go.Ev
open Go.Proofs
set_option linter.unusedVariables false
set_option maxRecDepth 100000

/-- A slab, without a program. -/
structure SL where
  b : List UInt8
  left : Int
  torn : Int
  writes : Int
  dead : Bool
  limits : Bool
def SL.has (σ : SL) (at_ n : Int) : Bool := !σ.dead && (decide (at_ ≥ 0) && (decide (n ≥ 0) && (decide (at_ ≤ (σ.b.length : Int)) && decide (n ≤ (σ.b.length : Int) - at_))))
def putB (b : List UInt8) (i : Nat) (l : List UInt8) : List UInt8 := b.take i ++ l ++ b.drop (i + l.length)
def SL.write (σ : SL) (at_ : Int) (l : List UInt8) : SL × Bool :=
  if σ.has at_ l.length = true then
    (if σ.limits = true ∧ σ.left = 0 then ({ σ with writes := IntKind.i64.wrap (σ.writes + 1), b := putB σ.b at_.toNat (l.take (max 0 (min σ.torn l.length)).toNat), dead := true }, false)
     else ({ σ with writes := IntKind.i64.wrap (σ.writes + 1), left := IntKind.i64.wrap (σ.left - 1), b := putB σ.b at_.toNat l }, true))
  else (σ, false)
def SL.read (σ : SL) (at_ n : Int) : Option (List UInt8) := if σ.has at_ n = true then some ((σ.b.drop at_.toNat).take n.toNat) else none
theorem putB_length (b : List UInt8) (i : Nat) (l : List UInt8) (h : i + l.length ≤ b.length) : (putB b i l).length = b.length := by
  simp [putB]; omega
theorem putAt_bytes (b : List UInt8) (i : Nat) (l : List UInt8) : putAt (byteVals b) i (byteVals l) = byteVals (putB b i l) := by
  simp [putAt, putB, byteVals]
def slabCells (bb : Nat) (σ : SL) : List Value := [.slice (some ⟨bb, 0, none⟩) σ.b.length σ.b.length, .int .i64 σ.left, .int .i64 σ.torn, .int .i64 σ.writes, .bool σ.dead, .bool σ.limits]
/-- The slab that a pointer leads to: its struct is family ks, its bytes are family kb. -/
structure SlabAt (s : St) (p : Value) (ks kb : Nat) (σ : SL) : Prop where
  ne : ks ≠ kb
  len : σ.b.length ≤ 65536
  ex : ∃ bs bb, p = .pointer (some ⟨bs, 0, none⟩) ∧ Blk s ks bs (slabCells bb σ) 6 ∧ Blk s kb bb (byteVals σ.b) 1
theorem SlabAt.keep {X : Nat → Prop} {s s' : St} {p : Value} {ks kb : Nat} {σ : SL} (h : SlabAt s p ks kb σ) (k : Kp X s s') (h1 : ¬ X ks) (h2 : ¬ X kb) : SlabAt s' p ks kb σ := by
  obtain ⟨bs, bb, rfl, g1, g2⟩ := h.ex
  exact ⟨h.ne, h.len, bs, bb, rfl, k.blk _ _ _ _ h1 g1, k.blk _ _ _ _ h2 g2⟩
theorem SlabAt.keep0 {s s' : St} {p : Value} {ks kb : Nat} {σ : SL} (h : SlabAt s p ks kb σ) (k : K0 s s') : SlabAt s' p ks kb σ := h.keep k (fun h => h) fun h => h
theorem SlabAt.lt {s : St} {p : Value} {ks kb : Nat} {σ : SL} (wf : WF s) (h : SlabAt s p ks kb σ) : ks < s.next ∧ kb < s.next := by
  obtain ⟨bs, bb, rfl, g1, g2⟩ := h.ex
  have := g1.lt wf
  have := g2.lt wf
  omega

theorem new_spec {s : St} (wf : WF s) (n : Int) : Cw Try.prog 14 [.int .i64 n] s fun r s' => K0 s s' ∧ ∃ ks kb, s.next ≤ ks ∧ s.next ≤ kb ∧ SlabAt s' r ks kb ⟨List.replicate (max 1 (min n 65536)).toNat 0, 0, 0, 0, false, false⟩ := by
  refine Cw.enter Try.func14 rfl rfl ?_
  conv => whnf
  have hm : (if (if 65536 < n then 65536 else n) > 1 then (if 65536 < n then 65536 else n) else 1) = (((max 1 (min n 65536)).toNat : Nat) : Int) := by
    split <;> split at * <;> omega
  have hm2 : (max 1 (min n 65536)).toNat ≤ 65536 := by omega
  generalize hM : (max 1 (min n 65536)).toNat = M at hm hm2 ⊢
  obtain ⟨v1, s1, e1, o1, k1⟩ := make_one B26 wf rfl .i64 .i64 (n := M) (by omega)
  refine Om.of (v1, s1) ((congrArg (fun x => evMakeSlice Try.prog 22 (.int .i64 x) (.int .i64 x) s) hm).trans e1) ?_
  obtain ⟨bb, rfl, hb, hbl⟩ := o1.ex
  conv => whnf
  rw [← byteVals_replicate] at hb
  have hlt := hb.lt k1.wf
  let σ : SL := ⟨List.replicate M 0, 0, 0, 0, false, false⟩
  have hl : σ.b.length = M := by simp [σ]
  obtain ⟨k2, g⟩ := new_kp k1.wf (slabCells bb σ) 6
  refine Om.of (.pointer (some ⟨s1.next, 0, none⟩), s1.new (slabCells bb σ) 6) (by unfold slabCells; rw [hl]; rfl) ?_
  conv => whnf
  exact ⟨⟨k1.then k2, s1.next, s.next, by have := k1.next; omega, Nat.le_refl _, by omega, by simp; omega, s1.next, bb, rfl, g, k2.blk _ _ _ _ (fun h => h) hb⟩⟩
theorem has_spec {s : St} {p : Value} {ks kb : Nat} {σ : SL} (h : SlabAt s p ks kb σ) (at_ n : Int) : Cw Try.prog 42 [p, .int .i64 at_, .int .i64 n] s fun r s' => s' = s ∧ r = .bool (σ.has at_ n) := by
  obtain ⟨bs, bb, rfl, g1, g2⟩ := h.ex
  have hlen := h.len
  refine Cw.enter Try.func42 rfl rfl ?_
  conv => whnf
  refine Om.of (.bool true) rfl ?_
  conv => whnf
  repeat' (first
    | (refine Br.yes (by first | rfl | with_reducible assumption) ?_; conv => whnf)
    | (refine Br.no (by first | rfl | with_reducible assumption) ?_; conv => whnf)
    | (refine Om.of _ (load_cell Try.underlying4 rfl rfl g1.rd rfl) ?_; conv => whnf)
    | (refine Om.of _ (load_cell Try.underlying22 rfl rfl g1.rd rfl) ?_; conv => whnf)
    | (refine Br.mk (fun hq => ?_) (fun hq => ?_) <;> conv => whnf))
  all_goals (refine ⟨⟨rfl, congrArg Value.bool ?_⟩⟩; simp_all [SL.has])
  all_goals first | omega | rw [wrap_i64 (by omega) (by omega)]
end Go.Ev
end

/- What the functions of slab do: reading, writing, the rest. No condition. -/
noncomputable section
namespace Go.Ev
open Go.Proofs
set_option linter.unusedVariables false
set_option maxRecDepth 100000

theorem slice_mid {s : St} {κ : Option Nat} {v : Value} {l : List UInt8} (h : Sb s κ v l) (k : IntKind) {i j : Nat} (hi : i ≤ j) (hj : j ≤ l.length) :
    ∃ v', evSliceMem Try.prog 22 v (some (.int k (i : Int))) (some (.int k (j : Int))) none s = some v' ∧ Sb s κ v' ((l.drop i).take (j - i)) := by
  obtain ⟨v', e, h'⟩ := slice_sl B26 h k k (some i) (some j) (by simpa using hi) (by simpa using hj)
  refine ⟨v', e, Sb.of (n := j - i) ?_⟩
  simpa [drop_bytes, take_bytes] using h'
theorem slice_from_val {s : St} {b : Nat} (he : blkEsz s b = some 1) (k : IntKind) {i n : Nat} (hi : i ≤ n) :
    evSliceMem Try.prog 22 (.slice (some ⟨b, 0, none⟩) n n) (some (.int k (i : Int))) none none s = some (.slice (some ⟨b, 0 + i * 1, none⟩) (n - i) (n - i)) := by
  obtain ⟨j, hi1, hi2, hi3, hi4⟩ := B26.hi
  have hb : bnds n n (some (.int k (i : Int))) none none = some (i, n, n) := by
    unfold bnds
    simp only [bnd_nat hi]
  unfold evSliceMem; rw [B26.hu]; simp only [hi1, he, hi2, Nat.beq_refl, hb]
theorem SL.has_iff {σ : SL} {a n : Int} : σ.has a n = true ↔ σ.dead = false ∧ 0 ≤ a ∧ 0 ≤ n ∧ a ≤ (σ.b.length : Int) ∧ n ≤ (σ.b.length : Int) - a := by
  simp [SL.has]
theorem read_spec {s : St} (wf : WF s) {p : Value} {ks kb : Nat} {σ : SL} (h : SlabAt s p ks kb σ) (at_ n : Int) :
    Cw Try.prog 17 [p, .int .i64 at_, .int .i64 n] s fun r s' => K0 s s' ∧ ((σ.read at_ n = none ∧ r = .tuple #[.slice none 0 0, .bool false]) ∨ ∃ l v, σ.read at_ n = some l ∧ r = .tuple #[v, .bool true] ∧ Ob s.next s' v l) := by
  have h0 := h
  obtain ⟨bs, bb, rfl, g1, g2⟩ := h.ex
  have hlen := h.len
  refine Cw.enter Try.func17 rfl rfl ?_
  conv => whnf
  refine (has_spec h0 at_ n).mono ?_
  rintro r s' ⟨rfl, rfl⟩
  conv => whnf
  cases hh : σ.has at_ n with
  | false =>
    refine Br.yes rfl ?_
    conv => whnf
    exact ⟨⟨Kp.refl wf, .inl ⟨by simp [SL.read, hh], rfl⟩⟩⟩
  | true =>
    refine Br.no rfl ?_
    conv => whnf
    have hb := SL.has_iff.1 hh
    refine Om.of _ (load_cell Try.underlying22 rfl rfl g1.rd rfl) ?_
    conv => whnf
    have sb : Sb s' (some kb) (.slice (some ⟨bb, 0, none⟩) σ.b.length σ.b.length) σ.b := Own.sl ⟨bb, rfl, g2, by simp [byteVals]⟩
    obtain ⟨v, e, hv⟩ := slice_mid sb .i64 (i := at_.toNat) (j := at_.toNat + n.toNat) (by omega) (by omega)
    have e1 : ((at_.toNat : Nat) : Int) = at_ := by omega
    have e2 : ((at_.toNat + n.toNat : Nat) : Int) = IntKind.i64.wrap (at_ + n) := by rw [wrap_i64 (by omega) (by omega)]; omega
    rw [e1, e2] at e
    refine Om.of v e ?_
    conv => whnf
    refine (clone_spec wf hv (by simp; omega)).mono ?_
    rintro v2 s2 ⟨k2, o2⟩
    conv => whnf
    refine ⟨⟨k2, .inr ⟨_, v2, by simp [SL.read, hh]; rfl, rfl, ?_⟩⟩⟩
    have : at_.toNat + n.toNat - at_.toNat = n.toNat := by omega
    rw [this] at o2
    exact o2
/-- A copy of bytes into the slab's. -/
theorem copy_slab {s : St} (wf : WF s) {kb bb : Nat} {b : List UInt8} (g : Blk s kb bb (byteVals b) 1) {i : Nat} (hi : i ≤ b.length) {κ : Option Nat} {x : Value} {l : List UInt8} (hx : Sb s κ x l) (hl : i + l.length ≤ b.length) :
    ∃ r s', evCopy Try.prog 22 (.slice (some ⟨bb, 0 + i * 1, none⟩) (b.length - i) (b.length - i)) x s = some (r, s') ∧ Kp (fun j => j = kb) s s' ∧ Blk s' kb bb (byteVals (putB b i l)) 1 := by
  have hmin : min l.length (b.length - i) = l.length := by omega
  obtain ⟨s', e, k, g'⟩ := copy_own (n := b.length - i) (c := b.length - i) (off := 0 + i * 1) B26 wf g hx (byteVals_one l) (by rw [hmin]; simp [byteVals]; omega)
  rw [hmin] at e g'
  refine ⟨_, s', e, k, ?_⟩
  have e2 : (byteVals l).take (l.length * 1) = byteVals l := List.take_of_length_le (by simp [byteVals])
  rw [e2, Nat.zero_add, Nat.mul_one, putAt_bytes] at g'
  exact g'
theorem write_spec {s : St} (wf : WF s) {p : Value} {ks kb : Nat} {σ : SL} (h : SlabAt s p ks kb σ) (at_ : Int) {κ : Option Nat} {v : Value} {l : List UInt8} (hv : Sb s κ v l) (hκ : ∀ k, κ = some k → k ≠ ks ∧ k ≠ kb) :
    Cw Try.prog 16 [p, .int .i64 at_, v] s fun r s' => Kp (fun j => j = ks ∨ j = kb) s s' ∧ r = .bool (σ.write at_ l).2 ∧ SlabAt s' p ks kb (σ.write at_ l).1 := by
  have h0 := h
  obtain ⟨bs, bb, rfl, g1, g2⟩ := h.ex
  have hlen := h.len
  have hne := h.ne
  obtain ⟨a, c, rfl⟩ := hv.shape
  refine Cw.enter Try.func16 rfl rfl ?_
  conv => whnf
  refine (has_spec h0 at_ l.length).mono ?_
  rintro r s' ⟨rfl, rfl⟩
  conv => whnf
  cases hh : σ.has at_ l.length with
  | false =>
    refine Br.yes rfl ?_
    conv => whnf
    have : σ.write at_ l = (σ, false) := by simp [SL.write, hh]
    rw [this]
    exact ⟨⟨Kp.refl wf, rfl, h0⟩⟩
  | true =>
    refine Br.no rfl ?_
    conv => whnf
    have hb := SL.has_iff.1 hh
    refine Om.of _ (load_cell Try.underlying3 rfl rfl g1.rd rfl) ?_
    conv => whnf
    obtain ⟨s1, e1, k1, f1⟩ := store_cell (P := Try.prog) (t := 3) rfl rfl wf g1 (off := 0 + 3) (v := .int .i64 (IntKind.i64.wrap (σ.writes + 1))) (by simp [slabCells]) rfl rfl
    refine Om.of s1 e1 ?_
    conv => whnf
    have f2 : Blk s1 kb bb (byteVals σ.b) 1 := k1.blk _ _ _ _ (fun hh => hne hh.symm) g2
    have hv1 := hv.keep k1 (fun k hk => (hκ k hk).1)
    have hat : ((at_.toNat : Nat) : Int) = at_ := by omega
    have goon : ∀ {Q : Prop}, (σ.limits = true → σ.left = 0 → Q) → ((σ.limits = true ∧ σ.left = 0 → False) → Q) → Q := fun a b => by
      by_cases h1 : σ.limits = true ∧ σ.left = 0
      · exact a h1.1 h1.2
      · exact b h1
    refine Om.of _ (load_cell Try.underlying4 rfl rfl f1.rd rfl) ?_
    conv => whnf
    refine goon (fun hlim hleft => ?_) (fun hcut => ?_)
    · have hw : σ.write at_ l = ({ σ with writes := IntKind.i64.wrap (σ.writes + 1), b := putB σ.b at_.toNat (l.take (max 0 (min σ.torn l.length)).toNat), dead := true }, false) := by simp [SL.write, hh, hlim, hleft]
      repeat (refine Br.yes hlim ?_; conv => whnf)
      refine Om.of _ (load_cell Try.underlying3 rfl rfl f1.rd rfl) ?_
      conv => whnf
      have hz : (σ.left == 0) = true := by simp [hleft]
      repeat (first | (refine Br.yes hlim ?_; conv => whnf) | (refine Br.yes hz ?_; conv => whnf))
      refine ⟨[0, 1, 3, 7, 0, 31, 0, 0, 128, 384, 896, 0, 2048, 8064, 16256, 32704, 65535], by decide +kernel, by decide +kernel, ?_⟩
      conv => whnf
      refine Om.of _ (load_cell Try.underlying22 rfl rfl f1.rd rfl) ?_
      conv => whnf
      have e3 := slice_from_val (s := s1) (b := bb) (Blk.esz f2) .i64 (i := at_.toNat) (n := σ.b.length) (by omega)
      rw [hat] at e3
      refine Om.of _ e3 ?_
      conv => whnf
      refine Om.of _ (load_cell Try.underlying3 rfl rfl f1.rd rfl) ?_
      conv => whnf
      have hq : (if (if (l.length : Int) < σ.torn then (l.length : Int) else σ.torn) > 0 then (if (l.length : Int) < σ.torn then (l.length : Int) else σ.torn) else 0) = (((max 0 (min σ.torn l.length)).toNat : Nat) : Int) := by
        split <;> split at * <;> omega
      have hq2 : (max 0 (min σ.torn l.length)).toNat ≤ l.length := by omega
      generalize (max 0 (min σ.torn l.length)).toNat = M at hq hq2 hw ⊢
      obtain ⟨w, e4, hw4⟩ := slice_to hv1 .i64 hq2
      refine Om.of w ((congrArg (fun x => evSliceMem Try.prog 22 (.slice a l.length c) none (some (.int .i64 x)) none s1) hq).trans e4) ?_
      conv => whnf
      obtain ⟨r5, s5, e5, k5, f5⟩ := copy_slab k1.wf.reset f2.reset (i := at_.toNat) (by omega) hw4.reset (by simp; omega)
      refine Om.of (r5, s5) e5 ?_
      conv => whnf
      have k6 := k5.of_reset k1.wf
      have f6 := f5.relow (s := s1)
      have f7 := k6.blk _ _ _ _ (fun hh => hne hh) f1
      obtain ⟨s8, e8, k8, f8⟩ := store_cell (P := Try.prog) (t := 4) rfl rfl k6.wf f7 (off := 0 + 4) (v := .bool true) (by simp [slabCells]) rfl rfl
      have fin : Kp (fun j => j = ks ∨ j = kb) s' s8 ∧ SlabAt s8 (.pointer (some ⟨bs, 0, none⟩)) ks kb (σ.write at_ l).1 := by
        refine ⟨((k1.weak fun k hk => .inl (.inl hk)).trans k6 fun k hk => .inl (.inr hk)).trans k8 fun k hk => .inl (.inl hk), hne, ?_, bs, bb, rfl, ?_, k8.blk _ _ _ _ (fun hh => hne hh.symm) (by rw [hw]; exact f6)⟩
        · rw [hw]; show (putB σ.b at_.toNat (l.take M)).length ≤ 65536
          rw [putB_length _ _ _ (by simp; omega)]; exact hlen
        · rw [hw]
          have e9 : (putB σ.b at_.toNat (l.take M)).length = σ.b.length := putB_length _ _ _ (by simp; omega)
          have : slabCells bb { σ with writes := IntKind.i64.wrap (σ.writes + 1), b := putB σ.b at_.toNat (l.take M), dead := true } = (((slabCells bb σ).set (0 + 3) (.int .i64 (IntKind.i64.wrap (σ.writes + 1)))).set (0 + 4) (.bool true)) := by
            simp only [slabCells, e9]; rfl
          rw [this]; exact f8
      have r2 : (σ.write at_ l).2 = false := by rw [hw]
      rcases Nat.lt_or_ge s5.low s1.next with hlow | hlow
      · refine ⟨.inr ⟨hlow, ?_⟩⟩
        conv => whnf
        refine Om.of s8 e8 ?_
        conv => whnf
        rw [r2]
        exact ⟨⟨fin.1, rfl, fin.2⟩⟩
      · refine ⟨.inl ⟨hlow, ?_⟩⟩
        conv => whnf
        refine Om.of s8 e8 ?_
        conv => whnf
        rw [r2]
        exact ⟨⟨fin.1, rfl, fin.2⟩⟩
    · have hw : σ.write at_ l = ({ σ with writes := IntKind.i64.wrap (σ.writes + 1), left := IntKind.i64.wrap (σ.left - 1), b := putB σ.b at_.toNat l }, true) := by
        simp only [SL.write, hh, if_true]
        rw [if_neg (fun h => hcut h)]
      have fin2 : ∀ {P1 : Prop}, P1 → P1 := fun h => h
      obtain ⟨s2, e2, k2, f3⟩ := store_cell (P := Try.prog) (t := 3) rfl rfl k1.wf f1 (off := 0 + 1) (v := .int .i64 (IntKind.i64.wrap (σ.left - 1))) (by simp [slabCells]) rfl rfl
      have f4 : Blk s2 kb bb (byteVals σ.b) 1 := k2.blk _ _ _ _ (fun hh => hne hh.symm) f2
      have hv2 := hv1.keep k2 (fun k hk => (hκ k hk).1)
      have e3 := slice_from_val (s := s2) (b := bb) (Blk.esz f4) .i64 (i := at_.toNat) (n := σ.b.length) (by omega)
      rw [hat] at e3
      obtain ⟨r5, s5, e5, k5, f5⟩ := copy_slab k2.wf f4 (i := at_.toNat) (by omega) hv2 (by omega)
      have fin : Kp (fun j => j = ks ∨ j = kb) s' s5 ∧ SlabAt s5 (.pointer (some ⟨bs, 0, none⟩)) ks kb (σ.write at_ l).1 := by
        refine ⟨((k1.weak fun k hk => .inl (.inl hk)).trans k2 fun k hk => .inl (.inl hk)).trans k5 fun k hk => .inl (.inr hk), hne, ?_, bs, bb, rfl, ?_, by rw [hw]; exact f5⟩
        · rw [hw]; show (putB σ.b at_.toNat l).length ≤ 65536
          rw [putB_length _ _ _ (by omega)]; exact hlen
        · rw [hw]
          have e9 : (putB σ.b at_.toNat l).length = σ.b.length := putB_length _ _ _ (by omega)
          have : slabCells bb { σ with writes := IntKind.i64.wrap (σ.writes + 1), left := IntKind.i64.wrap (σ.left - 1), b := putB σ.b at_.toNat l } = (((slabCells bb σ).set (0 + 3) (.int .i64 (IntKind.i64.wrap (σ.writes + 1)))).set (0 + 1) (.int .i64 (IntKind.i64.wrap (σ.left - 1)))) := by
            simp only [slabCells, e9]; rfl
          rw [this]; exact k5.blk _ _ _ _ (fun hh => hne hh) f3
      have r2 : (σ.write at_ l).2 = true := by rw [hw]
      cases hlim : σ.limits with
      | false =>
        repeat (refine Br.no rfl ?_; conv => whnf)
        refine Om.of _ (load_cell Try.underlying3 rfl rfl f1.rd rfl) ?_
        conv => whnf
        refine Om.of s2 e2 ?_
        conv => whnf
        refine Om.of _ (load_cell Try.underlying22 rfl rfl f3.rd rfl) ?_
        conv => whnf
        refine Om.of _ e3 ?_
        conv => whnf
        refine Om.of (r5, s5) e5 ?_
        conv => whnf
        rw [r2]
        exact ⟨⟨fin.1, rfl, fin.2⟩⟩
      | true =>
        have hz : (σ.left == 0) = false := by
          rw [beq_eq_false_iff_ne]; exact fun h => hcut ⟨hlim, h⟩
        repeat (refine Br.yes rfl ?_; conv => whnf)
        refine Om.of _ (load_cell Try.underlying3 rfl rfl f1.rd rfl) ?_
        conv => whnf
        repeat (first | (refine Br.yes rfl ?_; conv => whnf) | (refine Br.no hz ?_; conv => whnf))
        refine Om.of _ (load_cell Try.underlying3 rfl rfl f1.rd rfl) ?_
        conv => whnf
        refine Om.of s2 e2 ?_
        conv => whnf
        refine Om.of _ (load_cell Try.underlying22 rfl rfl f3.rd rfl) ?_
        conv => whnf
        refine Om.of _ e3 ?_
        conv => whnf
        refine Om.of (r5, s5) e5 ?_
        conv => whnf
        rw [r2]
        exact ⟨⟨fin.1, rfl, fin.2⟩⟩
end Go.Ev
end

/- What the functions of slab do: the small ones. No condition. -/
noncomputable section
namespace Go.Ev
open Go.Proofs
set_option linter.unusedVariables false
set_option maxRecDepth 100000

theorem cut_spec {s : St} (wf : WF s) {p : Value} {ks kb : Nat} {σ : SL} (h : SlabAt s p ks kb σ) (n torn : Int) :
    Cw Try.prog 18 [p, .int .i64 n, .int .i64 torn] s fun r s' => Kp (fun j => j = ks) s s' ∧ SlabAt s' p ks kb { σ with left := n, torn := torn, limits := decide (n ≥ 0) } := by
  obtain ⟨bs, bb, rfl, g1, g2⟩ := h.ex
  have hne := h.ne
  refine Cw.enter Try.func18 rfl rfl ?_
  conv => whnf
  refine Om.of (.bool true) rfl ?_
  conv => whnf
  refine Br.yes rfl ?_
  conv => whnf
  obtain ⟨s1, e1, k1, f1⟩ := store_cell (P := Try.prog) (t := 3) rfl rfl wf g1 (off := 0 + 1) (v := .int .i64 n) (by simp [slabCells]) rfl rfl
  refine Om.of s1 e1 ?_
  conv => whnf
  obtain ⟨s2, e2, k2, f2⟩ := store_cell (P := Try.prog) (t := 3) rfl rfl k1.wf f1 (off := 0 + 2) (v := .int .i64 torn) (by simp [slabCells]) rfl rfl
  refine Om.of s2 e2 ?_
  conv => whnf
  obtain ⟨s3, e3, k3, f3⟩ := store_cell (P := Try.prog) (t := 4) rfl rfl k2.wf f2 (off := 0 + 5) (v := .bool (decide (n ≥ 0))) (by simp [slabCells]) rfl rfl
  refine Om.of s3 e3 ?_
  conv => whnf
  have k := (k1.then k2).then k3
  exact ⟨⟨k, hne, h.len, bs, bb, rfl, f3, k.blk _ _ _ _ (fun hh => hne hh.symm) g2⟩⟩
theorem revive_spec {s : St} (wf : WF s) {p : Value} {ks kb : Nat} {σ : SL} (h : SlabAt s p ks kb σ) :
    Cw Try.prog 20 [p] s fun r s' => Kp (fun j => j = ks) s s' ∧ SlabAt s' p ks kb { σ with dead := false, limits := false } := by
  obtain ⟨bs, bb, rfl, g1, g2⟩ := h.ex
  have hne := h.ne
  refine Cw.enter Try.func20 rfl rfl ?_
  conv => whnf
  refine Om.of (.bool true) rfl ?_
  conv => whnf
  refine Br.yes rfl ?_
  conv => whnf
  obtain ⟨s1, e1, k1, f1⟩ := store_cell (P := Try.prog) (t := 4) rfl rfl wf g1 (off := 0 + 4) (v := .bool false) (by simp [slabCells]) rfl rfl
  refine Om.of s1 e1 ?_
  conv => whnf
  obtain ⟨s2, e2, k2, f2⟩ := store_cell (P := Try.prog) (t := 4) rfl rfl k1.wf f1 (off := 0 + 5) (v := .bool false) (by simp [slabCells]) rfl rfl
  refine Om.of s2 e2 ?_
  conv => whnf
  have k := k1.then k2
  exact ⟨⟨k, hne, h.len, bs, bb, rfl, f2, k.blk _ _ _ _ (fun hh => hne hh.symm) g2⟩⟩
theorem dead_spec {s : St} {p : Value} {ks kb : Nat} {σ : SL} (h : SlabAt s p ks kb σ) : Cw Try.prog 19 [p] s fun r s' => s' = s ∧ r = .bool σ.dead := by
  obtain ⟨bs, bb, rfl, g1, g2⟩ := h.ex
  refine Cw.enter Try.func19 rfl rfl ?_
  conv => whnf
  refine Om.of (.bool true) rfl ?_
  conv => whnf
  repeat' (first
    | (refine Br.yes (by first | rfl | with_reducible assumption) ?_; conv => whnf)
    | (refine Om.of _ (load_cell Try.underlying4 rfl rfl g1.rd rfl) ?_; conv => whnf))
  exact ⟨⟨rfl, rfl⟩⟩
theorem writes_spec {s : St} {p : Value} {ks kb : Nat} {σ : SL} (h : SlabAt s p ks kb σ) : Cw Try.prog 21 [p] s fun r s' => s' = s ∧ r = .int .i64 σ.writes := by
  obtain ⟨bs, bb, rfl, g1, g2⟩ := h.ex
  refine Cw.enter Try.func21 rfl rfl ?_
  conv => whnf
  refine Om.of (.bool false) rfl ?_
  conv => whnf
  refine Br.no rfl ?_
  conv => whnf
  refine Om.of _ (load_cell Try.underlying3 rfl rfl g1.rd rfl) ?_
  conv => whnf
  exact ⟨⟨rfl, rfl⟩⟩
theorem size_spec {s : St} {p : Value} {ks kb : Nat} {σ : SL} (h : SlabAt s p ks kb σ) : Cw Try.prog 22 [p] s fun r s' => s' = s ∧ r = .int .i64 (σ.b.length : Int) := by
  obtain ⟨bs, bb, rfl, g1, g2⟩ := h.ex
  refine Cw.enter Try.func22 rfl rfl ?_
  conv => whnf
  refine Om.of (.bool false) rfl ?_
  conv => whnf
  refine Br.no rfl ?_
  conv => whnf
  refine Om.of _ (load_cell Try.underlying22 rfl rfl g1.rd rfl) ?_
  conv => whnf
  exact ⟨⟨rfl, rfl⟩⟩
end Go.Ev
end

/- Slabs without a program; what 'known' says. No condition. -/
noncomputable section
namespace Go.Ev
open Go.Proofs
set_option linter.unusedVariables false
set_option maxRecDepth 100000

theorem SlabAt.ptr {s : St} {p : Value} {ks kb : Nat} {σ : SL} (h : SlabAt s p ks kb σ) : ∃ bs, p = .pointer (some ⟨bs, 0, none⟩) := by
  obtain ⟨bs, bb, rfl, _⟩ := h.ex
  exact ⟨bs, rfl⟩
theorem sknown_spec {s : St} (wf : WF s) : Cw Try.prog 15 [] s fun r s' => r = .bool true ∧ K0 s s' := by
  refine Cw.enterS Try.func15 rfl rfl ?_
  refine Sm.seqW ?_
  conv => whnf
  refine Sm.seqW ?_
  conv => whnf
  refine (new_spec wf 2).mono ?_
  rintro p s1 ⟨k1, ks, kb, n1, n2, h1⟩
  obtain ⟨bs, rfl⟩ := h1.ptr
  conv => whnf
  refine Sm.seqW ?_
  conv => whnf
  refine Om.of (.bool false) rfl ?_
  conv => whnf
  refine Br.no rfl ?_
  conv => whnf
  refine Sm.weak [(1, .pointer (some ⟨bs, 0, none⟩))] (.cons rfl (Sub.nil _)) ?_
  refine Sm.seqW ?_
  conv => whnf
  refine (cut_spec k1.wf h1 0 1).mono ?_
  rintro r2 s2 ⟨k2, h2⟩
  have K2 := k1.touch k2 (fun k hk => by subst hk; exact n1)
  conv => whnf
  refine Sm.weak [(1, .pointer (some ⟨bs, 0, none⟩))] (.cons rfl (Sub.nil _)) ?_
  refine Sm.seqW ?_
  conv => whnf
  obtain ⟨k3, o3⟩ := lit_bytes K2.wf [7, 8]
  refine Om.of (.slice (some ⟨s2.next, 0, none⟩) 2 2, s2.new (byteVals [7, 8]) 1) rfl ?_
  conv => whnf
  have l2 := h2.lt K2.wf
  refine (write_spec k3.wf (h2.keep0 k3) 0 (l := [7, 8]) o3.sl (fun k hk => by injection hk with hk; omega)).mono ?_
  rintro r4 s4 ⟨k4, rfl, h4⟩
  have K4 := (K2.then k3).touch k4 (fun k hk => by rcases hk with rfl | rfl <;> assumption)
  conv => whnf
  refine Sm.weak [(1, .pointer (some ⟨bs, 0, none⟩)), (2, .bool false)] (.cons rfl (.cons rfl (Sub.nil _))) ?_
  refine Sm.seqW ?_
  conv => whnf
  refine (dead_spec h4).mono ?_
  rintro r5 s5 ⟨rfl, rfl⟩
  conv => whnf
  refine Sm.weak [(1, .pointer (some ⟨bs, 0, none⟩)), (2, .bool false), (3, .bool true)] (.cons rfl (.cons rfl (.cons rfl (Sub.nil _)))) ?_
  refine Sm.seqW ?_
  conv => whnf
  refine (revive_spec K4.wf h4).mono ?_
  rintro r6 s6 ⟨k6, h6⟩
  have K6 := K4.touch k6 (fun k hk => by subst hk; exact n1)
  conv => whnf
  refine Sm.seqW ?_
  conv => whnf
  refine (read_spec K6.wf h6 0 2).mono ?_
  rintro r7 s7 ⟨k7, ⟨hr, _⟩ | ⟨l, v, hr, rfl, o7⟩⟩
  · exact absurd hr (by decide +kernel)
  obtain rfl : l = [7, 0] := by
    have : ∀ x, x = some l → x = some [7, 0] → l = [7, 0] := fun x a b => by rw [a] at b; injection b
    exact this _ hr (by decide +kernel)
  conv => whnf
  refine Sm.weak [(1, .pointer (some ⟨bs, 0, none⟩)), (2, .bool false), (3, .bool true), (4, v), (5, .bool true)] (.cons rfl (.cons rfl (.cons rfl (.cons rfl (.cons rfl (Sub.nil _)))))) ?_
  refine Sm.ofW ?_
  conv => whnf
  repeat (first | (refine Br.yes rfl ?_; conv => whnf) | (refine Br.no rfl ?_; conv => whnf))
  refine Om.of _ (ob_str o7) ?_
  conv => whnf
  repeat (first | (refine Br.yes rfl ?_; conv => whnf) | (refine Br.no rfl ?_; conv => whnf))
  refine Om.of (.bool true) rfl ?_
  conv => whnf
  repeat (first | (refine Br.yes rfl ?_; conv => whnf) | (refine Br.no rfl ?_; conv => whnf))
  refine (dead_spec (h6.keep0 k7)).mono ?_
  rintro r8 s8 ⟨rfl, rfl⟩
  conv => whnf
  repeat (first | (refine Br.yes rfl ?_; conv => whnf) | (refine Br.no rfl ?_; conv => whnf))
  exact ⟨⟨rfl, K6.then k7⟩⟩
end Go.Ev
end

/- What the document's slab does. No condition. -/
noncomputable section
namespace Go.Ev
open Go.Proofs
set_option linter.unusedVariables false
set_option maxRecDepth 100000

/-- The document's slab. -/
structure RL where
  b : List UInt8
  left : Int
  torn : Int
  dead : Bool
  writes : Int
def RL.has (σ : RL) (at_ n : Int) : Bool := !σ.dead && (decide (at_ ≥ 0) && (decide (at_ ≤ (σ.b.length : Int)) && (decide (n ≥ 0) && decide (n ≤ (σ.b.length : Int) - at_))))
def RL.write (σ : RL) (at_ : Int) (l : List UInt8) : RL × Bool :=
  if σ.has at_ l.length = true then
    (if σ.left = 0 then ({ σ with writes := IntKind.i64.wrap (σ.writes + 1), b := putB σ.b at_.toNat (l.take (max 0 (min σ.torn l.length)).toNat), dead := true }, false)
     else ({ σ with writes := IntKind.i64.wrap (σ.writes + 1), left := if 0 < σ.left then IntKind.i64.wrap (σ.left - 1) else σ.left, b := putB σ.b at_.toNat l }, true))
  else (σ, false)
def refCells (bb : Nat) (σ : RL) : List Value := [.slice (some ⟨bb, 0, none⟩) σ.b.length σ.b.length, .int .i64 σ.left, .int .i64 σ.torn, .bool σ.dead, .int .i64 σ.writes]
theorem within_spec (s : St) (n a b : Int) :
    Cw Try.prog 44 [.int .i64 n, .int .i64 a, .int .i64 b] s fun r s' => s' = s ∧ r = .int .i64 (max a (min b n)) := by
  refine Cw.enter Try.func44 rfl rfl ?_
  conv => whnf
  refine ⟨⟨rfl, congrArg (Value.int .i64) ?_⟩⟩
  show (if (if n < b then n else b) > a then (if n < b then n else b) else a) = _
  split <;> split at * <;> omega
section
variable {X : Nat → Prop} {s0 s : St} {R F G H : List At} {ks bs kb bb : Nat} {σ : RL}
theorem there_spec (hp : Hp X s0 R F s) (h1 : Has (blkA ks bs (refCells bb σ) 5) F R) (hlen : σ.b.length ≤ 65536) (at_ n : Int) :
    Cw Try.prog 45 [.pointer (some ⟨bs, 0, none⟩), .int .i64 at_, .int .i64 n] s fun r s' => s' = s ∧ r = .bool (σ.has at_ n) := by
  refine Cw.enter Try.func45 rfl rfl ?_
  conv => whnf
  repeat' (first
    | (refine Br.yes (by first | with_reducible rfl | with_reducible assumption) ?_; conv => whnf)
    | (refine Br.no (by first | with_reducible rfl | with_reducible assumption) ?_; conv => whnf)
    | (refine hp.load h1 rfl rfl rfl rfl ?_; conv => whnf)
    | (refine Br.mk (fun hq => ?_) (fun hq => ?_) <;> conv => whnf))
  all_goals (refine ⟨⟨rfl, congrArg Value.bool ?_⟩⟩; simp_all [RL.has])
  all_goals first | omega | rw [wrap_i64 (by omega) (by omega)]
theorem refNew_spec (hp : Hp X s0 R F s) (n : Int) {K : Value → St → Prop} (hK : ∀ ks bs kb bb s', Hp X s0 R (blkA ks bs (refCells bb ⟨List.replicate (max 1 (min n 65536)).toNat 0, -1, 0, false, 0⟩) 5 :: blkA kb bb (byteVals (List.replicate (max 1 (min n 65536)).toNat 0)) 1 :: F) s' → K0 s s' → K (.pointer (some ⟨bs, 0, none⟩)) s') :
    Cw Try.prog 23 [.int .i64 n] s K := by
  refine Cw.enter Try.func23 rfl rfl ?_
  conv => whnf
  refine (within_spec s n 1 65536).mono ?_
  rintro _ _ ⟨rfl, rfl⟩
  conv => whnf
  have e1 : (max 1 (min 65536 n)) = (((max 1 (min n 65536)).toNat : Nat) : Int) := by omega
  have e2 : (max 1 (min n 65536)).toNat ≤ 65536 := by omega
  generalize (max 1 (min n 65536)).toNat = M at e1 e2 hK
  refine hp.mks B26 rfl M e1 e1 (by omega) ?_
  intro bb s1 hp k1
  conv => whnf
  rw [← byteVals_replicate] at hp
  refine hp.var (cs := refCells bb ⟨List.replicate M 0, -1, 0, false, 0⟩) (e := 5) (by simp [refCells]; rfl) rfl ?_
  intro bs s2 hp k2
  conv => whnf
  exact ⟨hK _ _ _ _ _ hp (k1.then k2)⟩
theorem refCut_spec (hp : Hp X s0 R F s) (r : Rm (blkA ks bs (refCells bb σ) 5) F G) (n torn : Int) {K : Value → St → Prop} (hK : ∀ v s', Hp X s0 R (blkA ks bs (refCells bb { σ with left := max (-1) n, torn := torn }) 5 :: G) s' → K v s') :
    Cw Try.prog 24 [.pointer (some ⟨bs, 0, none⟩), .int .i64 n, .int .i64 torn] s K := by
  refine Cw.enter Try.func24 rfl rfl ?_
  conv => whnf
  refine hp.store r (of_decide_eq_true rfl) rfl rfl rfl rfl ?_
  intro s hp _
  conv => whnf
  (refine hp.store (by repeat (first | exact Rm.here | apply Rm.there)) (by first | exact of_decide_eq_true rfl | (simp; done) | (simp; omega) | omega) rfl rfl rfl rfl ?_; intro s hp _; conv => whnf)
  have e1 : (if n > -1 then n else -1) = max (-1) n := by split <;> omega
  exact ⟨hK _ _ (by rw [← e1]; exact hp)⟩
theorem refRevive_spec (hp : Hp X s0 R F s) (r : Rm (blkA ks bs (refCells bb σ) 5) F G) {K : Value → St → Prop} (hK : ∀ v s', Hp X s0 R (blkA ks bs (refCells bb { σ with dead := false, left := -1 }) 5 :: G) s' → K v s') :
    Cw Try.prog 25 [.pointer (some ⟨bs, 0, none⟩)] s K := by
  refine Cw.enter Try.func25 rfl rfl ?_
  conv => whnf
  refine hp.store r (of_decide_eq_true rfl) rfl rfl rfl rfl ?_
  intro s hp _
  conv => whnf
  (refine hp.store (by repeat (first | exact Rm.here | apply Rm.there)) (by first | exact of_decide_eq_true rfl | (simp; done) | (simp; omega) | omega) rfl rfl rfl rfl ?_; intro s hp _; conv => whnf)
  exact ⟨hK _ _ hp⟩
theorem blk_sb {s : St} {l : List UInt8} (h : Blk s kb bb (byteVals l) 1) : Sb s (some kb) (.slice (some ⟨bb, 0, none⟩) l.length l.length) l := Own.sl ⟨bb, rfl, h, by simp [byteVals]⟩
def RL.read (σ : RL) (at_ n : Int) : Option (List UInt8) := if σ.has at_ n = true then some ((σ.b.drop at_.toNat).take n.toNat) else none
theorem RL.has_iff {σ : RL} {a n : Int} : σ.has a n = true ↔ σ.dead = false ∧ 0 ≤ a ∧ 0 ≤ n ∧ a ≤ (σ.b.length : Int) ∧ n ≤ (σ.b.length : Int) - a := by
  simp [RL.has]
  omega
theorem refRead_spec (hp : Hp X s0 R F s) (h1 : Has (blkA ks bs (refCells bb σ) 5) F R) (h2 : Has (blkA kb bb (byteVals σ.b) 1) F R) (hlen : σ.b.length ≤ 65536) (at_ n : Int) :
    Cw Try.prog 26 [.pointer (some ⟨bs, 0, none⟩), .int .i64 at_, .int .i64 n] s fun r s' => K0 s s' ∧ ((σ.read at_ n = none ∧ r = .tuple #[.slice none 0 0, .bool false]) ∨ ∃ l v, σ.read at_ n = some l ∧ r = .tuple #[v, .bool true] ∧ Ob s.next s' v l) := by
  have b2 := hp.blk h2
  have b1 := hp.blk h1
  have wf := hp.wf
  refine Cw.enter Try.func26 rfl rfl ?_
  conv => whnf
  refine (there_spec hp h1 hlen at_ n).mono ?_
  rintro _ _ ⟨rfl, rfl⟩
  conv => whnf
  cases hh : σ.has at_ n with
  | false =>
    refine Br.yes rfl ?_
    conv => whnf
    exact ⟨⟨.refl wf, .inl ⟨by simp [RL.read, hh], rfl⟩⟩⟩
  | true =>
    refine Br.no rfl ?_
    conv => whnf
    have hb := RL.has_iff.1 hh
    have hs : Hp (fun _ => False) _ [blkA ks bs (refCells bb σ) 5, blkA kb bb (byteVals σ.b) 1] [] _ := Hp.start _ wf _ (by simp; exact ⟨b1, b2⟩)
    clear hp
    refine hs.boxO B26 ?_
    intro v1 k1 s1 hp q1
    conv => whnf
    (refine hp.load (by repeat (first | exact Has.here | apply Has.there | (apply Has.swap; repeat (first | exact HasR.here | apply HasR.there)))) (by rfl) rfl rfl rfl ?_; conv => whnf)
    obtain ⟨v, e, hv⟩ := slice_mid (blk_sb (hp.blk (by repeat (first | exact Has.here | apply Has.there | (apply Has.swap; repeat (first | exact HasR.here | apply HasR.there)))) : Blk s1 kb bb (byteVals σ.b) 1)) .i64 (i := at_.toNat) (j := at_.toNat + n.toNat) (by omega) (by omega)
    have e1 : ((at_.toNat : Nat) : Int) = at_ := by omega
    have e2 : ((at_.toNat + n.toNat : Nat) : Int) = IntKind.i64.wrap (at_ + n) := by rw [wrap_i64 (by omega) (by omega)]; omega
    rw [e1, e2] at e
    refine Om.of v e ?_
    conv => whnf
    refine hp.app B26 Try.underlying22 rfl .here (elems_sl hv) (by simp [byteVals]) (byteVals_one _) (by simp; omega) ?_
    intro v2 κ s2 hp
    conv => whnf
    refine ⟨⟨hp.fr, .inr ⟨_, v2, by simp [RL.read, hh]; rfl, rfl, ?_⟩⟩⟩
    have := hp.out .here
    rw [Nat.zero_add, List.nil_append, show at_.toNat + n.toNat - at_.toNat = n.toNat by omega] at this
    exact this
theorem copyB {K : Value × St → Prop} (h : Hp X s0 R F s) {b : List UInt8} (r : Rm (blkA kb bb (byteVals b) 1) F G) {i : Nat} (hi : i ≤ b.length) {κ : Option Nat} {x : Value} {l : List UInt8} (hx : Sb s κ x l) (hl : i + l.length ≤ b.length)
    (hk : ∀ v s', Hp X s0 R (blkA kb bb (byteVals (putB b i l)) 1 :: G) s' → K (v, s')) : Om (evCopy Try.prog 22 (.slice (some ⟨bb, 0 + i * 1, none⟩) (b.length - i) (b.length - i)) x s) K := by
  obtain ⟨v, s', e1, k1, b1⟩ := copy_slab h.wf (h.okF _ r.sub.1 : Blk s kb bb (byteVals b) 1) hi hx hl
  exact .of _ e1 (hk _ _ (h.upd r k1 (fun j hj => .inl hj) b1 fun j hj => .inl hj))
theorem refWrite_spec (hp : Hp X s0 R F s) (h1 : Rm (blkA ks bs (refCells bb σ) 5) F G) (h2 : Rm (blkA kb bb (byteVals σ.b) 1) G H) (hlen : σ.b.length ≤ 65536) (at_ : Int) {κ : Option Nat} {v : Value} {l : List UInt8} (hv : HasR (slA κ v 1 l.length (byteVals l)) R)
    {K : Value → St → Prop} (hK : ∀ s', Hp X s0 R (blkA ks bs (refCells bb (σ.write at_ l).1) 5 :: blkA kb bb (byteVals (σ.write at_ l).1.b) 1 :: H) s' → K (.bool (σ.write at_ l).2) s') :
    Cw Try.prog 27 [.pointer (some ⟨bs, 0, none⟩), .int .i64 at_, v] s K := by
  obtain ⟨a, c, rfl⟩ := (hp.slR hv).shape
  replace hp : Hp X s0 R (blkA ks bs (refCells bb σ) 5 :: blkA kb bb (byteVals σ.b) 1 :: H) s := hp.pik (.cons h1 (.cons h2 (.refl H)))
  clear h1 h2
  refine Cw.enterS Try.func27 rfl rfl ?_
  refine Sm.seqW ?_
  conv => whnf
  refine Sm.seq ?_
  refine Sm.seqW ?_
  conv => whnf
  refine (there_spec hp .here hlen at_ l.length).mono ?_
  rintro _ _ ⟨rfl, rfl⟩
  conv => whnf
  refine Sm.ofW ?_
  conv => whnf
  cases hh : σ.has at_ l.length with
  | false =>
    refine Br.yes rfl ?_
    conv => whnf
    have : σ.write at_ l = (σ, false) := by simp [RL.write, hh]
    rw [this] at hK
    exact ⟨hK _ hp⟩
  | true =>
    refine Br.no rfl ?_
    conv => whnf
    have hb := RL.has_iff.1 hh
    have hat : ((at_.toNat : Nat) : Int) = at_ := by omega
    refine Sm.live [0, 1, 2] ?_
    conv => whnf
    refine Sm.seqW ?_
    conv => whnf
    (refine hp.load (by repeat (first | exact Has.here | apply Has.there | (apply Has.swap; repeat (first | exact HasR.here | apply HasR.there)))) (by rfl) rfl rfl rfl ?_; conv => whnf)
    (refine hp.store (by repeat (first | exact Rm.here | apply Rm.there)) (by first | exact of_decide_eq_true rfl | (simp; done) | (simp; omega) | omega) rfl rfl rfl rfl ?_; intro s hp _; conv => whnf)
    refine Sm.live [0, 1, 2] ?_
    conv => whnf
    refine Sm.seq ?_
    refine Sm.seqW ?_
    conv => whnf
    (refine hp.load (by repeat (first | exact Has.here | apply Has.there | (apply Has.swap; repeat (first | exact HasR.here | apply HasR.there)))) (by rfl) rfl rfl rfl ?_; conv => whnf)
    refine Sm.ofW ?_
    conv => whnf
    refine Br.mk (fun hq => ?_) (fun hq => ?_)
    · have hleft : σ.left = 0 := eq_of_beq hq
      have hw : σ.write at_ l = ({ σ with writes := IntKind.i64.wrap (σ.writes + 1), b := putB σ.b at_.toNat (l.take (max 0 (min σ.torn l.length)).toNat), dead := true }, false) := by simp [RL.write, hh, hleft]
      rw [hw] at hK
      conv => whnf
      refine ⟨[0, 1, 3, 7, 0, 31, 0, 0, 128, 384, 896, 0, 2048, 8064, 16320, 32767], by decide +kernel, by decide +kernel, ?_⟩
      conv => whnf
      (refine hp.load (by repeat (first | exact Has.here | apply Has.there | (apply Has.swap; repeat (first | exact HasR.here | apply HasR.there)))) (by rfl) rfl rfl rfl ?_; conv => whnf)
      have e3 := slice_from_val (s := s) (b := bb) (Blk.esz (hp.blk (by repeat (first | exact Has.here | apply Has.there | (apply Has.swap; repeat (first | exact HasR.here | apply HasR.there)))) : Blk s kb bb (byteVals σ.b) 1)) .i64 (i := at_.toNat) (n := σ.b.length) (by omega)
      rw [hat] at e3
      refine Om.of _ e3 ?_
      conv => whnf
      (refine hp.load (by repeat (first | exact Has.here | apply Has.there | (apply Has.swap; repeat (first | exact HasR.here | apply HasR.there)))) (by rfl) rfl rfl rfl ?_; conv => whnf)
      refine (within_spec _ σ.torn 0 l.length).mono ?_
      rintro _ _ ⟨rfl, rfl⟩
      conv => whnf
      refine hp.dkS ?_
      conv => whnf
      have hq1 : max 0 (min (l.length : Int) σ.torn) = (((max 0 (min σ.torn l.length)).toNat : Nat) : Int) := by omega
      have hq2 : (max 0 (min σ.torn l.length)).toNat ≤ l.length := by omega
      generalize (max 0 (min σ.torn l.length)).toNat = M at hq1 hq2 hw hK ⊢
      obtain ⟨w, e4, hw4⟩ := slice_to (hp.slR hv) .i64 hq2
      refine Om.of w ((congrArg (fun x => evSliceMem Try.prog 22 (.slice a l.length c) none (some (.int .i64 x)) none s) hq1).trans e4) ?_
      conv => whnf
      refine copyB hp.rst (.there .here) (by omega) hw4.reset (by simp; omega) ?_
      intro r5 s5 h5
      conv => whnf
      have e9 : (putB σ.b at_.toNat (l.take M)).length = σ.b.length := putB_length _ _ _ (by simp; omega)
      have ec : refCells bb { σ with writes := IntKind.i64.wrap (σ.writes + 1), b := putB σ.b at_.toNat (l.take M), dead := true } = ((refCells bb σ).set (0 + 4) (.int .i64 (IntKind.i64.wrap (σ.writes + 1)))).set (0 + 3) (.bool true) := by
        simp only [refCells, e9]; rfl
      rw [ec] at hK
      refine hp.dkA h5 ?_ ?_
      all_goals
        clear hp h5
        intro s hp
        conv => whnf
        (refine hp.store (by repeat (first | exact Rm.here | apply Rm.there)) (by first | exact of_decide_eq_true rfl | (simp; done) | (simp; omega) | omega) rfl rfl rfl rfl ?_; intro s hp _; conv => whnf)
        exact ⟨hK _ (hp.pik (by repeat (first | exact Pik.nil | exact Pik.refl _ | exact Rm.here | apply Rm.there | apply Pik.cons | apply Pik.skip)))⟩
    · have hleft : σ.left ≠ 0 := by simpa using hq
      conv => whnf
      refine Sm.live [0, 1, 2] ?_
      conv => whnf
      have hw : σ.write at_ l = ({ σ with writes := IntKind.i64.wrap (σ.writes + 1), left := if 0 < σ.left then IntKind.i64.wrap (σ.left - 1) else σ.left, b := putB σ.b at_.toNat l }, true) := by simp [RL.write, hh, hleft]
      rw [hw] at hK
      have e9 : (putB σ.b at_.toNat l).length = σ.b.length := putB_length _ _ _ (by omega)
      have ec : ∀ x, refCells bb { σ with writes := IntKind.i64.wrap (σ.writes + 1), left := x, b := putB σ.b at_.toNat l } = ((refCells bb σ).set (0 + 4) (.int .i64 (IntKind.i64.wrap (σ.writes + 1)))).set (0 + 1) (.int .i64 x) := by
        intro x
        simp only [refCells, e9]; rfl
      rw [ec] at hK
      refine Sm.seqC (fun e L' s' => e = .normal ∧ Hp X s0 R (blkA ks bs (((refCells bb σ).set (0 + 4) (.int .i64 (IntKind.i64.wrap (σ.writes + 1)))).set (0 + 1) (.int .i64 (if 0 < σ.left then IntKind.i64.wrap (σ.left - 1) else σ.left))) 5 :: blkA kb bb (byteVals σ.b) 1 :: H) s' ∧ Sub [(0, .pointer (some ⟨bs, 0, none⟩)), (1, .int .i64 at_), (2, .slice a l.length c)] L') ?_ ?_
      · conv => whnf
        (refine hp.load (by repeat (first | exact Has.here | apply Has.there | (apply Has.swap; repeat (first | exact HasR.here | apply HasR.there)))) (by rfl) rfl rfl rfl ?_; conv => whnf)
        refine Br.mk (fun hq => ?_) (fun hq => ?_)
        · have hq := of_decide_eq_true hq
          conv => whnf
          (refine hp.load (by repeat (first | exact Has.here | apply Has.there | (apply Has.swap; repeat (first | exact HasR.here | apply HasR.there)))) (by rfl) rfl rfl rfl ?_; conv => whnf)
          (refine hp.store (by repeat (first | exact Rm.here | apply Rm.there)) (by first | exact of_decide_eq_true rfl | (simp; done) | (simp; omega) | omega) rfl rfl rfl rfl ?_; intro s hp _; conv => whnf)
          rw [if_pos hq]
          exact ⟨rfl, hp, .cons rfl (.cons rfl (.cons rfl (Sub.nil _)))⟩
        · have hq := of_decide_eq_false hq
          conv => whnf
          rw [if_neg hq]
          exact ⟨rfl, hp, .cons rfl (.cons rfl (.cons rfl (Sub.nil _)))⟩
      clear hp
      rintro e L' s ⟨rfl, hp, hs⟩
      refine Sm.weak _ hs ?_
      clear hs
      refine Sm.ofW ?_
      conv => whnf
      (refine hp.load (by repeat (first | exact Has.here | apply Has.there | (apply Has.swap; repeat (first | exact HasR.here | apply HasR.there)))) (by rfl) rfl rfl rfl ?_; conv => whnf)
      have e3 := slice_from_val (s := s) (b := bb) (Blk.esz (hp.blk (by repeat (first | exact Has.here | apply Has.there | (apply Has.swap; repeat (first | exact HasR.here | apply HasR.there)))) : Blk s kb bb (byteVals σ.b) 1)) .i64 (i := at_.toNat) (n := σ.b.length) (by omega)
      rw [hat] at e3
      refine Om.of _ e3 ?_
      conv => whnf
      refine copyB hp (.there .here) (by omega) (hp.slR hv) (by omega) ?_
      intro r5 s5 hp
      conv => whnf
      exact ⟨hK _ (hp.pik (by repeat (first | exact Pik.nil | exact Pik.refl _ | exact Rm.here | apply Rm.there | apply Pik.cons | apply Pik.skip)))⟩
end
end Go.Ev
end

/- The two slabs, side by side; raw calls. No condition. -/
noncomputable section
namespace Go.Ev
open Go.Proofs
set_option linter.unusedVariables false
set_option maxRecDepth 100000

/-- The program's slab and the document's. -/
structure SLR (σ : SL) (τ : RL) : Prop where
  b : τ.b = σ.b
  dead : τ.dead = σ.dead
  writes : τ.writes = σ.writes
  lim : σ.limits = true → τ.left = σ.left ∧ 0 ≤ σ.left ∧ σ.left < 9223372036854775808 ∧ τ.torn = σ.torn
  nolim : σ.limits = false → τ.left < 0
section
variable {σ : SL} {τ : RL}
theorem SLR.has (h : SLR σ τ) (a n : Int) : τ.has a n = σ.has a n := by
  have h1 := SL.has_iff (σ := σ) (a := a) (n := n)
  have h2 := RL.has_iff (σ := τ) (a := a) (n := n)
  rw [h.b, h.dead] at h2
  have : τ.has a n = true ↔ σ.has a n = true := by rw [h1, h2]
  cases hx : τ.has a n <;> cases hy : σ.has a n <;> simp_all
theorem SLR.read (h : SLR σ τ) (a n : Int) : τ.read a n = σ.read a n := by unfold RL.read SL.read; rw [h.has, h.b]
theorem SLR.write (h : SLR σ τ) (a : Int) (l : List UInt8) : (τ.write a l).2 = (σ.write a l).2 ∧ SLR (σ.write a l).1 (τ.write a l).1 := by
  unfold RL.write SL.write
  rw [h.has]
  by_cases hh : σ.has a l.length = true
  · rw [if_pos hh, if_pos hh]
    cases hl : σ.limits with
    | true =>
      obtain ⟨g1, g2, g3, g4⟩ := h.lim hl
      by_cases h0 : σ.left = 0
      · rw [if_pos (show τ.left = 0 by omega), if_pos (show true = true ∧ σ.left = 0 from ⟨rfl, h0⟩)]
        exact ⟨rfl, ⟨by simp only [h.b, g4], rfl, by simp only [h.writes], fun _ => ⟨g1, g2, g3, g4⟩, fun q => by (simp only [hl] at q; cases q)⟩⟩
      · rw [if_neg (show ¬ τ.left = 0 by omega), if_neg (show ¬ (true = true ∧ σ.left = 0) from fun q => h0 q.2)]
        refine ⟨rfl, ⟨by simp only [h.b], h.dead, by simp only [h.writes], fun _ => ?_, fun q => by (simp only [hl] at q; cases q)⟩⟩
        simp only
        rw [if_pos (by omega), g1, wi64 (by omega) (by omega)]
        exact ⟨rfl, by omega, by omega, g4⟩
    | false =>
      have g := h.nolim hl
      rw [if_neg (show ¬ τ.left = 0 by omega), if_neg (show ¬ (false = true ∧ σ.left = 0) from fun q => by cases q.1)]
      refine ⟨rfl, ⟨by simp only [h.b], h.dead, by simp only [h.writes], fun q => by (simp only [hl] at q; cases q), fun _ => ?_⟩⟩
      simp only
      rw [if_neg (by omega)]
      exact g
  · rw [if_neg hh, if_neg hh]
    exact ⟨rfl, h⟩
theorem SLR.cut (h : SLR σ τ) {n torn : Int} (hn : n < 9223372036854775808) : SLR { σ with left := n, torn := torn, limits := decide (n ≥ 0) } { τ with left := max (-1) n, torn := torn } :=
  ⟨h.b, h.dead, h.writes, fun q => by
    have q : n ≥ 0 := of_decide_eq_true q
    exact ⟨by simp only; omega, q, hn, rfl⟩, fun q => by
    have q : ¬ n ≥ 0 := of_decide_eq_false q
    simp only; omega⟩
theorem SLR.revive (h : SLR σ τ) : SLR { σ with dead := false, limits := false } { τ with dead := false, left := -1 } :=
  ⟨h.b, rfl, h.writes, fun q => by (cases q), fun _ => by (show (-1 : Int) < 0); omega⟩
end
/-- The bytes of rows, each. -/
def rowsA (l : List RawB) : At where
  foot := fun _ => False
  ok := fun s => ∀ x ∈ l, Sb s none x.v x.l
  keep := fun _ _ _ hk hX h x hx => (h x hx).keep hk fun k hk => by cases hk
  lt := fun s wf h j hj => hj.elim
  lo := fun s m h x hx => (h x hx).lo m
theorem R53 : SlT Try.prog 36 42 4 48 (.agg #[.int .i64 0, .int .i64 0, .int .i64 0, .slice none 0 0]) := ⟨Try.underlying36, ⟨_, rfl, rfl, rfl, rfl⟩, rfl, rfl, by decide, by decide⟩
theorem rawB_at {l : List RawB} {i : Nat} (h : i < l.length) : ((rawBCells l).drop (i * 4)).take 4 = l[i].cells := by
  induction i generalizing l with
  | zero =>
    cases l with
    | nil => simp at h
    | cons x l => rfl
  | succ i ih =>
    cases l with
    | nil => simp at h
    | cons x l =>
      show ((x.cells ++ rawBCells l).drop ((i + 1) * 4)).take 4 = _
      rw [show (i + 1) * 4 = 4 + i * 4 by omega, ← List.drop_drop]
      show ((rawBCells l).drop (i * 4)).take 4 = _
      rw [ih (by simpa using h)]
      rfl
/-- One element of a slice of structs. -/
theorem load_agg {P : Program} {t : TypeId} {fs : Array Field} {i : TypeInfo} (hu : P.underlying t = some (.struct fs)) (hi : P.info? t = some i) {s : St} {b off : Nat} {C cs : List Value} (hr : s.rd b = some C) (hs : sl C off i.size = some cs) :
    evLoad P t (.pointer (some ⟨b, off, none⟩)) s = some (.agg cs.toArray) := by
  unfold evLoad
  simp only [hr, hu, hi, hs]
theorem sl_sub {C cs : List Value} {off n i m : Nat} (h : Go.Ev.sl C off n = some cs) (hi : i + m ≤ n) : Go.Ev.sl C (off + i) m = some ((cs.drop i).take m) := by
  obtain ⟨g1, g2, g3, _⟩ := sl_some h
  have e : (List.drop (off + i) C).take m = (cs.drop i).take m := by
    rw [g2, List.drop_take, List.drop_drop, List.take_take, Nat.min_eq_left (by omega)]
  have hl : cs.length = n := by rw [g2]; simp; omega
  unfold Go.Ev.sl
  simp only [e]
  have : ((cs.drop i).take m).length = m := by simp; omega
  rw [this]; simp
theorem index_slN {P : Program} {t et sz by_ : Nat} {z : Value} (T : SlT P t et sz by_ z) {fs : Array Field} (hu : P.underlying et = some (.struct fs)) {s : St} {κ : Option Nat} {v : Value} {n i : Nat} {cs : List Value} (h : Sl s κ v sz n cs) (k : IntKind) (hi : i < n) :
    ∃ a, evIndexAddr P t v (.int k (i : Int)) = some (.pointer (some a)) ∧ evLoad P et (.pointer (some a)) s = some (.agg ((cs.drop (i * sz)).take sz).toArray) := by
  obtain ⟨j, hi1, hi2, hi3, hi4⟩ := T.hi
  rcases h.ex with ⟨rfl, rfl, rfl, rfl⟩ | ⟨b, off, c, C, rfl, hc, hl, hs, hm⟩
  · omega
  · have hr : s.rd b = some C := by
      rcases hm with ⟨k, _, hm⟩ | ⟨_, hm⟩
      · exact hm.rd
      · exact hm.rd
    have hle : i * sz + sz ≤ n * sz := by
      have : (i + 1) * sz ≤ n * sz := Nat.mul_le_mul_right _ hi
      rw [Nat.add_mul, Nat.one_mul] at this; exact this
    refine ⟨⟨b, off + i * sz, none⟩, ?_, load_agg hu hi1 hr (by rw [hi2]; exact sl_sub hs hle)⟩
    show (match P.underlying t, Value.slice (some ⟨b, off, none⟩) n c, Value.int k (.ofNat i) with
        | some (.slice e), .slice (some a) n _, .int _ (.ofNat i) => match Nat.blt i n, P.info? e with
          | true, some j => some (Value.pointer (some ⟨a.block, a.off + i * j.size, none⟩))
          | _, _ => none
        | some (.array n e), .pointer (some a), .int _ (.ofNat i) => match Nat.blt i n, P.info? e with
          | true, some j => some (Value.pointer (some ⟨a.block, a.off + i * j.size, none⟩))
          | _, _ => none
        | _, _, _ => none) = _
    rw [T.hu]
    simp only [blt_of hi, hi1, hi2]
def slabA (p : Value) (ks kb : Nat) (σ : SL) : At where
  foot := fun j => j = ks ∨ j = kb
  ok := fun s => SlabAt s p ks kb σ
  keep := fun _ _ _ hk hX h => h.keep hk (hX ks (.inl rfl)) (hX kb (.inr rfl))
  lt := fun s wf h j hj => by
    have := h.lt wf
    rcases hj with rfl | rfl
    · exact this.1
    · exact this.2
  lo := fun s m h => by
    obtain ⟨bs, bb, rfl, g1, g2⟩ := h.ex
    exact ⟨h.ne, h.len, bs, bb, rfl, g1.lo m, g2.lo m⟩
section
variable {X : Nat → Prop} {s0 s : St} {R F G H : List At} {p : Value} {ks kb : Nat} {σ : SL}
theorem Hp.slab (hp : Hp X s0 R F s) (m : Has (slabA p ks kb σ) F R) : SlabAt s p ks kb σ := hp.at m
theorem Hp.sNew (hp : Hp X s0 R F s) (n : Int) {K : Value → St → Prop} (k : ∀ b ks kb s', Hp X s0 R (slabA (.pointer (some ⟨b, 0, none⟩)) ks kb ⟨List.replicate (max 1 (min n 65536)).toNat 0, 0, 0, 0, false, false⟩ :: F) s' → K0 s s' → K (.pointer (some ⟨b, 0, none⟩)) s') :
    Cw Try.prog 14 [.int .i64 n] s K :=
  (new_spec hp.wf n).mono fun r s' ⟨k1, ks, kb, h1, h2, h3⟩ => by
    obtain ⟨bs, bb, rfl, _⟩ := h3.ex
    refine k bs ks kb s' (hp.push k1 h3 ?_) k1
    rintro j (rfl | rfl)
    · exact h1
    · exact h2
theorem Hp.sWrite (hp : Hp X s0 R F s) (r : Rm (slabA p ks kb σ) F G) (at_ : Int) {κ : Option Nat} {v : Value} {l : List UInt8} (m : Has (onA κ v 1 l.length (byteVals l)) G R) {K : Value → St → Prop}
    (k : ∀ s', Hp X s0 R (slabA p ks kb (σ.write at_ l).1 :: G) s' → K (.bool (σ.write at_ l).2) s') : Cw Try.prog 16 [p, .int .i64 at_, v] s K := by
  have hS : SlabAt s p ks kb σ := hp.okF _ r.sub.1
  have hdj : ∀ j, κ = some j → j ≠ ks ∧ j ≠ kb := by
    intro j hj
    have : ∀ q, (q = ks ∨ q = kb) → ¬ (κ = some q) := by
      rcases m.mem with g | g
      · exact (r.dj hp.dj).1 _ g
      · exact fun q hq => hp.dr _ r.sub.1 _ g q hq
    exact ⟨fun h => this ks (.inl rfl) (h ▸ hj), fun h => this kb (.inr rfl) (h ▸ hj)⟩
  have ho : OwnO s κ v 1 l.length (byteVals l) := by
    rcases m.mem with g | g
    · exact hp.okF _ (r.sub.2 _ g)
    · exact hp.okR _ g
  refine (write_spec hp.wf hS at_ (Sb.of ho.sl) hdj).mono fun v s' ⟨k1, hv, h1⟩ => ?_
  subst hv
  exact k s' (hp.upd r k1 (fun j hj => .inl hj) h1 fun j hj => .inl hj)
theorem Hp.sRead (hp : Hp X s0 R F s) (m : Has (slabA p ks kb σ) F R) (at_ n : Int) {K : Value → St → Prop}
    (k1 : σ.read at_ n = none → K (.tuple #[.slice none 0 0, .bool false]) s) (k : ∀ l v κ s', σ.read at_ n = some l → Hp X s0 R (onA κ v 1 l.length (byteVals l) :: F) s' → K0 s s' → K (.tuple #[v, .bool true]) s') :
    Cw Try.prog 17 [p, .int .i64 at_, .int .i64 n] s K := by
  have hS : SlabAt s p ks kb σ := hp.at m
  cases hr : σ.read at_ n with
  | none =>
    have hno := SL.has_iff (σ := σ) (a := at_) (n := n)
    -- not there: nothing is touched
    obtain ⟨bs, bb, rfl, g1, g2⟩ := hS.ex
    have hh : σ.has at_ n = false := by
      cases hq : σ.has at_ n with
      | false => rfl
      | true => simp [SL.read, hq] at hr
    refine Cw.enter Try.func17 rfl rfl ?_
    conv => whnf
    refine (has_spec hS at_ n).mono ?_
    rintro r s' ⟨rfl, rfl⟩
    rw [hh]
    conv => whnf
    refine Br.yes rfl ?_
    conv => whnf
    exact ⟨k1 hr⟩
  | some l =>
    refine (read_spec hp.wf hS at_ n).mono fun v s' ⟨h1, h2⟩ => ?_
    rcases h2 with ⟨h2, _⟩ | ⟨l', w, h2, rfl, o⟩
    · rw [hr] at h2; cases h2
    · rw [hr] at h2; injection h2 with h2; subst h2
      obtain ⟨κ, h3⟩ := hp.on h1 o
      exact k l w κ s' hr h3 h1
theorem Hp.sCut (hp : Hp X s0 R F s) (r : Rm (slabA p ks kb σ) F G) (n torn : Int) {K : Value → St → Prop} (k : ∀ v s', Hp X s0 R (slabA p ks kb { σ with left := n, torn := torn, limits := decide (n ≥ 0) } :: G) s' → K v s') :
    Cw Try.prog 18 [p, .int .i64 n, .int .i64 torn] s K :=
  (cut_spec hp.wf (hp.okF _ r.sub.1 : SlabAt s p ks kb σ) n torn).mono fun v s' ⟨k1, h1⟩ => k v s' (hp.upd r k1 (fun j hj => .inl (.inl hj)) h1 fun j hj => .inl hj)
theorem Hp.sRevive (hp : Hp X s0 R F s) (r : Rm (slabA p ks kb σ) F G) {K : Value → St → Prop} (k : ∀ v s', Hp X s0 R (slabA p ks kb { σ with dead := false, limits := false } :: G) s' → K v s') :
    Cw Try.prog 20 [p] s K :=
  (revive_spec hp.wf (hp.okF _ r.sub.1 : SlabAt s p ks kb σ)).mono fun v s' ⟨k1, h1⟩ => k v s' (hp.upd r k1 (fun j hj => .inl (.inl hj)) h1 fun j hj => .inl hj)
end

theorem Hp.sWriteN {X : Nat → Prop} {s0 s : St} {R F G : List At} {p : Value} {ks kb : Nat} {σ : SL} (hp : Hp X s0 R F s) (r : Rm (slabA p ks kb σ) F G) (at_ : Int) {v : Value} {l : List UInt8} (hv : Sb s none v l) {K : Value → St → Prop}
    (k : ∀ s', Hp X s0 R (slabA p ks kb (σ.write at_ l).1 :: G) s' → K (.bool (σ.write at_ l).2) s') : Cw Try.prog 16 [p, .int .i64 at_, v] s K := by
  have hS : SlabAt s p ks kb σ := hp.okF _ r.sub.1
  refine (write_spec hp.wf hS at_ hv (fun k hk => by cases hk)).mono fun v s' ⟨k1, hv, h1⟩ => ?_
  subst hv
  exact k s' (hp.upd r k1 (fun j hj => .inl hj) h1 fun j hj => .inl hj)
def RawB.val (x : RawB) : Value := .agg #[.int .i64 x.a, .int .i64 x.b, .int .i64 x.c, x.v]
theorem index_rawB {s : St} {κ : Option Nat} {v : Value} {l : List RawB} (h : Sl s κ v 4 l.length (rawBCells l)) (k : IntKind) {i : Nat} (hi : i < l.length) :
    ∃ a, evIndexAddr Try.prog 36 v (.int k (i : Int)) = some (.pointer (some a)) ∧ evLoad Try.prog 42 (.pointer (some a)) s = some l[i].val := by
  obtain ⟨a, e1, e2⟩ := index_slN R53 Try.underlying42 h k hi
  rw [rawB_at hi] at e2
  exact ⟨a, e1, e2⟩
end Go.Ev
end

/- What SlabTells says. No condition. -/
noncomputable section
namespace Go.Ev
open Go.Proofs
set_option linter.unusedVariables false
set_option maxRecDepth 100000

theorem SL.write_len' (σ : SL) (a : Int) (l : List UInt8) : (σ.write a l).1.b.length = σ.b.length := by
  unfold SL.write
  split
  · rename_i h
    obtain ⟨h1, h2, h3, h4, h5⟩ := SL.has_iff.1 h
    split
    · simp only; rw [putB_length _ _ _ (by simp; omega)]
    · simp only; rw [putB_length _ _ _ (by omega)]
  · rfl
theorem tells6_walk {z : St} (wf : WF z) {n : Int} (hn : inR n) {v : Value} {l : List RawB} (hv : Sl z none v 4 l.length (rawBCells l))
    (hs : ∀ x ∈ l, Sb z none x.v x.l ∧ (-9223372036854775808 ≤ x.a ∧ x.a < 9223372036854775808) ∧ (-9223372036854775808 ≤ x.b ∧ x.b < 9223372036854775808) ∧ (-9223372036854775808 ≤ x.c ∧ x.c < 9223372036854775808) ∧ x.l.length ≤ 140737488351232) (hl : l.length ≤ 140737488351232) :
    Cw Try.prog 7 [.int .i64 n, v] z fun r _ => r = .bool true := by
  obtain ⟨a, cp, rfl⟩ := hv.shape
  have hp : Hp (fun _ => False) z [slA none (.slice a l.length cp) 4 l.length (rawBCells l), rowsA l] [] z := Hp.start _ wf _ (by simp; exact ⟨hv, fun x hx => (hs x hx).1⟩)
  refine Cw.enterS Try.func7 rfl rfl ?_
  refine Sm.seqW ?_
  conv => whnf
  refine Sm.seqW ?_
  conv => whnf
  refine (pick_spec z hn (by omega) (by omega)).mono ?_
  rintro _ s' ⟨h, rfl⟩
  rw [h]
  clear h s'
  conv => whnf
  obtain ⟨n0, hn0, hn1, hn2⟩ : ∃ n0 : Int, IntKind.i64.wrap (n % 90 - 5) = n0 ∧ -5 ≤ n0 ∧ n0 ≤ 84 := ⟨n % 90 - 5, wi64 (by omega) (by omega), by omega, by omega⟩
  rw [hn0]
  clear hn0 hn
  refine Sm.live [0, 1] ?_
  conv => whnf
  refine Sm.seqW ?_
  conv => whnf
  refine hp.sNew n0 ?_
  clear hp
  intro bp ks kb s hp _
  conv => whnf
  refine Sm.live [0, 1, 5] ?_
  conv => whnf
  refine Sm.seqW ?_
  conv => whnf
  refine refNew_spec hp n0 ?_
  clear hp
  intro ksd bsd kbd bbd s hp _
  conv => whnf
  refine Sm.live [1, 5, 6] ?_
  conv => whnf
  obtain ⟨N, hN⟩ : ∃ N, N = (max 1 (min n0 65536)).toNat := ⟨_, rfl⟩
  have hN2 : N ≤ 84 := by omega
  rw [← hN] at hp
  obtain ⟨σ, hσ⟩ : ∃ σ : SL, σ = ⟨List.replicate N 0, 0, 0, 0, false, false⟩ := ⟨_, rfl⟩
  obtain ⟨τ, hτ⟩ : ∃ τ : RL, τ = ⟨List.replicate N 0, -1, 0, false, 0⟩ := ⟨_, rfl⟩
  have hrel : SLR σ τ := by rw [hσ, hτ]; exact ⟨rfl, rfl, rfl, fun h => by (cases h), fun _ => by (show (-1 : Int) < 0); omega⟩
  have hlen : σ.b.length = N := by rw [hσ]; simp
  replace hp : Hp (fun _ => False) z [slA none (.slice a l.length cp) 4 l.length (rawBCells l), rowsA l] [blkA ksd bsd (refCells bbd τ) 5, blkA kbd bbd (byteVals τ.b) 1, slabA (.pointer (some ⟨bp, 0, none⟩)) ks kb σ] s := by rw [hσ, hτ]; exact hp
  clear hσ hτ hN hn1 hn2
  refine Sm.seq ?_
  refine Sm.seqW ?_
  conv => whnf
  refine ⟨[0, 1, 3, 7, 15, 31, 63, 127, 255, 127, 639, 1663, 3711, 7807, 16383, 32767], by decide +kernel, by decide +kernel, ?_⟩
  conv => whnf
  refine (sknown_spec hp.rst.wf).mono ?_
  rintro _ s1 ⟨rfl, k1⟩
  conv => whnf
  refine hp.dkN (hp.rst.k0 k1) k1 ?_
  clear hp k1
  intro s hp
  conv => whnf
  have hnt : (!true) = false := rfl
  repeat (first | (refine Br.no (by first | with_reducible rfl | exact hnt) ?_; conv => whnf))
  refine Om.of (.bool false) rfl ?_
  conv => whnf
  repeat (first | (refine Br.no (by first | with_reducible rfl | exact hnt) ?_; conv => whnf))
  refine (size_spec (hp.rst.slab (p := .pointer (some ⟨bp, 0, none⟩)) (ks := ks) (kb := kb) (σ := σ) (by repeat (first | exact Has.here | apply Has.there | (apply Has.swap; repeat (first | exact HasR.here | apply HasR.there)))))).mono ?_
  rintro _ s' ⟨h, rfl⟩
  rw [h]
  clear h s'
  conv => whnf
  refine hp.dkS ?_
  conv => whnf
  repeat (first | (refine Br.no (by first | with_reducible rfl | exact hnt) ?_; conv => whnf))
  (refine hp.load (by repeat (first | exact Has.here | apply Has.there | (apply Has.swap; repeat (first | exact HasR.here | apply HasR.there)))) (by rfl) rfl rfl rfl ?_; conv => whnf)
  have hne : ((σ.b.length : Int) != (τ.b.length : Int)) = false := by rw [hrel.b]; simp
  repeat (first | (refine Br.no (by first | with_reducible rfl | exact hnt | exact hne) ?_; conv => whnf))
  refine Sm.ofW ?_
  conv => whnf
  repeat (first | (refine Br.no (by first | with_reducible rfl | exact hnt | exact hne) ?_; conv => whnf))
  clear hne
  refine Sm.seq ?_
  refine Sm.seqW ?_
  conv => whnf
  refine Sm.live [5, 6, 41, 42, 43] ?_
  conv => whnf
  refine Sm.block ?_
  refine Sm.loop ?_
  refine Lp.ofS (α := Nat × SL × RL) (fun y => [(5, .pointer (some ⟨bp, 0, none⟩)), (6, .pointer (some ⟨bsd, 0, none⟩)), (41, .slice a l.length cp), (42, .int .i64 (l.length : Int)), (43, .int .i64 (y.1 : Int))])
    (fun y s' => y.1 ≤ l.length ∧ SLR y.2.1 y.2.2 ∧ y.2.1.b.length = N ∧ Hp (fun _ => False) z [slA none (.slice a l.length cp) 4 l.length (rawBCells l), rowsA l] [blkA ksd bsd (refCells bbd y.2.2) 5, blkA kbd bbd (byteVals y.2.2.b) 1, slabA (.pointer (some ⟨bp, 0, none⟩)) ks kb y.2.1] s') (fun y => l.length - y.1) ?_ (0, σ, τ)
    (subK_ok (by refine ⟨rfl, rfl, rfl, rfl, rfl, trivial⟩)) ⟨Nat.zero_le _, hrel, hlen, hp⟩
  clear hp hrel hlen
  clear σ τ
  rintro ⟨i, σ, τ⟩ s ⟨hi, hrel, hlen, hp⟩
  simp only at hi hrel hlen hp
  refine Sm.seqW ?_
  conv => whnf
  refine Sm.seq ?_
  refine Sm.ofW ?_
  conv => whnf
  refine Br.mk (fun hc => ?_) (fun hc => ?_)
  · have hc : i < l.length := by have := of_decide_eq_true hc; omega
    conv => whnf
    refine Sm.seq ?_
    refine Sm.block ?_
    refine Sm.seqW ?_
    conv => whnf
    obtain ⟨p, e1, e2⟩ := index_rawB (hp.slR .here) .i64 hc
    refine Om.of _ (e1) ?_
    conv => whnf
    refine Om.of _ (e2) ?_
    conv => whnf
    have hmem := List.getElem_mem hc
    obtain ⟨-, okx1, okx2, okx3, okx4⟩ := hs _ hmem
    generalize l[i] = x at hmem okx1 okx2 okx3 okx4
    clear e1 e2
    refine hp.alloc (cs := RawB.cells ⟨0, 0, 0, .slice none 0 0, []⟩) (e := 4) rfl rfl rfl rfl rfl ?_
    clear hp
    intro p8 s hp _
    conv => whnf
    refine hp.storeW (vs := x.cells) (C := RawB.cells ⟨0, 0, 0, .slice none 0 0, []⟩) rfl (by repeat (first | exact Rm.here | apply Rm.there)) (by rfl) rfl rfl (by have := (hp.okR (rowsA l) (by simp) x hmem).shape; obtain ⟨xa, xc, hx⟩ := this; simp only [RawB.cells, hx]; rfl) ?_
    clear hp
    intro s hp _
    conv => whnf
    refine Sm.live [5, 6, 8, 41, 42, 43] ?_
    conv => whnf
    refine Sm.seqW ?_
    conv => whnf
    (refine hp.load (by repeat (first | exact Has.here | apply Has.there | (apply Has.swap; repeat (first | exact HasR.here | apply HasR.there)))) (by rfl) rfl rfl rfl ?_; conv => whnf)
    refine (pick_spec _ okx2 (by omega) (by omega)).mono ?_
    rintro _ s' ⟨h, rfl⟩
    rw [h]
    clear h s'
    conv => whnf
    refine Sm.live [5, 6, 8, 9, 41, 42, 43] ?_
    conv => whnf
    refine Sm.seqW ?_
    conv => whnf
    (refine hp.load (by repeat (first | exact Has.here | apply Has.there | (apply Has.swap; repeat (first | exact HasR.here | apply HasR.there)))) (by rfl) rfl rfl rfl ?_; conv => whnf)
    refine (pick_spec _ okx3 (by omega) (by omega)).mono ?_
    rintro _ s' ⟨h, rfl⟩
    rw [h]
    clear h s'
    conv => whnf
    obtain ⟨at_, hat, hat1, hat2⟩ : ∃ q : Int, IntKind.i64.wrap (x.b % 90 - 3) = q ∧ -3 ≤ q ∧ q ≤ 86 := ⟨x.b % 90 - 3, wi64 (by omega) (by omega), by omega, by omega⟩
    obtain ⟨m, hm, hm1, hm2⟩ : ∃ q : Int, IntKind.i64.wrap (x.c % 20 - 2) = q ∧ -2 ≤ q ∧ q ≤ 17 := ⟨x.c % 20 - 2, wi64 (by omega) (by omega), by omega, by omega⟩
    rw [hat, hm]
    clear hat hm
    refine Sm.live [5, 6, 8, 9, 10, 41, 42, 43] ?_
    conv => whnf
    refine Sm.seqC (fun e L' s' => e = .normal ∧ ∃ (σ' : SL) (τ' : RL), SLR σ' τ' ∧ σ'.b.length = N ∧ Hp (fun _ => False) z [slA none (.slice a l.length cp) 4 l.length (rawBCells l), rowsA l] [blkA ksd bsd (refCells bbd τ') 5, blkA kbd bbd (byteVals τ'.b) 1, slabA (.pointer (some ⟨bp, 0, none⟩)) ks kb σ'] s' ∧
      Sub [(5, .pointer (some ⟨bp, 0, none⟩)), (6, .pointer (some ⟨bsd, 0, none⟩)), (41, .slice a l.length cp), (42, .int .i64 (l.length : Int)), (43, .int .i64 (i : Int))] L') ?_ ?_
    · conv => whnf
      (refine hp.load (by repeat (first | exact Has.here | apply Has.there | (apply Has.swap; repeat (first | exact HasR.here | apply HasR.there)))) (by rfl) rfl rfl rfl ?_; conv => whnf)
      refine (pick_spec _ okx1 (by omega) (by omega)).mono ?_
      rintro _ s' ⟨h, rfl⟩
      rw [h]
      clear h s'
      conv => whnf
      have hq1 : 0 ≤ x.a % 9 := by omega
      generalize x.a % 9 = q at hq1
      have hτ : τ.b.length ≤ 65536 := by rw [hrel.b]; omega
      by_cases c0 : q = 0
      · subst c0
        refine Br.yes rfl ?_
        conv => whnf
        refine hp.sCut (by repeat (first | exact Rm.here | apply Rm.there)) m at_ ?_
        clear hp
        intro v5 s hp
        conv => whnf
        refine refCut_spec hp (by repeat (first | exact Rm.here | apply Rm.there)) m at_ ?_
        clear hp
        intro v6 s hp
        conv => whnf
        exact ⟨rfl, { σ with left := m, torn := at_, limits := decide (m ≥ 0) }, { τ with left := max (-1) m, torn := at_ }, hrel.cut (by omega), hlen, hp.pik (by repeat (first | exact Pik.nil | exact Pik.refl _ | exact Rm.here | apply Rm.there | apply Pik.cons | apply Pik.skip)), subK_ok ⟨rfl, rfl, rfl, rfl, rfl, trivial⟩⟩
      have d0 : (q == 0) = false := beq_eq_false_iff_ne.2 c0
      refine Br.no d0 ?_
      conv => whnf
      by_cases c1 : q = 1
      · subst c1
        refine Br.yes rfl ?_
        conv => whnf
        refine hp.sRevive (by repeat (first | exact Rm.here | apply Rm.there)) ?_
        clear hp
        intro v5 s hp
        conv => whnf
        refine refRevive_spec hp (by repeat (first | exact Rm.here | apply Rm.there)) ?_
        clear hp
        intro v6 s hp
        conv => whnf
        exact ⟨rfl, { σ with dead := false, limits := false }, { τ with dead := false, left := -1 }, hrel.revive, hlen, hp.pik (by repeat (first | exact Pik.nil | exact Pik.refl _ | exact Rm.here | apply Rm.there | apply Pik.cons | apply Pik.skip)), subK_ok ⟨rfl, rfl, rfl, rfl, rfl, trivial⟩⟩
      have d1 : (q == 1) = false := beq_eq_false_iff_ne.2 c1
      refine Br.no d1 ?_
      conv => whnf
      by_cases c2 : q = 2 ∨ q = 3
      · have d2 : (q == 2) = true ∨ ((q == 2) = false ∧ (q == 3) = true) := by
          rcases c2 with rfl | rfl
          · exact .inl rfl
          · exact .inr ⟨rfl, rfl⟩
        have hnf : ((false : Bool) != false) = false := rfl
        rcases d2 with d2 | ⟨d2, d3⟩
        all_goals
          repeat (first | (refine Br.yes (by first | exact d2 | exact d3) ?_; conv => whnf) | (refine Br.no d2 ?_; conv => whnf))
          refine hp.sRead (by repeat (first | exact Has.here | apply Has.there | (apply Has.swap; repeat (first | exact HasR.here | apply HasR.there)))) at_ m ?_ ?_
          · intro hr
            conv => whnf
            refine (refRead_spec hp (by repeat (first | exact Has.here | apply Has.there | (apply Has.swap; repeat (first | exact HasR.here | apply HasR.there)))) (by repeat (first | exact Has.here | apply Has.there | (apply Has.swap; repeat (first | exact HasR.here | apply HasR.there)))) hτ at_ m).mono ?_
            rintro r s' ⟨k1, ⟨hr2, rfl⟩ | ⟨l2, v2, hr2, rfl, o2⟩⟩
            · replace hp := hp.k0 k1
              conv => whnf
              repeat (first | (refine Br.no (by first | with_reducible rfl | exact hnt | exact hnf) ?_; conv => whnf) | (refine Br.yes (by first | with_reducible rfl) ?_; conv => whnf) | (refine Om.of (.bool false) rfl ?_; conv => whnf))
              refine Om.of _ (string_sl Try.underlying22 Try.underlying9 Try.underlying5 (κ := none) (v := .slice none 0 0) (l := []) (Sl.nil _ 1)) ?_
              conv => whnf
              repeat (first | (refine Br.no (by first | with_reducible rfl | exact hnt | exact hnf) ?_; conv => whnf) | (refine Br.yes (by first | with_reducible rfl) ?_; conv => whnf) | (refine Om.of (.bool false) rfl ?_; conv => whnf))
              refine Om.of _ (string_sl Try.underlying22 Try.underlying9 Try.underlying5 (κ := none) (v := .slice none 0 0) (l := []) (Sl.nil _ 1)) ?_
              conv => whnf
              repeat (first | (refine Br.no (by first | with_reducible rfl | exact hnt | exact hnf) ?_; conv => whnf) | (refine Br.yes (by first | with_reducible rfl) ?_; conv => whnf) | (refine Om.of (.bool false) rfl ?_; conv => whnf))
              exact ⟨rfl, σ, τ, hrel, hlen, hp.pik (by repeat (first | exact Pik.nil | exact Pik.refl _ | exact Rm.here | apply Rm.there | apply Pik.cons | apply Pik.skip)), subK_ok ⟨rfl, rfl, rfl, rfl, rfl, trivial⟩⟩
            · exfalso
              rw [hrel.read, hr] at hr2
              cases hr2
          · intro l1 v1 κ1 s1 hr hp1 _
            clear hp
            have hp := hp1
            clear hp1
            conv => whnf
            refine (refRead_spec hp (by repeat (first | exact Has.here | apply Has.there | (apply Has.swap; repeat (first | exact HasR.here | apply HasR.there)))) (by repeat (first | exact Has.here | apply Has.there | (apply Has.swap; repeat (first | exact HasR.here | apply HasR.there)))) hτ at_ m).mono ?_
            rintro r s' ⟨k1, ⟨hr2, rfl⟩ | ⟨l2, v2, hr2, rfl, o2⟩⟩
            · exfalso
              rw [hrel.read, hr] at hr2
              cases hr2
            · replace hp := hp.k0 k1
              have : l2 = l1 := by rw [hrel.read, hr] at hr2; injection hr2 with h; exact h.symm
              subst this
              obtain ⟨κ2, sl2, _⟩ := o2.sl
              conv => whnf
              repeat (first | (refine Br.no (by first | with_reducible rfl | exact hnt | exact hnf) ?_; conv => whnf) | (refine Br.yes (by first | with_reducible rfl) ?_; conv => whnf) | (refine Om.of (.bool false) rfl ?_; conv => whnf))
              refine Om.of _ (string_sl Try.underlying22 Try.underlying9 Try.underlying5 (hp.slF (κ := κ1) (v := v1) (by repeat (first | exact Rm.here | apply Rm.there)))) ?_
              conv => whnf
              repeat (first | (refine Br.no (by first | with_reducible rfl | exact hnt | exact hnf) ?_; conv => whnf) | (refine Br.yes (by first | with_reducible rfl) ?_; conv => whnf) | (refine Om.of (.bool false) rfl ?_; conv => whnf))
              refine Om.of _ (string_sl Try.underlying22 Try.underlying9 Try.underlying5 (Sb.of sl2)) ?_
              conv => whnf
              repeat (first | (refine Br.no (by first | with_reducible rfl | exact hnt | exact hnf) ?_; conv => whnf) | (refine Br.yes (by first | with_reducible rfl) ?_; conv => whnf) | (refine Om.of (.bool false) rfl ?_; conv => whnf))
              refine Om.of _ (str_ne _ _) ?_
              conv => whnf
              have hse : (!(bs (⟨l2.toArray⟩ : ByteArray) == bs (⟨l2.toArray⟩ : ByteArray))) = false := by simp
              repeat (first | (refine Br.no (by first | with_reducible rfl | exact hnt | exact hnf | exact hse) ?_; conv => whnf))
              exact ⟨rfl, σ, τ, hrel, hlen, hp.pik (by repeat (first | exact Pik.nil | exact Pik.refl _ | exact Rm.here | apply Rm.there | apply Pik.cons | apply Pik.skip)), subK_ok ⟨rfl, rfl, rfl, rfl, rfl, trivial⟩⟩
      have d2 : (q == 2) = false := beq_eq_false_iff_ne.2 (fun h => c2 (.inl h))
      have d3 : (q == 3) = false := beq_eq_false_iff_ne.2 (fun h => c2 (.inr h))
      repeat (first | (refine Br.no (by first | exact d2 | exact d3) ?_; conv => whnf))
      by_cases c4 : q = 4
      · subst c4
        refine Br.yes rfl ?_
        conv => whnf
        refine ⟨[0, 0, 2, 0, 8, 31, 0, 0, 128, 0, 512, 2047, 4095], by decide +kernel, by decide +kernel, ?_⟩
        conv => whnf
        (refine hp.load (by repeat (first | exact Has.here | apply Has.there | (apply Has.swap; repeat (first | exact HasR.here | apply HasR.there)))) (by rfl) rfl rfl rfl ?_; conv => whnf)
        (refine hp.load (by repeat (first | exact Has.here | apply Has.there | (apply Has.swap; repeat (first | exact HasR.here | apply HasR.there)))) (by rfl) rfl rfl rfl ?_; conv => whnf)
        obtain ⟨hw, hrel'⟩ := hrel.write x.b x.l
        have hlen' : (σ.write x.b x.l).1.b.length = N := by rw [SL.write_len', hlen]
        have hz := hp.rst.okR (rowsA l) (by simp) x hmem
        refine hp.rst.sWriteN (by repeat (first | exact Rm.here | apply Rm.there)) x.b hz ?_
        clear hz
        intro s5 h5
        conv => whnf
        have hpo := hp
        refine hp.dkA h5 ?_ ?_
        all_goals
          clear hp h5
          intro s hp
          conv => whnf
          (refine hp.load (by repeat (first | exact Has.here | apply Has.there | (apply Has.swap; repeat (first | exact HasR.here | apply HasR.there)))) (by rfl) rfl rfl rfl ?_; conv => whnf)
          try (refine ⟨hpo.sa hp (k := p8) (C := x.cells) (e := 4) (by repeat (first | exact Has.here | apply Has.there | (apply Has.swap; repeat (first | exact HasR.here | apply HasR.there)))) (by repeat (first | exact Has.here | apply Has.there | (apply Has.swap; repeat (first | exact HasR.here | apply HasR.there)))), ?_⟩; conv => whnf)
          (refine hp.load (by repeat (first | exact Has.here | apply Has.there | (apply Has.swap; repeat (first | exact HasR.here | apply HasR.there)))) (by rfl) rfl rfl rfl ?_; conv => whnf)
          try (refine ⟨hpo.sa hp (k := p8) (C := x.cells) (e := 4) (by repeat (first | exact Has.here | apply Has.there | (apply Has.swap; repeat (first | exact HasR.here | apply HasR.there)))) (by repeat (first | exact Has.here | apply Has.there | (apply Has.swap; repeat (first | exact HasR.here | apply HasR.there)))), ?_⟩; conv => whnf)
          have hz := hp.rst.okR (rowsA l) (by simp) x hmem
          have hp2 := hp.rst.view (a := rowsA l) (a' := slA none x.v 1 x.l.length (byteVals x.l)) (by repeat (first | exact HasR.here | apply HasR.there)) hz (fun j hj => by cases hj)
          clear hz
          refine refWrite_spec hp2 (σ := τ) (ks := ksd) (kb := kbd) (by repeat (first | exact Rm.here | apply Rm.there)) (by repeat (first | exact Rm.here | apply Rm.there)) hτ x.b (κ := none) (v := x.v) (l := x.l) .here ?_
          clear hp2
          intro s6 h6
          replace h6 := h6.pikR (R' := [slA none (.slice a l.length cp) 4 l.length (rawBCells l), rowsA l]) (.skip (.refl _))
          rw [hw]
          conv => whnf
          refine hp.dkA h6 ?_ ?_
          all_goals
            clear hp h6
            intro s hp
            conv => whnf
            refine Om.of (.bool false) (by cases (σ.write x.b x.l).2 <;> rfl) ?_
            conv => whnf
            refine Br.no rfl ?_
            conv => whnf
            exact ⟨rfl, (σ.write x.b x.l).1, (τ.write x.b x.l).1, hrel', hlen', hp.pik (by repeat (first | exact Pik.nil | exact Pik.refl _ | exact Rm.here | apply Rm.there | apply Pik.cons | apply Pik.skip)), subK_ok ⟨rfl, rfl, rfl, rfl, rfl, trivial⟩⟩
      have d4 : (q == 4) = false := beq_eq_false_iff_ne.2 c4
      refine Br.no d4 ?_
      conv => whnf
      (refine hp.load (by repeat (first | exact Has.here | apply Has.there | (apply Has.swap; repeat (first | exact HasR.here | apply HasR.there)))) (by rfl) rfl rfl rfl ?_; conv => whnf)
      have hz := hp.okR (rowsA l) (by simp) x hmem
      refine hp.callO (few_spec hp.wf hz (by omega) 12) ?_
      clear hp
      intro v11 κ11 s hp _
      conv => whnf
      clear hz
      have hB : (x.l.take 12).length ≤ 12 := by simp; omega
      generalize x.l.take 12 = B at hp hB
      obtain ⟨hw, hrel'⟩ := hrel.write at_ B
      have hlen' : (σ.write at_ B).1.b.length = N := by rw [SL.write_len', hlen]
      refine hp.sWrite (by repeat (first | exact Rm.here | apply Rm.there)) at_ (κ := κ11) (v := v11) (l := B) (by repeat (first | exact Has.here | apply Has.there | (apply Has.swap; repeat (first | exact HasR.here | apply HasR.there)))) ?_
      clear hp
      intro s hp
      conv => whnf
      replace hp := hp.iceO (κ := κ11) (v := v11) (by repeat (first | exact Rm.here | apply Rm.there))
      refine refWrite_spec hp (σ := τ) (ks := ksd) (kb := kbd) (by repeat (first | exact Rm.here | apply Rm.there)) (by repeat (first | exact Rm.here | apply Rm.there)) hτ at_ (κ := κ11) (v := v11) (l := B) .here ?_
      clear hp
      intro s hp
      replace hp := hp.pikR (R' := [slA none (.slice a l.length cp) 4 l.length (rawBCells l), rowsA l]) (.skip (.refl _))
      rw [hw]
      conv => whnf
      refine Om.of (.bool false) (by cases (σ.write at_ B).2 <;> rfl) ?_
      conv => whnf
      refine Br.no rfl ?_
      conv => whnf
      exact ⟨rfl, (σ.write at_ B).1, (τ.write at_ B).1, hrel', hlen', hp.pik (by repeat (first | exact Pik.nil | exact Pik.refl _ | exact Rm.here | apply Rm.there | apply Pik.cons | apply Pik.skip)), subK_ok ⟨rfl, rfl, rfl, rfl, rfl, trivial⟩⟩
    clear hp hrel hlen
    rintro e L' s ⟨rfl, σ1, τ1, hrel, hlen, hp, hsub⟩
    refine Sm.weak _ hsub ?_
    clear hsub
    refine Sm.seqW ?_
    conv => whnf
    refine ⟨[0, 1, 0, 4, 12, 28, 63, 127, 255, 511, 255, 1279, 3327, 7423, 16383, 32767], by decide +kernel, by decide +kernel, ?_⟩
    conv => whnf
    refine (dead_spec (hp.rst.slab (p := .pointer (some ⟨bp, 0, none⟩)) (ks := ks) (kb := kb) (σ := σ1) (by repeat (first | exact Has.here | apply Has.there | (apply Has.swap; repeat (first | exact HasR.here | apply HasR.there)))))).mono ?_
    rintro _ s' ⟨h, rfl⟩
    rw [h]
    clear h s'
    conv => whnf
    refine hp.dkS ?_
    conv => whnf
    (refine hp.load (by repeat (first | exact Has.here | apply Has.there | (apply Has.swap; repeat (first | exact HasR.here | apply HasR.there)))) (by rfl) rfl rfl rfl ?_; conv => whnf)
    refine Om.of (.bool false) (by rw [hrel.dead]; cases σ1.dead <;> rfl) ?_
    conv => whnf
    refine Br.no rfl ?_
    conv => whnf
    repeat (refine Br.no rfl ?_; conv => whnf)
    refine (writes_spec (hp.rst.slab (p := .pointer (some ⟨bp, 0, none⟩)) (ks := ks) (kb := kb) (σ := σ1) (by repeat (first | exact Has.here | apply Has.there | (apply Has.swap; repeat (first | exact HasR.here | apply HasR.there)))))).mono ?_
    rintro _ s' ⟨h, rfl⟩
    rw [h]
    clear h s'
    conv => whnf
    refine hp.dkS ?_
    conv => whnf
    repeat (refine Br.no rfl ?_; conv => whnf)
    (refine hp.load (by repeat (first | exact Has.here | apply Has.there | (apply Has.swap; repeat (first | exact HasR.here | apply HasR.there)))) (by rfl) rfl rfl rfl ?_; conv => whnf)
    have hne : (σ1.writes != τ1.writes) = false := by rw [hrel.writes]; simp
    repeat (first | (refine Br.no (by first | with_reducible rfl | exact hne) ?_; conv => whnf))
    refine Sm.ofW ?_
    conv => whnf
    refine Br.no (by first | exact hne | rfl) ?_
    conv => whnf
    refine Sm.ofW ?_
    conv => whnf
    have e6 : IntKind.i64.wrap ((i : Int) + 1) = ((i + 1 : Nat) : Int) := by rw [wi64 (by omega) (by omega)]; omega
    exact ⟨(i + 1, σ1, τ1), by (show l.length - (i + 1) < l.length - i); omega, subK_ok (by refine ⟨rfl, rfl, rfl, rfl, congrArg (fun x => some (Value.int .i64 x)) e6, trivial⟩), by (show i + 1 ≤ l.length); omega, hrel, hlen, hp.pik (by repeat (first | exact Pik.nil | exact Pik.refl _ | exact Rm.here | apply Rm.there | apply Pik.cons | apply Pik.skip))⟩
  · conv => whnf
    refine Sm.seqW ?_
    conv => whnf
    refine hp.sRevive (by repeat (first | exact Rm.here | apply Rm.there)) ?_
    clear hp
    intro v5 s hp
    conv => whnf
    refine Sm.live [5, 6] ?_
    conv => whnf
    refine Sm.seqW ?_
    conv => whnf
    refine (size_spec (hp.slab (p := .pointer (some ⟨bp, 0, none⟩)) (ks := ks) (kb := kb) (σ := { σ with dead := false, limits := false }) (by repeat (first | exact Has.here | apply Has.there | (apply Has.swap; repeat (first | exact HasR.here | apply HasR.there)))))).mono ?_
    rintro _ s' ⟨h, rfl⟩
    rw [h]
    clear h s'
    conv => whnf
    have hrd : ({ σ with dead := false, limits := false } : SL).read 0 (σ.b.length : Int) = some σ.b := by
      have hh : ({ σ with dead := false, limits := false } : SL).has 0 (σ.b.length : Int) = true := SL.has_iff.2 ⟨rfl, by omega, by omega, by (show (0 : Int) ≤ (σ.b.length : Int)); omega, by (show (σ.b.length : Int) ≤ (σ.b.length : Int) - 0); omega⟩
      unfold SL.read
      rw [if_pos hh]
      show some ((σ.b.drop 0).take σ.b.length) = _
      rw [List.drop_zero, List.take_of_length_le (by omega)]
    refine hp.sRead (by repeat (first | exact Has.here | apply Has.there | (apply Has.swap; repeat (first | exact HasR.here | apply HasR.there)))) 0 (σ.b.length : Int) (fun h => by rw [hrd] at h; cases h) ?_
    clear hp
    intro rb v6 κ6 s hrb hp _
    rw [hrd] at hrb
    injection hrb with hrb
    subst hrb
    conv => whnf
    refine Sm.live [6, 16, 17] ?_
    conv => whnf
    refine Sm.seqW ?_
    conv => whnf
    refine ⟨[0, 1, 3, 7, 3, 19, 51, 115, 243, 511, 1023, 2047], by decide +kernel, by decide +kernel, ?_⟩
    conv => whnf
    repeat (first | (refine Br.yes (by first | with_reducible rfl | with_reducible exact beq_self_eq_true _ | rfl) ?_; conv => whnf) | (refine Br.no (by first | with_reducible rfl | with_reducible exact bne_self_eq_false _ | rfl) ?_; conv => whnf))
    refine Om.of _ (string_sl Try.underlying22 Try.underlying9 Try.underlying5 (hp.rst.slF (κ := κ6) (v := v6) (by repeat (first | exact Rm.here | apply Rm.there)))) ?_
    conv => whnf
    refine hp.dkS ?_
    conv => whnf
    repeat (first | (refine Br.yes (by first | with_reducible rfl | with_reducible exact beq_self_eq_true _ | rfl) ?_; conv => whnf) | (refine Br.no (by first | with_reducible rfl | with_reducible exact bne_self_eq_false _ | rfl) ?_; conv => whnf))
    (refine hp.load (by repeat (first | exact Has.here | apply Has.there | (apply Has.swap; repeat (first | exact HasR.here | apply HasR.there)))) (by rfl) rfl rfl rfl ?_; conv => whnf)
    repeat (first | (refine Br.yes (by first | with_reducible rfl | with_reducible exact beq_self_eq_true _ | rfl) ?_; conv => whnf) | (refine Br.no (by first | with_reducible rfl | with_reducible exact bne_self_eq_false _ | rfl) ?_; conv => whnf))
    rw [← hrel.b]
    refine Om.of _ (string_sl Try.underlying22 Try.underlying9 Try.underlying5 (blk_sb (hp.rst.blk (by repeat (first | exact Has.here | apply Has.there | (apply Has.swap; repeat (first | exact HasR.here | apply HasR.there)))) : Blk (reset s) kbd bbd (byteVals τ.b) 1))) ?_
    conv => whnf
    refine hp.dkS ?_
    conv => whnf
    repeat (first | (refine Br.yes (by first | with_reducible rfl | with_reducible exact beq_self_eq_true _ | rfl) ?_; conv => whnf) | (refine Br.no (by first | with_reducible rfl | with_reducible exact bne_self_eq_false _ | rfl) ?_; conv => whnf))
    refine Om.of _ (str_eq _ _) ?_
    conv => whnf
    repeat (first | (refine Br.yes (by first | with_reducible rfl | with_reducible exact beq_self_eq_true _ | rfl) ?_; conv => whnf) | (refine Br.no (by first | with_reducible rfl | with_reducible exact bne_self_eq_false _ | rfl) ?_; conv => whnf))
    refine Sm.ofW ?_
    conv => whnf
    exact ⟨congrArg Value.bool (beq_self_eq_true (bs ⟨τ.b.toArray⟩))⟩
end Go.Ev
end
