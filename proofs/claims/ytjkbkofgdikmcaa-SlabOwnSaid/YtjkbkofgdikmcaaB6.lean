/- What SlabTorn says. No condition. -/
import Derived.Test.YtjkbkofgdikmcaaB5
noncomputable section
namespace Go.Ev
open Go.Proofs
set_option linter.unusedVariables false
set_option maxRecDepth 100000

theorem wrap_inR (n : Int) : inR (IntKind.i64.wrap n) := by rw [wrap_i64i]; unfold inR; split <;> omega
theorem Sl.lt {s : St} (wf : WF s) {κ : Option Nat} {v : Value} {e n : Nat} {cs : List Value} (h : Sl s κ v e n cs) : ∀ k, κ = some k → k < s.next := by
  intro k hk
  rcases h.ex with ⟨_, _, _, rfl⟩ | ⟨b, off, c, C, _, _, _, _, ⟨j, rfl, g⟩ | ⟨rfl, _⟩⟩
  · cases hk
  · injection hk with hk; subst hk
    have := g.lt wf
    omega
  · cases hk
theorem byte_one {z : Int} (h1 : 0 ≤ z) (h2 : z < 256) : [Value.int .u8 z] = byteVals [UInt8.ofNat z.toNat] := by
  simp [byteVals]; omega
theorem putB_one (W : List UInt8) (p : Nat) (w : UInt8) (h : p < W.length) : byteVals (putB W p [w]) = (byteVals W).set p (.int .u8 (w.toNat : Int)) := by
  rw [← putAt_bytes]
  exact putAt_one _ (by simpa [byteVals] using h)
theorem index_own {s : St} {k : Nat} {v : Value} {n i : Nat} {cs : List Value} (h : Own s k v 1 n cs) (kk : IntKind) (hi : i < n) :
    ∃ b, v = .slice (some ⟨b, 0, none⟩) n n ∧ Blk s k b cs 1 ∧ evIndexAddr Try.prog 22 v (.int kk (i : Int)) = some (.pointer (some ⟨b, 0 + i * 1, none⟩)) := by
  obtain ⟨b, rfl, h1, h2⟩ := h.ex
  obtain ⟨j, hi1, hi2, hi3, hi4⟩ := B26.hi
  refine ⟨b, rfl, h1, ?_⟩
  show (match Try.prog.underlying 22, Value.slice (some ⟨b, 0, none⟩) n n, Value.int kk (.ofNat i) with
    | some (.slice e), .slice (some a) n _, .int _ (.ofNat i) => match Nat.blt i n, Try.prog.info? e with
      | true, some j => some (Value.pointer (some ⟨a.block, a.off + i * j.size, none⟩))
      | _, _ => none
    | some (.array n e), .pointer (some a), .int _ (.ofNat i) => match Nat.blt i n, Try.prog.info? e with
      | true, some j => some (Value.pointer (some ⟨a.block, a.off + i * j.size, none⟩))
      | _, _ => none
    | _, _, _ => none) = _
  rw [B26.hu]
  simp only [blt_of hi, hi1, hi2]
theorem SL.write_limit {σ : SL} {a : Int} {l : List UInt8} (h1 : σ.dead = false) (h2 : σ.left ≠ 0) (h3 : 0 ≤ a) (h4 : a + l.length ≤ σ.b.length) :
    σ.write a l = ({ σ with writes := IntKind.i64.wrap (σ.writes + 1), left := IntKind.i64.wrap (σ.left - 1), b := putB σ.b a.toNat l }, true) := by
  have hh : σ.has a l.length = true := SL.has_iff.2 ⟨h1, h3, by omega, by omega, by omega⟩
  simp only [SL.write, hh, if_true]
  rw [if_neg (fun h => h2 h.2)]
theorem SL.write_cut {σ : SL} {a : Int} {l : List UInt8} (h1 : σ.dead = false) (h2 : σ.limits = true) (h2' : σ.left = 0) (h3 : 0 ≤ a) (h4 : a + l.length ≤ σ.b.length) :
    σ.write a l = ({ σ with writes := IntKind.i64.wrap (σ.writes + 1), b := putB σ.b a.toNat (l.take (max 0 (min σ.torn l.length)).toNat), dead := true }, false) := by
  have hh : σ.has a l.length = true := SL.has_iff.2 ⟨h1, h3, by omega, by omega, by omega⟩
  simp only [SL.write, hh, if_true, h2, h2', and_self]
theorem SL.write_dead {σ : SL} {a : Int} {l : List UInt8} (h1 : σ.dead = true) : σ.write a l = (σ, false) := by
  simp [SL.write, SL.has, h1]

theorem torn_walk {s : St} (wf : WF s) {n k torn at_ : Int} (hn : inR n) (hk : inR k) (htorn : inR torn) (hat : inR at_) {κb : Option Nat} {vb : Value} {lb : List UInt8} (hb : Sb s κb vb lb) (hlb : lb.length ≤ 140737488351232) {c : Int} (hc : 0 ≤ c ∧ c < 256) :
    Cw Try.prog 4 [.int .i64 n, .int .i64 k, .int .i64 torn, .int .i64 at_, vb, .int .u8 c] s fun r _ => r = .bool true := by
  have hκb := hb.lt wf
  refine Cw.enterS Try.func4 rfl rfl ?_
  refine Sm.seqW ?_
  conv => whnf
  refine Sm.seqW ?_
  conv => whnf
  refine (pick_spec s hn (by omega) (by omega)).mono ?_
  rintro r1 s1 ⟨rfl, rfl⟩
  obtain ⟨N0, hN0, hN1⟩ := emod_nat n 60 (by omega)
  conv => whnf
  have eN : IntKind.i64.wrap (20 + n % 60) = ((20 + N0 : Nat) : Int) := by rw [wadd (by omega) (by omega)]; omega
  refine Sm.weak [(0, iv ((20 + N0 : Nat) : Int)), (1, iv k), (2, iv torn), (3, iv at_), (4, vb), (5, .int .u8 c)] (.cons (ivc rfl eN) (.cons rfl (.cons rfl (.cons rfl (.cons rfl (.cons rfl (Sub.nil _))))))) ?_
  have hNr : 20 + N0 < 80 := by omega
  have hNl : 20 ≤ 20 + N0 := by omega
  generalize 20 + N0 = N at hNr hNl ⊢
  clear hN0 hN1 eN
  refine Sm.seqW ?_
  conv => whnf
  refine (pick_spec s1 hk (by omega) (by omega)).mono ?_
  rintro r1 s2 ⟨rfl, rfl⟩
  obtain ⟨K, hK0, hK1⟩ := emod_nat k 9 (by omega)
  conv => whnf
  refine Sm.weak [(0, iv (N : Int)), (1, iv (K : Int)), (2, iv torn), (3, iv at_), (4, vb), (5, .int .u8 c)] (.cons rfl (.cons (ivc rfl hK0) (.cons rfl (.cons rfl (.cons rfl (.cons rfl (Sub.nil _))))))) ?_
  clear hK0
  refine Sm.seqW ?_
  conv => whnf
  refine (new_spec wf (N : Int)).mono ?_
  rintro p s3 ⟨k3, ks, kb, n1, n2, h3⟩
  obtain ⟨bp, rfl⟩ := h3.ptr
  have hm : (max 1 (min (N : Int) 65536)).toNat = N := by omega
  rw [hm] at h3
  have hne := h3.ne
  conv => whnf
  refine Sm.seqW ?_
  conv => whnf
  refine (sknown_spec k3.wf).mono ?_
  rintro r4 s4 ⟨rfl, k4⟩
  conv => whnf
  repeat (first | (refine Br.yes rfl ?_; conv => whnf) | (refine Br.no rfl ?_; conv => whnf))
  refine Om.of (.bool false) rfl ?_
  conv => whnf
  repeat (first | (refine Br.yes rfl ?_; conv => whnf) | (refine Br.no rfl ?_; conv => whnf))
  have h4 := h3.keep0 k4
  have g4 := h3.lt k3.wf
  have hb4 := (hb.keep0 k3).keep0 k4
  refine Sm.weak [(0, iv (N : Int)), (1, iv (K : Int)), (2, iv torn), (3, iv at_), (4, vb), (5, .int .u8 c), (13, .pointer (some ⟨bp, 0, none⟩))] (.cons rfl (.cons rfl (.cons rfl (.cons rfl (.cons rfl (.cons rfl (.cons rfl (Sub.nil _)))))))) ?_
  refine Sm.seqW ?_
  conv => whnf
  obtain ⟨vw, s5, e5, o5, k5⟩ := make_one B26 k4.wf rfl .i64 .i64 (n := N) (by omega)
  rw [← byteVals_replicate] at o5
  have hkw : ks ≠ s4.next ∧ kb ≠ s4.next := by have := k4.next; omega
  have hκw : ∀ j, κb = some j → j ≠ s4.next := fun j hj => by have := hκb j hj; have := k3.next; have := k4.next; omega
  generalize s4.next = kw at o5 hkw hκw
  refine Om.of (vw, s5) e5 ?_
  conv => whnf
  refine Sm.seqW ?_
  conv => whnf
  refine (cut_spec k5.wf (h4.keep0 k5) (K : Int) torn).mono ?_
  rintro r6 s6 ⟨k6, h6⟩
  have o6 := o5.keep k6 (by omega)
  have hb6 := (hb4.keep0 k5).keep k6 (fun j hj => by have := hκb j hj; omega)
  have hlim : decide ((K : Int) ≥ 0) = true := by simp
  rw [hlim] at h6
  have wf6 := k6.wf
  conv => whnf
  refine Sm.weak [(0, iv (N : Int)), (1, iv (K : Int)), (2, iv torn), (3, iv at_), (4, vb), (5, .int .u8 c), (13, .pointer (some ⟨bp, 0, none⟩)), (14, vw)] (.cons rfl (.cons rfl (.cons rfl (.cons rfl (.cons rfl (.cons rfl (.cons rfl (.cons rfl (Sub.nil _))))))))) ?_
  refine Sm.seqW ?_
  conv => whnf
  refine Lp.ofS (α := Nat × List UInt8) (fun x => [(0, iv (N : Int)), (1, iv (K : Int)), (2, iv torn), (3, iv at_), (4, vb), (5, .int .u8 c), (13, .pointer (some ⟨bp, 0, none⟩)), (14, vw), (15, iv (x.1 : Int))])
    (fun x s' => WF s' ∧ Sb s' κb vb lb ∧ x.1 ≤ K ∧ x.2.length = N ∧ SlabAt s' (.pointer (some ⟨bp, 0, none⟩)) ks kb ⟨x.2, (K : Int) - x.1, torn, x.1, false, true⟩ ∧ Own s' kw vw 1 N (byteVals x.2)) (fun x => K - x.1) ?_ (0, List.replicate N 0)
    (.cons rfl (.cons rfl (.cons rfl (.cons rfl (.cons rfl (.cons rfl (.cons rfl (.cons rfl (.cons rfl (Sub.nil _)))))))))) ⟨wf6, hb6, by omega, by simp, by simpa using h6, o6⟩
  rintro ⟨i, W⟩ s7 ⟨wf7, hb7, hi, hW, h7, o7⟩
  simp only at hi hW h7 o7
  refine Sm.seqW ?_
  conv => whnf
  refine Br.mk (fun hq => ?_) (fun hq => ?_)
  · have hq : i < K := by have := of_decide_eq_true hq; omega
    conv => whnf
    refine Sm.seq (Sm.block ?_)
    refine Sm.seqW ?_
    conv => whnf
    refine (pick_spec s7 (wrap_inR _) (by omega) (by omega)).mono ?_
    rintro r8 s8 ⟨rfl, rfl⟩
    obtain ⟨p, hp0, hp1⟩ := emod_nat (IntKind.i64.wrap (at_ + IntKind.i64.wrap (7 * (i : Int)))) (N : Int) (by omega)
    conv => whnf
    refine Sm.weak [(0, iv (N : Int)), (1, iv (K : Int)), (2, iv torn), (3, iv at_), (4, vb), (5, .int .u8 c), (13, .pointer (some ⟨bp, 0, none⟩)), (14, vw), (15, iv (i : Int)), (16, iv (p : Int))] (.cons rfl (.cons rfl (.cons rfl (.cons rfl (.cons rfl (.cons rfl (.cons rfl (.cons rfl (.cons rfl (.cons (ivc rfl hp0) (Sub.nil _))))))))))) ?_
    clear hp0
    have hz : 0 ≤ IntKind.u8.wrap (c + IntKind.u8.wrap (i : Int)) ∧ IntKind.u8.wrap (c + IntKind.u8.wrap (i : Int)) < 256 := by rw [wrap_u8i]; omega
    refine Sm.seqW ?_
    conv => whnf
    obtain ⟨v9, s9, e9, o9, k9⟩ := buildSlice1 (x := .int .u8 (IntKind.u8.wrap (c + IntKind.u8.wrap (i : Int)))) B26 wf7 rfl
    refine Om.of (v9, s9) e9 ?_
    conv => whnf
    have g7 := h7.lt wf7
    have gw7 := o7.lt wf7
    rw [byte_one hz.1 hz.2] at o9
    refine (write_spec k9.wf (h7.keep0 k9) (p : Int) (l := [UInt8.ofNat (IntKind.u8.wrap (c + IntKind.u8.wrap (i : Int))).toNat]) o9.sl (fun j hj => by injection hj with hj; omega)).mono ?_
    rintro r10 s10 ⟨k10, rfl, h10⟩
    rw [SL.write_limit rfl (by simp only; omega) (by omega) (by simp only [List.length_singleton]; omega)] at h10 ⊢
    have o10 := (o7.keep0 k9).keep k10 (by omega)
    have hb10 := (hb7.keep0 k9).keep k10 (fun j hj => by have := hκb j hj; omega)
    have wf10 := k10.wf
    conv => whnf
    refine Br.no rfl ?_
    conv => whnf
    obtain ⟨bw, rfl, hbw, e11⟩ := index_own o10 .i64 (i := p) (by omega)
    refine Sm.ofW ?_
    conv => whnf
    refine Om.of _ e11 ?_
    conv => whnf
    obtain ⟨s12, e12, k12, f12⟩ := store_cell (P := Try.prog) (t := 5) rfl rfl wf10 hbw (off := 0 + p * 1) (v := .int .u8 (IntKind.u8.wrap (c + IntKind.u8.wrap (i : Int)))) (by simp [byteVals]; omega) rfl rfl
    refine Om.of s12 e12 ?_
    conv => whnf
    refine Sm.ofW ?_
    conv => whnf
    have e13 : (byteVals W).set (0 + p * 1) (.int .u8 (IntKind.u8.wrap (c + IntKind.u8.wrap (i : Int)))) = byteVals (putB W p [UInt8.ofNat (IntKind.u8.wrap (c + IntKind.u8.wrap (i : Int))).toNat]) := by
      rw [putB_one _ _ _ (by omega), Nat.zero_add, Nat.mul_one]
      congr 2
      rw [toNat_ofNat (by omega)]; omega
    rw [e13] at f12
    have ei : IntKind.i64.wrap ((i : Int) + 1) = ((i + 1 : Nat) : Int) := by rw [wadd (by omega) (by omega)]; omega
    refine ⟨(i + 1, putB W p [UInt8.ofNat (IntKind.u8.wrap (c + IntKind.u8.wrap (i : Int))).toNat]), by simp only; omega, .cons rfl (.cons rfl (.cons rfl (.cons rfl (.cons rfl (.cons rfl (.cons rfl (.cons rfl (.cons (ivc rfl ei) (Sub.nil _))))))))), k12.wf, hb10.keep k12 (fun j hj => by have := hκw j hj; omega), by simp only; omega, by simp only; rw [putB_length _ _ _ (by simp; omega)]; exact hW, ?_, ⟨bw, rfl, f12, by rw [byteVals_length, putB_length _ _ _ (by simp; omega)]; omega⟩⟩
    have h13 := h10.keep k12 (by omega) (by omega)
    have e14 : IntKind.i64.wrap ((K : Int) - (i : Int) - 1) = (K : Int) - ((i + 1 : Nat) : Int) := by rw [wsub (by omega) (by omega)]; omega
    simp only [ei, e14] at h13 ⊢
    exact h13
  · have hq : ¬ i < K := by have := of_decide_eq_false hq; omega
    have : i = K := by omega
    subst this
    conv => whnf
    refine Sm.weak [(0, iv (N : Int)), (1, iv (i : Int)), (2, iv torn), (3, iv at_), (4, vb), (13, .pointer (some ⟨bp, 0, none⟩)), (14, vw)] (.cons rfl (.cons rfl (.cons rfl (.cons rfl (.cons rfl (.cons rfl (.cons rfl (Sub.nil _)))))))) ?_
    have e0 : (i : Int) - (i : Int) = 0 := by omega
    rw [e0] at h7
    have g7 := h7.lt wf7
    have gw7 := o7.lt wf7
    refine Sm.seqW ?_
    conv => whnf
    refine (few_spec wf7 hb7 (by omega) 12).mono ?_
    rintro d s8 ⟨k8, od⟩
    have ld : (lb.take 12).length ≤ 12 := by simp; omega
    generalize lb.take 12 = D at od ld
    obtain ⟨κd, sd, hκd⟩ := od.slb
    obtain ⟨ad, cd, rfl⟩ := sd.shape
    conv => whnf
    refine Sm.weak [(0, iv (N : Int)), (1, iv (i : Int)), (2, iv torn), (3, iv at_), (13, .pointer (some ⟨bp, 0, none⟩)), (14, vw), (17, .slice ad D.length cd)] (.cons rfl (.cons rfl (.cons rfl (.cons rfl (.cons rfl (.cons rfl (.cons rfl (Sub.nil _)))))))) ?_
    refine Sm.seqW ?_
    conv => whnf
    have e1 : IntKind.i64.wrap (IntKind.i64.wrap ((N : Int) - (D.length : Int)) + 1) = (N : Int) - D.length + 1 := by
      rw [wsub (a := (N : Int)) (by omega) (by omega), wadd (by omega) (by omega)]
    rw [e1]
    refine (pick_spec s8 hat (by omega) (by omega)).mono ?_
    rintro r9 s9 ⟨rfl, rfl⟩
    obtain ⟨p, hp0, hp1⟩ := emod_nat at_ ((N : Int) - D.length + 1) (by omega)
    conv => whnf
    refine Sm.weak [(0, iv (N : Int)), (1, iv (i : Int)), (2, iv torn), (13, .pointer (some ⟨bp, 0, none⟩)), (14, vw), (17, .slice ad D.length cd), (18, iv (p : Int))] (.cons rfl (.cons rfl (.cons rfl (.cons rfl (.cons rfl (.cons rfl (.cons (ivc rfl hp0) (Sub.nil _)))))))) ?_
    clear hp0
    have hpD : p + D.length ≤ N := by omega
    refine Sm.seqW ?_
    conv => whnf
    refine (write_spec k8.wf (h7.keep0 k8) (p : Int) sd (fun j hj => by have := hκd j hj; omega)).mono ?_
    rintro r10 s10 ⟨k10, rfl, h10⟩
    rw [SL.write_cut rfl rfl rfl (by omega) (by simp only; omega)] at h10 ⊢
    have o10 := (o7.keep0 k8).keep k10 (by omega)
    have sd10 := sd.keep k10 (fun j hj => by have := hκd j hj; omega)
    have wf10 := k10.wf
    conv => whnf
    repeat (first | (refine Br.yes rfl ?_; conv => whnf) | (refine Br.no rfl ?_; conv => whnf))
    refine (dead_spec h10).mono ?_
    rintro r11 s11 ⟨rfl, rfl⟩
    conv => whnf
    repeat (first | (refine Br.yes rfl ?_; conv => whnf) | (refine Br.no rfl ?_; conv => whnf))
    obtain ⟨k12, o12⟩ := lit_bytes wf10 [1, 2, 3]
    refine Om.of (.slice (some ⟨s11.next, 0, none⟩) 3 3, s11.new (byteVals [1, 2, 3]) 1) rfl ?_
    conv => whnf
    repeat (first | (refine Br.yes rfl ?_; conv => whnf) | (refine Br.no rfl ?_; conv => whnf))
    have g10 := h10.lt wf10
    have gw10 := o10.lt wf10
    refine (write_spec k12.wf (h10.keep0 k12) 0 (l := [1, 2, 3]) o12.sl (fun j hj => by injection hj with hj; omega)).mono ?_
    rintro r13 s13 ⟨k13, rfl, h13⟩
    rw [SL.write_dead rfl] at h13 ⊢
    have o13 := (o10.keep0 k12).keep k13 (by omega)
    have sd13 := (sd10.keep0 k12).keep k13 (fun j hj => by have := hκd j hj; omega)
    have wf13 := k13.wf
    conv => whnf
    repeat (first | (refine Br.yes rfl ?_; conv => whnf) | (refine Br.no rfl ?_; conv => whnf))
    refine Sm.weak [(0, iv (N : Int)), (1, iv (i : Int)), (2, iv torn), (13, .pointer (some ⟨bp, 0, none⟩)), (14, vw), (17, .slice ad D.length cd), (18, iv (p : Int))] (.cons rfl (.cons rfl (.cons rfl (.cons rfl (.cons rfl (.cons rfl (.cons rfl (Sub.nil _)))))))) ?_
    simp only at h13
    refine Sm.seqW ?_
    conv => whnf
    refine ⟨[0, 0, 3, 0, 0, 0, 32, 112, 240, 504, 1023], by decide +kernel, by decide +kernel, ?_⟩
    obtain ⟨bw, rfl, hbw, hbl⟩ := o13.ex
    conv => whnf
    have e3 := slice_from_val (s := reset s13) (b := bw) (Blk.esz (hbw.reset)) .i64 (i := p) (n := N) (by omega)
    refine Om.of _ e3 ?_
    conv => whnf
    refine Dk.same wf13 ?_
    conv => whnf
    have hq3 : (if (if (D.length : Int) < torn then (D.length : Int) else torn) > 0 then (if (D.length : Int) < torn then (D.length : Int) else torn) else 0) = (((max 0 (min torn D.length)).toNat : Nat) : Int) := by
      split <;> split at * <;> omega
    have hq2 : (max 0 (min torn D.length)).toNat ≤ D.length := by omega
    generalize (max 0 (min torn D.length)).toNat = M at hq3 hq2 h13
    obtain ⟨w, e4, hw4⟩ := slice_to sd13.reset .i64 hq2
    refine Om.of w ((congrArg (fun x => evSliceMem Try.prog 22 (.slice ad D.length cd) none (some (.int .i64 x)) none (reset s13)) hq3).trans e4) ?_
    conv => whnf
    refine Dk.same wf13 ?_
    conv => whnf
    have hbw' := hbw.reset
    have hWlen : W.length = N := hW
    obtain ⟨r14, s14, e14, k14, f14⟩ := copy_slab wf13.reset hbw' (i := p) (by omega) hw4 (by simp; omega)
    rw [hWlen] at e14
    refine Om.of (r14, s14) e14 ?_
    conv => whnf
    have k15 := k14.of_reset wf13
    have f15 := f14.relow (s := s13)
    have h15 := h13.keep k15 (by omega) (by omega)
    have wl : (putB W p (D.take M)).length = N := by rw [putB_length _ _ _ (by simp; omega)]; exact hW
    have ow : Own (relow s13 s14) kw (.slice (some ⟨bw, 0, none⟩) N N) 1 N (byteVals (putB W p (D.take M))) := ⟨bw, rfl, f15, by rw [byteVals_length, wl]; omega⟩
    have wf15 := k15.wf
    have h15 : SlabAt (relow s13 s14) (.pointer (some ⟨bp, 0, none⟩)) ks kb ⟨putB W p (D.take M), 0, torn, IntKind.i64.wrap ((i : Int) + 1), true, true⟩ := h15
    generalize putB W p (D.take M) = W2 at h15 ow wl
    refine Dk.any ?_ ?_
    all_goals
      conv => whnf
      refine Sm.weak [(0, iv (N : Int)), (1, iv (i : Int)), (13, .pointer (some ⟨bp, 0, none⟩)), (14, .slice (some ⟨bw, 0, none⟩) N N)] (.cons rfl (.cons rfl (.cons rfl (.cons rfl (Sub.nil _))))) ?_
      refine Sm.seqW ?_
      conv => whnf
      refine (revive_spec wf15 h15).mono ?_
      rintro r16 s16 ⟨k16, h16⟩
      have ow16 := ow.keep k16 (by omega)
      simp only at h16
      conv => whnf
      refine Sm.weak [(0, iv (N : Int)), (1, iv (i : Int)), (13, .pointer (some ⟨bp, 0, none⟩)), (14, .slice (some ⟨bw, 0, none⟩) N N)] (.cons rfl (.cons rfl (.cons rfl (.cons rfl (Sub.nil _))))) ?_
      refine Sm.seqW ?_
      conv => whnf
      refine (read_spec k16.wf h16 0 (N : Int)).mono ?_
      rintro r17 s17 ⟨k17, ⟨hr, _⟩ | ⟨l1, v1, hr, rfl, o1⟩⟩
      · rw [SL.read_plain rfl (by omega) (by omega) (by simp only; omega)] at hr; cases hr
      rw [SL.read_plain rfl (by omega) (by omega) (by simp only; omega)] at hr
      obtain rfl := Option.some.inj hr
      have t3 : (W2.drop 0).take N = W2 := by rw [List.drop_zero, List.take_of_length_le (by omega)]
      have q1 : ((W2.drop 0).take N == W2) = true := by rw [t3]; simp
      have ow17 := ow16.keep0 k17
      have h17 := h16.keep0 k17
      have wf17 := k17.wf
      conv => whnf
      refine Sm.weak [(1, iv (i : Int)), (13, .pointer (some ⟨bp, 0, none⟩)), (14, .slice (some ⟨bw, 0, none⟩) N N), (19, v1), (20, .bool true)] (.cons rfl (.cons rfl (.cons rfl (.cons rfl (.cons rfl (Sub.nil _)))))) ?_
      refine Sm.ofW ?_
      conv => whnf
      repeat (first | (refine Br.yes rfl ?_; conv => whnf) | (refine Br.no rfl ?_; conv => whnf))
      refine Om.of _ (ob_str o1) ?_
      conv => whnf
      repeat (first | (refine Br.yes rfl ?_; conv => whnf) | (refine Br.no rfl ?_; conv => whnf))
      have sw17 : Sb s17 (some kw) (.slice (some ⟨bw, 0, none⟩) N N) W2 := Sb.of ow17.sl
      refine Om.of _ (string_sl Try.underlying22 Try.underlying9 Try.underlying5 sw17) ?_
      conv => whnf
      repeat (first | (refine Br.yes rfl ?_; conv => whnf) | (refine Br.no rfl ?_; conv => whnf))
      refine Om.of (.bool true) (congrArg (fun b => some (Value.bool b)) q1) ?_
      conv => whnf
      repeat (first | (refine Br.yes rfl ?_; conv => whnf) | (refine Br.no rfl ?_; conv => whnf))
      obtain ⟨k18, o18⟩ := lit_bytes wf17 [9]
      refine Om.of (.slice (some ⟨s17.next, 0, none⟩) 1 1, s17.new (byteVals [9]) 1) rfl ?_
      conv => whnf
      repeat (first | (refine Br.yes rfl ?_; conv => whnf) | (refine Br.no rfl ?_; conv => whnf))
      have g17 := h17.lt wf17
      refine (write_spec k18.wf (h17.keep0 k18) 0 (l := [9]) o18.sl (fun j hj => by injection hj with hj; omega)).mono ?_
      rintro r19 s19 ⟨k19, rfl, h19⟩
      rw [SL.write_plain rfl rfl (by omega) (by simp only [List.length_singleton]; omega)] at h19 ⊢
      conv => whnf
      repeat (first | (refine Br.yes rfl ?_; conv => whnf) | (refine Br.no rfl ?_; conv => whnf))
      refine (writes_spec h19).mono ?_
      rintro r20 s20 ⟨rfl, rfl⟩
      have ew : (IntKind.i64.wrap (IntKind.i64.wrap ((i : Int) + 1) + 1) == IntKind.i64.wrap ((i : Int) + 2)) = true := by
        rw [wadd (a := (i : Int)) (b := 1) (by omega) (by omega), wadd (by omega) (by omega), wadd (by omega) (by omega)]
        simp; omega
      conv => whnf
      repeat (first | (refine Br.yes rfl ?_; conv => whnf) | (refine Br.no rfl ?_; conv => whnf))
      exact ⟨congrArg Value.bool ew⟩
end Go.Ev
